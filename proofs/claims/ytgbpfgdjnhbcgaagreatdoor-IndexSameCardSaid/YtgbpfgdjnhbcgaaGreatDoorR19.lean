/- IndexP, IxE, AttrC, RegH, IxH, IndexA, IndexT, RegI, RegJ, joined. -/
import Derived.Test.YtgbpfgdjnhbcgaaGreatDoorR18
import Derived.Test.YtgbpfgdjnhbcgaaGreatDoorR13
set_option linter.unusedSimpArgs false
set_option linter.unusedVariables false
set_option maxRecDepth 100000
set_option maxHeartbeats 16000000
section
namespace Go.Proofs.YtgbpfgdjnhbcgaaGreatDoor.Ix
open Path (bl rightB overB)
open Attr (A8 rightI)
open Cmd (Cm keyC footC)
structure Le (a b : A8) : Prop where
 s : a.s ≤ b.s
 d0 : a.d0 ≤ b.d0
 d1 : a.d1 ≤ b.d1
 d2 : a.d2 ≤ b.d2
 d3 : a.d3 ≤ b.d3
 d4 : a.d4 ≤ b.d4
 d5 : a.d5 ≤ b.d5
 d6 : a.d6 ≤ b.d6
theorem Le.refl (a : A8) : Le a a := ⟨Int.le_refl _, Int.le_refl _, Int.le_refl _, Int.le_refl _, Int.le_refl _, Int.le_refl _, Int.le_refl _, Int.le_refl _⟩
theorem Le.trans {a b c : A8} (h : Le a b) (k : Le b c) : Le a c :=
 ⟨Int.le_trans h.s k.s, Int.le_trans h.d0 k.d0, Int.le_trans h.d1 k.d1, Int.le_trans h.d2 k.d2, Int.le_trans h.d3 k.d3, Int.le_trans h.d4 k.d4, Int.le_trans h.d5 k.d5, Int.le_trans h.d6 k.d6⟩
def Grow (l m : List En) : Prop := ∀ e ∈ l, ∃ x ∈ m, x.foot = e.foot ∧ x.num = e.num ∧ Le e.a x.a
theorem Grow.refl (l : List En) : Grow l l := fun e he => ⟨e, he, rfl, rfl, Le.refl _⟩
theorem Grow.trans {l m n : List En} (h : Grow l m) (k : Grow m n) : Grow l n := fun e he => by
 obtain ⟨x, hx, x1, x2, x3⟩ := h e he
 obtain ⟨y, hy, y1, y2, y3⟩ := k x hx
 exact ⟨y, hy, y1.trans x1, y2.trans x2, x3.trans y3⟩
structure Fine (a : A8) : Prop where
 s0 : 0 ≤ a.s
 s1 : a.s ≤ 1073741824
 d0 : 0 ≤ a.d0 ∧ a.d0 ≤ 1024
 d1 : 0 ≤ a.d1 ∧ a.d1 ≤ 1024
 d2 : 0 ≤ a.d2 ∧ a.d2 ≤ 1024
 d3 : 0 ≤ a.d3 ∧ a.d3 ≤ 1024
 d4 : 0 ≤ a.d4 ∧ a.d4 ≤ 1024
 d5 : 0 ≤ a.d5 ∧ a.d5 ≤ 1024
 d6 : 0 ≤ a.d6 ∧ a.d6 ≤ 1024
theorem fine_iff {a : A8} : a.right = true ↔ Fine a := by
 unfold A8.right Attr.badD
 simp only [Bool.and_eq_true, Bool.not_eq_true', Bool.or_eq_false_iff, decide_eq_false_iff_not, decide_eq_true_iff]
 constructor
 · rintro ⟨⟨⟨⟨⟨⟨⟨h0, h1⟩, h2⟩, h3⟩, h4⟩, h5⟩, h6⟩, h7⟩
   constructor <;> omega
 · rintro ⟨s0, s1, h0, h1, h2, h3, h4, h5, h6⟩
   omega
theorem fine_zero : Fine A8.zero := by constructor <;> (simp only [A8.zero]; omega)
theorem fine_merge {a b : A8} (h : Fine a) (k : Fine b) : Fine (a.merge b) := by
 obtain ⟨h0, h1, h2, h3, h4, h5, h6, h7, h8⟩ := h
 obtain ⟨k0, k1, k2, k3, k4, k5, k6, k7, k8⟩ := k
 constructor <;> (simp only [A8.merge]; omega)
theorem fine_set {a : A8} (h : Fine a) (q : Nat) {v : Int} (h0 : 0 ≤ v) (h1 : v ≤ 1024) : Fine (a.set q v) := by
 obtain ⟨k0, k1, k2, k3, k4, k5, k6, k7, k8⟩ := h
 unfold A8.set
 split <;> constructor <;> (try simp only) <;> omega
theorem fine_note {r t q : Int} (h : rightI r t = true) : Fine (noteA r t q) := by
 have h := Attr.rightI_iff.1 h
 unfold noteA
 refine fine_set ?_ _ (by omega) (by omega)
 constructor <;> (simp only [A8.zero]; omega)
end Go.Proofs.YtgbpfgdjnhbcgaaGreatDoor.Ix
end
section
namespace Go.Proofs.YtgbpfgdjnhbcgaaGreatDoor.Ix
open Path (bl rightB)
open Attr (A8 rightI)
open Cmd (Cm keyC footC)
open Wire (Byt shortN short_lo short_hi fixL byteN textB textL)
structure XFine (e : En) : Prop where
 right : e.a.right = true
 foot : rightB (bl e.foot) = true
 num : 0 ≤ e.num ∧ e.num < 18446744073709551616
def XAll (es : List En) : Prop := ∀ e ∈ es, XFine e
theorem size64 {p : ByteArray} (h : rightB (bl p) = true) : p.size ≤ 64 := by
 unfold rightB at h
 have h1 := of_decide_eq_true (Bool.and_eq_true_iff.1 h).2
 exact h1
theorem xall_merge {f : ByteArray} {n : Int} {v : A8} (hv : v.right = true) (hf : rightB (bl f) = true) (hn : 0 ≤ n ∧ n < 18446744073709551616) : ∀ {es : List En}, XAll es → XAll (mergeE es f n v)
 | [], _ => fun e he => by
  rw [List.mem_singleton.1 he]
  exact ⟨fine_iff.2 (fine_merge fine_zero (fine_iff.1 hv)), hf, hn⟩
 | x :: es, h => fun e he => by
  unfold mergeE at he
  split at he
  · rcases List.mem_cons.1 he with rfl | he
    · exact ⟨fine_iff.2 (fine_merge (fine_iff.1 (h x (by simp)).right) (fine_iff.1 hv)), hf, hn⟩
    · exact h e (by simp [he])
  · rcases List.mem_cons.1 he with rfl | he
    · exact h e (by simp)
    · exact xall_merge hv hf hn (fun y hy => h y (by simp [hy])) e he
theorem key_right {c : Cm} {f : ByteArray} {n : Int} (h : keyC c = some (f, n)) : rightB (bl f) = true ∧ n = c.num := by
 unfold keyC at h
 split at h
 · rename_i hk
   cases h
   refine ⟨?_, rfl⟩
   unfold footC at hk ⊢
   split at hk
   · rename_i hr
     rw [if_pos hr]
     unfold Cmd.rightC at hr
     cases hh : Cmd.hasOf c.kind with
     | none => rw [hh] at hr; cases hr
     | some s =>
      rw [hh] at hr hk
      simp only at hr hk ⊢
      unfold Cmd.rightH at hr
      simp only [Bool.and_eq_true, Bool.or_eq_true, Bool.not_eq_true'] at hr
      by_cases hp : s.path = true
      · rw [if_pos hp] at hk ⊢
        simp only
        rcases hr.1.1.1.2 with q | q
        · rw [hp] at q; cases q
        · exact q
      · rw [if_neg hp] at hk ⊢
        simp only at hk ⊢
        rcases hr.1.1.1.1.1.2 with q | q
        · rw [hk] at q; cases q
        · exact q
   · cases hk
 · cases h
theorem xall_step {es : List En} (h : XAll es) {o : Op12} (ho : o.ok) : XAll (stepE es o) := by
 have n0 := ho.n0
 have n1 := ho.n1
 have e0 := ho.e0
 have e1 := ho.e1
 unfold big64 at n1 e1
 unfold stepE
 split
 · unfold noteE
   split
   · rename_i f n hk
     obtain ⟨q1, q2⟩ := key_right hk
     split
     · rename_i hr
       exact xall_merge (fine_iff.2 (fine_note hr)) q1 (by rw [q2]; exact ⟨n0, n1⟩) h
     · exact h
   · exact h
 split
 · unfold addE
   split
   · rename_i hg
     obtain ⟨q1, q2⟩ := Bool.and_eq_true_iff.1 hg
     exact xall_merge q2 q1 ⟨e0, e1⟩ h
   · exact h
 · exact h
theorem mergeX_len (f : ByteArray) (n : Int) (v : A8) : ∀ es : List En, (mergeE es f n v).length ≤ es.length + 1
 | [] => by simp [mergeE]
 | e :: es => by
  have := mergeX_len f n v es
  unfold mergeE
  split <;> simp <;> omega
theorem stepX_len (es : List En) (o : Op12) : (stepE es o).length ≤ es.length + 1 := by
 unfold stepE noteE addE
 split
 · split
   · split
     · exact mergeX_len _ _ _ _
     · omega
   · omega
 split
 · split
   · exact mergeX_len _ _ _ _
   · omega
 · omega
theorem zero_right {a : A8} (h : a.right = true) : A8.zero.merge a = a := by
 have f := fine_iff.1 h
 obtain ⟨s, d0, d1, d2, d3, d4, d5, d6⟩ := a
 obtain ⟨f0, f1, g0, g1, g2, g3, g4, g5, g6⟩ := f
 simp only at f0 f1 g0 g1 g2 g3 g4 g5 g6
 unfold A8.merge A8.zero
 simp only [A8.mk.injEq]
 refine ⟨?_, ?_, ?_, ?_, ?_, ?_, ?_, ?_⟩ <;> omega
theorem add_next {l : List En} (hs : l.Pairwise ltX) (hx : XAll l) {i : Nat} (hi : i < l.length) : addE (l.take i) l[i].foot l[i].num l[i].a = l.take (i + 1) := by
 have hf := hx l[i] (List.getElem_mem hi)
 have hn : find (l.take i) l[i].foot l[i].num = none := by
  unfold find
  rw [List.find?_eq_none]
  intro x hxm q
  unfold En.is at q
  have q := of_decide_eq_true q
  obtain ⟨j, hj, rfl⟩ := List.mem_take_iff_getElem.1 hxm
  have h1 := List.pairwise_iff_getElem.1 hs j i (by omega) hi (by omega)
  unfold ltX at h1
  rw [q.1, q.2] at h1
  have := cbS_self l[i].foot
  omega
 unfold addE
 rw [hf.foot, hf.right, if_pos (show (true && true) = true from rfl), merge_none hn, zero_right hf.right, List.take_succ_eq_append_getElem hi]
theorem encX_le {e : En} (h : XFine e) : (encX e).length ≤ 162 := by
 have h1 := size64 h.foot
 have h2 := encX_len h.right (by omega)
 omega
theorem flatX_len {l : List En} (h : XAll l) : (l.flatMap encX).length ≤ l.length * 162 := by
 induction l with
 | nil => simp
 | cons x l ih =>
  have h1 := encX_le (h x (by simp))
  have h2 := ih (fun e he => h e (by simp [he]))
  rw [List.flatMap_cons, List.length_append, List.length_cons]
  omega
theorem byt_app {l r : List Int} (h : Byt l) (k : Byt r) : Byt (l ++ r) := fun x hx => (List.mem_append.1 hx).elim (h x) (k x)
theorem byt_short : ∀ (k : Nat), Byt (shortN k) := fun k => by
 induction k using Nat.strongRecOn with
 | ind k ih =>
  by_cases h : k < 128
  · rw [short_lo h]
    intro x hx
    rw [List.mem_singleton.1 hx]
    omega
  · rw [short_hi (by omega)]
    intro x hx
    rcases List.mem_cons.1 hx with rfl | hx
    · omega
    · exact ih (k / 128) (by omega) x hx
theorem byt_fix (v : Nat) : Byt (fixL v) := by
 intro x hx
 unfold fixL byteN at hx
 simp only [List.mem_cons, List.not_mem_nil, or_false] at hx
 rcases hx with rfl | rfl | rfl | rfl | rfl | rfl | rfl | rfl <;> omega
theorem byt_text (s : ByteArray) : Byt (textB s) := by
 unfold textB
 refine byt_app (byt_short _) fun x hx => ?_
 unfold textL at hx
 obtain ⟨y, _, rfl⟩ := List.mem_map.1 hx
 have := y.toNat_lt
 omega
theorem encX_byt (e : En) : Byt (encX e) := by
 unfold encX encT
 exact byt_app (byt_app (byt_text _) (byt_fix _)) (byt_app (byt_app (byt_app (byt_app (byt_app (byt_app (byt_app (byt_short _) (byt_short _)) (byt_short _)) (byt_short _)) (byt_short _)) (byt_short _)) (byt_short _)) (byt_short _))
theorem flatX_byt (l : List En) : Byt (l.flatMap encX) := fun x hx => by
 obtain ⟨e, he, q⟩ := List.mem_flatMap.1 hx
 exact encX_byt e x q
end Go.Proofs.YtgbpfgdjnhbcgaaGreatDoor.Ix
end
section
namespace Go.Proofs.YtgbpfgdjnhbcgaaGreatDoor.Attr
open Go.RowKit
open Cmd (through0)
attribute [-go_sem] run_eql_struct run_neq_struct run_eqGuard_agg
theorem guardA (op : BinOp) (x y : Operand) (c1 c2 c3 c4 c5 c6 c7 c8 e1 e2 e3 e4 e5 e6 e7 e8 : Value) (w : World) : (eqGuard op 40 x y (.agg #[c1, c2, c3, c4, c5, c6, c7, c8]) (.agg #[e1, e2, e3, e4, e5, e6, e7, e8])).run Tryz.prog w = .ok () w := run_eqGuard_agg _ _ _ _ _ _ _ (by kernel_rfl)
theorem guardA7 (op : BinOp) (x y : Operand) (c1 c2 c3 c4 c5 c6 c7 e1 e2 e3 e4 e5 e6 e7 : Value) (w : World) : (eqGuard op 38 x y (.agg #[c1, c2, c3, c4, c5, c6, c7]) (.agg #[e1, e2, e3, e4, e5, e6, e7])).run Tryz.prog w = .ok () w := run_eqGuard_agg _ _ _ _ _ _ _ (by kernel_rfl)
theorem same7g (d : Nat) (d0 d1 d2 d3 d4 d5 d6 : Int) (w : World) : (Go.Op.equalIn (d + 2) 38 (.agg #[.int .i64 d0, .int .i64 d1, .int .i64 d2, .int .i64 d3, .int .i64 d4, .int .i64 d5, .int .i64 d6]) (.agg #[.int .i64 d0, .int .i64 d1, .int .i64 d2, .int .i64 d3, .int .i64 d4, .int .i64 d5, .int .i64 d6])).run Tryz.prog w = .ok true w := by
 obtain ⟨i, hi⟩ : ∃ i, Tryz.prog.info? 3 = some i := by
  have h : (Tryz.prog.info? 3).isSome = true := by kernel_rfl
  exact Option.isSome_iff_exists.1 h
 have hc : Tryz.prog.cellsOf 3 = 1 := by kernel_rfl
 rw [Go.run_equalIn_array _ (d + 1) _ _ Tryz.underlying38 hi, hc, show List.range 7 = [0, 1, 2, 3, 4, 5, 6] from rfl]
 simp [Go.Op.eqItems, go_sem, hi]
theorem same7 (d0 d1 d2 d3 d4 d5 d6 : Int) (w : World) : (Go.Op.equalIn 10000 38 (.agg #[.int .i64 d0, .int .i64 d1, .int .i64 d2, .int .i64 d3, .int .i64 d4, .int .i64 d5, .int .i64 d6]) (.agg #[.int .i64 d0, .int .i64 d1, .int .i64 d2, .int .i64 d3, .int .i64 d4, .int .i64 d5, .int .i64 d6])).run Tryz.prog w = .ok true w := same7g 9998 d0 d1 d2 d3 d4 d5 d6 w
theorem same7b (d0 d1 d2 d3 d4 d5 d6 : Int) (w : World) : (Go.Op.equalIn 9999 38 (.agg #[.int .i64 d0, .int .i64 d1, .int .i64 d2, .int .i64 d3, .int .i64 d4, .int .i64 d5, .int .i64 d6]) (.agg #[.int .i64 d0, .int .i64 d1, .int .i64 d2, .int .i64 d3, .int .i64 d4, .int .i64 d5, .int .i64 d6])).run Tryz.prog w = .ok true w := same7g 9997 d0 d1 d2 d3 d4 d5 d6 w
theorem eql7 (d0 d1 d2 d3 d4 d5 d6 : Int) (w : World) : (binOp .eql 38 (.agg #[.int .i64 d0, .int .i64 d1, .int .i64 d2, .int .i64 d3, .int .i64 d4, .int .i64 d5, .int .i64 d6]) (.agg #[.int .i64 d0, .int .i64 d1, .int .i64 d2, .int .i64 d3, .int .i64 d4, .int .i64 d5, .int .i64 d6])).run Tryz.prog w = .ok (.bool true) w := by
 rw [run_eql_struct, same7]; rfl
theorem sameA (s d0 d1 d2 d3 d4 d5 d6 : Int) (w : World) : (Go.Op.equalIn 10000 40 (.agg #[.int .i64 s, .int .i64 d0, .int .i64 d1, .int .i64 d2, .int .i64 d3, .int .i64 d4, .int .i64 d5, .int .i64 d6]) (.agg #[.int .i64 s, .int .i64 d0, .int .i64 d1, .int .i64 d2, .int .i64 d3, .int .i64 d4, .int .i64 d5, .int .i64 d6])).run Tryz.prog w = .ok true w := by
 rw [run_equalIn_agg _ 9999 _ _ _ (by kernel_rfl) (by kernel_rfl)]
 simp [go_sem, Go.Op.eqFields, same7b]
theorem eqlA (s d0 d1 d2 d3 d4 d5 d6 : Int) (w : World) : (binOp .eql 40 (.agg #[.int .i64 s, .int .i64 d0, .int .i64 d1, .int .i64 d2, .int .i64 d3, .int .i64 d4, .int .i64 d5, .int .i64 d6]) (.agg #[.int .i64 s, .int .i64 d0, .int .i64 d1, .int .i64 d2, .int .i64 d3, .int .i64 d4, .int .i64 d5, .int .i64 d6])).run Tryz.prog w = .ok (.bool true) w := by
 rw [run_eql_struct, sameA]; rfl
attribute [local go_sem] guardA guardA7 eql7 eqlA
end Go.Proofs.YtgbpfgdjnhbcgaaGreatDoor.Attr
end
section
namespace Go.Proofs.YtgbpfgdjnhbcgaaGreatDoor
open Go.RowKit
theorem setL_whole {c vs : List Value} (h : c.length = vs.length) : setL c 0 vs = vs := by
 apply List.ext_getElem?
 intro j
 by_cases hj : j < vs.length
 · have := setL_in vs c 0 j (by omega) hj
   rwa [Nat.zero_add] at this
 · rw [List.getElem?_eq_none (by rw [setL_length]; omega), List.getElem?_eq_none (by omega)]
section
variable {P : Program} {ops : Array Oper} {rest : List Oper} {o : Oper} {a : Act} {Q : Exit → Act → World → Prop} {L0 L F : List Part} {w0 w : World}
theorem wpList_storeAll_at {ty : TypeId} {x y : Operand} (hg : o.guard = none) (hop : o.op = .store ty x y) {b : Nat} (hx : a.eval x = .pointer (some ⟨b, 0, none⟩)) {v : Value} (hy : a.eval y = v) {vs : List Value} (hv : v.cells = vs.toArray)
 (h : At L0 w0 L w) {c : List Value} {T : TypeId} (s : Sel (Part.cells b c T) L F) (hi : (P.info? ty).map (·.size) = some vs.length) (h1 : vs.all (·.oneCell') = true) (hj : c.length = vs.length)
 (hK : ∀ w', At L0 w0 (Part.cells b vs T :: F) w' → wpList P ops Q rest (a.put o.dst undef) w') : wpList P ops Q (o :: rest) a w :=
 wpList_store_at hg hop hx hy hv h s hi h1 (by omega) fun w' hw => hK w' (by rw [setL_whole hj] at hw; exact hw)
theorem wpList_loadRow_at {ty : TypeId} {x : Operand} (hg : o.guard = none) (hop : o.op = .load ty x) {b j : Nat} (hx : a.eval x = .pointer (some ⟨b, j, none⟩)) {vs : List Value} (hr : ∀ (k : Nat) u, vs[k]? = some u → w.cell? ⟨b, j + k, none⟩ = some u)
 (hu : (P.underlying ty).map (·.isRow) = some true) (hi : (P.info? ty).map (·.size) = some vs.length)
 (hK : wpList P ops Q rest (a.put o.dst (.agg vs.toArray)) w) : wpList P ops Q (o :: rest) a w := by
 obtain ⟨d, hu, hd⟩ := Option.map_eq_some_iff.1 hu
 refine wpList_val hg ?_ hK
 simp [execOp, hop, hx, run_loadAt_mid w b j ty vs d (fun k v hk => hr k v hk) hu hd hi, Result.andThen]
end
end Go.Proofs.YtgbpfgdjnhbcgaaGreatDoor
end
section
namespace Go.Proofs.YtgbpfgdjnhbcgaaGreatDoor.Ix
open Go.RowKit
attribute [-go_sem] run_eql_struct run_neq_struct run_eqGuard_agg
section
variable {P : Program} {ops : Array Oper} {rest : List Oper} {o : Oper} {a : Act} {Q : Exit → Act → World → Prop} {L0 L F : List Part} {w0 w : World} {K : Act → Prop}
theorem row_cell {w : World} {g n cap j : Nat} {xs : List Value} {v : Value} (h : Reads w (.slice (some ⟨g, 0, none⟩) n cap) n xs) (hv : xs[j]? = some v) : w.cell? ⟨g, j, none⟩ = some v := by
 obtain ⟨ax, c, e, _, hr⟩ := h
 cases e
 obtain ⟨b, off, e2, hc⟩ := hr j v hv
 cases e2
 simpa using hc
theorem row_range {e : TypeId} {g n cap j size : Nat} {xs vs : List Value} (h : At L0 w0 L w) (s : Sel (Part.row e size (.slice (some ⟨g, 0, none⟩) n cap) n xs) L F) (hv : (xs.drop j).take vs.length = vs) :
 ∀ (k : Nat) u, vs[k]? = some u → w.cell? ⟨g, j + k, none⟩ = some u := fun k u hk => by
 have hl := (List.getElem?_eq_some_iff.1 hk).1
 refine row_cell (h.row_reads s) ?_
 rw [← List.getElem?_drop, ← hk, ← hv, List.getElem?_take, if_pos hl]
theorem wpList_rowEl_at {ty e : TypeId} {x : Operand} {g n cap j size : Nat} {xs vs : List Value} (hg : o.guard = none) (hop : o.op = .load ty x) (hx : a.eval x = .pointer (some ⟨g, j, none⟩)) (h : At L0 w0 L w) (s : Sel (Part.row e size (.slice (some ⟨g, 0, none⟩) n cap) n xs) L F)
 (hv : (xs.drop j).take vs.length = vs) (hu : (P.underlying ty).map (·.isRow) = some true) (hi : (P.info? ty).map (·.size) = some vs.length)
 (hK : wpList P ops Q rest (a.put o.dst (.agg vs.toArray)) w) : wpList P ops Q (o :: rest) a w :=
 wpList_loadRow_at hg hop hx (row_range h s hv) hu hi hK
theorem quiet_rowEl_at {ty e : TypeId} {x : Operand} {g n cap j size : Nat} {xs vs : List Value} (hop : o.op = .load ty x) (hx : a.eval x = .pointer (some ⟨g, j, none⟩)) (s : Sel (Part.row e size (.slice (some ⟨g, 0, none⟩) n cap) n xs) L F)
 (hv : (xs.drop j).take vs.length = vs) (hu : (P.underlying ty).map (·.isRow) = some true) (hi : (P.info? ty).map (·.size) = some vs.length)
 (hK : K (a.put o.dst (.agg vs.toArray))) : o.quiet P a (Cl L0 w0 L) K := quiet_at _ (fun w' hw => by
 obtain ⟨d, hu, hd⟩ := Option.map_eq_some_iff.1 hu
 simp [execOp, hop, hx, run_loadAt_mid w' g j ty vs d (row_range (show At L0 w0 L w' from hw) s hv) hu hd hi, Result.andThen]) hK
end
theorem guardX (op : BinOp) (x y : Operand) (a b c d e f g h i j : Value) (w : World) : (eqGuard op 42 x y (.agg #[a, b, c, d, e, f, g, h, i, j]) (.agg #[a, b, c, d, e, f, g, h, i, j])).run Tryz.prog w = .ok () w := run_eqGuard_agg _ _ _ _ _ _ _ (by kernel_rfl)
theorem sameA9 (s d0 d1 d2 d3 d4 d5 d6 : Int) (w : World) : (Go.Op.equalIn 9999 40 (.agg #[.int .i64 s, .int .i64 d0, .int .i64 d1, .int .i64 d2, .int .i64 d3, .int .i64 d4, .int .i64 d5, .int .i64 d6]) (.agg #[.int .i64 s, .int .i64 d0, .int .i64 d1, .int .i64 d2, .int .i64 d3, .int .i64 d4, .int .i64 d5, .int .i64 d6])).run Tryz.prog w = .ok true w := by
 rw [run_equalIn_agg _ 9998 _ _ _ (by kernel_rfl) (by kernel_rfl)]
 simp [go_sem, Go.Op.eqFields, show ∀ w, (Go.Op.equalIn 9998 38 (.agg #[.int .i64 d0, .int .i64 d1, .int .i64 d2, .int .i64 d3, .int .i64 d4, .int .i64 d5, .int .i64 d6]) (.agg #[.int .i64 d0, .int .i64 d1, .int .i64 d2, .int .i64 d3, .int .i64 d4, .int .i64 d5, .int .i64 d6])).run Tryz.prog w = .ok true w from fun w => Attr.same7g 9996 d0 d1 d2 d3 d4 d5 d6 w]
theorem sameX (f : ByteArray) (n s d0 d1 d2 d3 d4 d5 d6 : Int) (w : World) : (binOp .neq 42 (.agg #[.string f, .int .u64 n, .int .i64 s, .int .i64 d0, .int .i64 d1, .int .i64 d2, .int .i64 d3, .int .i64 d4, .int .i64 d5, .int .i64 d6]) (.agg #[.string f, .int .u64 n, .int .i64 s, .int .i64 d0, .int .i64 d1, .int .i64 d2, .int .i64 d3, .int .i64 d4, .int .i64 d5, .int .i64 d6])).run Tryz.prog w = .ok (.bool false) w := by
 have h : (Op.equalIn 10000 42 (.agg #[.string f, .int .u64 n, .int .i64 s, .int .i64 d0, .int .i64 d1, .int .i64 d2, .int .i64 d3, .int .i64 d4, .int .i64 d5, .int .i64 d6]) (.agg #[.string f, .int .u64 n, .int .i64 s, .int .i64 d0, .int .i64 d1, .int .i64 d2, .int .i64 d3, .int .i64 d4, .int .i64 d5, .int .i64 d6])).run Tryz.prog w = .ok true w := by
  rw [run_equalIn_agg _ 9999 _ _ _ (by kernel_rfl) (by kernel_rfl)]
  simp [go_sem, Op.eqFields, sameA9]
 rw [run_neq_struct, h]; rfl
theorem xs_at {l : List En} {i : Nat} (hi : i < l.length) : ((l.flatMap En.cells).drop (i * 10)).take 10 = l[i].cells := by
 refine List.ext_getElem? fun k => ?_
 by_cases hk : k < 10
 · rw [List.getElem?_take_of_lt hk, List.getElem?_drop]
   exact flat_at En.cells 10 (fun _ => rfl) l i _ (List.getElem?_eq_getElem hi) k hk
 · rw [List.getElem?_take_eq_none (by omega), List.getElem?_eq_none (by show 10 ≤ k; omega)]
end Go.Proofs.YtgbpfgdjnhbcgaaGreatDoor.Ix
end
section
namespace Go.Proofs.YtgbpfgdjnhbcgaaGreatDoor.Ix
open Go.RowKit
open Go.Maps (Keyed)
open Path (bl rightB overB)
open Attr (A8 rightI)
open Cmd (Cm keyC footC through0)
attribute [-go_sem] run_eql_struct run_neq_struct run_eqGuard_agg
def AkRel (w : World) (p m it b4 b5 b6 b7 b8 : Nat) (es : List En) (g : Bool) (ff : ByteArray) (kn r t kind num : Int) (foot : ByteArray) (req : Int) (path : ByteArray) (mode n time : Int) (k : Nat) (u : Value) (wr : World) : Prop :=
 ∃ (ds : List En) (a : A8), At [IxP p m es] w [Part.iter Tryz.prog 37 it m (ents es) (ents ds), headC p m, Part.cells b7 [.int .i64 a.s, .int .i64 a.d0, .int .i64 a.d1, .int .i64 a.d2, .int .i64 a.d3, .int .i64 a.d4, .int .i64 a.d5, .int .i64 a.d6] 40, Part.cells b8 [.string ff, .int .u64 kn] 37, Part.cells b6 [.int .i64 0, .int .i64 0, .int .i64 0, .int .i64 0, .int .i64 0, .int .i64 0, .int .i64 0, .int .i64 0] 40, Part.cells b5 [.int .i64 r, .int .i64 t] 29, Part.cells b4 [.int .i64 kind, .int .u64 num, .string foot, .int .u64 req, .string path, .int .i64 mode, .int .u64 n, .int .i64 time] 27] wr ∧ (∀ s ∈ ds, s ∈ es) ∧ a = askF g (ff, kn) ds ∧ ds.length + k = es.length
theorem ask_core {w : World} {p m : Nat} {es : List En} (h : Sep [IxP p m es] w) (kind num : Int) (foot : ByteArray) (req : Int) (path : ByteArray) (mode n time : Int) {ff : ByteArray} {kn : Int} {ok : Bool} (hof : ∀ w, Calls Tryz.prog 32 #[.agg #[.int .i64 kind, .int .u64 num, .string foot, .int .u64 req, .string path, .int .i64 mode, .int .u64 n, .int .i64 time]] w fun e w' => e = .returned (.tuple #[.agg #[.string ff, .int .u64 kn], .bool ok]) ∧ Ext w w')
 (hff : ff.size ≤ 1000) (hes : ∀ e ∈ es, e.foot.size ≤ 1000) (hl : es.length ≤ 1000000) (r t : Int) :
 Calls Tryz.prog 13 #[.pointer (some ⟨p, 0, none⟩), .agg #[.int .i64 kind, .int .u64 num, .string foot, .int .u64 req, .string path, .int .i64 mode, .int .u64 n, .int .i64 time], .agg #[.int .i64 r, .int .i64 t]] w fun e w' => e = .returned ((askF (ok && rightI r t) (ff, kn) es).own r t).val ∧ At [IxP p m es] w [IxP p m es] w' := by
 have hA := begin0 h
 have hF := hA.facts
 clear h
 have hri := fun w => Attr.idRight_any r t w
 have hown := fun (a : A8) w => Attr.own_any a r t w
 have hes' := Lib.hid hes
 clear hes
 obtain ⟨ri, hrid⟩ : ∃ ri, rightI r t = ri := ⟨_, rfl⟩
 rw [hrid] at hri
 rw [hrid]
 clear hrid
 have hF := hA.facts; (try simp only [uY] at hA hF)
 go_enter Tryz.func13, Tryz.ntmps13
 go_wp2_with (first | ((with_reducible refine gbx ?_); refine wH 27 [.int .i64 kind, .int .u64 num, .string foot, .int .u64 req, .string path, .int .i64 mode, .int .u64 n, .int .i64 time] hA ?_; clear hF hA; intro b4 w1 hA hb4 hF; (try simp only [uY] at hA hF)) | ((with_reducible refine gbx ?_); refine wH 29 [.int .i64 r, .int .i64 t] hA ?_; clear hF hA; intro b5 w1 hA hb5 hF; (try simp only [uY] at hA hF)) | ((with_reducible show wpList _ _ _ ({ dst := some 6, op := Op.alloc _, type := _, pos := _, after := _, guard := _ } :: _) _ _); ((with_reducible refine gal ?_); refine wG 40 [.int .i64 0, .int .i64 0, .int .i64 0, .int .i64 0, .int .i64 0, .int .i64 0, .int .i64 0, .int .i64 0] hA ?_; clear hF hA; intro b6 w1 hA hb6 hF; (try simp only [uY] at hA hF))) | ((with_reducible show wpList _ _ _ ({ dst := some 7, op := Op.alloc _, type := _, pos := _, after := _, guard := _ } :: _) _ _); ((with_reducible refine gal ?_); refine wG 40 [.int .i64 0, .int .i64 0, .int .i64 0, .int .i64 0, .int .i64 0, .int .i64 0, .int .i64 0, .int .i64 0] hA ?_; clear hF hA; intro b7 w1 hA hb7 hF; (try simp only [uY] at hA hF))) | ((with_reducible refine gst ?_); refine wT hA ?_; clear hF hA; intro w1 hA hF; (try simp only [uY] at hA hF)) | ((with_reducible refine gbx ?_); refine wC hA ?_; clear hF hA; intro b1 w1 hA hb1 hF; (try simp only [uY] at hA hF)))
 refine (hof _).mono ?_
 clear hof
 rintro e w1 ⟨rfl, hx⟩
 have hB := hA.ext hx
 clear hF hA hx; have hA := hB; clear hB
 have hF := hA.facts; (try simp only [uY] at hA hF)
 go_wp2_with (first | ((with_reducible refine gal ?_); refine wG 37 [.string .empty, .int .u64 0] hA ?_; clear hF hA; intro b8 w1 hA hb8 hF; (try simp only [uY] at hA hF)) | ((with_reducible refine gst ?_); refine wT hA ?_; clear hF hA; intro w1 hA hF; (try simp only [uY] at hA hF)) | ((with_reducible refine gbx ?_); refine wC hA ?_; clear hF hA; intro b1 w1 hA hb1 hF; (try simp only [uY] at hA hF)) | (refine wpList_range_at rfl rfl rfl hA sR Tryz.underlying74 ?_; intro it w1 hB hit; clear hF hA; have hA := hB; clear hB; have hF := hA.facts; (try simp only [uY] at hA hF)))
 try go_frame
 go_loopg [22] es.length (AkRel w p m it b4 b5 b6 b7 b8 es (ok && ri) ff kn r t kind num foot req path mode n time)
 case atStart => exact ⟨[], A8.zero, hA.pick pZ, nofun, rfl, by simp⟩
 case round =>
  obtain ⟨ds, acc, hA2, hds, hacc, hk⟩ := hrel
  have hacc' := Lib.hid hacc
  clear hF hA hacc
  have hA := hA2
  clear hA2
  have hF := hA.facts; (try simp only [uY] at hA hF)
  go_step
  go_step
  refine wpList_next_at rfl rfl rfl hA sR (fun hp => ?_) (fun q w1 hq hd hB => ?_)
  · have hc : acc = askF (ok && ri) (ff, kn) es := by rw [hacc'.out]; exact (askF_perm (ents_perm hp)).symm
    have hM := At.ranged hA sR
    have hown2 := hown acc
    obtain ⟨ow, how⟩ : ∃ ow, acc.own r t = ow := ⟨_, rfl⟩
    rw [how] at hown2
    have hval := Lib.hid (show (askF (ok && ri) (ff, kn) es).own r t = ow from by rw [← hc]; exact how)
    clear hF hA hp hc hown how hacc'
    have hA := hM
    clear hM
    obtain ⟨a0, a1, a2, a3, a4, a5, a6, a7⟩ := acc
    obtain ⟨g0, g1, g2, g3, g4, g5, g6, g7⟩ := ow
    simp only [A8.val] at hown2
    simp only at hA
    have hF := hA.facts; (try simp only [uY] at hA hF)
    go_wp2_with (first | ((with_reducible refine gst ?_); refine wT hA ?_; clear hF hA; intro w1 hA hF; (try simp only [uY] at hA hF)) | ((with_reducible refine gbx ?_); refine wC hA ?_; clear hF hA; intro b1 w1 hA hb1 hF; (try simp only [uY] at hA hF)))
    refine (hown2 _).mono ?_
    clear hown2
    rintro e w1 ⟨rfl, hx⟩
    have hB := hA.ext hx
    clear hF hA hx; have hA := hB; clear hB
    have hF := hA.facts; (try simp only [uY] at hA hF)
    go_wp2_with (first | ((with_reducible refine gst ?_); refine wT hA ?_; clear hF hA; intro w1 hA hF; (try simp only [uY] at hA hF)) | ((with_reducible refine gbx ?_); refine wC hA ?_; clear hF hA; intro b1 w1 hA hb1 hF; (try simp only [uY] at hA hF)))
    refine bodyPost_ret (v := .agg #[.int .i64 g0, .int .i64 g1, .int .i64 g2, .int .i64 g3, .int .i64 g4, .int .i64 g5, .int .i64 g6, .int .i64 g7]) (by simp [results, Tryz.results13, go_sem, hF]) rfl ⟨by rw [hval.out]; rfl, close0 hA sR sR⟩
  · obtain ⟨s, hs, rfl⟩ := List.mem_map.1 hq
    have hI : IterAt Tryz.prog 37 w1 it m (ents es) (ents ds ++ [ent s]) := hB.get (A := Part.iter _ _ it m (ents es) (ents ds ++ [ent s])) sR
    have hen := hI.entry
    have hlen : (ds ++ [s]).length ≤ es.length := by have := hI.len; simpa [ents] using this
    have hsub : ∀ x ∈ ds ++ [s], x ∈ es := fun x hx => by
     rcases List.mem_append.1 hx with hx | hx
     · exact hds x hx
     · have : x = s := by simpa using hx
       rw [this]; exact hs
    rw [ents_snoc] at hB
    have hsz := hes'.out s hs
    clear hF hA
    have hA := hB
    have hk' := Lib.hid hk
    have hsub' := Lib.hid hsub
    have hcl := fun w => Cmd.clash_any ff kn s.foot s.num w hff hsz
    have hst := Lib.hid (show askStep (ok && ri) (ff, kn) acc s = askF (ok && ri) (ff, kn) (ds ++ [s]) from by rw [askF_snoc, hacc'.out])
    simp only [List.length_append, List.length_cons, List.length_nil, Nat.zero_add] at hlen
    clear hI hB hk hsub hds hq hd hs hacc' hsz
    have hF := hA.facts; (try simp only [uY] at hA hF)
    simp only [ent, En.key, keyV] at hen
    obtain ⟨sf, sn, sa⟩ := s
    simp only at hcl hen
    unfold askStep clashK at hst
    simp only at hst
    generalize hcbd : ((kn == sn) || overB (bl ff) (bl sf)) = cb at *
    clear hcbd
    have hpa := fun w => Attr.past_any sa sa.s w
    obtain ⟨pa, hpad⟩ : ∃ pa, sa.past sa.s = pa := ⟨_, rfl⟩
    rw [hpad] at hpa hst
    have hmg := fun w => Attr.merge_any acc pa w
    obtain ⟨mg, hmgd⟩ : ∃ mg, acc.merge pa = mg := ⟨_, rfl⟩
    rw [hmgd] at hmg hst
    clear hpad hmgd
    obtain ⟨a0, a1, a2, a3, a4, a5, a6, a7⟩ := acc
    obtain ⟨c0, c1, c2, c3, c4, c5, c6, c7⟩ := sa
    obtain ⟨q0, q1, q2, q3, q4, q5, q6, q7⟩ := pa
    obtain ⟨g0, g1, g2, g3, g4, g5, g6, g7⟩ := mg
    simp only [A8.val] at hpa hmg hen
    simp only at hA
    have hF := hA.facts; (try simp only [uY] at hA hF)
    cases ok
    · simp only [Bool.false_and, Bool.false_eq_true, if_false] at hst
      go_wp2_with (first | ((with_reducible refine gal ?_); refine wG 37 [.string .empty, .int .u64 0] hA ?_; clear hF hA; intro bK w1 hA hbK hF; (try simp only [uY] at hA hF)) | ((with_reducible refine gal ?_); refine wG 40 [.int .i64 0, .int .i64 0, .int .i64 0, .int .i64 0, .int .i64 0, .int .i64 0, .int .i64 0, .int .i64 0] hA ?_; clear hF hA; intro bA w1 hA hbA hF; (try simp only [uY] at hA hF)) | ((with_reducible refine gst ?_); refine wT hA ?_; clear hF hA; intro w1 hA hF; (try simp only [uY] at hA hF)) | ((with_reducible refine gbx ?_); refine wC hA ?_; clear hF hA; intro b1 w1 hA hb1 hF; (try simp only [uY] at hA hF)))
      go_roundg (gk - 1)
      case measure => have := hk'.out; omega
      case rel => exact ⟨ds ++ [⟨sf, sn, ⟨c0, c1, c2, c3, c4, c5, c6, c7⟩⟩], _, hA.pick (by with_reducible repeat (first | exact Picks.nil | refine Picks.cons sR ?_)), hsub'.out, hst.out, by have := hk'.out; simp; omega⟩
    · cases ri
      · simp only [Bool.and_false, Bool.false_and, Bool.false_eq_true, if_false] at hst
        go_wp2_with (first | ((with_reducible refine gal ?_); refine wG 37 [.string .empty, .int .u64 0] hA ?_; clear hF hA; intro bK w1 hA hbK hF; (try simp only [uY] at hA hF)) | ((with_reducible refine gal ?_); refine wG 40 [.int .i64 0, .int .i64 0, .int .i64 0, .int .i64 0, .int .i64 0, .int .i64 0, .int .i64 0, .int .i64 0] hA ?_; clear hF hA; intro bA w1 hA hbA hF; (try simp only [uY] at hA hF)) | ((with_reducible refine gst ?_); refine wT hA ?_; clear hF hA; intro w1 hA hF; (try simp only [uY] at hA hF)) | ((with_reducible refine gbx ?_); refine wC hA ?_; clear hF hA; intro b1 w1 hA hb1 hF; (try simp only [uY] at hA hF)))
        refine (hri _).mono ?_
        rintro e w1 ⟨rfl, hx⟩
        have hB := hA.ext hx
        clear hF hA hx; have hA := hB; clear hB
        have hF := hA.facts; (try simp only [uY] at hA hF)
        go_wp2_with (first | ((with_reducible refine gst ?_); refine wT hA ?_; clear hF hA; intro w1 hA hF; (try simp only [uY] at hA hF)) | ((with_reducible refine gbx ?_); refine wC hA ?_; clear hF hA; intro b1 w1 hA hb1 hF; (try simp only [uY] at hA hF)))
        go_roundg (gk - 1)
        case measure => have := hk'.out; omega
        case rel => exact ⟨ds ++ [⟨sf, sn, ⟨c0, c1, c2, c3, c4, c5, c6, c7⟩⟩], _, hA.pick (by with_reducible repeat (first | exact Picks.nil | refine Picks.cons sR ?_)), hsub'.out, hst.out, by have := hk'.out; simp; omega⟩
      · go_wp2_with (first | ((with_reducible refine gal ?_); refine wG 37 [.string .empty, .int .u64 0] hA ?_; clear hF hA; intro bK w1 hA hbK hF; (try simp only [uY] at hA hF)) | ((with_reducible refine gal ?_); refine wG 40 [.int .i64 0, .int .i64 0, .int .i64 0, .int .i64 0, .int .i64 0, .int .i64 0, .int .i64 0, .int .i64 0] hA ?_; clear hF hA; intro bA w1 hA hbA hF; (try simp only [uY] at hA hF)) | ((with_reducible refine gst ?_); refine wT hA ?_; clear hF hA; intro w1 hA hF; (try simp only [uY] at hA hF)) | ((with_reducible refine gbx ?_); refine wC hA ?_; clear hF hA; intro b1 w1 hA hb1 hF; (try simp only [uY] at hA hF)))
        refine (hri _).mono ?_
        rintro e w1 ⟨rfl, hx⟩
        have hB := hA.ext hx
        clear hF hA hx; have hA := hB; clear hB
        have hF := hA.facts; (try simp only [uY] at hA hF)
        go_wp2_with (first | ((with_reducible refine gst ?_); refine wT hA ?_; clear hF hA; intro w1 hA hF; (try simp only [uY] at hA hF)) | ((with_reducible refine gbx ?_); refine wC hA ?_; clear hF hA; intro b1 w1 hA hb1 hF; (try simp only [uY] at hA hF)))
        refine (hcl _).mono ?_
        rintro e w1 ⟨rfl, hx⟩
        have hB := hA.ext hx
        clear hF hA hx; have hA := hB; clear hB
        have hF := hA.facts; (try simp only [uY] at hA hF)
        cases cb
        · simp only [Bool.and_false, Bool.and_true, Bool.true_and, Bool.false_eq_true, if_false] at hst
          go_wp2_with (first | ((with_reducible refine gst ?_); refine wT hA ?_; clear hF hA; intro w1 hA hF; (try simp only [uY] at hA hF)) | ((with_reducible refine gbx ?_); refine wC hA ?_; clear hF hA; intro b1 w1 hA hb1 hF; (try simp only [uY] at hA hF)))
          go_roundg (gk - 1)
          case measure => have := hk'.out; omega
          case rel => exact ⟨ds ++ [⟨sf, sn, ⟨c0, c1, c2, c3, c4, c5, c6, c7⟩⟩], _, hA.pick (by with_reducible repeat (first | exact Picks.nil | refine Picks.cons sR ?_)), hsub'.out, hst.out, by have := hk'.out; simp; omega⟩
        · simp only [Bool.and_true, Bool.true_and, if_true] at hst
          go_wp2_with (first | ((with_reducible refine gst ?_); refine wT hA ?_; clear hF hA; intro w1 hA hF; (try simp only [uY] at hA hF)) | ((with_reducible refine gbx ?_); refine wC hA ?_; clear hF hA; intro b1 w1 hA hb1 hF; (try simp only [uY] at hA hF)))
          try go_frame
          (refine wp_region_head 6 (Cl _ _ _) (by kernel_rfl) (by kernel_rfl) (Cl.drew hA) ?_); (simp only [List.take_succ_cons, List.take_zero, List.drop_succ_cons, List.drop_zero]); (have hn1 := Cl.none hA); (have hn2 := Cl.none2 hA); (repeat (first | go_big_quiet_skip | (go_big_quiet_want; (first | (refine qM 40 8 ?_; go_frame; go_big_quiet_on) | (refine qL ?_; go_frame; go_big_quiet_on) | (go_big_quiet_op; (first | go_big_quiet_on | ((apply Exists.intro); (refine ⟨fun w1 hw => ?_, ?_⟩); (focus ((have hw := Cl.out hw); (first | exact through0 hw (hpa _) | exact through0 hw (hmg _)))); (go_big_quiet_on))))))))
          (refine wpQuiet_nil ?_); (intro w1 hB); (clear hF hA hn1 hn2); (have hA := Cl.out hB); (clear hB); have hF := hA.facts; (try simp only [uY] at hA hF)
          go_wp2_with (first | ((with_reducible refine gst ?_); refine wT hA ?_; clear hF hA; intro w1 hA hF; (try simp only [uY] at hA hF)) | ((with_reducible refine gbx ?_); refine wC hA ?_; clear hF hA; intro b1 w1 hA hb1 hF; (try simp only [uY] at hA hF)))
          go_roundg (gk - 1)
          case measure => have := hk'.out; omega
          case rel => exact ⟨ds ++ [⟨sf, sn, ⟨c0, c1, c2, c3, c4, c5, c6, c7⟩⟩], _, hA.pick (by with_reducible repeat (first | exact Picks.nil | refine Picks.cons sR ?_)), hsub'.out, hst.out, by have := hk'.out; simp; omega⟩
theorem ask_any {w : World} {p m : Nat} {es : List En} (h : Sep [IxP p m es] w) (c : Cm) (hf : c.foot.size ≤ 1000) (hp : c.path.size ≤ 1000) (hes : ∀ e ∈ es, e.foot.size ≤ 1000) (hl : es.length ≤ 1000000) (r t : Int) :
 Calls Tryz.prog 13 #[.pointer (some ⟨p, 0, none⟩), c.val, .agg #[.int .i64 r, .int .i64 t]] w fun e w' => e = .returned (askE es (keyC c) r t).val ∧ At [IxP p m es] w [IxP p m es] w' := by
 have hof := fun w => Cmd.of_any c w hf hp
 have hsz := Cmd.foot_size c hf hp
 unfold askE keyC
 cases hb : (footC c).2 with
 | false =>
  rw [hb] at hof
  simp only [Bool.false_eq_true, if_false] at hof ⊢
  have := ask_core h c.kind c.num c.foot c.req c.path c.mode c.n c.time hof (by decide) hes hl r t
  rw [Bool.false_and, askF_false] at this
  exact this
 | true =>
  rw [hb] at hof
  simp only [if_true] at hof ⊢
  have := ask_core h c.kind c.num c.foot c.req c.path c.mode c.n c.time hof hsz hes hl r t
  rw [Bool.true_and] at this
  exact this
end Go.Proofs.YtgbpfgdjnhbcgaaGreatDoor.Ix
end
section
namespace Go.Proofs.YtgbpfgdjnhbcgaaGreatDoor.Ix
open Go.RowKit
open Go.Maps (Keyed)
open Path (bl rightB overB)
open Attr (A8 rightI)
open Cmd (Cm keyC footC through0)
attribute [-go_sem] run_eql_struct run_neq_struct run_eqGuard_agg
def OpsAt (W : World) (v : Value) (os : List Op12) : Prop :=
 ∃ sa sc, v = .slice sa os.length sc ∧ ∀ j (hj : j < os.length), ∃ b off, sa = some ⟨b, off, none⟩ ∧
  (∀ k u, os[j].cells[k]? = some u → W.cell? ⟨b, off + j * 22 + k, none⟩ = some u) ∧
  (0 ≤ os[j].c.num ∧ os[j].c.num < big64 ∧ 0 ≤ os[j].e.num ∧ os[j].e.num < big64)
theorem old_cell {W w : World} (h : (Part.old W).holds w) {b off : Nat} {u : Value} (hc : W.cell? ⟨b, off, none⟩ = some u) : w.cell? ⟨b, off, none⟩ = some u := by
 have hb : b < W.heap.size := by
  rcases Nat.lt_or_ge b W.heap.size with q | q
  · exact q
  · simp [World.cell?, Array.getElem?_eq_none q] at hc
 have := h b hb
 rw [← hc]
 simp [World.cell?, this]
def okB (o : Op12) : Bool := smallB o.c && decide (o.e.foot.size ≤ 200)
def fitsB (os : List Op12) (most : Int) : Bool := os.all okB && decide ((os.length : Int) ≤ most)
theorem okB_ok {o : Op12} (h : okB o = true) (hn : 0 ≤ o.c.num ∧ o.c.num < big64 ∧ 0 ≤ o.e.num ∧ o.e.num < big64) : o.ok := by
 unfold okB smallB at h
 simp at h
 exact ⟨by omega, by omega, hn.1, hn.2.1, by omega, hn.2.2.1, hn.2.2.2⟩
def FitRel (W w : World) (os : List Op12) (k : Nat) (u : Value) (wr : World) : Prop :=
 ∃ i : Nat, u = .int .i64 i ∧ i + k = os.length ∧ At [Part.old W] w [Part.old W] wr ∧ ∀ o ∈ os.take i, okB o = true
theorem fits_any {W w : World} {v : Value} {os : List Op12} (h : Sep [Part.old W] w) (ho : OpsAt W v os) (most : Int) (hl : os.length ≤ 9223372036854775807) :
 Calls Tryz.prog 6 #[v, .int .i64 most] w fun e w' => e = .returned (.bool (fitsB os most)) ∧ At [Part.old W] w [Part.old W] w' := by
 obtain ⟨sa, sc, rfl, hel⟩ := ho
 have hel' := Lib.hid hel
 have hA := At.start h
 have hF := hA.facts
 clear h hel
 have hF := hA.facts; (try simp only [uZ] at hA hF)
 go_enter Tryz.func6, Tryz.ntmps6
 go_wp2_with (first | ((with_reducible refine gst ?_); refine wT hA ?_; clear hF hA; intro w1 hA hF; (try simp only [uZ] at hA hF)) | ((with_reducible refine gbx ?_); refine wC hA ?_; clear hF hA; intro b1 w1 hA hb1 hF; (try simp only [uZ] at hA hF)))
 try go_frame
 go_loopg [9] os.length (FitRel W w os)
 case atStart => exact ⟨0, rfl, by simp, hA, by simp⟩
 case round =>
  obtain ⟨i, rfl, hik, hB, hno⟩ := hrel
  have hno' := Lib.hid hno
  clear hF hA hno; have hA := hB; clear hB
  by_cases hi : i < os.length
  · obtain ⟨b, off, rfl, hce, _⟩ := hel'.out i hi
    have hm := fun (q : okB os[i] = true) => show ∀ o ∈ os.take (i + 1), okB o = true from fun o ho => by
     rw [List.take_succ_eq_append_getElem hi] at ho
     rcases List.mem_append.1 ho with ho | ho
     · exact hno'.out o ho
     · rw [List.mem_singleton.1 ho]; exact q
    have hbad := fun (q : okB os[i] = false) => show fitsB os most = false by
     unfold fitsB
     rw [Bool.and_eq_false_iff]
     left
     simp only [List.all_eq_false]
     exact ⟨os[i], List.getElem_mem hi, by simpa using q⟩
    obtain ⟨o, hoi⟩ : ∃ o, os[i] = o := ⟨_, rfl⟩
    simp only [hoi] at hce hm hbad
    clear hoi
    obtain ⟨kd, ⟨kind, num, foot, req, path, mode, n, time⟩, r, t, q, ⟨ef, en, ⟨e0, e1, e2, e3, e4, e5, e6, e7⟩⟩⟩ := o
    have hr22 : ∀ (k : Nat) u, ([.int .i64 kd, .int .i64 kind, .int .u64 num, .string foot, .int .u64 req, .string path, .int .i64 mode, .int .u64 n, .int .i64 time, .int .i64 r, .int .i64 t, .int .i64 q, .string ef, .int .u64 en, .int .i64 e0, .int .i64 e1, .int .i64 e2, .int .i64 e3, .int .i64 e4, .int .i64 e5, .int .i64 e6, .int .i64 e7] : List Value)[k]? = some u → wr.cell? ⟨b, off + i * 22 + k, none⟩ = some u := fun k u hk => old_cell (hA.get (A := Part.old W) sR) (hce k u hk)
    have hr22' := Lib.hid hr22
    clear hce hr22
    have hsm := fun w => small_any ⟨kind, num, foot, req, path, mode, n, time⟩ w
    simp only [Cm.val] at hsm
    unfold okB at hm hbad
    simp only at hm hbad
    generalize smallB ⟨kind, num, foot, req, path, mode, n, time⟩ = sb at *
    have hF := hA.facts; (try simp only [uZ] at hA hF)
    cases sb
    · have hb' := Lib.hid (hbad (by simp))
      clear hm hbad
      go_wp2_with (first | ((with_reducible refine gal ?_); refine wG 44 [.int .i64 0, .int .i64 0, .int .u64 0, .string .empty, .int .u64 0, .string .empty, .int .i64 0, .int .u64 0, .int .i64 0, .int .i64 0, .int .i64 0, .int .i64 0, .string .empty, .int .u64 0, .int .i64 0, .int .i64 0, .int .i64 0, .int .i64 0, .int .i64 0, .int .i64 0, .int .i64 0, .int .i64 0] hA ?_; clear hF hA; intro b6 w1 hA hb6 hF; (try simp only [uZ] at hA hF)) | ((with_reducible show wpList _ _ _ ({ dst := some 12, op := Op.load _ _, type := _, pos := _, after := _, guard := _ } :: _) _ _); refine wpList_loadRow_at (vs := [.int .i64 kd, .int .i64 kind, .int .u64 num, .string foot, .int .u64 req, .string path, .int .i64 mode, .int .u64 n, .int .i64 time, .int .i64 r, .int .i64 t, .int .i64 q, .string ef, .int .u64 en, .int .i64 e0, .int .i64 e1, .int .i64 e2, .int .i64 e3, .int .i64 e4, .int .i64 e5, .int .i64 e6, .int .i64 e7]) rfl rfl (by (try simp only [Act.eval, eV]) <;> exact rfl) hr22'.out (by kernel_rfl) (by kernel_rfl) ?_) | ((with_reducible show wpList _ _ _ ({ dst := _, op := Op.store _ _ _, type := _, pos := _, after := _, guard := _ } :: _) _ _); refine wpList_storeAll_at (b := b6) (vs := [.int .i64 kd, .int .i64 kind, .int .u64 num, .string foot, .int .u64 req, .string path, .int .i64 mode, .int .u64 n, .int .i64 time, .int .i64 r, .int .i64 t, .int .i64 q, .string ef, .int .u64 en, .int .i64 e0, .int .i64 e1, .int .i64 e2, .int .i64 e3, .int .i64 e4, .int .i64 e5, .int .i64 e6, .int .i64 e7]) rfl rfl (by (try simp only [Act.eval, eV]) <;> exact rfl) (by (try simp only [Act.eval, eV]) <;> exact rfl) (by kernel_rfl) hA sR (by kernel_rfl) rfl rfl ?_; intro w1 hB; clear hF hA; have hA := hB; clear hB; have hF := hA.facts; (try simp only [uZ] at hA hF)) | ((with_reducible refine gst ?_); refine wT hA ?_; clear hF hA; intro w1 hA hF; (try simp only [uZ] at hA hF)) | ((with_reducible refine gbx ?_); refine wC hA ?_; clear hF hA; intro b1 w1 hA hb1 hF; (try simp only [uZ] at hA hF)))
      refine (hsm _).mono ?_
      clear hsm
      rintro e w1 ⟨rfl, hx⟩
      have hB := hA.ext hx
      clear hF hA hx; have hA := hB; clear hB
      have hF := hA.facts; (try simp only [uZ] at hA hF)
      go_wp2_with (first | ((with_reducible refine gst ?_); refine wT hA ?_; clear hF hA; intro w1 hA hF; (try simp only [uZ] at hA hF)) | ((with_reducible refine gbx ?_); refine wC hA ?_; clear hF hA; intro b1 w1 hA hb1 hF; (try simp only [uZ] at hA hF)))
      go_ret
      exact ⟨by rw [hb'.out]; rfl, hA.only1 sR⟩
    · by_cases hq : ef.size ≤ 200
      · have hm' := Lib.hid (hm (by simp [hq]))
        have hq' : ¬ (200 : Int) < (ef.size : Int) := by omega
        clear hm hbad
        go_wp2_with (first | ((with_reducible refine gal ?_); refine wG 44 [.int .i64 0, .int .i64 0, .int .u64 0, .string .empty, .int .u64 0, .string .empty, .int .i64 0, .int .u64 0, .int .i64 0, .int .i64 0, .int .i64 0, .int .i64 0, .string .empty, .int .u64 0, .int .i64 0, .int .i64 0, .int .i64 0, .int .i64 0, .int .i64 0, .int .i64 0, .int .i64 0, .int .i64 0] hA ?_; clear hF hA; intro b6 w1 hA hb6 hF; (try simp only [uZ] at hA hF)) | ((with_reducible show wpList _ _ _ ({ dst := some 12, op := Op.load _ _, type := _, pos := _, after := _, guard := _ } :: _) _ _); refine wpList_loadRow_at (vs := [.int .i64 kd, .int .i64 kind, .int .u64 num, .string foot, .int .u64 req, .string path, .int .i64 mode, .int .u64 n, .int .i64 time, .int .i64 r, .int .i64 t, .int .i64 q, .string ef, .int .u64 en, .int .i64 e0, .int .i64 e1, .int .i64 e2, .int .i64 e3, .int .i64 e4, .int .i64 e5, .int .i64 e6, .int .i64 e7]) rfl rfl (by (try simp only [Act.eval, eV]) <;> exact rfl) hr22'.out (by kernel_rfl) (by kernel_rfl) ?_) | ((with_reducible show wpList _ _ _ ({ dst := _, op := Op.store _ _ _, type := _, pos := _, after := _, guard := _ } :: _) _ _); refine wpList_storeAll_at (b := b6) (vs := [.int .i64 kd, .int .i64 kind, .int .u64 num, .string foot, .int .u64 req, .string path, .int .i64 mode, .int .u64 n, .int .i64 time, .int .i64 r, .int .i64 t, .int .i64 q, .string ef, .int .u64 en, .int .i64 e0, .int .i64 e1, .int .i64 e2, .int .i64 e3, .int .i64 e4, .int .i64 e5, .int .i64 e6, .int .i64 e7]) rfl rfl (by (try simp only [Act.eval, eV]) <;> exact rfl) (by (try simp only [Act.eval, eV]) <;> exact rfl) (by kernel_rfl) hA sR (by kernel_rfl) rfl rfl ?_; intro w1 hB; clear hF hA; have hA := hB; clear hB; have hF := hA.facts; (try simp only [uZ] at hA hF)) | ((with_reducible refine gst ?_); refine wT hA ?_; clear hF hA; intro w1 hA hF; (try simp only [uZ] at hA hF)) | ((with_reducible refine gbx ?_); refine wC hA ?_; clear hF hA; intro b1 w1 hA hb1 hF; (try simp only [uZ] at hA hF)))
        refine (hsm _).mono ?_
        clear hsm
        rintro e w1 ⟨rfl, hx⟩
        have hB := hA.ext hx
        clear hF hA hx; have hA := hB; clear hB
        have hF := hA.facts; (try simp only [uZ] at hA hF)
        go_wp2_with (first | ((with_reducible refine gst ?_); refine wT hA ?_; clear hF hA; intro w1 hA hF; (try simp only [uZ] at hA hF)) | ((with_reducible refine gbx ?_); refine wC hA ?_; clear hF hA; intro b1 w1 hA hb1 hF; (try simp only [uZ] at hA hF)))
        go_roundg (gk - 1)
        case measure => omega
        case rel => exact ⟨i + 1, by simp, by omega, hA.pick (by with_reducible repeat (first | exact Picks.nil | refine Picks.cons sR ?_)), hm'.out⟩
      · have hb' := Lib.hid (hbad (by simp [hq]))
        have hq' : (200 : Int) < (ef.size : Int) := by omega
        clear hm hbad
        go_wp2_with (first | ((with_reducible refine gal ?_); refine wG 44 [.int .i64 0, .int .i64 0, .int .u64 0, .string .empty, .int .u64 0, .string .empty, .int .i64 0, .int .u64 0, .int .i64 0, .int .i64 0, .int .i64 0, .int .i64 0, .string .empty, .int .u64 0, .int .i64 0, .int .i64 0, .int .i64 0, .int .i64 0, .int .i64 0, .int .i64 0, .int .i64 0, .int .i64 0] hA ?_; clear hF hA; intro b6 w1 hA hb6 hF; (try simp only [uZ] at hA hF)) | ((with_reducible show wpList _ _ _ ({ dst := some 12, op := Op.load _ _, type := _, pos := _, after := _, guard := _ } :: _) _ _); refine wpList_loadRow_at (vs := [.int .i64 kd, .int .i64 kind, .int .u64 num, .string foot, .int .u64 req, .string path, .int .i64 mode, .int .u64 n, .int .i64 time, .int .i64 r, .int .i64 t, .int .i64 q, .string ef, .int .u64 en, .int .i64 e0, .int .i64 e1, .int .i64 e2, .int .i64 e3, .int .i64 e4, .int .i64 e5, .int .i64 e6, .int .i64 e7]) rfl rfl (by (try simp only [Act.eval, eV]) <;> exact rfl) hr22'.out (by kernel_rfl) (by kernel_rfl) ?_) | ((with_reducible show wpList _ _ _ ({ dst := _, op := Op.store _ _ _, type := _, pos := _, after := _, guard := _ } :: _) _ _); refine wpList_storeAll_at (b := b6) (vs := [.int .i64 kd, .int .i64 kind, .int .u64 num, .string foot, .int .u64 req, .string path, .int .i64 mode, .int .u64 n, .int .i64 time, .int .i64 r, .int .i64 t, .int .i64 q, .string ef, .int .u64 en, .int .i64 e0, .int .i64 e1, .int .i64 e2, .int .i64 e3, .int .i64 e4, .int .i64 e5, .int .i64 e6, .int .i64 e7]) rfl rfl (by (try simp only [Act.eval, eV]) <;> exact rfl) (by (try simp only [Act.eval, eV]) <;> exact rfl) (by kernel_rfl) hA sR (by kernel_rfl) rfl rfl ?_; intro w1 hB; clear hF hA; have hA := hB; clear hB; have hF := hA.facts; (try simp only [uZ] at hA hF)) | ((with_reducible refine gst ?_); refine wT hA ?_; clear hF hA; intro w1 hA hF; (try simp only [uZ] at hA hF)) | ((with_reducible refine gbx ?_); refine wC hA ?_; clear hF hA; intro b1 w1 hA hb1 hF; (try simp only [uZ] at hA hF)))
        refine (hsm _).mono ?_
        clear hsm
        rintro e w1 ⟨rfl, hx⟩
        have hB := hA.ext hx
        clear hF hA hx; have hA := hB; clear hB
        have hF := hA.facts; (try simp only [uZ] at hA hF)
        go_wp2_with (first | ((with_reducible refine gst ?_); refine wT hA ?_; clear hF hA; intro w1 hA hF; (try simp only [uZ] at hA hF)) | ((with_reducible refine gbx ?_); refine wC hA ?_; clear hF hA; intro b1 w1 hA hb1 hF; (try simp only [uZ] at hA hF)))
        go_ret
        exact ⟨by rw [hb'.out]; rfl, hA.only1 sR⟩
  · have hall : os.all okB = true := by
     rw [List.all_eq_true]
     intro o ho
     exact hno'.out o (by rw [List.take_of_length_le (by omega)]; exact ho)
    have hall' := Lib.hid hall
    clear hall
    have hF := hA.facts; (try simp only [uZ] at hA hF)
    go_wp2_with (first | ((with_reducible refine gst ?_); refine wT hA ?_; clear hF hA; intro w1 hA hF; (try simp only [uZ] at hA hF)) | ((with_reducible refine gbx ?_); refine wC hA ?_; clear hF hA; intro b1 w1 hA hb1 hF; (try simp only [uZ] at hA hF)))
    go_ret
    exact ⟨by unfold fitsB; rw [hall'.out]; rfl, hA.only1 sR⟩
def xC : Cm := ⟨4, 1, ⟨#[97]⟩, 1, ⟨#[97, 47, 98]⟩, 1, 0, 0⟩
def xD : Cm := ⟨2, 2, ⟨#[97]⟩, 1, ⟨#[]⟩, 0, 0, 0⟩
def xE : List En := [⟨⟨#[97, 47, 98]⟩, 1, ⟨7, 0, 0, 5, 0, 0, 0, 0⟩⟩]
theorem ex1 : noteE [] (keyC xC) 2 4 7 = xE := by kernel_rfl
theorem ex2 : askE xE (keyC xD) 0 3 = ⟨8, 3, 0, 5, 0, 0, 0, 0⟩ := by kernel_rfl
theorem anchor_any (w : World) : Calls Tryz.prog 5 #[] w fun e w' => e = .returned (.bool true) ∧ Ext w w' := by
 have hA : At [] w [] w := At.start (L0 := []) trivial
 have hF := hA.facts
 have heq : ∀ w, (binOp .eql 40 (.agg #[.int .i64 8, .int .i64 3, .int .i64 0, .int .i64 5, .int .i64 0, .int .i64 0, .int .i64 0, .int .i64 0]) (.agg #[.int .i64 8, .int .i64 3, .int .i64 0, .int .i64 5, .int .i64 0, .int .i64 0, .int .i64 0, .int .i64 0])).run Tryz.prog w = .ok (.bool true) w := fun w => by kernel_rfl
 have hgu : ∀ (op : BinOp) (x y : Operand) w, (eqGuard op 40 x y (.agg #[.int .i64 8, .int .i64 3, .int .i64 0, .int .i64 5, .int .i64 0, .int .i64 0, .int .i64 0, .int .i64 0]) (.agg #[.int .i64 8, .int .i64 3, .int .i64 0, .int .i64 5, .int .i64 0, .int .i64 0, .int .i64 0, .int .i64 0])).run Tryz.prog w = .ok () w := fun op x y w => run_eqGuard_agg _ _ _ _ _ _ _ (by kernel_rfl)
 go_enter Tryz.func5, Tryz.ntmps5
 go_wp2_with fail
 refine (new_any _).mono ?_
 rintro e w1 ⟨p, m, rfl, hT⟩
 have hB := hA.call0 hT
 clear hF hA hT; have hA := hB; clear hB
 simp only [List.append_nil] at hA
 have hF := hA.facts; (try simp only [uZ] at hA hF)
 go_wp2_with (first | ((with_reducible refine gst ?_); refine wT hA ?_; clear hF hA; intro w1 hA hF; (try simp only [uZ] at hA hF)) | ((with_reducible refine gbx ?_); refine wC hA ?_; clear hF hA; intro b1 w1 hA hb1 hF; (try simp only [uZ] at hA hF)))
 refine (note_any (hA.sep1 (A := IxP p m []) sR) xC (by decide) (by decide) (by decide) (by unfold big64; decide) 2 4 7).mono ?_
 rw [ex1]
 rintro e w1 ⟨rfl, hT⟩; have hB := hA.call1 sR hT; clear hF hA hT; have hA := hB; clear hB; have hF := hA.facts; (try simp only [uZ] at hA hF)
 go_wp2_with (first | ((with_reducible refine gst ?_); refine wT hA ?_; clear hF hA; intro w1 hA hF; (try simp only [uZ] at hA hF)) | ((with_reducible refine gbx ?_); refine wC hA ?_; clear hF hA; intro b1 w1 hA hb1 hF; (try simp only [uZ] at hA hF)))
 refine (ask_any (hA.sep1 (A := IxP p m xE) sR) xD (by decide) (by decide) (by intro e he; simp only [xE, List.mem_singleton] at he; subst he; decide) (by decide) 0 3).mono ?_
 rw [ex2]
 rintro e w1 ⟨rfl, hT⟩; have hB := hA.call1 sR hT; clear hF hA hT; have hA := hB; clear hB; have hF := hA.facts; (try simp only [uZ] at hA hF)
 simp only [A8.val] at *
 go_wp2_with (first | ((with_reducible refine gal ?_); refine wG 40 [.int .i64 0, .int .i64 0, .int .i64 0, .int .i64 0, .int .i64 0, .int .i64 0, .int .i64 0, .int .i64 0] hA ?_; clear hF hA; intro bA w1 hA hbA hF; (try simp only [uZ] at hA hF)) | ((with_reducible refine gst ?_); refine wT hA ?_; clear hF hA; intro w1 hA hF; (try simp only [uZ] at hA hF)) | ((with_reducible refine gbx ?_); refine wC hA ?_; clear hF hA; intro b1 w1 hA hb1 hF; (try simp only [uZ] at hA hF)))
 go_ret
 exact ⟨rfl, hA.toExt⟩
end Go.Proofs.YtgbpfgdjnhbcgaaGreatDoor.Ix
end
section
namespace Go.Proofs.YtgbpfgdjnhbcgaaGreatDoor
open Go.RowKit
section
variable {P : Program} {ops : Array Oper} {rest : List Oper} {o : Oper} {a : Act} {Q : Exit → Act → World → Prop} {L0 L F : List Part} {w0 w : World}
theorem wpList_loadPart_at {ty : TypeId} {x : Operand} (hg : o.guard = none) (hop : o.op = .load ty x) {b : Nat} (hx : a.eval x = .pointer (some ⟨b, 0, none⟩)) {vs : List Value} {T : TypeId} (h : At L0 w0 L w) (s : Sel (Part.cells b vs T) L F)
 (hu : (P.underlying ty).map (·.isRow) = some true) (hi : (P.info? ty).map (·.size) = some vs.length)
 (hK : wpList P ops Q rest (a.put o.dst (.agg vs.toArray)) w) : wpList P ops Q (o :: rest) a w :=
 wpList_loadRow_at hg hop hx (fun k u hk => by
  have hb : BlockIs w b vs T := h.get s
  rw [Nat.zero_add, hb.cell]; exact hk) hu hi hK
end
end Go.Proofs.YtgbpfgdjnhbcgaaGreatDoor
end
section
namespace Go
open _root_.Go.Proofs.YtgbpfgdjnhbcgaaGreatDoor
open Go.RowKit
section
variable {P : Program} {ops : Array Oper} {rest : List Oper} {o : Oper} {a : Act} {Q : Exit → Act → World → Prop} {L0 L F : List Part} {w0 w : World}
end
end Go
namespace Go.Proofs.YtgbpfgdjnhbcgaaGreatDoor
open Go.RowKit
theorem thr1 {L0 L F : List Part} {w0 w w' : World} {A : Part} (s : Sel A L F) (h : At L0 w0 L w) (hT : At [A] w [A] w') : At L0 w0 L w' :=
 ((h.to (Eqv.perm s.perm)).frame (K := [A]) hT).to (Eqv.perm s.perm).symm
end Go.Proofs.YtgbpfgdjnhbcgaaGreatDoor
end
