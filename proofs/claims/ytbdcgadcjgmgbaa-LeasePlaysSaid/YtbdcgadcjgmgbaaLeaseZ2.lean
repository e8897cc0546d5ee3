/- XLeaseZ XLeaseZ1 XLeaseZ2, joined by merge.py. -/
import Derived.Test.YtbdcgadcjgmgbaaLeaseY
import Derived.Test.YtbdcgadcjgmgbaaLeaseS
import Derived.Test.YtbdcgadcjgmgbaaLeaseW8
section
namespace Go.Proofs.Ytbdcgadcjgmgbaa.Lease
open Go.RowKit
set_option linter.unusedSimpArgs false
set_option linter.unusedVariables false

def bkP (p m : Nat) (ss : List Ses) (PL : List (Value × List AR)) : Part := Part.all [BookP p m ss, poolP PL]
theorem bk_eqv (p m : Nat) (ss : List Ses) (PL : List (Value × List AR)) (F : List Part) : Eqv (bkP p m ss PL :: F) (BookP p m ss :: poolP PL :: F) := Eqv.all [BookP p m ss, poolP PL] F
theorem same_q {w : World} {p m : Nat} {ss : List Ses} {PL : List (Value × List AR)} {s : SR} (h : Sep [bkP p m ss PL] w) (hs : (s.tv, s.told) ∈ PL) (hrs : RelS (look ss s.num s.foot) s) (n0 : 0 ≤ s.num) (n1 : s.num < big64) (hf : s.foot.size ≤ maxLen) :
    Calls Try.prog 10 #[.pointer (some ⟨p, 0, none⟩), .agg s.cells.toArray] w fun e w' => e = .returned (.bool true) ∧ At [bkP p m ss PL] w [bkP p m ss PL] w' := by
  obtain ⟨p1, p2, rfl⟩ := List.append_of_mem hs
  exact At.through (K := [BookP p m ss, rowA s.tv s.told]) (At.start h) ((bk_eqv p m ss _ []).trans ((eqvP p1 p2 (s.tv, s.told) []).cons _)) fun h => same_any h hrs n0 n1 hf
theorem told_q {w : World} {p m : Nat} {ss : List Ses} {PL : List (Value × List AR)} (h : Sep [bkP p m ss PL] w) {n r : Int} {f : ByteArray} (h0 : 0 ≤ n) (h1 : n < big64) (hf : f.size ≤ maxLen) (r0 : 0 ≤ r) (r1 : r < big64) {s : SR} (hrs : RelS (look ss n f) s) :
    ∃ a b c, ∀ _ : Unit, Calls Try.prog 13 #[.pointer (some ⟨p, 0, none⟩), .agg #[.int .u64 n, .string f], .int .u64 r] w fun e w' => e = .returned (.tuple #[.agg #[.int .i64 a, .int .u64 b, .bool c], .bool (saidA s.told r).isSome]) ∧ At [bkP p m ss PL] w [bkP p m ss PL] w' := by
  have key : ∃ a b c, toldV (said (look ss n f).told r) = .tuple #[.agg #[.int .i64 a, .int .u64 b, .bool c], .bool (saidA s.told r).isSome] := by
    rw [hrs.told.said]
    cases saidA s.told r with
    | none => exact ⟨0, 0, false, rfl⟩
    | some a => exact ⟨a.e, a.n, a.g, rfl⟩
  obtain ⟨a, b, c, hk⟩ := key
  refine ⟨a, b, c, fun _ => ?_⟩
  have := At.through (K := [BookP p m ss]) (At.start h) (bk_eqv p m ss PL []) fun h => told_any h h0 h1 hf r0 r1
  rw [hk] at this
  exact this
theorem saidA_q {w : World} {p m : Nat} {ss : List Ses} {PL : List (Value × List AR)} {s : SR} (h : Sep [bkP p m ss PL] w) (hs : (s.tv, s.told) ∈ PL) (r : Int) (hmax : s.told.length ≤ 1000000) :
    Calls Try.prog 12 #[.agg s.cells.toArray, .int .u64 r] w fun e w' => e = .returned (.tuple #[.agg ((saidA s.told r).getD noAR).cells.toArray, .bool (saidA s.told r).isSome]) ∧ At [bkP p m ss PL] w [bkP p m ss PL] w' := by
  obtain ⟨p1, p2, rfl⟩ := List.append_of_mem hs
  exact At.through (K := [rowA s.tv s.told]) (At.start h) ((bk_eqv p m ss _ []).trans (((eqvP p1 p2 (s.tv, s.told) []).cons _).trans (Eqv.perm (List.Perm.swap _ _ _)))) fun h => saidA_any h r hmax
theorem nil_pool {L0 L : List Part} {w0 w : World} (h : At L0 w0 L w) : At L0 w0 (poolP [((.slice none 0 0 : Value), ([] : List AR))] :: L) w :=
  (row_nilA h).to (Eqv.all [rowA (.slice none 0 0) []] L).symm
theorem nil_rowR {L0 L : List Part} {w0 w : World} (h : At L0 w0 L w) : At L0 w0 (rowR (.slice none 0 0) [] :: L) w := h.row_nil 44 7
theorem Inv.start : Inv [] [] [((.slice none 0 0 : Value), ([] : List AR))] := ⟨Rel.nil, nofun, by simp⟩

/-- the ops that come in -/
def OpsAt (W : World) (v : Value) (os : List (Int × OpR)) : Prop :=
  ∃ sa sc, v = .slice sa os.length sc ∧ ∀ j (hj : j < os.length), ∃ b off, sa = some ⟨b, off, none⟩ ∧
    (W.cell? ⟨b, off + j * 10, none⟩ = some (.int .i64 os[j].1) ∧ W.cell? ⟨b, off + j * 10 + 1, none⟩ = some (.int .i64 os[j].2.a) ∧ W.cell? ⟨b, off + j * 10 + 2, none⟩ = some (.int .i64 os[j].2.b) ∧ W.cell? ⟨b, off + j * 10 + 3, none⟩ = some (.int .i64 os[j].2.many) ∧ W.cell? ⟨b, off + j * 10 + 4, none⟩ = some (.int .u64 os[j].2.num) ∧ W.cell? ⟨b, off + j * 10 + 5, none⟩ = some (.string os[j].2.foot) ∧ W.cell? ⟨b, off + j * 10 + 6, none⟩ = some (.int .u64 os[j].2.req) ∧ W.cell? ⟨b, off + j * 10 + 7, none⟩ = some (.int .i64 os[j].2.ans.e) ∧ W.cell? ⟨b, off + j * 10 + 8, none⟩ = some (.int .u64 os[j].2.ans.n) ∧ W.cell? ⟨b, off + j * 10 + 9, none⟩ = some (.bool os[j].2.ans.g)) ∧ os[j].2.Ok
theorem old_cell {W w : World} (h : (Part.old W).holds w) {b off : Nat} {u : Value} (hc : W.cell? ⟨b, off, none⟩ = some u) : w.cell? ⟨b, off, none⟩ = some u := by
  have hb : b < W.heap.size := by
    rcases Nat.lt_or_ge b W.heap.size with q | q
    · exact q
    · simp [World.cell?, Array.getElem?_eq_none q] at hc
  have := h b hb
  rw [← hc]
  simp [World.cell?, this]
theorem below_old {w w' : World} {L F : List Part} (h : At [Part.old w] w L w') (s : Sel (Part.old w) L F) : Below w.heap.size w w' := by
  have ho : (Part.old w).holds w' := h.get s
  exact ⟨h.exc.os, h.exc.tape, h.exc.output, h.exc.size, fun b hb => ho b hb⟩
/-- how many of the first are due -/
theorem filter_snoc {α : Type} (q : α → Bool) {L : List α} {i : Nat} (hi : i < L.length) : ((L.take (i + 1)).filter q).length = ((L.take i).filter q).length + (if q L[i] then 1 else 0) := by
  rw [List.take_succ_eq_append_getElem hi, List.filter_append, List.length_append]
  cases h : q L[i] <;> simp [h]
theorem filter_at {α : Type} (q : α → Bool) : ∀ {L : List α} {i : Nat} (hi : i < L.length), q L[i] = true → (L.filter q)[((L.take i).filter q).length]? = some L[i]
  | x :: L, 0, _, h => by
    simp only [List.getElem_cons_zero] at h
    simp [h]
  | x :: L, i + 1, hi, h => by
    have ih := filter_at q (L := L) (i := i) (by simpa using hi) (by simpa using h)
    cases hx : q x <;> simp [hx, ih]
end Go.Proofs.Ytbdcgadcjgmgbaa.Lease
end

section
namespace Go.Proofs.Ytbdcgadcjgmgbaa.Lease
open Go.RowKit
set_option linter.unusedSimpArgs false
set_option linter.unusedVariables false

set_option maxRecDepth 100000 in
theorem keyS_inv {n : Int} {f : ByteArray} {l : Lit} (h : keyOf Try.prog 25 (keyV n f) = some l) : 0 ≤ n ∧ n < big64 ∧ f.size ≤ maxLen := by
  unfold keyOf at h
  rw [Try.underlying25] at h
  simp only [keyTypeS, keyV, formedS, Bool.and_self, if_true] at h
  rw [show (Value.agg #[.int .u64 n, .string f]).cells.toList = [.int .u64 n, .string f] from rfl] at h
  obtain ⟨d, hd⟩ : ∃ d, Try.prog.types.size = d + 1 := Nat.exists_eq_succ_of_ne_zero (Nat.ne_of_gt (Nat.lt_of_le_of_lt (Nat.zero_le _) rowS))
  rw [hd] at h
  by_cases hw : (Lit.int .u64 n).wf = true
  · by_cases hf : f.size ≤ maxLen
    · refine ⟨?_, ?_, hf⟩ <;> simp [Lit.wf, IntKind.min, IntKind.max, IntKind.signed, IntKind.bits] at hw <;> first | omega | (unfold big64; omega)
    · simp [Program.keyLits, Try.underlying25, Try.underlying23, Try.underlying9, cellsS, cellsU, cellsStr, hw, hf] at h
  · simp [Program.keyLits, Try.underlying25, Try.underlying23, Try.underlying9, cellsS, cellsU, cellsStr, hw] at h
theorem book_keys {w : World} {p m : Nat} {ss : List Ses} (h : Sep [BookP p m ss] w) {s : Ses} (hs : s ∈ ss) : 0 ≤ s.num ∧ s.num < big64 ∧ s.foot.size ≤ maxLen := by
  have hA := (At.start h).to (eqv0 p m ss [])
  have hM : MapAt Try.prog 25 w m (ents ss) := hA.get (A := mapC m (ents ss)) (by with_reducible repeat (first | exact Sel.here | apply Sel.there))
  obtain ⟨_, _, _, _, _, _, hk, _⟩ := hM
  obtain ⟨l, hl⟩ := hk (ent s) (List.mem_map.2 ⟨s, hs, rfl⟩)
  exact keyS_inv hl
theorem Rel.bound {w : World} {p m : Nat} {ss : List Ses} {L : List SR} (h : Rel ss L) (hB : Sep [BookP p m ss] w) {x : SR} (hx : x ∈ L) : 0 ≤ x.num ∧ x.num < big64 ∧ x.foot.size ≤ maxLen := by
  obtain ⟨s, hs, e⟩ := List.mem_map.1 (h.keys.mem_iff.2 (List.mem_map.2 ⟨x, hx, rfl⟩))
  have e1 : s.num = x.num := congrArg Prod.fst e
  have e2 : s.foot = x.foot := congrArg Prod.snd e
  rw [← e1, ← e2]
  exact book_keys hB hs
theorem Rel.mine {ss : List Ses} {L : List SR} (h : Rel ss L) {x : SR} (hx : x ∈ L) : RelS (Lease.look ss x.num x.foot) x := by
  rcases h.both x.num x.foot with ⟨_, h2, _⟩ | ⟨s, a, h1, _⟩
  · have := h2 x hx
    simp [SR.is] at this
  · obtain ⟨l1, l2, e, en, ef, _⟩ := find_split h1
    have e2 : Lease.look ss x.num x.foot = s := by unfold Lease.look; rw [h1]; rfl
    rw [e2]
    exact h.each s (by rw [e]; simp) x hx (by simp [keyE, keyR, en, ef])
/-- a session's key, in cells -/
def keyC (x : Int × ByteArray) : List Value := [.int .u64 x.1, .string x.2]
theorem keyC_len (x : Int × ByteArray) : (keyC x).length = 2 := rfl
end Go.Proofs.Ytbdcgadcjgmgbaa.Lease
end

section
namespace Go.Proofs.Ytbdcgadcjgmgbaa.Lease
open Go.RowKit
set_option linter.unusedSimpArgs false
set_option linter.unusedVariables false
attribute [-go_sem] run_eql_struct run_neq_struct run_eqGuard_agg
attribute [local go_sem] guardS neqS

theorem take_two {α : Type} {l : List α} {k : Nat} {a b : α} (h0 : l[k]? = some a) (h1 : l[k + 1]? = some b) : (l.drop k).take 2 = [a, b] := by
  obtain ⟨h0', rfl⟩ := List.getElem?_eq_some_iff.1 h0
  obtain ⟨h1', rfl⟩ := List.getElem?_eq_some_iff.1 h1
  rw [List.drop_eq_getElem_cons h0', List.drop_eq_getElem_cons h1']
  rfl
def LawRel (w : World) (p m bI bD n : Nat) (num : Int) (foot : ByteArray) (k : Nat) (u : Value) (wr : World) : Prop :=
  ∃ (i : Nat) (ss : List Ses) (v : Value) (L : List SR) (PL : List (Value × List AR)), u = .int .i64 i ∧ i + k = n ∧ At [Part.old w] w [Part.cells bD [v] 31, BookP p m ss, rowR v L, poolP PL, Part.cells bI [.int .u64 num, .string foot] 25, Part.old w] wr ∧ Inv ss L PL ∧ L.length ≤ 300 * i
def LawRel2 (w : World) (p m bI bD : Nat) (num : Int) (foot : ByteArray) (ss : List Ses) (ax0 : Option Addr) (cap0 : Nat) (L : List SR) (PL : List (Value × List AR)) (ax1 : Option Addr) (cap1 : Nat) (ax2 : Option Addr) (cap2 : Nat) (D : List SR) (time : Int) (k : Nat) (u16 u60 : Value) (wr : World) : Prop :=
  ∃ i : Nat, u60 = .int .i64 i ∧ u16 = .int .i64 ((L.take i).filter (dueR time)).length ∧ i + k = L.length ∧ At [Part.old w] w [bkP p m ss PL, Part.row 25 2 (.slice ax2 D.length cap2) D.length ((D.map keyR).flatMap keyC), Part.row 25 2 (.slice ax1 L.length cap1) L.length ((L.map keyR).flatMap keyC), Part.cells bD [.slice ax0 L.length cap0] 31, rowR (.slice ax0 L.length cap0) L, Part.cells bI [.int .u64 num, .string foot] 25, Part.old w] wr
set_option maxRecDepth 100000 in
set_option maxHeartbeats 8000000 in
theorem law_any {w : World} {v : Value} {os : List (Int × OpR)} (h : OpsAt w v os) (hlen : os.length ≤ 9223372036854775807) (time : Int) {num req : Int} {foot : ByteArray} (n0 : 0 ≤ num) (n1 : num < big64) (hf : foot.size ≤ maxLen) (r0 : 0 ≤ req) (r1 : req < big64) :
    Calls Try.prog 3 #[v, .int .i64 time, .agg #[.int .u64 num, .string foot], .int .u64 req] w fun e w' => e = .returned (.bool true) ∧ Below w.heap.size w w' := by
  obtain ⟨sa, sc, rfl, hops0⟩ := h
  have hops := Lib.hid hops0
  clear hops0
  have hA : At [Part.old w] w [Part.old w] w := At.start ⟨fun _ _ => rfl, trivial, nofun⟩
  have hF := hA.facts
  go_enter Try.func3, Try.ntmps3
  go_wp2_with (first | (refine wpList_box_at (E := 25) rfl rfl (by (try simp only [Act.eval, Array.getD_eq_getD_getElem?, List.getElem?_toArray, List.getElem?_cons_succ, List.getElem?_cons_zero, Option.getD_some]) <;> exact rfl) (by exact rfl) hA ?_; intro bI w1 hB hbI; clear hF hA; have hA := hB; clear hB; (try simp only [setL, List.set_cons_zero, List.set_cons_succ, List.cons_append, List.nil_append] at hA); (have hF := hA.facts); (try simp only [facts_cons, facts_nil, facts_cells, facts_old, facts_fact, facts_obj, facts_map, facts_iter, and_true, true_and] at hF)) | (refine wpList_store_at rfl rfl rfl (by (try simp only [Act.eval, Array.getD_eq_getD_getElem?, List.getElem?_toArray, List.getElem?_cons_succ, List.getElem?_cons_zero, Option.getD_some]) <;> exact rfl) (by exact rfl) hA (by with_reducible repeat (first | exact Sel.here | apply Sel.there)) (by kernel_rfl) rfl (by first | decide | (simp; done) | omega) ?_; intro w1 hB; clear hF hA; have hA := hB; clear hB; (try simp only [setL, List.set_cons_zero, List.set_cons_succ, List.cons_append, List.nil_append] at hA); (have hF := hA.facts); (try simp only [facts_cons, facts_nil, facts_cells, facts_old, facts_fact, facts_obj, facts_map, facts_iter, and_true, true_and] at hF)) | (refine wpList_box_at rfl rfl (by (try simp only [Act.eval, Array.getD_eq_getD_getElem?, List.getElem?_toArray, List.getElem?_cons_succ, List.getElem?_cons_zero, Option.getD_some]) <;> exact rfl) (by exact rfl) hA ?_; intro b1 w1 hB hb1; clear hF hA; have hA := hB; clear hB; (try simp only [setL, List.set_cons_zero, List.set_cons_succ, List.cons_append, List.nil_append] at hA); (have hF := hA.facts); (try simp only [facts_cons, facts_nil, facts_cells, facts_old, facts_fact, facts_obj, facts_map, facts_iter, and_true, true_and] at hF)))
  refine (anchor_any _).mono ?_
  rintro e w1 ⟨rfl, hT⟩
  have hB := hA.ext hT
  clear hF hA hT
  have hA := hB
  clear hB
  (try simp only [setL, List.set_cons_zero, List.set_cons_succ, List.cons_append, List.nil_append] at hA); (have hF := hA.facts); (try simp only [facts_cons, facts_nil, facts_cells, facts_old, facts_fact, facts_obj, facts_map, facts_iter, and_true, true_and] at hF)
  by_cases h40 : 40 < os.length
  · go_wp2_with (first | (refine wpList_store_at rfl rfl rfl (by (try simp only [Act.eval, Array.getD_eq_getD_getElem?, List.getElem?_toArray, List.getElem?_cons_succ, List.getElem?_cons_zero, Option.getD_some]) <;> exact rfl) (by exact rfl) hA (by with_reducible repeat (first | exact Sel.here | apply Sel.there)) (by kernel_rfl) rfl (by first | decide | (simp; done) | omega) ?_; intro w1 hB; clear hF hA; have hA := hB; clear hB; (try simp only [setL, List.set_cons_zero, List.set_cons_succ, List.cons_append, List.nil_append] at hA); (have hF := hA.facts); (try simp only [facts_cons, facts_nil, facts_cells, facts_old, facts_fact, facts_obj, facts_map, facts_iter, and_true, true_and] at hF)) | (refine wpList_box_at rfl rfl (by (try simp only [Act.eval, Array.getD_eq_getD_getElem?, List.getElem?_toArray, List.getElem?_cons_succ, List.getElem?_cons_zero, Option.getD_some]) <;> exact rfl) (by exact rfl) hA ?_; intro b1 w1 hB hb1; clear hF hA; have hA := hB; clear hB; (try simp only [setL, List.set_cons_zero, List.set_cons_succ, List.cons_append, List.nil_append] at hA); (have hF := hA.facts); (try simp only [facts_cons, facts_nil, facts_cells, facts_old, facts_fact, facts_obj, facts_map, facts_iter, and_true, true_and] at hF)))
    refine bodyPost_ret (results_tmp rfl _ _ _) rfl ?_
    exact ⟨rfl, below_old hA (by with_reducible repeat (first | exact Sel.here | apply Sel.there))⟩
  · have hos : os.length ≤ 40 := by omega
    clear h40 hlen
    go_wp2_with (first | (refine wpList_store_at rfl rfl rfl (by (try simp only [Act.eval, Array.getD_eq_getD_getElem?, List.getElem?_toArray, List.getElem?_cons_succ, List.getElem?_cons_zero, Option.getD_some]) <;> exact rfl) (by exact rfl) hA (by with_reducible repeat (first | exact Sel.here | apply Sel.there)) (by kernel_rfl) rfl (by first | decide | (simp; done) | omega) ?_; intro w1 hB; clear hF hA; have hA := hB; clear hB; (try simp only [setL, List.set_cons_zero, List.set_cons_succ, List.cons_append, List.nil_append] at hA); (have hF := hA.facts); (try simp only [facts_cons, facts_nil, facts_cells, facts_old, facts_fact, facts_obj, facts_map, facts_iter, and_true, true_and] at hF)) | (refine wpList_box_at rfl rfl (by (try simp only [Act.eval, Array.getD_eq_getD_getElem?, List.getElem?_toArray, List.getElem?_cons_succ, List.getElem?_cons_zero, Option.getD_some]) <;> exact rfl) (by exact rfl) hA ?_; intro b1 w1 hB hb1; clear hF hA; have hA := hB; clear hB; (try simp only [setL, List.set_cons_zero, List.set_cons_succ, List.cons_append, List.nil_append] at hA); (have hF := hA.facts); (try simp only [facts_cons, facts_nil, facts_cells, facts_old, facts_fact, facts_obj, facts_map, facts_iter, and_true, true_and] at hF)))
    refine (new_any _).mono ?_
    rintro e w2 ⟨p, m, rfl, hT⟩
    have hB := hA.call0 hT
    clear hF hA hT
    have hA := hB
    clear hB
    (try simp only [setL, List.set_cons_zero, List.set_cons_succ, List.cons_append, List.nil_append] at hA); (have hF := hA.facts); (try simp only [facts_cons, facts_nil, facts_cells, facts_old, facts_fact, facts_obj, facts_map, facts_iter, and_true, true_and] at hF)
    go_wp2_with (first | (refine wpList_alloc_at (E := 31) (z := .agg #[.slice none 0 0]) (vs := [.slice none 0 0]) rfl rfl (by kernel_rfl) rfl hA ?_; intro bD w1 hB hbD; clear hF hA; have hA := hB; clear hB; (try simp only [setL, List.set_cons_zero, List.set_cons_succ, List.cons_append, List.nil_append] at hA); (have hF := hA.facts); (try simp only [facts_cons, facts_nil, facts_cells, facts_old, facts_fact, facts_obj, facts_map, facts_iter, and_true, true_and] at hF)) | (refine wpList_store_at rfl rfl rfl (by (try simp only [Act.eval, Array.getD_eq_getD_getElem?, List.getElem?_toArray, List.getElem?_cons_succ, List.getElem?_cons_zero, Option.getD_some]) <;> exact rfl) (by exact rfl) hA (by with_reducible repeat (first | exact Sel.here | apply Sel.there)) (by kernel_rfl) rfl (by first | decide | (simp; done) | omega) ?_; intro w1 hB; clear hF hA; have hA := hB; clear hB; (try simp only [setL, List.set_cons_zero, List.set_cons_succ, List.cons_append, List.nil_append] at hA); (have hF := hA.facts); (try simp only [facts_cons, facts_nil, facts_cells, facts_old, facts_fact, facts_obj, facts_map, facts_iter, and_true, true_and] at hF)) | (refine wpList_box_at rfl rfl (by (try simp only [Act.eval, Array.getD_eq_getD_getElem?, List.getElem?_toArray, List.getElem?_cons_succ, List.getElem?_cons_zero, Option.getD_some]) <;> exact rfl) (by exact rfl) hA ?_; intro b1 w1 hB hb1; clear hF hA; have hA := hB; clear hB; (try simp only [setL, List.set_cons_zero, List.set_cons_succ, List.cons_append, List.nil_append] at hA); (have hF := hA.facts); (try simp only [facts_cons, facts_nil, facts_cells, facts_old, facts_fact, facts_obj, facts_map, facts_iter, and_true, true_and] at hF)))
    have hB := nil_pool (nil_rowR hA)
    clear hF hA
    have hA := hB
    clear hB
    have hF := hA.facts
    (try simp only [setL, List.set_cons_zero, List.set_cons_succ, List.cons_append, List.nil_append] at hA); (have hF := hA.facts); (try simp only [facts_cons, facts_nil, facts_cells, facts_old, facts_fact, facts_obj, facts_map, facts_iter, and_true, true_and] at hF)
    try go_frame
    go_loopg [32] os.length (LawRel w p m bI bD os.length num foot)
    case atStart => exact ⟨0, [], _, [], _, rfl, by simp, hA.pick (by repeat (first | exact Picks.nil | refine Picks.cons (by repeat (first | exact Sel.here | apply Sel.there)) ?_)), Inv.start, by simp⟩
    case round =>
      obtain ⟨i, ss, v, L, PL, rfl, hik, hB, hI, hL⟩ := hrel
      have hI' := Lib.hid hI
      clear hF hA hI
      have hA := hB
      clear hB
      obtain ⟨vx, vn, vc, hv, hvn⟩ := hA.row_hid (v := v) (n := L.length) (xs := flatR L) (by with_reducible repeat (first | exact Sel.here | apply Sel.there))
      subst hv
      by_cases hi : i < os.length
      · obtain ⟨b, off, rfl, ⟨c0, c1, c2, c3, c4, c5, c6, c7, c8, c9⟩, hok⟩ := hops.out i hi
        obtain ⟨⟨kd, o⟩, ho⟩ : ∃ o, os[i] = o := ⟨_, rfl⟩
        simp only [ho] at c0 c1 c2 c3 c4 c5 c6 c7 c8 c9 hok
        have c0 := old_cell (hA.get (A := Part.old w) (by with_reducible repeat (first | exact Sel.here | apply Sel.there))) c0
        have c1 := old_cell (hA.get (A := Part.old w) (by with_reducible repeat (first | exact Sel.here | apply Sel.there))) c1
        have c2 := old_cell (hA.get (A := Part.old w) (by with_reducible repeat (first | exact Sel.here | apply Sel.there))) c2
        have c3 := old_cell (hA.get (A := Part.old w) (by with_reducible repeat (first | exact Sel.here | apply Sel.there))) c3
        have c4 := old_cell (hA.get (A := Part.old w) (by with_reducible repeat (first | exact Sel.here | apply Sel.there))) c4
        have c5 := old_cell (hA.get (A := Part.old w) (by with_reducible repeat (first | exact Sel.here | apply Sel.there))) c5
        have c6 := old_cell (hA.get (A := Part.old w) (by with_reducible repeat (first | exact Sel.here | apply Sel.there))) c6
        have c7 := old_cell (hA.get (A := Part.old w) (by with_reducible repeat (first | exact Sel.here | apply Sel.there))) c7
        have c8 := old_cell (hA.get (A := Part.old w) (by with_reducible repeat (first | exact Sel.here | apply Sel.there))) c8
        have c9 := old_cell (hA.get (A := Part.old w) (by with_reducible repeat (first | exact Sel.here | apply Sel.there))) c9
        have hok' := Lib.hid hok
        clear ho hok
        have hF := hA.facts
        (try simp only [setL, List.set_cons_zero, List.set_cons_succ, List.cons_append, List.nil_append] at hA); (have hF := hA.facts); (try simp only [facts_cons, facts_nil, facts_cells, facts_old, facts_fact, facts_obj, facts_map, facts_iter, and_true, true_and] at hF)
        go_wp2_with (first | (refine wpList_store_at rfl rfl rfl (by (try simp only [Act.eval, Array.getD_eq_getD_getElem?, List.getElem?_toArray, List.getElem?_cons_succ, List.getElem?_cons_zero, Option.getD_some]) <;> exact rfl) (by exact rfl) hA (by with_reducible repeat (first | exact Sel.here | apply Sel.there)) (by kernel_rfl) rfl (by first | decide | (simp; done) | omega) ?_; intro w1 hB; clear hF hA; have hA := hB; clear hB; (try simp only [setL, List.set_cons_zero, List.set_cons_succ, List.cons_append, List.nil_append] at hA); (have hF := hA.facts); (try simp only [facts_cons, facts_nil, facts_cells, facts_old, facts_fact, facts_obj, facts_map, facts_iter, and_true, true_and] at hF)) | (refine wpList_box_at rfl rfl (by (try simp only [Act.eval, Array.getD_eq_getD_getElem?, List.getElem?_toArray, List.getElem?_cons_succ, List.getElem?_cons_zero, Option.getD_some]) <;> exact rfl) (by exact rfl) hA ?_; intro b1 w1 hB hb1; clear hF hA; have hA := hB; clear hB; (try simp only [setL, List.set_cons_zero, List.set_cons_succ, List.cons_append, List.nil_append] at hA); (have hF := hA.facts); (try simp only [facts_cons, facts_nil, facts_cells, facts_old, facts_fact, facts_obj, facts_map, facts_iter, and_true, true_and] at hF)) | (refine wpList_alloc_at (E := 36) (z := .agg #[.int .i64 0, .int .i64 0, .int .i64 0, .int .i64 0, .int .u64 0, .string .empty, .int .u64 0, .int .i64 0, .int .u64 0, .bool false]) (vs := [.int .i64 0, .int .i64 0, .int .i64 0, .int .i64 0, .int .u64 0, .string .empty, .int .u64 0, .int .i64 0, .int .u64 0, .bool false]) rfl rfl (by kernel_rfl) rfl hA ?_; intro b1 w1 hB hb1; clear hF hA; have hA := hB; clear hB; (try simp only [setL, List.set_cons_zero, List.set_cons_succ, List.cons_append, List.nil_append] at hA); (have hF := hA.facts); (try simp only [facts_cons, facts_nil, facts_cells, facts_old, facts_fact, facts_obj, facts_map, facts_iter, and_true, true_and] at hF)))
        refine (step_any (ss := ss) (L := L) (PL := PL) (hA.seps (K := [BookP p m ss, rowR (.slice vx vn vc) L, poolP PL]) (by with_reducible repeat (first | exact Picks.nil | refine Picks.cons (by with_reducible repeat (first | exact Sel.here | apply Sel.there)) ?_))) hI'.out o hok'.out (by omega) kd).mono ?_
        rintro e w3 ⟨ss', v', L', PL', rfl, hT, hI2, hL2⟩
        have hI2' := Lib.hid hI2
        have hB := hA.call3 (A := BookP p m ss) (B := rowR (.slice vx vn vc) L) (C := poolP PL) (by with_reducible repeat (first | exact Sel.here | apply Sel.there)) (by with_reducible repeat (first | exact Sel.here | apply Sel.there)) (by with_reducible repeat (first | exact Sel.here | apply Sel.there)) hT
        clear hF hA hT hI2 c0 c1 c2 c3 c4 c5 c6 c7 c8 c9
        have hA := hB
        clear hB
        simp only [List.cons_append, List.nil_append] at hA
        obtain ⟨vx2, vn2, vc2, hv2, hvn2⟩ := hA.row_hid (v := v') (n := L'.length) (xs := flatR L') (by with_reducible repeat (first | exact Sel.here | apply Sel.there))
        subst hv2
        have hF := hA.facts
        (try simp only [setL, List.set_cons_zero, List.set_cons_succ, List.cons_append, List.nil_append] at hA); (have hF := hA.facts); (try simp only [facts_cons, facts_nil, facts_cells, facts_old, facts_fact, facts_obj, facts_map, facts_iter, and_true, true_and] at hF)
        go_wp2_with (first | (refine wpList_store_at rfl rfl rfl (by (try simp only [Act.eval, Array.getD_eq_getD_getElem?, List.getElem?_toArray, List.getElem?_cons_succ, List.getElem?_cons_zero, Option.getD_some]) <;> exact rfl) (by exact rfl) hA (by with_reducible repeat (first | exact Sel.here | apply Sel.there)) (by kernel_rfl) rfl (by first | decide | (simp; done) | omega) ?_; intro w1 hB; clear hF hA; have hA := hB; clear hB; (try simp only [setL, List.set_cons_zero, List.set_cons_succ, List.cons_append, List.nil_append] at hA); (have hF := hA.facts); (try simp only [facts_cons, facts_nil, facts_cells, facts_old, facts_fact, facts_obj, facts_map, facts_iter, and_true, true_and] at hF)) | (refine wpList_box_at rfl rfl (by (try simp only [Act.eval, Array.getD_eq_getD_getElem?, List.getElem?_toArray, List.getElem?_cons_succ, List.getElem?_cons_zero, Option.getD_some]) <;> exact rfl) (by exact rfl) hA ?_; intro b1 w1 hB hb1; clear hF hA; have hA := hB; clear hB; (try simp only [setL, List.set_cons_zero, List.set_cons_succ, List.cons_append, List.nil_append] at hA); (have hF := hA.facts); (try simp only [facts_cons, facts_nil, facts_cells, facts_old, facts_fact, facts_obj, facts_map, facts_iter, and_true, true_and] at hF)))
        go_roundg (gk - 1)
        case measure => omega
        case rel => exact ⟨i + 1, ss', _, L', PL', by simp, by omega, hA.pick (by with_reducible repeat (first | exact Picks.nil | refine Picks.cons (by with_reducible repeat (first | exact Sel.here | apply Sel.there)) ?_)), hI2'.out, by omega⟩
      · go_wp2_with (first | (refine wpList_store_at rfl rfl rfl (by (try simp only [Act.eval, Array.getD_eq_getD_getElem?, List.getElem?_toArray, List.getElem?_cons_succ, List.getElem?_cons_zero, Option.getD_some]) <;> exact rfl) (by exact rfl) hA (by with_reducible repeat (first | exact Sel.here | apply Sel.there)) (by kernel_rfl) rfl (by first | decide | (simp; done) | omega) ?_; intro w1 hB; clear hF hA; have hA := hB; clear hB; (try simp only [setL, List.set_cons_zero, List.set_cons_succ, List.cons_append, List.nil_append] at hA); (have hF := hA.facts); (try simp only [facts_cons, facts_nil, facts_cells, facts_old, facts_fact, facts_obj, facts_map, facts_iter, and_true, true_and] at hF)) | (refine wpList_box_at rfl rfl (by (try simp only [Act.eval, Array.getD_eq_getD_getElem?, List.getElem?_toArray, List.getElem?_cons_succ, List.getElem?_cons_zero, Option.getD_some]) <;> exact rfl) (by exact rfl) hA ?_; intro b1 w1 hB hb1; clear hF hA; have hA := hB; clear hB; (try simp only [setL, List.set_cons_zero, List.set_cons_succ, List.cons_append, List.nil_append] at hA); (have hF := hA.facts); (try simp only [facts_cons, facts_nil, facts_cells, facts_old, facts_fact, facts_obj, facts_map, facts_iter, and_true, true_and] at hF)))
        have hsort := hI'.out.rel.sessions
        have hduer := hI'.out.rel.due time
        have hss : ss.length ≤ 100000 := by rw [hI'.out.rel.len]; omega
        have hl0 : L.length ≤ 12000 := by omega
        have hbd : ∀ x ∈ L, 0 ≤ x.num ∧ x.num < big64 ∧ x.foot.size ≤ maxLen := fun x hx => hI'.out.rel.bound (p := p) (m := m) (ss := ss) (hA.sep1 (by with_reducible repeat (first | exact Sel.here | apply Sel.there))) hx
        have hbd' := Lib.hid hbd
        clear hbd
        refine (sessions_all (hA.sep1 (by with_reducible repeat (first | exact Sel.here | apply Sel.there))) (by omega)).mono ?_
        rintro e w3 ⟨v1, rfl, hT⟩
        rw [hsort] at hT
        have hB := hA.call1 (by with_reducible repeat (first | exact Sel.here | apply Sel.there)) hT
        clear hF hA hT hsort
        have hA := hB
        clear hB
        simp only [rowSe, List.cons_append, List.nil_append, List.length_map] at hA
        change At _ _ (Part.row 25 2 v1 L.length ((L.map keyR).flatMap keyC) :: _) _ at hA
        obtain ⟨ax1, cap1, rfl, hax1, hcap1, _⟩ := hA.row_form (v := v1) (n := L.length) (xs := (L.map keyR).flatMap keyC) (by with_reducible repeat (first | exact Sel.here | apply Sel.there))
        have hF := hA.facts
        (try simp only [setL, List.set_cons_zero, List.set_cons_succ, List.cons_append, List.nil_append] at hA); (have hF := hA.facts); (try simp only [facts_cons, facts_nil, facts_cells, facts_old, facts_fact, facts_obj, facts_map, facts_iter, and_true, true_and] at hF)
        go_wp2_with (first | (refine wpList_store_at rfl rfl rfl (by (try simp only [Act.eval, Array.getD_eq_getD_getElem?, List.getElem?_toArray, List.getElem?_cons_succ, List.getElem?_cons_zero, Option.getD_some]) <;> exact rfl) (by exact rfl) hA (by with_reducible repeat (first | exact Sel.here | apply Sel.there)) (by kernel_rfl) rfl (by first | decide | (simp; done) | omega) ?_; intro w1 hB; clear hF hA; have hA := hB; clear hB; (try simp only [setL, List.set_cons_zero, List.set_cons_succ, List.cons_append, List.nil_append] at hA); (have hF := hA.facts); (try simp only [facts_cons, facts_nil, facts_cells, facts_old, facts_fact, facts_obj, facts_map, facts_iter, and_true, true_and] at hF)) | (refine wpList_box_at rfl rfl (by (try simp only [Act.eval, Array.getD_eq_getD_getElem?, List.getElem?_toArray, List.getElem?_cons_succ, List.getElem?_cons_zero, Option.getD_some]) <;> exact rfl) (by exact rfl) hA ?_; intro b1 w1 hB hb1; clear hF hA; have hA := hB; clear hB; (try simp only [setL, List.set_cons_zero, List.set_cons_succ, List.cons_append, List.nil_append] at hA); (have hF := hA.facts); (try simp only [facts_cons, facts_nil, facts_cells, facts_old, facts_fact, facts_obj, facts_map, facts_iter, and_true, true_and] at hF)))
        obtain ⟨D, hD⟩ : ∃ D, L.filter (dueR time) = D := ⟨_, rfl⟩
        rw [hD] at hduer
        have hDl : D.length ≤ L.length := by rw [← hD]; exact List.length_filter_le _ _
        have hD' := Lib.hid hD
        clear hD
        refine (due_all (hA.sep1 (by with_reducible repeat (first | exact Sel.here | apply Sel.there))) time (by omega)).mono ?_
        rintro e w3 ⟨v2, rfl, hT⟩
        rw [hduer] at hT
        have hB := hA.call1 (by with_reducible repeat (first | exact Sel.here | apply Sel.there)) hT
        clear hF hA hT hduer
        have hA := hB
        clear hB
        simp only [rowSe, List.cons_append, List.nil_append, List.length_map] at hA
        change At _ _ (Part.row 25 2 v2 D.length ((D.map keyR).flatMap keyC) :: _) _ at hA
        obtain ⟨ax2, cap2, rfl, hax2, hcap2, _⟩ := hA.row_form (v := v2) (n := D.length) (xs := (D.map keyR).flatMap keyC) (by with_reducible repeat (first | exact Sel.here | apply Sel.there))
        obtain ⟨ax0, cap0, he0, hax0, hcap0, _⟩ := hA.row_form (v := .slice vx vn vc) (n := L.length) (xs := flatR L) (by with_reducible repeat (first | exact Sel.here | apply Sel.there))
        cases he0
        have hB := (hA.pick (K := [BookP p m ss, poolP PL, Part.row 25 2 (.slice ax2 D.length cap2) D.length ((D.map keyR).flatMap keyC), Part.row 25 2 (.slice ax1 L.length cap1) L.length ((L.map keyR).flatMap keyC), Part.cells bD [.slice vx L.length vc] 31, rowR (.slice vx L.length vc) L, Part.cells bI [.int .u64 num, .string foot] 25, Part.old w]) (by with_reducible repeat (first | exact Picks.nil | refine Picks.cons (by with_reducible repeat (first | exact Sel.here | apply Sel.there)) ?_))).to (bk_eqv p m ss PL _).symm
        clear hA
        have hA := hB
        clear hB
        have hF := hA.facts
        (try simp only [setL, List.set_cons_zero, List.set_cons_succ, List.cons_append, List.nil_append] at hA); (have hF := hA.facts); (try simp only [facts_cons, facts_nil, facts_cells, facts_old, facts_fact, facts_obj, facts_map, facts_iter, and_true, true_and] at hF)
        go_wp2_with (first | (refine wpList_store_at rfl rfl rfl (by (try simp only [Act.eval, Array.getD_eq_getD_getElem?, List.getElem?_toArray, List.getElem?_cons_succ, List.getElem?_cons_zero, Option.getD_some]) <;> exact rfl) (by exact rfl) hA (by with_reducible repeat (first | exact Sel.here | apply Sel.there)) (by kernel_rfl) rfl (by first | decide | (simp; done) | omega) ?_; intro w1 hB; clear hF hA; have hA := hB; clear hB; (try simp only [setL, List.set_cons_zero, List.set_cons_succ, List.cons_append, List.nil_append] at hA); (have hF := hA.facts); (try simp only [facts_cons, facts_nil, facts_cells, facts_old, facts_fact, facts_obj, facts_map, facts_iter, and_true, true_and] at hF)) | (refine wpList_box_at rfl rfl (by (try simp only [Act.eval, Array.getD_eq_getD_getElem?, List.getElem?_toArray, List.getElem?_cons_succ, List.getElem?_cons_zero, Option.getD_some]) <;> exact rfl) (by exact rfl) hA ?_; intro b1 w1 hB hb1; clear hF hA; have hA := hB; clear hB; (try simp only [setL, List.set_cons_zero, List.set_cons_succ, List.cons_append, List.nil_append] at hA); (have hF := hA.facts); (try simp only [facts_cons, facts_nil, facts_cells, facts_old, facts_fact, facts_obj, facts_map, facts_iter, and_true, true_and] at hF)))
        try go_frame
        go_loopg [16, 60] L.length (LawRel2 w p m bI bD num foot ss vx vc L PL ax1 cap1 ax2 cap2 D time)
        case atStart => exact ⟨0, rfl, by simp, by simp, hA⟩
        case round =>
          obtain ⟨i, rfl, rfl, hik, hB⟩ := hrel
          clear hF hA
          have hA := hB
          clear hB
          by_cases hi : i < L.length
          · obtain ⟨g, c, rfl, _, hcm, hcl, hct, hB⟩ := hA.row_open (ax := vx) (cap := vc) (n := L.length) (xs := flatR L) (by with_reducible repeat (first | exact Sel.here | apply Sel.there)) (by omega)
            clear hA
            obtain ⟨g1, d, rfl, _, hdm, hdl, hdt, hA⟩ := hB.row_open (ax := ax1) (cap := cap1) (n := L.length) (xs := (L.map keyR).flatMap keyC) (by with_reducible repeat (first | exact Sel.here | apply Sel.there)) (by omega)
            clear hB
            have hx : L[i]? = some L[i] := List.getElem?_eq_getElem hi
            have c0 : c[i * 7]? = some (.int .u64 L[i].num) := cells_at SR.cells_len hct hx 0 (by omega)
            have c1 : c[i * 7 + 1]? = some (.string L[i].foot) := cells_at SR.cells_len hct hx 1 (by omega)
            have c2 : c[i * 7 + 2]? = some (.bool L[i].op) := cells_at SR.cells_len hct hx 2 (by omega)
            have c3 : c[i * 7 + 3]? = some (.bool L[i].dead) := cells_at SR.cells_len hct hx 3 (by omega)
            have c4 : c[i * 7 + 4]? = some (.int .i64 L[i].dl) := cells_at SR.cells_len hct hx 4 (by omega)
            have c5 : c[i * 7 + 5]? = some (.int .i64 L[i].ttl) := cells_at SR.cells_len hct hx 5 (by omega)
            have c6 : c[i * 7 + 6]? = some L[i].tv := cells_at SR.cells_len hct hx 6 (by omega)
            have hdt' : d.take ((L.map keyR).length * 2) = (L.map keyR).flatMap keyC := by rw [List.length_map]; exact hdt
            have hx2 : (L.map keyR)[i]? = some (keyR L[i]) := by rw [List.getElem?_map, hx]; rfl
            have d0 : d[i * 2]? = some (.int .u64 L[i].num) := cells_at keyC_len hdt' hx2 0 (by omega)
            have d1 : d[i * 2 + 1]? = some (.string L[i].foot) := cells_at keyC_len hdt' hx2 1 (by omega)
            have hmem := List.getElem_mem hi
            have hmine := hI'.out.rel.mine hmem
            have hpool := hI'.out.pool _ hmem
            have hb3 := hbd'.out _ hmem
            have hsn := filter_snoc (dueR time) hi
            have hat := filter_at (dueR time) hi
            rw [hD'.out] at hat
            clear hdt' hx2 hx hmem
            generalize L[i] = x at *
            obtain ⟨xn, xf, xo, xd, xl, xt, tx, tc, td⟩ := x
            simp only [SR.tv] at c0 c1 c2 c3 c4 c5 c6 d0 d1
            simp only [dueR] at hat
            obtain ⟨b0, b1, b2⟩ := hb3
            have d2 := take_two d0 d1
            have hmine' := Lib.hid hmine
            have hpool' := Lib.hid hpool
            have hsn' := Lib.hid hsn
            have hat' := Lib.hid hat
            clear hmine hpool hsn hat
            generalize hqq : ((L.take i).filter (dueR time)).length = q at *
            have hqq' := Lib.hid hqq
            clear hqq
            have hF := hA.facts
            (try simp only [setL, List.set_cons_zero, List.set_cons_succ, List.cons_append, List.nil_append] at hA); (have hF := hA.facts); (try simp only [facts_cons, facts_nil, facts_cells, facts_old, facts_fact, facts_obj, facts_map, facts_iter, and_true, true_and] at hF)
            go_wp2_with (first | (refine wpList_alloc_at (E := 44) (z := .agg #[.int .u64 0, .string .empty, .bool false, .bool false, .int .i64 0, .int .i64 0, .slice none 0 0]) (vs := [.int .u64 0, .string .empty, .bool false, .bool false, .int .i64 0, .int .i64 0, .slice none 0 0]) rfl rfl (by kernel_rfl) rfl hA ?_; intro bX w1 hB hbX; clear hF hA; have hA := hB; clear hB; (try simp only [setL, List.set_cons_zero, List.set_cons_succ, List.cons_append, List.nil_append] at hA); (have hF := hA.facts); (try simp only [facts_cons, facts_nil, facts_cells, facts_old, facts_fact, facts_obj, facts_map, facts_iter, and_true, true_and] at hF)) | (refine wpList_store_at rfl rfl rfl (by (try simp only [Act.eval, Array.getD_eq_getD_getElem?, List.getElem?_toArray, List.getElem?_cons_succ, List.getElem?_cons_zero, Option.getD_some]) <;> exact rfl) (by exact rfl) hA (by with_reducible repeat (first | exact Sel.here | apply Sel.there)) (by kernel_rfl) rfl (by first | decide | (simp; done) | omega) ?_; intro w1 hB; clear hF hA; have hA := hB; clear hB; (try simp only [setL, List.set_cons_zero, List.set_cons_succ, List.cons_append, List.nil_append] at hA); (have hF := hA.facts); (try simp only [facts_cons, facts_nil, facts_cells, facts_old, facts_fact, facts_obj, facts_map, facts_iter, and_true, true_and] at hF)) | (refine wpList_box_at rfl rfl (by (try simp only [Act.eval, Array.getD_eq_getD_getElem?, List.getElem?_toArray, List.getElem?_cons_succ, List.getElem?_cons_zero, Option.getD_some]) <;> exact rfl) (by exact rfl) hA ?_; intro b1 w1 hB hb1; clear hF hA; have hA := hB; clear hB; (try simp only [setL, List.set_cons_zero, List.set_cons_succ, List.cons_append, List.nil_append] at hA); (have hF := hA.facts); (try simp only [facts_cons, facts_nil, facts_cells, facts_old, facts_fact, facts_obj, facts_map, facts_iter, and_true, true_and] at hF)))
            try go_frame
            (refine wp_region_all (Cl _ _ _) (by kernel_rfl) (by kernel_rfl) (Cl.drew hA) ?_); (have hn1 := Cl.none hA); (have hn2 := Cl.none2 hA); (repeat (first | go_big_quiet_skip | (go_big_quiet_want; (first | (refine quiet_loads_at (ty := 25) (n := 2) rfl rfl (by with_reducible repeat (first | exact Sel.here | apply Sel.there)) (by kernel_rfl) (by kernel_rfl) (by first | assumption | ((try simp only [List.drop_succ_cons, List.drop_zero, List.take_succ_cons, List.take_zero]) <;> exact rfl)) (by exact rfl) ?_; go_frame; go_big_quiet_on) | (refine quiet_loads_at (ty := 44) (n := 7) rfl rfl (by with_reducible repeat (first | exact Sel.here | apply Sel.there)) (by kernel_rfl) (by kernel_rfl) (by first | assumption | ((try simp only [List.drop_succ_cons, List.drop_zero, List.take_succ_cons, List.take_zero]) <;> exact rfl)) (by exact rfl) ?_; go_frame; go_big_quiet_on) | (refine quiet_load_at rfl rfl (by with_reducible repeat (first | exact Sel.here | apply Sel.there)) (by kernel_rfl) (by first | assumption | exact rfl) ?_; go_frame; go_big_quiet_on) | (go_big_quiet_op; (first | go_big_quiet_on | ((apply Exists.intro); (refine ⟨fun w1 hw => ?_, ?_⟩); (focus ((have hw := Cl.out hw); (exact through1 hw (A := bkP p m ss PL) (by with_reducible repeat (first | exact Sel.here | apply Sel.there)) (fun q => same_q (s := ⟨xn, xf, xo, xd, xl, xt, tx, tc, td⟩) q hpool'.out hmine'.out b0 b1 b2)))); (go_big_quiet_on))))))))
            (refine wpQuiet_nil ?_); (intro w1 hB); (clear hF hA hn1 hn2); (have hA := Cl.out hB); (clear hB); (try simp only [setL, List.set_cons_zero, List.set_cons_succ, List.cons_append, List.nil_append] at hA); (have hF := hA.facts); (try simp only [facts_cons, facts_nil, facts_cells, facts_old, facts_fact, facts_obj, facts_map, facts_iter, and_true, true_and] at hF)
            cases xo
            · go_wp2_with (first | (refine wpList_store_at rfl rfl rfl (by (try simp only [Act.eval, Array.getD_eq_getD_getElem?, List.getElem?_toArray, List.getElem?_cons_succ, List.getElem?_cons_zero, Option.getD_some]) <;> exact rfl) (by exact rfl) hA (by with_reducible repeat (first | exact Sel.here | apply Sel.there)) (by kernel_rfl) rfl (by first | decide | (simp; done) | omega) ?_; intro w1 hB; clear hF hA; have hA := hB; clear hB; (try simp only [setL, List.set_cons_zero, List.set_cons_succ, List.cons_append, List.nil_append] at hA); (have hF := hA.facts); (try simp only [facts_cons, facts_nil, facts_cells, facts_old, facts_fact, facts_obj, facts_map, facts_iter, and_true, true_and] at hF)) | (refine wpList_box_at rfl rfl (by (try simp only [Act.eval, Array.getD_eq_getD_getElem?, List.getElem?_toArray, List.getElem?_cons_succ, List.getElem?_cons_zero, Option.getD_some]) <;> exact rfl) (by exact rfl) hA ?_; intro b1 w1 hB hb1; clear hF hA; have hA := hB; clear hB; (try simp only [setL, List.set_cons_zero, List.set_cons_succ, List.cons_append, List.nil_append] at hA); (have hF := hA.facts); (try simp only [facts_cons, facts_nil, facts_cells, facts_old, facts_fact, facts_obj, facts_map, facts_iter, and_true, true_and] at hF)))
              go_roundg (gk - 1)
              case measure => omega
              case rel =>
                have s1 := hA.row_shut (e := 44) (size := 7) (n := L.length) (cap := vc) (xs := flatR L) (by with_reducible repeat (first | exact Sel.here | apply Sel.there)) hcl hcap0 hcm hct
                have s2 := s1.row_shut (e := 25) (size := 2) (n := L.length) (cap := cap1) (xs := (L.map keyR).flatMap keyC) (by with_reducible repeat (first | exact Sel.here | apply Sel.there)) hdl hcap1 hdm hdt
                exact ⟨i + 1, by simp, by rw [hsn'.out]; simp [dueR], by omega, s2.pick (by repeat (first | exact Picks.nil | refine Picks.cons (by repeat (first | exact Sel.here | apply Sel.there)) ?_))⟩
            · by_cases hle : xl ≤ time
              · have hat2 := hat'.out (by simp [hle])
                have hql := (List.getElem?_eq_some_iff.1 hat2).1
                have hle' : decide (xl ≤ time) = true := by simpa using hle
                obtain ⟨g2, e, rfl, _, hem, hel, het, hB⟩ := hA.row_open (ax := ax2) (cap := cap2) (n := D.length) (xs := (D.map keyR).flatMap keyC) (by with_reducible repeat (first | exact Sel.here | apply Sel.there)) (by omega)
                clear hF hA
                have hA := hB
                clear hB
                have het' : e.take ((D.map keyR).length * 2) = (D.map keyR).flatMap keyC := by rw [List.length_map]; exact het
                have hx3 : (D.map keyR)[q]? = some (xn, xf) := by rw [List.getElem?_map, hat2]; rfl
                have e0 : e[q * 2]? = some (.int .u64 xn) := cells_at keyC_len het' hx3 0 (by omega)
                have e1 : e[q * 2 + 1]? = some (.string xf) := cells_at keyC_len het' hx3 1 (by omega)
                have e2 := take_two e0 e1
                have hge : decide ((q : Int) ≥ (D.length : Int)) = false := by simp; omega
                have hge4 : decide (D.length ≤ q) = false := by simp; omega
                have hge3 : decide ((q : Int) < (D.length : Int)) = true := by simp; omega
                have hqlt : (q : Int) < (D.length : Int) := by omega
                have hge2 : decide ((D.length : Int) ≤ (q : Int)) = false := by simp; omega
                clear het' hx3 hat2
                have hF := hA.facts
                (try simp only [setL, List.set_cons_zero, List.set_cons_succ, List.cons_append, List.nil_append] at hA); (have hF := hA.facts); (try simp only [facts_cons, facts_nil, facts_cells, facts_old, facts_fact, facts_obj, facts_map, facts_iter, and_true, true_and] at hF)
                go_wp2_with (first | (refine wpList_store_at rfl rfl rfl (by (try simp only [Act.eval, Array.getD_eq_getD_getElem?, List.getElem?_toArray, List.getElem?_cons_succ, List.getElem?_cons_zero, Option.getD_some]) <;> exact rfl) (by exact rfl) hA (by with_reducible repeat (first | exact Sel.here | apply Sel.there)) (by kernel_rfl) rfl (by first | decide | (simp; done) | omega) ?_; intro w1 hB; clear hF hA; have hA := hB; clear hB; (try simp only [setL, List.set_cons_zero, List.set_cons_succ, List.cons_append, List.nil_append] at hA); (have hF := hA.facts); (try simp only [facts_cons, facts_nil, facts_cells, facts_old, facts_fact, facts_obj, facts_map, facts_iter, and_true, true_and] at hF)) | (refine wpList_box_at rfl rfl (by (try simp only [Act.eval, Array.getD_eq_getD_getElem?, List.getElem?_toArray, List.getElem?_cons_succ, List.getElem?_cons_zero, Option.getD_some]) <;> exact rfl) (by exact rfl) hA ?_; intro b1 w1 hB hb1; clear hF hA; have hA := hB; clear hB; (try simp only [setL, List.set_cons_zero, List.set_cons_succ, List.cons_append, List.nil_append] at hA); (have hF := hA.facts); (try simp only [facts_cons, facts_nil, facts_cells, facts_old, facts_fact, facts_obj, facts_map, facts_iter, and_true, true_and] at hF)))
                try go_frame
                (refine wp_region_all (Cl _ _ _) (by kernel_rfl) (by kernel_rfl) (Cl.drew hA) ?_); (have hn1 := Cl.none hA); (have hn2 := Cl.none2 hA); (repeat (first | go_big_quiet_skip | (go_big_quiet_want; (first | (refine quiet_loads_at (ty := 25) (n := 2) rfl rfl (by with_reducible repeat (first | exact Sel.here | apply Sel.there)) (by kernel_rfl) (by kernel_rfl) (by first | assumption | ((try simp only [List.drop_succ_cons, List.drop_zero, List.take_succ_cons, List.take_zero]) <;> exact rfl)) (by exact rfl) ?_; go_frame; go_big_quiet_on) | (refine quiet_load_at rfl rfl (by with_reducible repeat (first | exact Sel.here | apply Sel.there)) (by kernel_rfl) (by first | assumption | exact rfl) ?_; go_frame; go_big_quiet_on) | (go_big_quiet_op; (first | go_big_quiet_on))))))
                (refine wpQuiet_nil ?_); (intro w1 hB); (clear hF hA hn1 hn2); (have hA := Cl.out hB); (clear hB); (try simp only [setL, List.set_cons_zero, List.set_cons_succ, List.cons_append, List.nil_append] at hA); (have hF := hA.facts); (try simp only [facts_cons, facts_nil, facts_cells, facts_old, facts_fact, facts_obj, facts_map, facts_iter, and_true, true_and] at hF)
                go_wp2_with (first | (refine wpList_store_at rfl rfl rfl (by (try simp only [Act.eval, Array.getD_eq_getD_getElem?, List.getElem?_toArray, List.getElem?_cons_succ, List.getElem?_cons_zero, Option.getD_some]) <;> exact rfl) (by exact rfl) hA (by with_reducible repeat (first | exact Sel.here | apply Sel.there)) (by kernel_rfl) rfl (by first | decide | (simp; done) | omega) ?_; intro w1 hB; clear hF hA; have hA := hB; clear hB; (try simp only [setL, List.set_cons_zero, List.set_cons_succ, List.cons_append, List.nil_append] at hA); (have hF := hA.facts); (try simp only [facts_cons, facts_nil, facts_cells, facts_old, facts_fact, facts_obj, facts_map, facts_iter, and_true, true_and] at hF)) | (refine wpList_box_at rfl rfl (by (try simp only [Act.eval, Array.getD_eq_getD_getElem?, List.getElem?_toArray, List.getElem?_cons_succ, List.getElem?_cons_zero, Option.getD_some]) <;> exact rfl) (by exact rfl) hA ?_; intro b1 w1 hB hb1; clear hF hA; have hA := hB; clear hB; (try simp only [setL, List.set_cons_zero, List.set_cons_succ, List.cons_append, List.nil_append] at hA); (have hF := hA.facts); (try simp only [facts_cons, facts_nil, facts_cells, facts_old, facts_fact, facts_obj, facts_map, facts_iter, and_true, true_and] at hF)))
                go_roundg (gk - 1)
                case measure => omega
                case rel =>
                  have s1 := hA.row_shut (e := 44) (size := 7) (n := L.length) (cap := vc) (xs := flatR L) (by with_reducible repeat (first | exact Sel.here | apply Sel.there)) hcl hcap0 hcm hct
                  have s2 := s1.row_shut (e := 25) (size := 2) (n := L.length) (cap := cap1) (xs := (L.map keyR).flatMap keyC) (by with_reducible repeat (first | exact Sel.here | apply Sel.there)) hdl hcap1 hdm hdt
                  have s3 := s2.row_shut (e := 25) (size := 2) (n := D.length) (cap := cap2) (xs := (D.map keyR).flatMap keyC) (by with_reducible repeat (first | exact Sel.here | apply Sel.there)) hel hcap2 hem het
                  exact ⟨i + 1, by simp, by rw [hsn'.out]; simp [dueR, hle], by omega, s3.pick (by repeat (first | exact Picks.nil | refine Picks.cons (by repeat (first | exact Sel.here | apply Sel.there)) ?_))⟩
              · have hle' : decide (xl ≤ time) = false := by simpa using hle
                have hsn3 := hsn'.out
                rw [if_neg (by simp [dueR, hle])] at hsn3
                have hsn4 := Lib.hid hsn3
                clear hsn3
                go_wp2_with (first | (refine wpList_store_at rfl rfl rfl (by (try simp only [Act.eval, Array.getD_eq_getD_getElem?, List.getElem?_toArray, List.getElem?_cons_succ, List.getElem?_cons_zero, Option.getD_some]) <;> exact rfl) (by exact rfl) hA (by with_reducible repeat (first | exact Sel.here | apply Sel.there)) (by kernel_rfl) rfl (by first | decide | (simp; done) | omega) ?_; intro w1 hB; clear hF hA; have hA := hB; clear hB; (try simp only [setL, List.set_cons_zero, List.set_cons_succ, List.cons_append, List.nil_append] at hA); (have hF := hA.facts); (try simp only [facts_cons, facts_nil, facts_cells, facts_old, facts_fact, facts_obj, facts_map, facts_iter, and_true, true_and] at hF)) | (refine wpList_box_at rfl rfl (by (try simp only [Act.eval, Array.getD_eq_getD_getElem?, List.getElem?_toArray, List.getElem?_cons_succ, List.getElem?_cons_zero, Option.getD_some]) <;> exact rfl) (by exact rfl) hA ?_; intro b1 w1 hB hb1; clear hF hA; have hA := hB; clear hB; (try simp only [setL, List.set_cons_zero, List.set_cons_succ, List.cons_append, List.nil_append] at hA); (have hF := hA.facts); (try simp only [facts_cons, facts_nil, facts_cells, facts_old, facts_fact, facts_obj, facts_map, facts_iter, and_true, true_and] at hF)))
                go_roundg (gk - 1)
                case measure => omega
                case rel =>
                  have s1 := hA.row_shut (e := 44) (size := 7) (n := L.length) (cap := vc) (xs := flatR L) (by with_reducible repeat (first | exact Sel.here | apply Sel.there)) hcl hcap0 hcm hct
                  have s2 := s1.row_shut (e := 25) (size := 2) (n := L.length) (cap := cap1) (xs := (L.map keyR).flatMap keyC) (by with_reducible repeat (first | exact Sel.here | apply Sel.there)) hdl hcap1 hdm hdt
                  exact ⟨i + 1, by simp, by rw [hsn4.out]; simp, by omega, s2.pick (by repeat (first | exact Picks.nil | refine Picks.cons (by repeat (first | exact Sel.here | apply Sel.there)) ?_))⟩
          · have hF := hA.facts
            have eL : L.take i = L := List.take_of_length_le (by omega)
            rw [eL, hD'.out]
            obtain ⟨s, hs⟩ : ∃ s, findR L num foot = s := ⟨_, rfl⟩
            have hrs : RelS (look ss num foot) s := by rw [← hs]; exact hI'.out.rel.look _ _
            have hpool : (s.tv, s.told) ∈ PL := by rw [← hs]; exact hI'.out.found _ _
            have hsk : s.num = num ∧ s.foot = foot := by rw [← hs]; exact findR_key
            have hlen := hrs.told.len
            have hs' := Lib.hid hs
            have hrs' := Lib.hid hrs
            have hpool' := Lib.hid hpool
            obtain ⟨sn, sf, so, sd, sl, st, sx, sc', stold⟩ := s
            simp only at hsk hlen
            obtain ⟨rfl, rfl⟩ := hsk
            clear hs hrs hpool
            (try simp only [setL, List.set_cons_zero, List.set_cons_succ, List.cons_append, List.nil_append] at hA); (have hF := hA.facts); (try simp only [facts_cons, facts_nil, facts_cells, facts_old, facts_fact, facts_obj, facts_map, facts_iter, and_true, true_and] at hF)
            go_wp2_with (first | (refine wpList_store_at rfl rfl rfl (by (try simp only [Act.eval, Array.getD_eq_getD_getElem?, List.getElem?_toArray, List.getElem?_cons_succ, List.getElem?_cons_zero, Option.getD_some]) <;> exact rfl) (by exact rfl) hA (by with_reducible repeat (first | exact Sel.here | apply Sel.there)) (by kernel_rfl) rfl (by first | decide | (simp; done) | omega) ?_; intro w1 hB; clear hF hA; have hA := hB; clear hB; (try simp only [setL, List.set_cons_zero, List.set_cons_succ, List.cons_append, List.nil_append] at hA); (have hF := hA.facts); (try simp only [facts_cons, facts_nil, facts_cells, facts_old, facts_fact, facts_obj, facts_map, facts_iter, and_true, true_and] at hF)) | (refine wpList_box_at rfl rfl (by (try simp only [Act.eval, Array.getD_eq_getD_getElem?, List.getElem?_toArray, List.getElem?_cons_succ, List.getElem?_cons_zero, Option.getD_some]) <;> exact rfl) (by exact rfl) hA ?_; intro b1 w1 hB hb1; clear hF hA; have hA := hB; clear hB; (try simp only [setL, List.set_cons_zero, List.set_cons_succ, List.cons_append, List.nil_append] at hA); (have hF := hA.facts); (try simp only [facts_cons, facts_nil, facts_cells, facts_old, facts_fact, facts_obj, facts_map, facts_iter, and_true, true_and] at hF)))
            have hfd := findR_any (hA.sep1 (by with_reducible repeat (first | exact Sel.here | apply Sel.there))) sn sf (by omega)
            rw [hs'.out] at hfd
            simp only [SR.cells, SR.tv] at hfd
            refine hfd.mono ?_
            clear hfd
            rintro e w1 ⟨rfl, hT⟩; have hB := hA.call1 (by with_reducible repeat (first | exact Sel.here | apply Sel.there)) hT; clear hF hA hT; have hA := hB; clear hB; (try simp only [setL, List.set_cons_zero, List.set_cons_succ, List.cons_append, List.nil_append] at hA); (have hF := hA.facts); (try simp only [facts_cons, facts_nil, facts_cells, facts_old, facts_fact, facts_obj, facts_map, facts_iter, and_true, true_and] at hF)
            go_wp2_with (first | (refine wpList_alloc_at (E := 44) (z := .agg #[.int .u64 0, .string .empty, .bool false, .bool false, .int .i64 0, .int .i64 0, .slice none 0 0]) (vs := [.int .u64 0, .string .empty, .bool false, .bool false, .int .i64 0, .int .i64 0, .slice none 0 0]) rfl rfl (by kernel_rfl) rfl hA ?_; intro bX w1 hB hbX; clear hF hA; have hA := hB; clear hB; (try simp only [setL, List.set_cons_zero, List.set_cons_succ, List.cons_append, List.nil_append] at hA); (have hF := hA.facts); (try simp only [facts_cons, facts_nil, facts_cells, facts_old, facts_fact, facts_obj, facts_map, facts_iter, and_true, true_and] at hF)) | (refine wpList_store_at rfl rfl rfl (by (try simp only [Act.eval, Array.getD_eq_getD_getElem?, List.getElem?_toArray, List.getElem?_cons_succ, List.getElem?_cons_zero, Option.getD_some]) <;> exact rfl) (by exact rfl) hA (by with_reducible repeat (first | exact Sel.here | apply Sel.there)) (by kernel_rfl) rfl (by first | decide | (simp; done) | omega) ?_; intro w1 hB; clear hF hA; have hA := hB; clear hB; (try simp only [setL, List.set_cons_zero, List.set_cons_succ, List.cons_append, List.nil_append] at hA); (have hF := hA.facts); (try simp only [facts_cons, facts_nil, facts_cells, facts_old, facts_fact, facts_obj, facts_map, facts_iter, and_true, true_and] at hF)) | (refine wpList_box_at rfl rfl (by (try simp only [Act.eval, Array.getD_eq_getD_getElem?, List.getElem?_toArray, List.getElem?_cons_succ, List.getElem?_cons_zero, Option.getD_some]) <;> exact rfl) (by exact rfl) hA ?_; intro b1 w1 hB hb1; clear hF hA; have hA := hB; clear hB; (try simp only [setL, List.set_cons_zero, List.set_cons_succ, List.cons_append, List.nil_append] at hA); (have hF := hA.facts); (try simp only [facts_cons, facts_nil, facts_cells, facts_old, facts_fact, facts_obj, facts_map, facts_iter, and_true, true_and] at hF)))
            have hsd := saidA_q (s := ⟨sn, sf, so, sd, sl, st, sx, sc', stold⟩) (hA.sep1 (A := bkP p m ss PL) (by with_reducible repeat (first | exact Sel.here | apply Sel.there))) hpool'.out req (by simp only; omega)
            obtain ⟨⟨yr, ye, yn, yg⟩, hy⟩ : ∃ y, (saidA stold req).getD noAR = y := ⟨_, rfl⟩
            obtain ⟨yb, hyb⟩ : ∃ b, (saidA stold req).isSome = b := ⟨_, rfl⟩
            simp only [hy, hyb, SR.cells, SR.tv, AR.cells] at hsd
            have hyb' := Lib.hid hyb
            clear hy hyb
            refine hsd.mono ?_
            clear hsd
            rintro e w1 ⟨rfl, hT⟩; have hB := hA.call1 (by with_reducible repeat (first | exact Sel.here | apply Sel.there)) hT; clear hF hA hT; have hA := hB; clear hB; (try simp only [setL, List.set_cons_zero, List.set_cons_succ, List.cons_append, List.nil_append] at hA); (have hF := hA.facts); (try simp only [facts_cons, facts_nil, facts_cells, facts_old, facts_fact, facts_obj, facts_map, facts_iter, and_true, true_and] at hF)
            go_wp2_with (first | (refine wpList_alloc_at (E := 48) (z := .agg #[.int .u64 0, .int .i64 0, .int .u64 0, .bool false]) (vs := [.int .u64 0, .int .i64 0, .int .u64 0, .bool false]) rfl rfl (by kernel_rfl) rfl hA ?_; intro bY w1 hB hbY; clear hF hA; have hA := hB; clear hB; (try simp only [setL, List.set_cons_zero, List.set_cons_succ, List.cons_append, List.nil_append] at hA); (have hF := hA.facts); (try simp only [facts_cons, facts_nil, facts_cells, facts_old, facts_fact, facts_obj, facts_map, facts_iter, and_true, true_and] at hF)) | (refine wpList_store_at rfl rfl rfl (by (try simp only [Act.eval, Array.getD_eq_getD_getElem?, List.getElem?_toArray, List.getElem?_cons_succ, List.getElem?_cons_zero, Option.getD_some]) <;> exact rfl) (by exact rfl) hA (by with_reducible repeat (first | exact Sel.here | apply Sel.there)) (by kernel_rfl) rfl (by first | decide | (simp; done) | omega) ?_; intro w1 hB; clear hF hA; have hA := hB; clear hB; (try simp only [setL, List.set_cons_zero, List.set_cons_succ, List.cons_append, List.nil_append] at hA); (have hF := hA.facts); (try simp only [facts_cons, facts_nil, facts_cells, facts_old, facts_fact, facts_obj, facts_map, facts_iter, and_true, true_and] at hF)) | (refine wpList_box_at rfl rfl (by (try simp only [Act.eval, Array.getD_eq_getD_getElem?, List.getElem?_toArray, List.getElem?_cons_succ, List.getElem?_cons_zero, Option.getD_some]) <;> exact rfl) (by exact rfl) hA ?_; intro b1 w1 hB hb1; clear hF hA; have hA := hB; clear hB; (try simp only [setL, List.set_cons_zero, List.set_cons_succ, List.cons_append, List.nil_append] at hA); (have hF := hA.facts); (try simp only [facts_cons, facts_nil, facts_cells, facts_old, facts_fact, facts_obj, facts_map, facts_iter, and_true, true_and] at hF)))
            obtain ⟨ta, tb, tc, htq⟩ := told_q (hA.sep1 (A := bkP p m ss PL) (by with_reducible repeat (first | exact Sel.here | apply Sel.there))) n0 n1 hf r0 r1 hrs'.out
            simp only [hyb'.out] at htq
            refine (htq ()).mono ?_
            clear htq
            rintro e w1 ⟨rfl, hT⟩; have hB := hA.call1 (by with_reducible repeat (first | exact Sel.here | apply Sel.there)) hT; clear hF hA hT; have hA := hB; clear hB; (try simp only [setL, List.set_cons_zero, List.set_cons_succ, List.cons_append, List.nil_append] at hA); (have hF := hA.facts); (try simp only [facts_cons, facts_nil, facts_cells, facts_old, facts_fact, facts_obj, facts_map, facts_iter, and_true, true_and] at hF)
            go_wp2_with (first | (refine wpList_alloc_at (E := 34) (z := .agg #[.int .i64 0, .int .u64 0, .bool false]) (vs := [.int .i64 0, .int .u64 0, .bool false]) rfl rfl (by kernel_rfl) rfl hA ?_; intro bW w1 hB hbW; clear hF hA; have hA := hB; clear hB; (try simp only [setL, List.set_cons_zero, List.set_cons_succ, List.cons_append, List.nil_append] at hA); (have hF := hA.facts); (try simp only [facts_cons, facts_nil, facts_cells, facts_old, facts_fact, facts_obj, facts_map, facts_iter, and_true, true_and] at hF)) | (refine wpList_store_at rfl rfl rfl (by (try simp only [Act.eval, Array.getD_eq_getD_getElem?, List.getElem?_toArray, List.getElem?_cons_succ, List.getElem?_cons_zero, Option.getD_some]) <;> exact rfl) (by exact rfl) hA (by with_reducible repeat (first | exact Sel.here | apply Sel.there)) (by kernel_rfl) rfl (by first | decide | (simp; done) | omega) ?_; intro w1 hB; clear hF hA; have hA := hB; clear hB; (try simp only [setL, List.set_cons_zero, List.set_cons_succ, List.cons_append, List.nil_append] at hA); (have hF := hA.facts); (try simp only [facts_cons, facts_nil, facts_cells, facts_old, facts_fact, facts_obj, facts_map, facts_iter, and_true, true_and] at hF)) | (refine wpList_box_at rfl rfl (by (try simp only [Act.eval, Array.getD_eq_getD_getElem?, List.getElem?_toArray, List.getElem?_cons_succ, List.getElem?_cons_zero, Option.getD_some]) <;> exact rfl) (by exact rfl) hA ?_; intro b1 w1 hB hb1; clear hF hA; have hA := hB; clear hB; (try simp only [setL, List.set_cons_zero, List.set_cons_succ, List.cons_append, List.nil_append] at hA); (have hF := hA.facts); (try simp only [facts_cons, facts_nil, facts_cells, facts_old, facts_fact, facts_obj, facts_map, facts_iter, and_true, true_and] at hF)))
            have hsm := same_q (s := ⟨sn, sf, so, sd, sl, st, sx, sc', stold⟩) (hA.sep1 (A := bkP p m ss PL) (by with_reducible repeat (first | exact Sel.here | apply Sel.there))) hpool'.out hrs'.out n0 n1 hf
            simp only [SR.cells, SR.tv] at hsm
            refine hsm.mono ?_
            clear hsm
            rintro e w1 ⟨rfl, hT⟩; have hB := hA.call1 (by with_reducible repeat (first | exact Sel.here | apply Sel.there)) hT; clear hF hA hT; have hA := hB; clear hB; (try simp only [setL, List.set_cons_zero, List.set_cons_succ, List.cons_append, List.nil_append] at hA); (have hF := hA.facts); (try simp only [facts_cons, facts_nil, facts_cells, facts_old, facts_fact, facts_obj, facts_map, facts_iter, and_true, true_and] at hF)
            go_wp2_with (first | (refine wpList_store_at rfl rfl rfl (by (try simp only [Act.eval, Array.getD_eq_getD_getElem?, List.getElem?_toArray, List.getElem?_cons_succ, List.getElem?_cons_zero, Option.getD_some]) <;> exact rfl) (by exact rfl) hA (by with_reducible repeat (first | exact Sel.here | apply Sel.there)) (by kernel_rfl) rfl (by first | decide | (simp; done) | omega) ?_; intro w1 hB; clear hF hA; have hA := hB; clear hB; (try simp only [setL, List.set_cons_zero, List.set_cons_succ, List.cons_append, List.nil_append] at hA); (have hF := hA.facts); (try simp only [facts_cons, facts_nil, facts_cells, facts_old, facts_fact, facts_obj, facts_map, facts_iter, and_true, true_and] at hF)) | (refine wpList_box_at rfl rfl (by (try simp only [Act.eval, Array.getD_eq_getD_getElem?, List.getElem?_toArray, List.getElem?_cons_succ, List.getElem?_cons_zero, Option.getD_some]) <;> exact rfl) (by exact rfl) hA ?_; intro b1 w1 hB hb1; clear hF hA; have hA := hB; clear hB; (try simp only [setL, List.set_cons_zero, List.set_cons_succ, List.cons_append, List.nil_append] at hA); (have hF := hA.facts); (try simp only [facts_cons, facts_nil, facts_cells, facts_old, facts_fact, facts_obj, facts_map, facts_iter, and_true, true_and] at hF)))
            go_ret
            exact ⟨rfl, below_old hA (by with_reducible repeat (first | exact Sel.here | apply Sel.there))⟩
end Go.Proofs.Ytbdcgadcjgmgbaa.Lease
end
