/- AttrC, RegH, IxH, IndexA, IndexT, RefH, ClashB, IndexC, IndexG, IndexU, CbA, joined. -/
import Derived.Test.YtgbpfgdjnhbcgaaGreatDoorQ14
set_option linter.unusedSimpArgs false
set_option linter.unusedVariables false
set_option maxRecDepth 100000
set_option maxHeartbeats 16000000
section
namespace Go.Proofs.YtgbpfgdjnhbcgaaGreatDoor.Attr
open Go.RowKit
open Cmd (through0)
attribute [-go_sem] run_eql_struct run_neq_struct run_eqGuard_agg
theorem guardA (op : BinOp) (x y : Operand) (c1 c2 c3 c4 c5 c6 c7 c8 e1 e2 e3 e4 e5 e6 e7 e8 : Value) (w : World) : (eqGuard op 40 x y (.agg #[c1, c2, c3, c4, c5, c6, c7, c8]) (.agg #[e1, e2, e3, e4, e5, e6, e7, e8])).run Tryz.prog w = .ok () w := run_eqGuard_agg _ _ _ _ _ _ _ (by kernel_rfl)
theorem guardA7 (op : BinOp) (x y : Operand) (c1 c2 c3 c4 c5 c6 c7 e1 e2 e3 e4 e5 e6 e7 : Value) (w : World) : (eqGuard op 38 x y (.agg #[c1, c2, c3, c4, c5, c6, c7]) (.agg #[e1, e2, e3, e4, e5, e6, e7])).run Tryz.prog w = .ok () w := run_eqGuard_agg _ _ _ _ _ _ _ (by kernel_rfl)
theorem same7g (d : Nat) (d0 d1 d2 d3 d4 d5 d6 : Int) (w : World) : (Go.Op.equalIn (d + 2) 38 (.agg #[.int .i64 d0, .int .i64 d1, .int .i64 d2, .int .i64 d3, .int .i64 d4, .int .i64 d5, .int .i64 d6]) (.agg #[.int .i64 d0, .int .i64 d1, .int .i64 d2, .int .i64 d3, .int .i64 d4, .int .i64 d5, .int .i64 d6])).run Tryz.prog w = .ok true w := by
 obtain ⟨i, hi⟩ : ∃ i, Tryz.prog.info? 3 = some i := by
  have h : (Tryz.prog.info? 3).isSome = true := by kernel_rfl
  exact Option.isSome_iff_exists.1 h
 have hc : Tryz.prog.cellsOf 3 = 1 := by kernel_rfl
 rw [Go.run_equalIn_array _ (d + 1) _ _ Tryz.underlying38 hi, hc, show List.range 7 = [0, 1, 2, 3, 4, 5, 6] from rfl]
 simp [Go.Op.eqItems, go_sem, hi]
theorem same7 (d0 d1 d2 d3 d4 d5 d6 : Int) (w : World) : (Go.Op.equalIn 10000 38 (.agg #[.int .i64 d0, .int .i64 d1, .int .i64 d2, .int .i64 d3, .int .i64 d4, .int .i64 d5, .int .i64 d6]) (.agg #[.int .i64 d0, .int .i64 d1, .int .i64 d2, .int .i64 d3, .int .i64 d4, .int .i64 d5, .int .i64 d6])).run Tryz.prog w = .ok true w := same7g 9998 d0 d1 d2 d3 d4 d5 d6 w
theorem same7b (d0 d1 d2 d3 d4 d5 d6 : Int) (w : World) : (Go.Op.equalIn 9999 38 (.agg #[.int .i64 d0, .int .i64 d1, .int .i64 d2, .int .i64 d3, .int .i64 d4, .int .i64 d5, .int .i64 d6]) (.agg #[.int .i64 d0, .int .i64 d1, .int .i64 d2, .int .i64 d3, .int .i64 d4, .int .i64 d5, .int .i64 d6])).run Tryz.prog w = .ok true w := same7g 9997 d0 d1 d2 d3 d4 d5 d6 w
theorem eql7 (d0 d1 d2 d3 d4 d5 d6 : Int) (w : World) : (binOp .eql 38 (.agg #[.int .i64 d0, .int .i64 d1, .int .i64 d2, .int .i64 d3, .int .i64 d4, .int .i64 d5, .int .i64 d6]) (.agg #[.int .i64 d0, .int .i64 d1, .int .i64 d2, .int .i64 d3, .int .i64 d4, .int .i64 d5, .int .i64 d6])).run Tryz.prog w = .ok (.bool true) w := by
 rw [run_eql_struct, same7]; rfl
theorem sameA (s d0 d1 d2 d3 d4 d5 d6 : Int) (w : World) : (Go.Op.equalIn 10000 40 (.agg #[.int .i64 s, .int .i64 d0, .int .i64 d1, .int .i64 d2, .int .i64 d3, .int .i64 d4, .int .i64 d5, .int .i64 d6]) (.agg #[.int .i64 s, .int .i64 d0, .int .i64 d1, .int .i64 d2, .int .i64 d3, .int .i64 d4, .int .i64 d5, .int .i64 d6])).run Tryz.prog w = .ok true w := by
 rw [run_equalIn_agg _ 9999 _ _ _ (by kernel_rfl) (by kernel_rfl)]
 simp [go_sem, Go.Op.eqFields, same7b]
theorem eqlA (s d0 d1 d2 d3 d4 d5 d6 : Int) (w : World) : (binOp .eql 40 (.agg #[.int .i64 s, .int .i64 d0, .int .i64 d1, .int .i64 d2, .int .i64 d3, .int .i64 d4, .int .i64 d5, .int .i64 d6]) (.agg #[.int .i64 s, .int .i64 d0, .int .i64 d1, .int .i64 d2, .int .i64 d3, .int .i64 d4, .int .i64 d5, .int .i64 d6])).run Tryz.prog w = .ok (.bool true) w := by
 rw [run_eql_struct, sameA]; rfl
attribute [local go_sem] guardA guardA7 eql7 eqlA
end Go.Proofs.YtgbpfgdjnhbcgaaGreatDoor.Attr
end
section
namespace Go.Proofs.YtgbpfgdjnhbcgaaGreatDoor
open Go.RowKit
theorem setL_whole {c vs : List Value} (h : c.length = vs.length) : setL c 0 vs = vs := by
 apply List.ext_getElem?
 intro j
 by_cases hj : j < vs.length
 · have := setL_in vs c 0 j (by omega) hj
   rwa [Nat.zero_add] at this
 · rw [List.getElem?_eq_none (by rw [setL_length]; omega), List.getElem?_eq_none (by omega)]
section
variable {P : Program} {ops : Array Oper} {rest : List Oper} {o : Oper} {a : Act} {Q : Exit → Act → World → Prop} {L0 L F : List Part} {w0 w : World}
theorem wpList_storeAll_at {ty : TypeId} {x y : Operand} (hg : o.guard = none) (hop : o.op = .store ty x y) {b : Nat} (hx : a.eval x = .pointer (some ⟨b, 0, none⟩)) {v : Value} (hy : a.eval y = v) {vs : List Value} (hv : v.cells = vs.toArray)
 (h : At L0 w0 L w) {c : List Value} {T : TypeId} (s : Sel (Part.cells b c T) L F) (hi : (P.info? ty).map (·.size) = some vs.length) (h1 : vs.all (·.oneCell') = true) (hj : c.length = vs.length)
 (hK : ∀ w', At L0 w0 (Part.cells b vs T :: F) w' → wpList P ops Q rest (a.put o.dst undef) w') : wpList P ops Q (o :: rest) a w :=
 wpList_store_at hg hop hx hy hv h s hi h1 (by omega) fun w' hw => hK w' (by rw [setL_whole hj] at hw; exact hw)
theorem wpList_loadRow_at {ty : TypeId} {x : Operand} (hg : o.guard = none) (hop : o.op = .load ty x) {b j : Nat} (hx : a.eval x = .pointer (some ⟨b, j, none⟩)) {vs : List Value} (hr : ∀ (k : Nat) u, vs[k]? = some u → w.cell? ⟨b, j + k, none⟩ = some u)
 (hu : (P.underlying ty).map (·.isRow) = some true) (hi : (P.info? ty).map (·.size) = some vs.length)
 (hK : wpList P ops Q rest (a.put o.dst (.agg vs.toArray)) w) : wpList P ops Q (o :: rest) a w := by
 obtain ⟨d, hu, hd⟩ := Option.map_eq_some_iff.1 hu
 refine wpList_val hg ?_ hK
 simp [execOp, hop, hx, run_loadAt_mid w b j ty vs d (fun k v hk => hr k v hk) hu hd hi, Result.andThen]
end
end Go.Proofs.YtgbpfgdjnhbcgaaGreatDoor
end
section
namespace Go.Proofs.YtgbpfgdjnhbcgaaGreatDoor.Ix
open Go.RowKit
attribute [-go_sem] run_eql_struct run_neq_struct run_eqGuard_agg
section
variable {P : Program} {ops : Array Oper} {rest : List Oper} {o : Oper} {a : Act} {Q : Exit → Act → World → Prop} {L0 L F : List Part} {w0 w : World} {K : Act → Prop}
theorem row_cell {w : World} {g n cap j : Nat} {xs : List Value} {v : Value} (h : Reads w (.slice (some ⟨g, 0, none⟩) n cap) n xs) (hv : xs[j]? = some v) : w.cell? ⟨g, j, none⟩ = some v := by
 obtain ⟨ax, c, e, _, hr⟩ := h
 cases e
 obtain ⟨b, off, e2, hc⟩ := hr j v hv
 cases e2
 simpa using hc
theorem row_range {e : TypeId} {g n cap j size : Nat} {xs vs : List Value} (h : At L0 w0 L w) (s : Sel (Part.row e size (.slice (some ⟨g, 0, none⟩) n cap) n xs) L F) (hv : (xs.drop j).take vs.length = vs) :
 ∀ (k : Nat) u, vs[k]? = some u → w.cell? ⟨g, j + k, none⟩ = some u := fun k u hk => by
 have hl := (List.getElem?_eq_some_iff.1 hk).1
 refine row_cell (h.row_reads s) ?_
 rw [← List.getElem?_drop, ← hk, ← hv, List.getElem?_take, if_pos hl]
theorem wpList_rowEl_at {ty e : TypeId} {x : Operand} {g n cap j size : Nat} {xs vs : List Value} (hg : o.guard = none) (hop : o.op = .load ty x) (hx : a.eval x = .pointer (some ⟨g, j, none⟩)) (h : At L0 w0 L w) (s : Sel (Part.row e size (.slice (some ⟨g, 0, none⟩) n cap) n xs) L F)
 (hv : (xs.drop j).take vs.length = vs) (hu : (P.underlying ty).map (·.isRow) = some true) (hi : (P.info? ty).map (·.size) = some vs.length)
 (hK : wpList P ops Q rest (a.put o.dst (.agg vs.toArray)) w) : wpList P ops Q (o :: rest) a w :=
 wpList_loadRow_at hg hop hx (row_range h s hv) hu hi hK
end
theorem xs_at {l : List En} {i : Nat} (hi : i < l.length) : ((l.flatMap En.cells).drop (i * 10)).take 10 = l[i].cells := by
 refine List.ext_getElem? fun k => ?_
 by_cases hk : k < 10
 · rw [List.getElem?_take_of_lt hk, List.getElem?_drop]
   exact flat_at En.cells 10 (fun _ => rfl) l i _ (List.getElem?_eq_getElem hi) k hk
 · rw [List.getElem?_take_eq_none (by omega), List.getElem?_eq_none (by show 10 ≤ k; omega)]
end Go.Proofs.YtgbpfgdjnhbcgaaGreatDoor.Ix
end
section
namespace Go.Proofs.YtgbpfgdjnhbcgaaGreatDoor.Ix
open Go.RowKit
open Go.Maps (Keyed)
open Path (bl rightB overB)
open Attr (A8 rightI)
open Cmd (Cm keyC footC through0)
attribute [-go_sem] run_eql_struct run_neq_struct run_eqGuard_agg
def AkRel (w : World) (p m it b4 b5 b6 b7 b8 : Nat) (es : List En) (g : Bool) (ff : ByteArray) (kn r t kind num : Int) (foot : ByteArray) (req : Int) (path : ByteArray) (mode n time : Int) (k : Nat) (u : Value) (wr : World) : Prop :=
 ∃ (ds : List En) (a : A8), At [IxP p m es] w [Part.iter Tryz.prog 37 it m (ents es) (ents ds), headC p m, Part.cells b7 [.int .i64 a.s, .int .i64 a.d0, .int .i64 a.d1, .int .i64 a.d2, .int .i64 a.d3, .int .i64 a.d4, .int .i64 a.d5, .int .i64 a.d6] 40, Part.cells b8 [.string ff, .int .u64 kn] 37, Part.cells b6 [.int .i64 0, .int .i64 0, .int .i64 0, .int .i64 0, .int .i64 0, .int .i64 0, .int .i64 0, .int .i64 0] 40, Part.cells b5 [.int .i64 r, .int .i64 t] 29, Part.cells b4 [.int .i64 kind, .int .u64 num, .string foot, .int .u64 req, .string path, .int .i64 mode, .int .u64 n, .int .i64 time] 27] wr ∧ (∀ s ∈ ds, s ∈ es) ∧ a = askF g (ff, kn) ds ∧ ds.length + k = es.length
theorem ask_core {w : World} {p m : Nat} {es : List En} (h : Sep [IxP p m es] w) (kind num : Int) (foot : ByteArray) (req : Int) (path : ByteArray) (mode n time : Int) {ff : ByteArray} {kn : Int} {ok : Bool} (hof : ∀ w, Calls Tryz.prog 32 #[.agg #[.int .i64 kind, .int .u64 num, .string foot, .int .u64 req, .string path, .int .i64 mode, .int .u64 n, .int .i64 time]] w fun e w' => e = .returned (.tuple #[.agg #[.string ff, .int .u64 kn], .bool ok]) ∧ Ext w w')
 (hff : ff.size ≤ 1000) (hes : ∀ e ∈ es, e.foot.size ≤ 1000) (hl : es.length ≤ 1000000) (r t : Int) :
 Calls Tryz.prog 13 #[.pointer (some ⟨p, 0, none⟩), .agg #[.int .i64 kind, .int .u64 num, .string foot, .int .u64 req, .string path, .int .i64 mode, .int .u64 n, .int .i64 time], .agg #[.int .i64 r, .int .i64 t]] w fun e w' => e = .returned ((askF (ok && rightI r t) (ff, kn) es).own r t).val ∧ At [IxP p m es] w [IxP p m es] w' := by
 have hA := begin0 h
 have hF := hA.facts
 clear h
 have hri := fun w => Attr.idRight_any r t w
 have hown := fun (a : A8) w => Attr.own_any a r t w
 have hes' := Lib.hid hes
 clear hes
 obtain ⟨ri, hrid⟩ : ∃ ri, rightI r t = ri := ⟨_, rfl⟩
 rw [hrid] at hri
 rw [hrid]
 clear hrid
 have hF := hA.facts; (try simp only [uY] at hA hF)
 go_enter Tryz.func13, Tryz.ntmps13
 go_wp2_with (first | ((with_reducible refine gbx ?_); refine wH 27 [.int .i64 kind, .int .u64 num, .string foot, .int .u64 req, .string path, .int .i64 mode, .int .u64 n, .int .i64 time] hA ?_; clear hF hA; intro b4 w1 hA hb4 hF; (try simp only [uY] at hA hF)) | ((with_reducible refine gbx ?_); refine wH 29 [.int .i64 r, .int .i64 t] hA ?_; clear hF hA; intro b5 w1 hA hb5 hF; (try simp only [uY] at hA hF)) | ((with_reducible show wpList _ _ _ ({ dst := some 6, op := Op.alloc _, type := _, pos := _, after := _, guard := _ } :: _) _ _); ((with_reducible refine gal ?_); refine wG 40 [.int .i64 0, .int .i64 0, .int .i64 0, .int .i64 0, .int .i64 0, .int .i64 0, .int .i64 0, .int .i64 0] hA ?_; clear hF hA; intro b6 w1 hA hb6 hF; (try simp only [uY] at hA hF))) | ((with_reducible show wpList _ _ _ ({ dst := some 7, op := Op.alloc _, type := _, pos := _, after := _, guard := _ } :: _) _ _); ((with_reducible refine gal ?_); refine wG 40 [.int .i64 0, .int .i64 0, .int .i64 0, .int .i64 0, .int .i64 0, .int .i64 0, .int .i64 0, .int .i64 0] hA ?_; clear hF hA; intro b7 w1 hA hb7 hF; (try simp only [uY] at hA hF))) | ((with_reducible refine gst ?_); refine wT hA ?_; clear hF hA; intro w1 hA hF; (try simp only [uY] at hA hF)) | ((with_reducible refine gbx ?_); refine wC hA ?_; clear hF hA; intro b1 w1 hA hb1 hF; (try simp only [uY] at hA hF)))
 refine (hof _).mono ?_
 clear hof
 rintro e w1 ⟨rfl, hx⟩
 have hB := hA.ext hx
 clear hF hA hx; have hA := hB; clear hB
 have hF := hA.facts; (try simp only [uY] at hA hF)
 go_wp2_with (first | ((with_reducible refine gal ?_); refine wG 37 [.string .empty, .int .u64 0] hA ?_; clear hF hA; intro b8 w1 hA hb8 hF; (try simp only [uY] at hA hF)) | ((with_reducible refine gst ?_); refine wT hA ?_; clear hF hA; intro w1 hA hF; (try simp only [uY] at hA hF)) | ((with_reducible refine gbx ?_); refine wC hA ?_; clear hF hA; intro b1 w1 hA hb1 hF; (try simp only [uY] at hA hF)) | (refine wpList_range_at rfl rfl rfl hA sR Tryz.underlying74 ?_; intro it w1 hB hit; clear hF hA; have hA := hB; clear hB; have hF := hA.facts; (try simp only [uY] at hA hF)))
 try go_frame
 go_loopg [22] es.length (AkRel w p m it b4 b5 b6 b7 b8 es (ok && ri) ff kn r t kind num foot req path mode n time)
 case atStart => exact ⟨[], A8.zero, hA.pick pZ, nofun, rfl, by simp⟩
 case round =>
  obtain ⟨ds, acc, hA2, hds, hacc, hk⟩ := hrel
  have hacc' := Lib.hid hacc
  clear hF hA hacc
  have hA := hA2
  clear hA2
  have hF := hA.facts; (try simp only [uY] at hA hF)
  go_step
  go_step
  refine wpList_next_at rfl rfl rfl hA sR (fun hp => ?_) (fun q w1 hq hd hB => ?_)
  · have hc : acc = askF (ok && ri) (ff, kn) es := by rw [hacc'.out]; exact (askF_perm (ents_perm hp)).symm
    have hM := At.ranged hA sR
    have hown2 := hown acc
    obtain ⟨ow, how⟩ : ∃ ow, acc.own r t = ow := ⟨_, rfl⟩
    rw [how] at hown2
    have hval := Lib.hid (show (askF (ok && ri) (ff, kn) es).own r t = ow from by rw [← hc]; exact how)
    clear hF hA hp hc hown how hacc'
    have hA := hM
    clear hM
    obtain ⟨a0, a1, a2, a3, a4, a5, a6, a7⟩ := acc
    obtain ⟨g0, g1, g2, g3, g4, g5, g6, g7⟩ := ow
    simp only [A8.val] at hown2
    simp only at hA
    have hF := hA.facts; (try simp only [uY] at hA hF)
    go_wp2_with (first | ((with_reducible refine gst ?_); refine wT hA ?_; clear hF hA; intro w1 hA hF; (try simp only [uY] at hA hF)) | ((with_reducible refine gbx ?_); refine wC hA ?_; clear hF hA; intro b1 w1 hA hb1 hF; (try simp only [uY] at hA hF)))
    refine (hown2 _).mono ?_
    clear hown2
    rintro e w1 ⟨rfl, hx⟩
    have hB := hA.ext hx
    clear hF hA hx; have hA := hB; clear hB
    have hF := hA.facts; (try simp only [uY] at hA hF)
    go_wp2_with (first | ((with_reducible refine gst ?_); refine wT hA ?_; clear hF hA; intro w1 hA hF; (try simp only [uY] at hA hF)) | ((with_reducible refine gbx ?_); refine wC hA ?_; clear hF hA; intro b1 w1 hA hb1 hF; (try simp only [uY] at hA hF)))
    refine bodyPost_ret (v := .agg #[.int .i64 g0, .int .i64 g1, .int .i64 g2, .int .i64 g3, .int .i64 g4, .int .i64 g5, .int .i64 g6, .int .i64 g7]) (by simp [results, Tryz.results13, go_sem, hF]) rfl ⟨by rw [hval.out]; rfl, close0 hA sR sR⟩
  · obtain ⟨s, hs, rfl⟩ := List.mem_map.1 hq
    have hI : IterAt Tryz.prog 37 w1 it m (ents es) (ents ds ++ [ent s]) := hB.get (A := Part.iter _ _ it m (ents es) (ents ds ++ [ent s])) sR
    have hen := hI.entry
    have hlen : (ds ++ [s]).length ≤ es.length := by have := hI.len; simpa [ents] using this
    have hsub : ∀ x ∈ ds ++ [s], x ∈ es := fun x hx => by
     rcases List.mem_append.1 hx with hx | hx
     · exact hds x hx
     · have : x = s := by simpa using hx
       rw [this]; exact hs
    rw [ents_snoc] at hB
    have hsz := hes'.out s hs
    clear hF hA
    have hA := hB
    have hk' := Lib.hid hk
    have hsub' := Lib.hid hsub
    have hcl := fun w => Cmd.clash_any ff kn s.foot s.num w hff hsz
    have hst := Lib.hid (show askStep (ok && ri) (ff, kn) acc s = askF (ok && ri) (ff, kn) (ds ++ [s]) from by rw [askF_snoc, hacc'.out])
    simp only [List.length_append, List.length_cons, List.length_nil, Nat.zero_add] at hlen
    clear hI hB hk hsub hds hq hd hs hacc' hsz
    have hF := hA.facts; (try simp only [uY] at hA hF)
    simp only [ent, En.key, keyV] at hen
    obtain ⟨sf, sn, sa⟩ := s
    simp only at hcl hen
    unfold askStep clashK at hst
    simp only at hst
    generalize hcbd : ((kn == sn) || overB (bl ff) (bl sf)) = cb at *
    clear hcbd
    have hpa := fun w => Attr.past_any sa sa.s w
    obtain ⟨pa, hpad⟩ : ∃ pa, sa.past sa.s = pa := ⟨_, rfl⟩
    rw [hpad] at hpa hst
    have hmg := fun w => Attr.merge_any acc pa w
    obtain ⟨mg, hmgd⟩ : ∃ mg, acc.merge pa = mg := ⟨_, rfl⟩
    rw [hmgd] at hmg hst
    clear hpad hmgd
    obtain ⟨a0, a1, a2, a3, a4, a5, a6, a7⟩ := acc
    obtain ⟨c0, c1, c2, c3, c4, c5, c6, c7⟩ := sa
    obtain ⟨q0, q1, q2, q3, q4, q5, q6, q7⟩ := pa
    obtain ⟨g0, g1, g2, g3, g4, g5, g6, g7⟩ := mg
    simp only [A8.val] at hpa hmg hen
    simp only at hA
    have hF := hA.facts; (try simp only [uY] at hA hF)
    cases ok
    · simp only [Bool.false_and, Bool.false_eq_true, if_false] at hst
      go_wp2_with (first | ((with_reducible refine gal ?_); refine wG 37 [.string .empty, .int .u64 0] hA ?_; clear hF hA; intro bK w1 hA hbK hF; (try simp only [uY] at hA hF)) | ((with_reducible refine gal ?_); refine wG 40 [.int .i64 0, .int .i64 0, .int .i64 0, .int .i64 0, .int .i64 0, .int .i64 0, .int .i64 0, .int .i64 0] hA ?_; clear hF hA; intro bA w1 hA hbA hF; (try simp only [uY] at hA hF)) | ((with_reducible refine gst ?_); refine wT hA ?_; clear hF hA; intro w1 hA hF; (try simp only [uY] at hA hF)) | ((with_reducible refine gbx ?_); refine wC hA ?_; clear hF hA; intro b1 w1 hA hb1 hF; (try simp only [uY] at hA hF)))
      go_roundg (gk - 1)
      case measure => have := hk'.out; omega
      case rel => exact ⟨ds ++ [⟨sf, sn, ⟨c0, c1, c2, c3, c4, c5, c6, c7⟩⟩], _, hA.pick (by with_reducible repeat (first | exact Picks.nil | refine Picks.cons sR ?_)), hsub'.out, hst.out, by have := hk'.out; simp; omega⟩
    · cases ri
      · simp only [Bool.and_false, Bool.false_and, Bool.false_eq_true, if_false] at hst
        go_wp2_with (first | ((with_reducible refine gal ?_); refine wG 37 [.string .empty, .int .u64 0] hA ?_; clear hF hA; intro bK w1 hA hbK hF; (try simp only [uY] at hA hF)) | ((with_reducible refine gal ?_); refine wG 40 [.int .i64 0, .int .i64 0, .int .i64 0, .int .i64 0, .int .i64 0, .int .i64 0, .int .i64 0, .int .i64 0] hA ?_; clear hF hA; intro bA w1 hA hbA hF; (try simp only [uY] at hA hF)) | ((with_reducible refine gst ?_); refine wT hA ?_; clear hF hA; intro w1 hA hF; (try simp only [uY] at hA hF)) | ((with_reducible refine gbx ?_); refine wC hA ?_; clear hF hA; intro b1 w1 hA hb1 hF; (try simp only [uY] at hA hF)))
        refine (hri _).mono ?_
        rintro e w1 ⟨rfl, hx⟩
        have hB := hA.ext hx
        clear hF hA hx; have hA := hB; clear hB
        have hF := hA.facts; (try simp only [uY] at hA hF)
        go_wp2_with (first | ((with_reducible refine gst ?_); refine wT hA ?_; clear hF hA; intro w1 hA hF; (try simp only [uY] at hA hF)) | ((with_reducible refine gbx ?_); refine wC hA ?_; clear hF hA; intro b1 w1 hA hb1 hF; (try simp only [uY] at hA hF)))
        go_roundg (gk - 1)
        case measure => have := hk'.out; omega
        case rel => exact ⟨ds ++ [⟨sf, sn, ⟨c0, c1, c2, c3, c4, c5, c6, c7⟩⟩], _, hA.pick (by with_reducible repeat (first | exact Picks.nil | refine Picks.cons sR ?_)), hsub'.out, hst.out, by have := hk'.out; simp; omega⟩
      · go_wp2_with (first | ((with_reducible refine gal ?_); refine wG 37 [.string .empty, .int .u64 0] hA ?_; clear hF hA; intro bK w1 hA hbK hF; (try simp only [uY] at hA hF)) | ((with_reducible refine gal ?_); refine wG 40 [.int .i64 0, .int .i64 0, .int .i64 0, .int .i64 0, .int .i64 0, .int .i64 0, .int .i64 0, .int .i64 0] hA ?_; clear hF hA; intro bA w1 hA hbA hF; (try simp only [uY] at hA hF)) | ((with_reducible refine gst ?_); refine wT hA ?_; clear hF hA; intro w1 hA hF; (try simp only [uY] at hA hF)) | ((with_reducible refine gbx ?_); refine wC hA ?_; clear hF hA; intro b1 w1 hA hb1 hF; (try simp only [uY] at hA hF)))
        refine (hri _).mono ?_
        rintro e w1 ⟨rfl, hx⟩
        have hB := hA.ext hx
        clear hF hA hx; have hA := hB; clear hB
        have hF := hA.facts; (try simp only [uY] at hA hF)
        go_wp2_with (first | ((with_reducible refine gst ?_); refine wT hA ?_; clear hF hA; intro w1 hA hF; (try simp only [uY] at hA hF)) | ((with_reducible refine gbx ?_); refine wC hA ?_; clear hF hA; intro b1 w1 hA hb1 hF; (try simp only [uY] at hA hF)))
        refine (hcl _).mono ?_
        rintro e w1 ⟨rfl, hx⟩
        have hB := hA.ext hx
        clear hF hA hx; have hA := hB; clear hB
        have hF := hA.facts; (try simp only [uY] at hA hF)
        cases cb
        · simp only [Bool.and_false, Bool.and_true, Bool.true_and, Bool.false_eq_true, if_false] at hst
          go_wp2_with (first | ((with_reducible refine gst ?_); refine wT hA ?_; clear hF hA; intro w1 hA hF; (try simp only [uY] at hA hF)) | ((with_reducible refine gbx ?_); refine wC hA ?_; clear hF hA; intro b1 w1 hA hb1 hF; (try simp only [uY] at hA hF)))
          go_roundg (gk - 1)
          case measure => have := hk'.out; omega
          case rel => exact ⟨ds ++ [⟨sf, sn, ⟨c0, c1, c2, c3, c4, c5, c6, c7⟩⟩], _, hA.pick (by with_reducible repeat (first | exact Picks.nil | refine Picks.cons sR ?_)), hsub'.out, hst.out, by have := hk'.out; simp; omega⟩
        · simp only [Bool.and_true, Bool.true_and, if_true] at hst
          go_wp2_with (first | ((with_reducible refine gst ?_); refine wT hA ?_; clear hF hA; intro w1 hA hF; (try simp only [uY] at hA hF)) | ((with_reducible refine gbx ?_); refine wC hA ?_; clear hF hA; intro b1 w1 hA hb1 hF; (try simp only [uY] at hA hF)))
          try go_frame
          (refine wp_region_head 6 (Cl _ _ _) (by kernel_rfl) (by kernel_rfl) (Cl.drew hA) ?_); (simp only [List.take_succ_cons, List.take_zero, List.drop_succ_cons, List.drop_zero]); (have hn1 := Cl.none hA); (have hn2 := Cl.none2 hA); (repeat (first | go_big_quiet_skip | (go_big_quiet_want; (first | (refine qM 40 8 ?_; go_frame; go_big_quiet_on) | (refine qL ?_; go_frame; go_big_quiet_on) | (go_big_quiet_op; (first | go_big_quiet_on | ((apply Exists.intro); (refine ⟨fun w1 hw => ?_, ?_⟩); (focus ((have hw := Cl.out hw); (first | exact through0 hw (hpa _) | exact through0 hw (hmg _)))); (go_big_quiet_on))))))))
          (refine wpQuiet_nil ?_); (intro w1 hB); (clear hF hA hn1 hn2); (have hA := Cl.out hB); (clear hB); have hF := hA.facts; (try simp only [uY] at hA hF)
          go_wp2_with (first | ((with_reducible refine gst ?_); refine wT hA ?_; clear hF hA; intro w1 hA hF; (try simp only [uY] at hA hF)) | ((with_reducible refine gbx ?_); refine wC hA ?_; clear hF hA; intro b1 w1 hA hb1 hF; (try simp only [uY] at hA hF)))
          go_roundg (gk - 1)
          case measure => have := hk'.out; omega
          case rel => exact ⟨ds ++ [⟨sf, sn, ⟨c0, c1, c2, c3, c4, c5, c6, c7⟩⟩], _, hA.pick (by with_reducible repeat (first | exact Picks.nil | refine Picks.cons sR ?_)), hsub'.out, hst.out, by have := hk'.out; simp; omega⟩
theorem ask_any {w : World} {p m : Nat} {es : List En} (h : Sep [IxP p m es] w) (c : Cm) (hf : c.foot.size ≤ 1000) (hp : c.path.size ≤ 1000) (hes : ∀ e ∈ es, e.foot.size ≤ 1000) (hl : es.length ≤ 1000000) (r t : Int) :
 Calls Tryz.prog 13 #[.pointer (some ⟨p, 0, none⟩), c.val, .agg #[.int .i64 r, .int .i64 t]] w fun e w' => e = .returned (askE es (keyC c) r t).val ∧ At [IxP p m es] w [IxP p m es] w' := by
 have hof := fun w => Cmd.of_any c w hf hp
 have hsz := Cmd.foot_size c hf hp
 unfold askE keyC
 cases hb : (footC c).2 with
 | false =>
  rw [hb] at hof
  simp only [Bool.false_eq_true, if_false] at hof ⊢
  have := ask_core h c.kind c.num c.foot c.req c.path c.mode c.n c.time hof (by decide) hes hl r t
  rw [Bool.false_and, askF_false] at this
  exact this
 | true =>
  rw [hb] at hof
  simp only [if_true] at hof ⊢
  have := ask_core h c.kind c.num c.foot c.req c.path c.mode c.n c.time hof hsz hes hl r t
  rw [Bool.true_and] at this
  exact this
end Go.Proofs.YtgbpfgdjnhbcgaaGreatDoor.Ix
end
section
namespace Go.Proofs.YtgbpfgdjnhbcgaaGreatDoor.Ix
open Go.RowKit
open Go.Maps (Keyed)
open Path (bl rightB overB)
open Attr (A8 rightI)
open Cmd (Cm keyC footC through0)
attribute [-go_sem] run_eql_struct run_neq_struct run_eqGuard_agg
def OpsAt (W : World) (v : Value) (os : List Op12) : Prop :=
 ∃ sa sc, v = .slice sa os.length sc ∧ ∀ j (hj : j < os.length), ∃ b off, sa = some ⟨b, off, none⟩ ∧
  (∀ k u, os[j].cells[k]? = some u → W.cell? ⟨b, off + j * 22 + k, none⟩ = some u) ∧
  (0 ≤ os[j].c.num ∧ os[j].c.num < big64 ∧ 0 ≤ os[j].e.num ∧ os[j].e.num < big64)
theorem old_cell {W w : World} (h : (Part.old W).holds w) {b off : Nat} {u : Value} (hc : W.cell? ⟨b, off, none⟩ = some u) : w.cell? ⟨b, off, none⟩ = some u := by
 have hb : b < W.heap.size := by
  rcases Nat.lt_or_ge b W.heap.size with q | q
  · exact q
  · simp [World.cell?, Array.getElem?_eq_none q] at hc
 have := h b hb
 rw [← hc]
 simp [World.cell?, this]
def okB (o : Op12) : Bool := smallB o.c && decide (o.e.foot.size ≤ 200)
def fitsB (os : List Op12) (most : Int) : Bool := os.all okB && decide ((os.length : Int) ≤ most)
theorem okB_ok {o : Op12} (h : okB o = true) (hn : 0 ≤ o.c.num ∧ o.c.num < big64 ∧ 0 ≤ o.e.num ∧ o.e.num < big64) : o.ok := by
 unfold okB smallB at h
 simp at h
 exact ⟨by omega, by omega, hn.1, hn.2.1, by omega, hn.2.2.1, hn.2.2.2⟩
def FitRel (W w : World) (os : List Op12) (k : Nat) (u : Value) (wr : World) : Prop :=
 ∃ i : Nat, u = .int .i64 i ∧ i + k = os.length ∧ At [Part.old W] w [Part.old W] wr ∧ ∀ o ∈ os.take i, okB o = true
theorem fits_any {W w : World} {v : Value} {os : List Op12} (h : Sep [Part.old W] w) (ho : OpsAt W v os) (most : Int) (hl : os.length ≤ 9223372036854775807) :
 Calls Tryz.prog 6 #[v, .int .i64 most] w fun e w' => e = .returned (.bool (fitsB os most)) ∧ At [Part.old W] w [Part.old W] w' := by
 obtain ⟨sa, sc, rfl, hel⟩ := ho
 have hel' := Lib.hid hel
 have hA := At.start h
 have hF := hA.facts
 clear h hel
 have hF := hA.facts; (try simp only [uZ] at hA hF)
 go_enter Tryz.func6, Tryz.ntmps6
 go_wp2_with (first | ((with_reducible refine gst ?_); refine wT hA ?_; clear hF hA; intro w1 hA hF; (try simp only [uZ] at hA hF)) | ((with_reducible refine gbx ?_); refine wC hA ?_; clear hF hA; intro b1 w1 hA hb1 hF; (try simp only [uZ] at hA hF)))
 try go_frame
 go_loopg [9] os.length (FitRel W w os)
 case atStart => exact ⟨0, rfl, by simp, hA, by simp⟩
 case round =>
  obtain ⟨i, rfl, hik, hB, hno⟩ := hrel
  have hno' := Lib.hid hno
  clear hF hA hno; have hA := hB; clear hB
  by_cases hi : i < os.length
  · obtain ⟨b, off, rfl, hce, _⟩ := hel'.out i hi
    have hm := fun (q : okB os[i] = true) => show ∀ o ∈ os.take (i + 1), okB o = true from fun o ho => by
     rw [List.take_succ_eq_append_getElem hi] at ho
     rcases List.mem_append.1 ho with ho | ho
     · exact hno'.out o ho
     · rw [List.mem_singleton.1 ho]; exact q
    have hbad := fun (q : okB os[i] = false) => show fitsB os most = false by
     unfold fitsB
     rw [Bool.and_eq_false_iff]
     left
     simp only [List.all_eq_false]
     exact ⟨os[i], List.getElem_mem hi, by simpa using q⟩
    obtain ⟨o, hoi⟩ : ∃ o, os[i] = o := ⟨_, rfl⟩
    simp only [hoi] at hce hm hbad
    clear hoi
    obtain ⟨kd, ⟨kind, num, foot, req, path, mode, n, time⟩, r, t, q, ⟨ef, en, ⟨e0, e1, e2, e3, e4, e5, e6, e7⟩⟩⟩ := o
    have hr22 : ∀ (k : Nat) u, ([.int .i64 kd, .int .i64 kind, .int .u64 num, .string foot, .int .u64 req, .string path, .int .i64 mode, .int .u64 n, .int .i64 time, .int .i64 r, .int .i64 t, .int .i64 q, .string ef, .int .u64 en, .int .i64 e0, .int .i64 e1, .int .i64 e2, .int .i64 e3, .int .i64 e4, .int .i64 e5, .int .i64 e6, .int .i64 e7] : List Value)[k]? = some u → wr.cell? ⟨b, off + i * 22 + k, none⟩ = some u := fun k u hk => old_cell (hA.get (A := Part.old W) sR) (hce k u hk)
    have hr22' := Lib.hid hr22
    clear hce hr22
    have hsm := fun w => small_any ⟨kind, num, foot, req, path, mode, n, time⟩ w
    simp only [Cm.val] at hsm
    unfold okB at hm hbad
    simp only at hm hbad
    generalize smallB ⟨kind, num, foot, req, path, mode, n, time⟩ = sb at *
    have hF := hA.facts; (try simp only [uZ] at hA hF)
    cases sb
    · have hb' := Lib.hid (hbad (by simp))
      clear hm hbad
      go_wp2_with (first | ((with_reducible refine gal ?_); refine wG 44 [.int .i64 0, .int .i64 0, .int .u64 0, .string .empty, .int .u64 0, .string .empty, .int .i64 0, .int .u64 0, .int .i64 0, .int .i64 0, .int .i64 0, .int .i64 0, .string .empty, .int .u64 0, .int .i64 0, .int .i64 0, .int .i64 0, .int .i64 0, .int .i64 0, .int .i64 0, .int .i64 0, .int .i64 0] hA ?_; clear hF hA; intro b6 w1 hA hb6 hF; (try simp only [uZ] at hA hF)) | ((with_reducible show wpList _ _ _ ({ dst := some 12, op := Op.load _ _, type := _, pos := _, after := _, guard := _ } :: _) _ _); refine wpList_loadRow_at (vs := [.int .i64 kd, .int .i64 kind, .int .u64 num, .string foot, .int .u64 req, .string path, .int .i64 mode, .int .u64 n, .int .i64 time, .int .i64 r, .int .i64 t, .int .i64 q, .string ef, .int .u64 en, .int .i64 e0, .int .i64 e1, .int .i64 e2, .int .i64 e3, .int .i64 e4, .int .i64 e5, .int .i64 e6, .int .i64 e7]) rfl rfl (by (try simp only [Act.eval, eV]) <;> exact rfl) hr22'.out (by kernel_rfl) (by kernel_rfl) ?_) | ((with_reducible show wpList _ _ _ ({ dst := _, op := Op.store _ _ _, type := _, pos := _, after := _, guard := _ } :: _) _ _); refine wpList_storeAll_at (b := b6) (vs := [.int .i64 kd, .int .i64 kind, .int .u64 num, .string foot, .int .u64 req, .string path, .int .i64 mode, .int .u64 n, .int .i64 time, .int .i64 r, .int .i64 t, .int .i64 q, .string ef, .int .u64 en, .int .i64 e0, .int .i64 e1, .int .i64 e2, .int .i64 e3, .int .i64 e4, .int .i64 e5, .int .i64 e6, .int .i64 e7]) rfl rfl (by (try simp only [Act.eval, eV]) <;> exact rfl) (by (try simp only [Act.eval, eV]) <;> exact rfl) (by kernel_rfl) hA sR (by kernel_rfl) rfl rfl ?_; intro w1 hB; clear hF hA; have hA := hB; clear hB; have hF := hA.facts; (try simp only [uZ] at hA hF)) | ((with_reducible refine gst ?_); refine wT hA ?_; clear hF hA; intro w1 hA hF; (try simp only [uZ] at hA hF)) | ((with_reducible refine gbx ?_); refine wC hA ?_; clear hF hA; intro b1 w1 hA hb1 hF; (try simp only [uZ] at hA hF)))
      refine (hsm _).mono ?_
      clear hsm
      rintro e w1 ⟨rfl, hx⟩
      have hB := hA.ext hx
      clear hF hA hx; have hA := hB; clear hB
      have hF := hA.facts; (try simp only [uZ] at hA hF)
      go_wp2_with (first | ((with_reducible refine gst ?_); refine wT hA ?_; clear hF hA; intro w1 hA hF; (try simp only [uZ] at hA hF)) | ((with_reducible refine gbx ?_); refine wC hA ?_; clear hF hA; intro b1 w1 hA hb1 hF; (try simp only [uZ] at hA hF)))
      go_ret
      exact ⟨by rw [hb'.out]; rfl, hA.only1 sR⟩
    · by_cases hq : ef.size ≤ 200
      · have hm' := Lib.hid (hm (by simp [hq]))
        have hq' : ¬ (200 : Int) < (ef.size : Int) := by omega
        clear hm hbad
        go_wp2_with (first | ((with_reducible refine gal ?_); refine wG 44 [.int .i64 0, .int .i64 0, .int .u64 0, .string .empty, .int .u64 0, .string .empty, .int .i64 0, .int .u64 0, .int .i64 0, .int .i64 0, .int .i64 0, .int .i64 0, .string .empty, .int .u64 0, .int .i64 0, .int .i64 0, .int .i64 0, .int .i64 0, .int .i64 0, .int .i64 0, .int .i64 0, .int .i64 0] hA ?_; clear hF hA; intro b6 w1 hA hb6 hF; (try simp only [uZ] at hA hF)) | ((with_reducible show wpList _ _ _ ({ dst := some 12, op := Op.load _ _, type := _, pos := _, after := _, guard := _ } :: _) _ _); refine wpList_loadRow_at (vs := [.int .i64 kd, .int .i64 kind, .int .u64 num, .string foot, .int .u64 req, .string path, .int .i64 mode, .int .u64 n, .int .i64 time, .int .i64 r, .int .i64 t, .int .i64 q, .string ef, .int .u64 en, .int .i64 e0, .int .i64 e1, .int .i64 e2, .int .i64 e3, .int .i64 e4, .int .i64 e5, .int .i64 e6, .int .i64 e7]) rfl rfl (by (try simp only [Act.eval, eV]) <;> exact rfl) hr22'.out (by kernel_rfl) (by kernel_rfl) ?_) | ((with_reducible show wpList _ _ _ ({ dst := _, op := Op.store _ _ _, type := _, pos := _, after := _, guard := _ } :: _) _ _); refine wpList_storeAll_at (b := b6) (vs := [.int .i64 kd, .int .i64 kind, .int .u64 num, .string foot, .int .u64 req, .string path, .int .i64 mode, .int .u64 n, .int .i64 time, .int .i64 r, .int .i64 t, .int .i64 q, .string ef, .int .u64 en, .int .i64 e0, .int .i64 e1, .int .i64 e2, .int .i64 e3, .int .i64 e4, .int .i64 e5, .int .i64 e6, .int .i64 e7]) rfl rfl (by (try simp only [Act.eval, eV]) <;> exact rfl) (by (try simp only [Act.eval, eV]) <;> exact rfl) (by kernel_rfl) hA sR (by kernel_rfl) rfl rfl ?_; intro w1 hB; clear hF hA; have hA := hB; clear hB; have hF := hA.facts; (try simp only [uZ] at hA hF)) | ((with_reducible refine gst ?_); refine wT hA ?_; clear hF hA; intro w1 hA hF; (try simp only [uZ] at hA hF)) | ((with_reducible refine gbx ?_); refine wC hA ?_; clear hF hA; intro b1 w1 hA hb1 hF; (try simp only [uZ] at hA hF)))
        refine (hsm _).mono ?_
        clear hsm
        rintro e w1 ⟨rfl, hx⟩
        have hB := hA.ext hx
        clear hF hA hx; have hA := hB; clear hB
        have hF := hA.facts; (try simp only [uZ] at hA hF)
        go_wp2_with (first | ((with_reducible refine gst ?_); refine wT hA ?_; clear hF hA; intro w1 hA hF; (try simp only [uZ] at hA hF)) | ((with_reducible refine gbx ?_); refine wC hA ?_; clear hF hA; intro b1 w1 hA hb1 hF; (try simp only [uZ] at hA hF)))
        go_roundg (gk - 1)
        case measure => omega
        case rel => exact ⟨i + 1, by simp, by omega, hA.pick (by with_reducible repeat (first | exact Picks.nil | refine Picks.cons sR ?_)), hm'.out⟩
      · have hb' := Lib.hid (hbad (by simp [hq]))
        have hq' : (200 : Int) < (ef.size : Int) := by omega
        clear hm hbad
        go_wp2_with (first | ((with_reducible refine gal ?_); refine wG 44 [.int .i64 0, .int .i64 0, .int .u64 0, .string .empty, .int .u64 0, .string .empty, .int .i64 0, .int .u64 0, .int .i64 0, .int .i64 0, .int .i64 0, .int .i64 0, .string .empty, .int .u64 0, .int .i64 0, .int .i64 0, .int .i64 0, .int .i64 0, .int .i64 0, .int .i64 0, .int .i64 0, .int .i64 0] hA ?_; clear hF hA; intro b6 w1 hA hb6 hF; (try simp only [uZ] at hA hF)) | ((with_reducible show wpList _ _ _ ({ dst := some 12, op := Op.load _ _, type := _, pos := _, after := _, guard := _ } :: _) _ _); refine wpList_loadRow_at (vs := [.int .i64 kd, .int .i64 kind, .int .u64 num, .string foot, .int .u64 req, .string path, .int .i64 mode, .int .u64 n, .int .i64 time, .int .i64 r, .int .i64 t, .int .i64 q, .string ef, .int .u64 en, .int .i64 e0, .int .i64 e1, .int .i64 e2, .int .i64 e3, .int .i64 e4, .int .i64 e5, .int .i64 e6, .int .i64 e7]) rfl rfl (by (try simp only [Act.eval, eV]) <;> exact rfl) hr22'.out (by kernel_rfl) (by kernel_rfl) ?_) | ((with_reducible show wpList _ _ _ ({ dst := _, op := Op.store _ _ _, type := _, pos := _, after := _, guard := _ } :: _) _ _); refine wpList_storeAll_at (b := b6) (vs := [.int .i64 kd, .int .i64 kind, .int .u64 num, .string foot, .int .u64 req, .string path, .int .i64 mode, .int .u64 n, .int .i64 time, .int .i64 r, .int .i64 t, .int .i64 q, .string ef, .int .u64 en, .int .i64 e0, .int .i64 e1, .int .i64 e2, .int .i64 e3, .int .i64 e4, .int .i64 e5, .int .i64 e6, .int .i64 e7]) rfl rfl (by (try simp only [Act.eval, eV]) <;> exact rfl) (by (try simp only [Act.eval, eV]) <;> exact rfl) (by kernel_rfl) hA sR (by kernel_rfl) rfl rfl ?_; intro w1 hB; clear hF hA; have hA := hB; clear hB; have hF := hA.facts; (try simp only [uZ] at hA hF)) | ((with_reducible refine gst ?_); refine wT hA ?_; clear hF hA; intro w1 hA hF; (try simp only [uZ] at hA hF)) | ((with_reducible refine gbx ?_); refine wC hA ?_; clear hF hA; intro b1 w1 hA hb1 hF; (try simp only [uZ] at hA hF)))
        refine (hsm _).mono ?_
        clear hsm
        rintro e w1 ⟨rfl, hx⟩
        have hB := hA.ext hx
        clear hF hA hx; have hA := hB; clear hB
        have hF := hA.facts; (try simp only [uZ] at hA hF)
        go_wp2_with (first | ((with_reducible refine gst ?_); refine wT hA ?_; clear hF hA; intro w1 hA hF; (try simp only [uZ] at hA hF)) | ((with_reducible refine gbx ?_); refine wC hA ?_; clear hF hA; intro b1 w1 hA hb1 hF; (try simp only [uZ] at hA hF)))
        go_ret
        exact ⟨by rw [hb'.out]; rfl, hA.only1 sR⟩
  · have hall : os.all okB = true := by
     rw [List.all_eq_true]
     intro o ho
     exact hno'.out o (by rw [List.take_of_length_le (by omega)]; exact ho)
    have hall' := Lib.hid hall
    clear hall
    have hF := hA.facts; (try simp only [uZ] at hA hF)
    go_wp2_with (first | ((with_reducible refine gst ?_); refine wT hA ?_; clear hF hA; intro w1 hA hF; (try simp only [uZ] at hA hF)) | ((with_reducible refine gbx ?_); refine wC hA ?_; clear hF hA; intro b1 w1 hA hb1 hF; (try simp only [uZ] at hA hF)))
    go_ret
    exact ⟨by unfold fitsB; rw [hall'.out]; rfl, hA.only1 sR⟩
def xC : Cm := ⟨4, 1, ⟨#[97]⟩, 1, ⟨#[97, 47, 98]⟩, 1, 0, 0⟩
def xD : Cm := ⟨2, 2, ⟨#[97]⟩, 1, ⟨#[]⟩, 0, 0, 0⟩
def xE : List En := [⟨⟨#[97, 47, 98]⟩, 1, ⟨7, 0, 0, 5, 0, 0, 0, 0⟩⟩]
theorem ex1 : noteE [] (keyC xC) 2 4 7 = xE := by kernel_rfl
theorem ex2 : askE xE (keyC xD) 0 3 = ⟨8, 3, 0, 5, 0, 0, 0, 0⟩ := by kernel_rfl
theorem anchor_any (w : World) : Calls Tryz.prog 5 #[] w fun e w' => e = .returned (.bool true) ∧ Ext w w' := by
 have hA : At [] w [] w := At.start (L0 := []) trivial
 have hF := hA.facts
 have heq : ∀ w, (binOp .eql 40 (.agg #[.int .i64 8, .int .i64 3, .int .i64 0, .int .i64 5, .int .i64 0, .int .i64 0, .int .i64 0, .int .i64 0]) (.agg #[.int .i64 8, .int .i64 3, .int .i64 0, .int .i64 5, .int .i64 0, .int .i64 0, .int .i64 0, .int .i64 0])).run Tryz.prog w = .ok (.bool true) w := fun w => by kernel_rfl
 have hgu : ∀ (op : BinOp) (x y : Operand) w, (eqGuard op 40 x y (.agg #[.int .i64 8, .int .i64 3, .int .i64 0, .int .i64 5, .int .i64 0, .int .i64 0, .int .i64 0, .int .i64 0]) (.agg #[.int .i64 8, .int .i64 3, .int .i64 0, .int .i64 5, .int .i64 0, .int .i64 0, .int .i64 0, .int .i64 0])).run Tryz.prog w = .ok () w := fun op x y w => run_eqGuard_agg _ _ _ _ _ _ _ (by kernel_rfl)
 go_enter Tryz.func5, Tryz.ntmps5
 go_wp2_with fail
 refine (new_any _).mono ?_
 rintro e w1 ⟨p, m, rfl, hT⟩
 have hB := hA.call0 hT
 clear hF hA hT; have hA := hB; clear hB
 simp only [List.append_nil] at hA
 have hF := hA.facts; (try simp only [uZ] at hA hF)
 go_wp2_with (first | ((with_reducible refine gst ?_); refine wT hA ?_; clear hF hA; intro w1 hA hF; (try simp only [uZ] at hA hF)) | ((with_reducible refine gbx ?_); refine wC hA ?_; clear hF hA; intro b1 w1 hA hb1 hF; (try simp only [uZ] at hA hF)))
 refine (note_any (hA.sep1 (A := IxP p m []) sR) xC (by decide) (by decide) (by decide) (by unfold big64; decide) 2 4 7).mono ?_
 rw [ex1]
 rintro e w1 ⟨rfl, hT⟩; have hB := hA.call1 sR hT; clear hF hA hT; have hA := hB; clear hB; have hF := hA.facts; (try simp only [uZ] at hA hF)
 go_wp2_with (first | ((with_reducible refine gst ?_); refine wT hA ?_; clear hF hA; intro w1 hA hF; (try simp only [uZ] at hA hF)) | ((with_reducible refine gbx ?_); refine wC hA ?_; clear hF hA; intro b1 w1 hA hb1 hF; (try simp only [uZ] at hA hF)))
 refine (ask_any (hA.sep1 (A := IxP p m xE) sR) xD (by decide) (by decide) (by intro e he; simp only [xE, List.mem_singleton] at he; subst he; decide) (by decide) 0 3).mono ?_
 rw [ex2]
 rintro e w1 ⟨rfl, hT⟩; have hB := hA.call1 sR hT; clear hF hA hT; have hA := hB; clear hB; have hF := hA.facts; (try simp only [uZ] at hA hF)
 simp only [A8.val] at *
 go_wp2_with (first | ((with_reducible refine gal ?_); refine wG 40 [.int .i64 0, .int .i64 0, .int .i64 0, .int .i64 0, .int .i64 0, .int .i64 0, .int .i64 0, .int .i64 0] hA ?_; clear hF hA; intro bA w1 hA hbA hF; (try simp only [uZ] at hA hF)) | ((with_reducible refine gst ?_); refine wT hA ?_; clear hF hA; intro w1 hA hF; (try simp only [uZ] at hA hF)) | ((with_reducible refine gbx ?_); refine wC hA ?_; clear hF hA; intro b1 w1 hA hb1 hF; (try simp only [uZ] at hA hF)))
 go_ret
 exact ⟨rfl, hA.toExt⟩
end Go.Proofs.YtgbpfgdjnhbcgaaGreatDoor.Ix
end
section
namespace Go.Proofs.YtgbpfgdjnhbcgaaGreatDoor.Cmd
open Go.RowKit
open Path (bl rightB overB)
theorem nilB (f : ByteArray) : f.toList = [] ↔ f = .empty := by
 have h := same_ba f .empty
 rw [show ByteArray.empty.toList = [] from by kernel_rfl] at h
 constructor
 · intro q; rw [q] at h; simpa using h.symm
 · intro q; rw [decide_eq_true q] at h; simpa using h
theorem nil_if (f : ByteArray) : if decide (f ≠ .empty) then ¬ f.toList = [] else f.toList = [] := by
 by_cases h : f = .empty
 · rw [decide_eq_false (by simpa using h), if_neg (by decide)]; exact (nilB f).2 h
 · rw [decide_eq_true h, if_pos rfl]; exact fun q => h ((nilB f).1 q)
theorem rightR_nn (c : Cm) (hk : c.kind < 0 ∨ 8 < c.kind) (w : World) : Calls Tryz.prog 61 #[c.val] w fun e w' => e = .returned (.bool false) ∧ Ext w w' := by
 have hA : At [] w [] w := At.start (L0 := []) trivial
 have hF := hA.facts
 obtain ⟨kind, num, foot, req, path, mode, n, time⟩ := c
 simp only [Cm.val] at *
 have hF := hA.facts; (try simp only [uY] at hA hF)
 rcases Int.lt_or_le kind 0 with h | h
 · clear hk
   go_enter Tryz.func61, Tryz.ntmps61
   go_wp2_with (first | ((with_reducible refine gbx ?_); refine wH 57 [.int .i64 kind, .int .u64 num, .string foot, .int .u64 req, .string path, .int .i64 mode, .int .u64 n, .int .i64 time] hA ?_; clear hF hA; intro bX w1 hA hbX hF; (try simp only [uY] at hA hF)) | ((with_reducible refine gst ?_); refine wT hA ?_; clear hF hA; intro w1 hA hF; (try simp only [uY] at hA hF)) | ((with_reducible refine gbx ?_); refine wC hA ?_; clear hF hA; intro b1 w1 hA hb1 hF; (try simp only [uY] at hA hF)))
   go_ret
   exact ⟨rfl, hA.toExt⟩
 · have h8 : 8 < kind := by omega
   have e0 : decide (kind < 0) = false := decide_eq_false (by omega)
   clear hk h
   go_enter Tryz.func61, Tryz.ntmps61
   go_wp2_with (first | ((with_reducible refine gbx ?_); refine wH 57 [.int .i64 kind, .int .u64 num, .string foot, .int .u64 req, .string path, .int .i64 mode, .int .u64 n, .int .i64 time] hA ?_; clear hF hA; intro bX w1 hA hbX hF; (try simp only [uY] at hA hF)) | ((with_reducible refine gst ?_); refine wT hA ?_; clear hF hA; intro w1 hA hF; (try simp only [uY] at hA hF)) | ((with_reducible refine gbx ?_); refine wC hA ?_; clear hF hA; intro b1 w1 hA hb1 hF; (try simp only [uY] at hA hF)))
   go_ret
   exact ⟨rfl, hA.toExt⟩
theorem refRight_is (c : Cm) (hf : c.foot.size ≤ 1000) (hp : c.path.size ≤ 1000) (w : World) : Calls Tryz.prog 61 #[c.val] w fun e w' => e = .returned (.bool (rightC c)) ∧ Ext w w' := by
 obtain ⟨kind, num, foot, req, path, mode, n, time⟩ := c
 simp only at hf hp
 by_cases h0 : kind = 0
 · subst h0
   refine (rightR_0 num foot req path mode n time w rfl (nil_if foot) rfl (nil_if path) rfl rfl rfl rfl rfl).mono ?_
   rintro e w1 ⟨rfl, hx⟩
   refine ⟨congrArg (fun b => Ending.returned (.bool b)) ?_, hx⟩
   rw [Bool.eq_iff_iff]
   simp [rightC, hasOf, rightH, bareC, mostN, Cm.mk.injEq]
   try grind
 by_cases h1 : kind = 1
 · subst h1
   refine (rightR_1 num foot req path mode n time w (nil_if path) rfl hf rfl rfl rfl rfl rfl (fun h => decide_eq_true (by have := of_decide_eq_true h; omega)) rfl rfl).mono ?_
   rintro e w1 ⟨rfl, hx⟩
   refine ⟨congrArg (fun b => Ending.returned (.bool b)) ?_, hx⟩
   rw [Bool.eq_iff_iff]
   simp [rightC, hasOf, rightH, bareC, mostN, Cm.mk.injEq]
   try grind
 by_cases h2 : kind = 2
 · subst h2
   refine (rightR_2 num foot req path mode n time w (nil_if path) rfl rfl rfl hf rfl rfl rfl rfl).mono ?_
   rintro e w1 ⟨rfl, hx⟩
   refine ⟨congrArg (fun b => Ending.returned (.bool b)) ?_, hx⟩
   rw [Bool.eq_iff_iff]
   simp [rightC, hasOf, rightH, bareC, mostN, Cm.mk.injEq]
   try grind
 by_cases h3 : kind = 3
 · subst h3
   refine (rightR_3 num foot req path mode n time w (nil_if path) rfl rfl hf rfl rfl rfl rfl).mono ?_
   rintro e w1 ⟨rfl, hx⟩
   refine ⟨congrArg (fun b => Ending.returned (.bool b)) ?_, hx⟩
   rw [Bool.eq_iff_iff]
   simp [rightC, hasOf, rightH, bareC, mostN, Cm.mk.injEq]
   try grind
 by_cases h4 : kind = 4
 · subst h4
   refine (rightR_4 num foot req path mode n time w rfl rfl hf rfl rfl hp rfl rfl rfl rfl rfl).mono ?_
   rintro e w1 ⟨rfl, hx⟩
   refine ⟨congrArg (fun b => Ending.returned (.bool b)) ?_, hx⟩
   rw [Bool.eq_iff_iff]
   simp [rightC, hasOf, rightH, bareC, mostN, Cm.mk.injEq]
   try grind
 by_cases h5 : kind = 5
 · subst h5
   refine (rightR_5 num foot req path mode n time w rfl rfl hf rfl rfl hp rfl rfl rfl rfl rfl).mono ?_
   rintro e w1 ⟨rfl, hx⟩
   refine ⟨congrArg (fun b => Ending.returned (.bool b)) ?_, hx⟩
   rw [Bool.eq_iff_iff]
   simp [rightC, hasOf, rightH, bareC, mostN, Cm.mk.injEq]
   try grind
 by_cases h6 : kind = 6
 · subst h6
   refine (rightR_6 num foot req path mode n time w rfl rfl rfl hf rfl rfl hp rfl rfl rfl).mono ?_
   rintro e w1 ⟨rfl, hx⟩
   refine ⟨congrArg (fun b => Ending.returned (.bool b)) ?_, hx⟩
   rw [Bool.eq_iff_iff]
   simp [rightC, hasOf, rightH, bareC, mostN, Cm.mk.injEq]
   try grind
 by_cases h7 : kind = 7
 · subst h7
   refine (rightR_7 num foot req path mode n time w rfl rfl hf rfl rfl hp rfl rfl rfl rfl rfl).mono ?_
   rintro e w1 ⟨rfl, hx⟩
   refine ⟨congrArg (fun b => Ending.returned (.bool b)) ?_, hx⟩
   rw [Bool.eq_iff_iff]
   simp [rightC, hasOf, rightH, bareC, mostN, Cm.mk.injEq]
   try grind
 by_cases h8 : kind = 8
 · subst h8
   refine (rightR_8 num foot req path mode n time w rfl (nil_if path) rfl rfl hf rfl rfl rfl).mono ?_
   rintro e w1 ⟨rfl, hx⟩
   refine ⟨congrArg (fun b => Ending.returned (.bool b)) ?_, hx⟩
   rw [Bool.eq_iff_iff]
   simp [rightC, hasOf, rightH, bareC, mostN, Cm.mk.injEq]
   try grind
 have e : rightC ⟨kind, num, foot, req, path, mode, n, time⟩ = false := by
  unfold rightC hasOf
  simp only [h0, h1, h2, h3, h4, h5, h6, h7, h8, if_false]
 rw [e]
 exact rightR_nn ⟨kind, num, foot, req, path, mode, n, time⟩ (by show kind < 0 ∨ 8 < kind; omega) w
end Go.Proofs.YtgbpfgdjnhbcgaaGreatDoor.Cmd
end
section
namespace Go.Proofs.YtgbpfgdjnhbcgaaGreatDoor.Cmd
open Path (bl rightB overB)
def clashB (a b : Cm) : Bool := (footC a).2 && (footC b).2 && ((a.num == b.num) || overB (bl (footC a).1) (bl (footC b).1))
end Go.Proofs.YtgbpfgdjnhbcgaaGreatDoor.Cmd
end
section
namespace Go.Proofs.YtgbpfgdjnhbcgaaGreatDoor.Ix
open Go.RowKit
open Go.Maps (Keyed)
open Path (bl rightB overB)
open Attr (A8 rightI)
open Cmd (Cm keyC footC through0 clashB)
attribute [-go_sem] run_eql_struct run_neq_struct run_eqGuard_agg
end Go.Proofs.YtgbpfgdjnhbcgaaGreatDoor.Ix
end
section
namespace Go.Proofs.YtgbpfgdjnhbcgaaGreatDoor.Ix
open Path (bl rightB overB)
open Attr (A8 rightI)
open Cmd (Cm keyC footC clashB)
end Go.Proofs.YtgbpfgdjnhbcgaaGreatDoor.Ix
end
section
namespace Go.Proofs.YtgbpfgdjnhbcgaaGreatDoor.Ix
open Path (bl rightB overB)
open Attr (A8 rightI)
open Cmd (Cm keyC footC)
def opN (o : Op12) : Option ((ByteArray × Int) × A8) :=
 if o.kind = 1 then (match keyC o.c with
  | some k => if rightI o.r o.t then some (k, noteA o.r o.t o.q) else none
  | none => none)
 else if o.kind = 2 then (if rightB (bl o.e.foot) && o.e.a.right then some ((o.e.foot, o.e.num), o.e.a) else none)
 else none
theorem step_opN (es : List En) (o : Op12) : stepE es o = match opN o with
 | some (k, v) => mergeE es k.1 k.2 v
 | none => es := by
 unfold stepE opN noteE addE
 by_cases h1 : o.kind = 1
 · simp only [h1, if_true]
   cases hk : keyC o.c with
   | none => rfl
   | some k =>
    obtain ⟨f, n⟩ := k
    simp only []
    by_cases h2 : rightI o.r o.t = true
    · simp only [h2, if_true]
    · simp only [h2, if_false, Bool.false_eq_true]
 · simp only [h1, if_false]
   by_cases h2 : o.kind = 2
   · simp only [h2, if_true]
     by_cases h3 : (rightB (bl o.e.foot) && o.e.a.right) = true
     · simp only [h3, if_true]
     · simp only [h3, if_false, Bool.false_eq_true]
   · simp only [h2, if_false]
def view (es : List En) (k : ByteArray × Int) : Option A8 := (find es k.1 k.2).map (·.a)
def upd (V : ByteArray × Int → Option A8) (k : ByteArray × Int) (v : A8) : ByteArray × Int → Option A8 := fun x => if x = k then some (((V k).getD A8.zero).merge v) else V x
theorem is_iff {e : En} {f : ByteArray} {n : Int} : e.is f n = true ↔ e.foot = f ∧ e.num = n := by simp [En.is]
theorem view_cons (e : En) (es : List En) (k : ByteArray × Int) : view (e :: es) k = if k = (e.foot, e.num) then some e.a else view es k := by
 unfold view find
 rw [List.find?_cons]
 by_cases h : k = (e.foot, e.num)
 · subst h
   have : e.is e.foot e.num = true := is_iff.2 ⟨rfl, rfl⟩
   simp [this]
 · have : e.is k.1 k.2 = false := by
    cases hq : e.is k.1 k.2 with
    | false => rfl
    | true => exact absurd (Prod.ext (is_iff.1 hq).1.symm (is_iff.1 hq).2.symm) h
   simp [this, h]
theorem view_merge (k : ByteArray × Int) (v : A8) : ∀ es : List En, view (mergeE es k.1 k.2 v) = upd (view es) k v
 | [] => by
  funext x
  unfold mergeE
  rw [view_cons]
  unfold upd
  by_cases h : x = k
  · subst h; simp [view, find]
  · have : ¬ x = (k.1, k.2) := h
    simp [this, h]
 | e :: es => by
  funext x
  have ih := congrFun (view_merge k v es) x
  unfold mergeE
  by_cases hq : e.is k.1 k.2 = true
  · have h1 := is_iff.1 hq
    have hk : k = (e.foot, e.num) := Prod.ext h1.1.symm h1.2.symm
    rw [if_pos hq, view_cons]
    unfold upd
    rw [view_cons, view_cons]
    by_cases h : x = k
    · have hx : x = (k.1, k.2) := h
      rw [if_pos hx, if_pos h, if_pos hk]
      rfl
    · have hx : ¬ x = (k.1, k.2) := h
      rw [if_neg hx, if_neg h, if_neg (by rw [← hk]; exact h)]
  · have hk : ¬ k = (e.foot, e.num) := fun q => hq (is_iff.2 (by rw [q]; exact ⟨rfl, rfl⟩))
    rw [if_neg hq, view_cons, ih]
    unfold upd
    rw [view_cons, view_cons, if_neg hk]
    by_cases h : x = k
    · rw [if_pos h, if_pos h, if_neg (by rw [h]; exact hk)]
    · rw [if_neg h, if_neg h]
def En.k (e : En) : ByteArray × Int := (e.foot, e.num)
def Kn (es : List En) : Prop := (es.map En.k).Nodup
theorem kn_merge {es : List En} (h : Kn es) (f : ByteArray) (n : Int) (v : A8) : Kn (mergeE es f n v) := by
 cases hq : find es f n with
 | none =>
  rw [merge_none hq]
  unfold Kn
  rw [List.map_append, List.nodup_append]
  refine ⟨h, by simp, fun a ha b hb => ?_⟩
  obtain ⟨e, he, rfl⟩ := List.mem_map.1 ha
  simp only [List.map_cons, List.map_nil, List.mem_singleton] at hb
  subst hb
  intro q
  have h1 := List.find?_eq_none.1 hq e he
  simp only [En.k, Prod.mk.injEq] at q
  exact h1 (is_iff.2 q)
 | some e =>
  obtain ⟨l1, l2, rfl, rfl, rfl, hne⟩ := find_split hq
  rw [merge_mid (is_iff.2 ⟨rfl, rfl⟩) hne]
  unfold Kn at h ⊢
  simpa [En.k] using h
theorem mem_view : ∀ {es : List En}, Kn es → ∀ e : En, e ∈ es ↔ view es e.k = some e.a
 | [], _, e => by simp [view, find]
 | x :: es, h, e => by
  have h' : x.k ∉ es.map En.k ∧ Kn es := by simpa [Kn] using h
  rw [view_cons, List.mem_cons]
  by_cases hk : e.k = (x.foot, x.num)
  · rw [if_pos hk]
    constructor
    · rintro (rfl | he)
      · rfl
      · exact absurd (List.mem_map.2 ⟨e, he, hk⟩) h'.1
    · intro q
      left
      obtain ⟨f, n, a⟩ := e
      obtain ⟨g, m, b⟩ := x
      simp only [En.k, Prod.mk.injEq] at hk
      simp only [Option.some.injEq] at q
      rw [hk.1, hk.2, q]
  · rw [if_neg hk, ← mem_view h'.2 e]
    constructor
    · rintro (rfl | he)
      · exact absurd rfl hk
      · exact he
    · exact .inr
theorem view_perm {l m : List En} (hl : Kn l) (hm : Kn m) (h : view l = view m) : l.Perm m := by
 have n1 : l.Nodup := List.Pairwise.of_map En.k (fun a b h e => h (congrArg _ e)) hl
 have n2 : m.Nodup := List.Pairwise.of_map En.k (fun a b h e => h (congrArg _ e)) hm
 exact (List.perm_ext_iff_of_nodup n1 n2).2 fun e => by rw [mem_view hl, mem_view hm, h]
end Go.Proofs.YtgbpfgdjnhbcgaaGreatDoor.Ix
end
section
namespace Go.Proofs.YtgbpfgdjnhbcgaaGreatDoor.Cb
open Go.Lib (compareBytes)
theorem cb_three : ∀ (a b : List UInt8), compareBytes a b = -1 ∨ compareBytes a b = 0 ∨ compareBytes a b = 1
 | [], [] => by simp [compareBytes]
 | [], _ :: _ => by simp [compareBytes]
 | _ :: _, [] => by simp [compareBytes]
 | a :: x, b :: y => by
  have := cb_three x y
  unfold compareBytes
  split
  · simp
  · split
    · simp
    · exact this
theorem cb_flip : ∀ (a b : List UInt8), compareBytes b a = - compareBytes a b
 | [], [] => by simp [compareBytes]
 | [], _ :: _ => by simp [compareBytes]
 | _ :: _, [] => by simp [compareBytes]
 | a :: x, b :: y => by
  have := cb_flip x y
  simp only [compareBytes]
  rcases Nat.lt_trichotomy a.toNat b.toNat with h | h | h
  · have h1 : a < b := UInt8.lt_iff_toNat_lt.2 h
    have h2 : ¬ b < a := fun q => by have := UInt8.lt_iff_toNat_lt.1 q; omega
    simp [h1, h2]
  · have e : a = b := UInt8.toNat_inj.1 h
    subst e
    have h1 : ¬ a < a := fun q => by have := UInt8.lt_iff_toNat_lt.1 q; omega
    simp [h1, this]
  · have h1 : b < a := UInt8.lt_iff_toNat_lt.2 h
    have h2 : ¬ a < b := fun q => by have := UInt8.lt_iff_toNat_lt.1 q; omega
    simp [h1, h2]
theorem cb_zero : ∀ (a b : List UInt8), compareBytes a b = 0 → a = b
 | [], [], _ => rfl
 | [], _ :: _, h => by simp [compareBytes] at h
 | _ :: _, [], h => by simp [compareBytes] at h
 | a :: x, b :: y, h => by
  simp only [compareBytes] at h
  rcases Nat.lt_trichotomy a.toNat b.toNat with q | q | q
  · have h1 : a < b := UInt8.lt_iff_toNat_lt.2 q
    simp [h1] at h
  · have e : a = b := UInt8.toNat_inj.1 q
    subst e
    have h1 : ¬ a < a := fun q => by have := UInt8.lt_iff_toNat_lt.1 q; omega
    simp [h1] at h
    rw [cb_zero x y h]
  · have h1 : b < a := UInt8.lt_iff_toNat_lt.2 q
    have h2 : ¬ a < b := fun q => by have := UInt8.lt_iff_toNat_lt.1 q; omega
    simp [h1, h2] at h
theorem cb_trans : ∀ (a b c : List UInt8), compareBytes a b < 0 → compareBytes b c < 0 → compareBytes a c < 0
 | [], _, [], h1, h2 => by
  rename_i b
  have := cb_flip [] b
  omega
 | [], _, _ :: _, _, _ => by simp [compareBytes]
 | _ :: _, [], _, h1, _ => by simp [compareBytes] at h1
 | _ :: _, _ :: _, [], _, h2 => by simp [compareBytes] at h2
 | a :: x, b :: y, c :: z, h1, h2 => by
  have ih := cb_trans x y z
  simp only [compareBytes] at *
  simp only [UInt8.lt_iff_toNat_lt] at *
  split at h1
  · split at h2
    · rw [if_pos (by omega)]; omega
    · split at h2
      · simp at h2
      · rw [if_pos (by omega)]; omega
  · split at h1
    · simp at h1
    · split at h2
      · rw [if_pos (by omega)]; omega
      · split at h2
        · simp at h2
        · rw [if_neg (by omega), if_neg (by omega)]
          exact ih h1 h2
theorem cb_self (a : List UInt8) : compareBytes a a = 0 := by have := cb_flip a a; omega
theorem cb_less : ∀ (a b : List UInt8), Go.Op.bytesLess a b = decide (compareBytes a b < 0)
 | [], [] => by simp [Go.Op.bytesLess, compareBytes]
 | [], _ :: _ => by simp [Go.Op.bytesLess, compareBytes]
 | _ :: _, [] => by simp [Go.Op.bytesLess, compareBytes]
 | a :: x, b :: y => by
  have ih := cb_less x y
  simp only [Go.Op.bytesLess, compareBytes, ih]
  rcases Nat.lt_trichotomy a.toNat b.toNat with h | h | h
  · have h1 : a < b := UInt8.lt_iff_toNat_lt.2 h
    simp [h1]
  · have e : a = b := UInt8.toNat_inj.1 h
    subst e
    have h1 : ¬ a < a := fun q => by have := UInt8.lt_iff_toNat_lt.1 q; omega
    simp [h1]
  · have h1 : b < a := UInt8.lt_iff_toNat_lt.2 h
    have h2 : ¬ a < b := fun q => by have := UInt8.lt_iff_toNat_lt.1 q; omega
    have h3 : ¬ a = b := fun q => by subst q; exact h2 h1
    simp [h1, h2, h3]
end Go.Proofs.YtgbpfgdjnhbcgaaGreatDoor.Cb
end
