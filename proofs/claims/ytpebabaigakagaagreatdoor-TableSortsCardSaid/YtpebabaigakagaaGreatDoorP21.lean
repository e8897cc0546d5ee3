/- LockK, RegE, RegG, TabA, joined. -/
import Derived.Test.YtpebabaigakagaaGreatDoorP11
import Derived.Test.YtpebabaigakagaaGreatDoorP4
import Derived.Test.YtpebabaigakagaaGreatDoorP2
import Derived.OrdersHeld
import Derived.Test.YtpebabaigakagaaGreatDoorP12
import Derived.Test.YtpebabaigakagaaGreatDoorP20
import Derived.Test.YtpebabaigakagaaGreatDoorP3
import Derived.Test.YtpebabaigakagaaGreatDoorP7
set_option linter.unusedSimpArgs false
set_option linter.unusedVariables false
set_option maxRecDepth 100000
set_option maxHeartbeats 16000000
section
namespace Go.Proofs.YtpebabaigakagaaGreatDoor.Lock
open Go.RowKit
open Go.Maps (Keyed)
open Path (bl rightB overB)
attribute [-go_sem] run_eql_struct run_neq_struct run_eqGuard_agg
theorem eqlE6 (p1 f1 p2 f2 : ByteArray) (n1 m1 k1 s1 n2 m2 k2 s2 : Int) (w : World) : (binOp .eql 51 (.agg #[.string p1, .int .u64 n1, .string f1, .int .i64 m1, .int .u64 k1, .int .i64 s1]) (.agg #[.string p2, .int .u64 n2, .string f2, .int .i64 m2, .int .u64 k2, .int .i64 s2])).run Tryz.prog w = .ok (.bool (decide ((⟨p1, n1, f1, m1, k1, s1⟩ : Ent) = ⟨p2, n2, f2, m2, k2, s2⟩))) w := eqlE ⟨p1, n1, f1, m1, k1, s1⟩ ⟨p2, n2, f2, m2, k2, s2⟩ w
attribute [local go_sem] guardE eqlE6
def ChRel (b : Bk) (r : Nat) (p : ByteArray) (n : Int) (w : World) (k : Nat) (wr : World) : Prop :=
 ∃ ds : List Ent, At [BookP b] w [Part.iter Tryz.prog 90 r b.m (ents b.es) (ents ds), headC b.p b.m b.c b.first, ctrC b.c (ctrs b.cs)] wr ∧ (∀ s ∈ ds, s ∈ b.es ∧ ¬(s.path = p ∧ s.n = n)) ∧ ds.length + k = b.es.length
theorem check_any {w : World} {b : Bk} (h : Sep [BookP b] w) (p : ByteArray) (n : Int) (hok : ∀ x ∈ b.es, x.path.size ≤ 1000000) {c : Bool} (h1 : ∀ e ∈ b.es, e.path = p → e.n = n → clearB b.es e = c) (h2 : (∀ e ∈ b.es, ¬(e.path = p ∧ e.n = n)) → c = false) :
 Calls Tryz.prog 107 #[.pointer (some ⟨b.p, 0, none⟩), .string p, .int .u64 n] w fun o w' => o = .returned (.bool c) ∧ At [BookP b] w [BookP b] w' := by
 have hA := begin0 h
 have hF := hA.facts
 have h1' := Lib.hid h1
 have h2' := Lib.hid h2
 clear h1 h2
 have hF := hA.facts; (try simp only [uY] at hA hF)
 clear h
 go_enter Tryz.func107, Tryz.ntmps107
 go_wp2_with (refine wpList_range_at rfl rfl rfl hA sR Tryz.underlying88 ?_; intro r w1 hB hr; clear hF hA; have hA := hB; clear hB; have hF := hA.facts; (try simp only [uY] at hA hF))
 try go_frame
 go_loopg [] b.es.length (ChRel b r p n w)
 case atStart => exact ⟨[], hA.pick pZ, nofun, by simp⟩
 case round =>
  obtain ⟨ds, hA2, hds, hk⟩ := hrel
  clear hF hA
  have hA := hA2
  clear hA2
  have hF := hA.facts; (try simp only [uY] at hA hF)
  go_step
  go_step
  refine wpList_next_at rfl rfl rfl hA sR (fun hp => ?_) (fun q w1 hq hd hB => ?_)
  · have hpp := ents_perm hp
    have hc := Lib.hid (h2'.out (fun e he => (hds e (hpp.mem_iff.1 he)).2))
    have hM := At.ranged hA sR
    clear hp hpp hds
    go_wp2_with fail
    go_ret
    exact ⟨by rw [hc.out]; rfl, close0 b hM sR sR sR⟩
  · obtain ⟨s, hs, rfl⟩ := List.mem_map.1 hq
    have hI : IterAt Tryz.prog 90 w1 r b.m (ents b.es) (ents ds ++ [ent s]) := hB.get (A := Part.iter _ _ r b.m (ents b.es) (ents ds ++ [ent s])) sR
    have hen := hI.entry
    have hlen : (ds ++ [s]).length ≤ b.es.length := by have := hI.len; simpa [ents] using this
    have hsub : ¬(s.path = p ∧ s.n = n) → ∀ x ∈ ds ++ [s], x ∈ b.es ∧ ¬(x.path = p ∧ x.n = n) := fun hn x hx => by
     rcases List.mem_append.1 hx with hx | hx
     · exact hds x hx
     · have : x = s := by simpa using hx
       rw [this]; exact ⟨hs, hn⟩
    rw [ents_snoc] at hB
    have hs1 := hok s hs
    clear hF hA
    have hA := hB
    have hk' := Lib.hid hk
    have hsub' := Lib.hid hsub
    have hc1 := Lib.hid (h1'.out s hs)
    have hcl := fun (w1 : World) (q : Sep [BookP b] w1) => clear_any q s hs1 hok
    obtain ⟨cc, hcc⟩ : ∃ cc, clearB b.es s = cc := ⟨_, rfl⟩
    rw [hcc] at hcl
    have hcc' := Lib.hid hcc
    simp only [List.length_append, List.length_cons, List.length_nil, Nat.zero_add] at hlen
    clear hI hB hk hsub hds hq hd hs hcc
    have hF := hA.facts; (try simp only [uY] at hA hF)
    simp only [ent, Ent.key, Ent.val, keyV] at hen
    by_cases e1 : s.path = p
    · have b1 : (s.path.toList == p.toList) = true := by rw [same_ba]; exact decide_eq_true e1
      have e1' := Lib.hid e1
      by_cases e2 : s.n = n
      · have b2 : (s.n == n) = true := by simpa using e2
        have e2' := Lib.hid e2
        clear e1 e2
        go_wp2_with (first | ((with_reducible refine gst ?_); refine wT hA ?_; clear hF hA; intro w1 hA hF; (try simp only [uY] at hA hF)) | ((with_reducible refine gal ?_); refine wG 51 [.string .empty, .int .u64 0, .string .empty, .int .i64 0, .int .u64 0, .int .i64 0] hA ?_; clear hF hA; intro b1 w1 hA hb1 hF; (try simp only [uY] at hA hF)))
        have hM := At.ranged hA sR
        have hB := fold0 b hM sR sR sR
        clear hF hA hM; have hA := hB; clear hB
        refine (hcl _ (hA.sep1 (A := BookP b) sR)).mono ?_
        clear hcl
        rintro o w2 ⟨rfl, hT⟩
        have hB := hA.call1 (A := BookP b) sR hT
        have hres := Lib.hid ((hc1.out e1'.out e2'.out).symm.trans hcc'.out)
        clear hA hT
        go_wp2_with fail
        go_ret
        exact ⟨by rw [hres.out]; rfl, hB.only1 .here⟩
      · have b2 : (s.n == n) = false := by simpa using e2
        have hs3 := Lib.hid (hsub'.out (fun q => e2 q.2))
        clear e1 e2
        go_wp2_with (first | ((with_reducible refine gst ?_); refine wT hA ?_; clear hF hA; intro w1 hA hF; (try simp only [uY] at hA hF)) | ((with_reducible refine gal ?_); refine wG 51 [.string .empty, .int .u64 0, .string .empty, .int .i64 0, .int .u64 0, .int .i64 0] hA ?_; clear hF hA; intro b1 w1 hA hb1 hF; (try simp only [uY] at hA hF)))
        go_roundg (gk - 1)
        case measure => have := hk'.out; omega
        case rel => exact ⟨ds ++ [s], hA.pick (by with_reducible repeat (first | exact Picks.nil | refine Picks.cons sR ?_)), hs3.out, by have := hk'.out; simp; omega⟩
    · have b1 : (s.path.toList == p.toList) = false := by rw [same_ba]; exact decide_eq_false e1
      have hs3 := Lib.hid (hsub'.out (fun q => e1 q.1))
      clear e1
      go_wp2_with (first | ((with_reducible refine gst ?_); refine wT hA ?_; clear hF hA; intro w1 hA hF; (try simp only [uY] at hA hF)) | ((with_reducible refine gal ?_); refine wG 51 [.string .empty, .int .u64 0, .string .empty, .int .i64 0, .int .u64 0, .int .i64 0] hA ?_; clear hF hA; intro b1 w1 hA hb1 hF; (try simp only [uY] at hA hF)))
      go_roundg (gk - 1)
      case measure => have := hk'.out; omega
      case rel => exact ⟨ds ++ [s], hA.pick (by with_reducible repeat (first | exact Picks.nil | refine Picks.cons sR ?_)), hs3.out, by have := hk'.out; simp; omega⟩
end Go.Proofs.YtpebabaigakagaaGreatDoor.Lock
end
section
namespace Go
open _root_.Go.Proofs.YtpebabaigakagaaGreatDoor
open Go.RowKit
section
variable {P : Program} {ops : Array Oper} {Q : Exit → Act → World → Prop} {md : Region.Mode} {S : World → Prop} {L0 L F : List Part} {w0 w : World}
theorem wpAnyH_one {i fuel : Nat} {listed : Array Bool} {a : Act} (hr : Region.ready md ops listed = [i]) (h : wpOp P ops Q i (fun a' w' => S w' ∧ wpAnyH P md ops Q S fuel (listed.setIfInBounds i true) a' w') a w) : wpAnyH P md ops Q S (fuel + 1) listed a w :=
 wpAnyH_all hr (by simp) (fun k hk => by rw [List.mem_singleton.1 hk]; exact h)
theorem wpAnyH_two {i j fuel : Nat} {listed : Array Bool} {a : Act} (hr : Region.ready md ops listed = [i, j]) (h1 : wpOp P ops Q i (fun a' w' => S w' ∧ wpAnyH P md ops Q S fuel (listed.setIfInBounds i true) a' w') a w)
 (h2 : wpOp P ops Q j (fun a' w' => S w' ∧ wpAnyH P md ops Q S fuel (listed.setIfInBounds j true) a' w') a w) : wpAnyH P md ops Q S (fuel + 1) listed a w :=
 wpAnyH_all hr (by simp) (fun k hk => by
  rcases List.mem_cons.1 hk with rfl | hk
  · exact h1
  · rw [List.mem_singleton.1 hk]; exact h2)
theorem wpAnyH_takeD {i : Nat} {oi : Oper} {v : Value} {d : Option Tmp} {fuel : Nat} {listed : Array Bool} {a : Act} (hi : ops[i]? = some oi) (hd : oi.dst = d)
 (hs : Region.noSelect ops = true) (hf : Region.free md ops listed i = true) (hr : (Region.ready md ops listed).contains i = true)
 (hQ : ∀ c a w, Q (.panic c) (a.put oi.dst v) w → Q (.panic c) a w) (hw : Region.wanted oi (yielded ops a.tmps) = true) (hrun : ∀ w, S w → (execOp a.eval oi).run P w = .ok (.value v) w) (hS : S w)
 (h : wpAnyH P md ops Q S fuel (listed.setIfInBounds i true) (a.put d v) w) : wpAnyH P md ops Q S (fuel + 1) listed a w := by
 subst hd
 exact wpAnyH_take hi hs hf hr hQ (.inl ⟨hw, hrun⟩) hS h
theorem opAppend_at {k : Nat} {d : Option Tmp} {o : Oper} {a : Act} {K : Act → World → Prop} {e : TypeId} {size n : Nat} {v : Value} {xs : List Value} {i : TypeInfo} {z : Value} {bytes : Nat} (hok : ops[k]? = some o) (hd : o.dst = d) (hw : Region.wanted o (yielded ops a.tmps) = true) (hg : o.guard = none) (s' x : Operand) (t : TypeId) (ho : o.op = .call { callee := .builtin .append, args := #[s', x], argTypes := #[t, t] })
 (ht : P.underlying t = some (.slice e)) (hi : P.info? e = some i) (hz : i.zero = some z) (hsize : i.size = size) (hby : i.bytes = bytes) (hzs : z.cells.size = size) (hsz : 0 < size)
 (h : At L0 w0 L w) (s : Sel (Part.row e size v n xs) L F) (hs : a.eval s' = v) {xv : Value} {m : Nat} {news : List Value} (hxv : a.eval x = xv) (hl : news.length = m * size) (hx : Reads w xv m news) (h1 : ∀ u ∈ news, u.oneCell' = true)
 (h63 : n + m ≤ maxLen) (hbytes : (n + m) * bytes ≤ 140737488355328)
 (hK : ∀ v' w', At L0 w0 (Part.row e size v' (n + m) (xs ++ news) :: F) w' → K (a.put d v') w') : wpOp P ops Q k K a w := by
 subst hd
 have hst := step_append_all w (K := K) (Q := Q) (E := True) (ops := ops) (a := a) (o := o) hg s' x t ho 0 e i z size bytes ht hi hz hsize hby hzs hsz v n xs hs (h.get s) xv m news hxv hl hx h1 h63 hbytes (Nat.zero_le _) (fun v' w' h2 h3 h4 =>
  hK v' w' (h.turn s _ h2 (fun b hb => by
   rcases h4 with h4 | h4
   · exact .inl (show v.ownBlock = some b from by rw [← h4]; exact hb)
   · right
     have hb' : v'.ownBlock = some b := hb
     rw [h4] at hb'
     cases hb'
     exact Nat.le_refl _) (exc_grown h3)))
 rw [if_pos hw] at hst
 unfold wpOp
 simp only [hok, hw, if_true]
 exact .inl hst
theorem opCall_at {i : Nat} {d : Option Tmp} {o : Oper} {a : Act} {K : Act → World → Prop} (ho : ops[i]? = some o) (hd : o.dst = d) (hw : Region.wanted o (yielded ops a.tmps) = true) {fn : FuncId} {args : Array Value} (hrun : (execOp a.eval o).run P w = .ok (.enter fn args) w)
 {R : Value → World → Prop} (hc : Calls P fn args w fun e w' => ∃ u, e = .returned u ∧ R u w') (hK : ∀ u w', R u w' → K (a.put d u) w') : wpOp P ops Q i K a w := by
 subst hd
 exact wpOp_call ho hw hrun hc (fun e w' ⟨u, he, hr⟩ => ⟨u, he, hK u w' hr⟩)
theorem opStore_at {i : Nat} {o : Oper} {a : Act} {K : Act → World → Prop} (ho : ops[i]? = some o) (hd : o.dst = none) (hw : Region.wanted o (yielded ops a.tmps) = true) {ty : TypeId} {x y : Operand} (hop : o.op = .store ty x y) {b j : Nat} (hx : a.eval x = .pointer (some ⟨b, j, none⟩)) {v : Value} (hy : a.eval y = v) {vs : List Value} (hv : v.cells = vs.toArray)
 (h : At L0 w0 L w) {c : List Value} {T : TypeId} (s : Sel (Part.cells b c T) L F) (hi : (P.info? ty).map (·.size) = some vs.length) (h1 : vs.all (·.oneCell') = true) (hj : j + vs.length ≤ c.length)
 (hK : ∀ w', At L0 w0 (Part.cells b (setL c j vs) T :: F) w' → K (a.put none undef) w') : wpOp P ops Q i K a w := by
 have hb : BlockIs w b c T := h.get s
 have hs : v.cells.size = vs.length := by rw [hv]; simp
 have h1' : v.cells.all (·.oneCell') = true := by
  rw [hv, Array.all_eq_true_iff_forall_mem]
  intro u hu
  exact List.all_eq_true.1 h1 u (by simpa using hu)
 have hrun := run_storeAt_cells (P := P) w b j ty v (hb.there j _ (by omega)) (by rw [hs]; exact hi) h1'
 rw [show v.cells.toList = vs from by rw [hv]] at hrun
 refine wpOp_unit ho hw (w' := _) ?_ (by rw [hd]; exact hK _ (h.stores s j vs))
 simp [execOp, hop, hx, hy, hrun, Result.andThen]
end
end Go
end
section
namespace Go
open _root_.Go.Proofs.YtpebabaigakagaaGreatDoor
open Go.RowKit
theorem tZ {P : Program} {ops : Array Oper} {Q : Exit → Act → World → Prop} {md : Region.Mode} {S : World → Prop} {w : World} {fuel : Nat} {listed : Array Bool} {a : Act} {oi : Oper} (i d : Nat) (v : Value) (hi : ops[i]? = some oi := by exact rfl) (hd : oi.dst = some d := by exact rfl) (hs : Region.noSelect ops = true := by kernel_rfl) (hf : Region.free md ops listed i = true := by kernel_rfl) (hr : (Region.ready md ops listed).contains i = true := by kernel_rfl) (hQ : ∀ c a w, Q (.panic c) (a.put oi.dst v) w → Q (.panic c) a w := by exact fun _ _ _ h => h) (hw : Region.wanted oi (yielded ops a.tmps) = true := by exact rfl) (r : ∀ w, S w → (execOp a.eval oi).run P w = .ok (.value v) w) (s : S w) (h : wpAnyH P md ops Q S fuel (listed.setIfInBounds i true) (a.put (some d) v) w) : wpAnyH P md ops Q S (fuel + 1) listed a w := wpAnyH_takeD hi hd hs hf hr hQ hw r s h
theorem tP {P : Program} {ops : Array Oper} {Q : Exit → Act → World → Prop} {md : Region.Mode} {S : World → Prop} {w : World} {fuel : Nat} {listed : Array Bool} {a : Act} {oi : Oper} (i d : Nat) (v : Value) (hi : ops[i]? = some oi := by exact rfl) (hd : oi.dst = some d := by exact rfl) (hs : Region.noSelect ops = true := by kernel_rfl) (hf : Region.free md ops listed i = true := by kernel_rfl) (hr : (Region.ready md ops listed).contains i = true := by kernel_rfl) (hQ : ∀ c a w, Q (.panic c) (a.put oi.dst v) w → Q (.panic c) a w := by exact fun _ _ _ h => h) (hw : Region.wanted oi (yielded ops a.tmps) = true := by exact rfl) (r : ∀ w, S w → (execOp a.eval oi).run P w = .ok (.value v) w := by intro _ _; first | (simp [execOp, go_sem, Act.eval, Act.put]; done) | kernel_rfl) (s : S w) (h : wpAnyH P md ops Q S fuel (listed.setIfInBounds i true) (a.put (some d) v) w) : wpAnyH P md ops Q S (fuel + 1) listed a w := wpAnyH_takeD hi hd hs hf hr hQ hw r s h
end Go
end
section
namespace Go
open _root_.Go.Proofs.YtpebabaigakagaaGreatDoor
open Go.RowKit
theorem cZ {P : Program} {ops : Array Oper} {Q : Exit → Act → World → Prop} {w : World} {o : Oper} {a : Act} {K : Act → World → Prop} {R : Value → World → Prop} {fn : FuncId} {args : Array Value} (i d : Nat) (hc : Calls P fn args w fun e w' => ∃ u, e = .returned u ∧ R u w') (hK : ∀ u w', R u w' → K (a.put (some d) u) w') (ho : ops[i]? = some o := by exact rfl) (hd : o.dst = some d := by exact rfl) (hw : Region.wanted o (yielded ops a.tmps) = true := by kernel_rfl) (hrun : (execOp a.eval o).run P w = .ok (.enter fn args) w := by simp [execOp, go_sem, Act.eval, Act.put]) : wpOp P ops Q i K a w := opCall_at ho hd hw hrun hc hK
theorem cY {P : Program} {ops : Array Oper} {Q : Exit → Act → World → Prop} {w : World} {o : Oper} {a : Act} {K : Act → World → Prop} {args : Array Value} (i d : Nat) (fn : FuncId) (R : Value → World → Prop) (hc : Calls P fn args w fun e w' => ∃ u, e = .returned u ∧ R u w') (hK : ∀ u w', R u w' → K (a.put (some d) u) w') (ho : ops[i]? = some o := by exact rfl) (hd : o.dst = some d := by exact rfl) (hw : Region.wanted o (yielded ops a.tmps) = true := by kernel_rfl) (hrun : (execOp a.eval o).run P w = .ok (.enter fn args) w := by simp [execOp, go_sem, Act.eval, Act.put]) : wpOp P ops Q i K a w := opCall_at ho hd hw hrun hc hK
theorem stZ {P : Program} {ops : Array Oper} {Q : Exit → Act → World → Prop} {L0 L F : List Part} {w0 w : World} {o : Oper} {a : Act} {K : Act → World → Prop} {ty : TypeId} {x y : Operand} {v : Value} {c : List Value} {T : TypeId} (i b j : Nat) (vs : List Value) (h : At L0 w0 L w) (hK : ∀ w', At L0 w0 (Part.cells b (setL c j vs) T :: F) w' → K (a.put none undef) w') (ho : ops[i]? = some o := by exact rfl) (hd : o.dst = none := by exact rfl) (hw : Region.wanted o (yielded ops a.tmps) = true := by kernel_rfl) (hop : o.op = .store ty x y := by exact rfl) (hx : a.eval x = .pointer (some ⟨b, j, none⟩) := by exact rfl) (hy : a.eval y = v := by exact rfl) (hv : v.cells = vs.toArray := by exact rfl) (s : Sel (Part.cells b c T) L F := by repeat (first | exact Sel.here | apply Sel.there)) (hi : (P.info? ty).map (·.size) = some vs.length := by kernel_rfl) (h1 : vs.all (·.oneCell') = true := by exact rfl) (hj : j + vs.length ≤ c.length := by simp) : wpOp P ops Q i K a w := opStore_at ho hd hw hop hx hy hv h s hi h1 hj hK
end Go
end
section
namespace Go
open _root_.Go.Proofs.YtpebabaigakagaaGreatDoor
open Go.RowKit
section
variable {P : Program} {ops : Array Oper} {Q : Exit → Act → World → Prop} {md : Region.Mode} {S : World → Prop} {L0 L F : List Part} {w0 w : World}
theorem opAlloc_at {i : Nat} {d : Option Tmp} {o : Oper} {a : Act} {K : Act → World → Prop} {E : TypeId} (ho : ops[i]? = some o) (hd : o.dst = d) (hw : Region.wanted o (yielded ops a.tmps) = true) (hop : o.op = .alloc E) {z : Value} (hz : (P.info? E).map (·.zero) = some (some z)) {vs : List Value} (hv : z.cells = vs.toArray) (h : At L0 w0 L w)
 (hK : ∀ b w', At L0 w0 (Part.cells b vs E :: L) w' → K (a.put d (.pointer (some ⟨b, 0, none⟩))) w') : wpOp P ops Q i K a w := by
 subst hd
 refine wpOp_val ho hw (v := .pointer (some ⟨w.heap.size, 0, none⟩)) (w' := w.alloc (.cells vs.toArray E)) ?_ (hK _ _ (h.alloc vs E))
 cases hq : P.info? E with
 | none => simp [hq] at hz
 | some i =>
  have hi : i.zero = some z := by simpa [hq] using hz
  simp [execOp, hop, Instr.alloc, zeroValue, typeInfo, hq, hi, newVar, newRow, hv, Result.andThen]
end
end Go
section
namespace Go
open _root_.Go.Proofs.YtpebabaigakagaaGreatDoor
open Go.RowKit
theorem aZ {P : Program} {ops : Array Oper} {Q : Exit → Act → World → Prop} {L0 L : List Part} {w0 w : World} {o : Oper} {a : Act} {K : Act → World → Prop} (i d : Nat) (E : TypeId) (vs : List Value) (h : At L0 w0 L w) (hK : ∀ b w', At L0 w0 (Part.cells b vs E :: L) w' → K (a.put (some d) (.pointer (some ⟨b, 0, none⟩))) w') (ho : ops[i]? = some o := by exact rfl) (hd : o.dst = some d := by exact rfl) (hw : Region.wanted o (yielded ops a.tmps) = true := by kernel_rfl) (hop : o.op = .alloc E := by exact rfl) (hz : (P.info? E).map (·.zero) = some (some (.agg vs.toArray)) := by kernel_rfl) : wpOp P ops Q i K a w := opAlloc_at ho hd hw hop hz rfl h hK
end Go
end
end
section
namespace Go.Proofs.YtpebabaigakagaaGreatDoor.Tab
open Go.RowKit
open Path (bl rightB overB aboveB)
open Lease (Ses Ans fresh Turned)
open Lock (S3 Ent)
open Cmd (Cm rightC)
attribute [-go_sem] run_eql_struct run_neq_struct run_eqGuard_agg
abbrev ansV (e n : Int) (g : Bool) : Value := .agg #[.int .i64 e, .int .u64 n, .bool g]
theorem refused_any (e : Int) (w : World) : Calls Tryz.prog 39 #[.int .i64 e] w fun r w' => r = .returned (ansV e 0 false) ∧ Ext w w' := by
 have hA : At [] w [] w := At.start (L0 := []) trivial
 have hF := hA.facts; (try simp only [uY] at hA hF)
 go_enter Tryz.func39, Tryz.ntmps39
 go_wp2_with (first | ((with_reducible refine gal ?_); refine wG 48 [.int .i64 0, .int .u64 0, .bool false] hA ?_; clear hF hA; intro b2 w1 hA hb2 hF; (try simp only [uY] at hA hF)) | ((with_reducible refine gst ?_); refine wT hA ?_; clear hF hA; intro w1 hA hF; (try simp only [uY] at hA hF)))
 exact bodyPost_ret (v := ansV e 0 false) (by simp [results, Tryz.results39, go_sem, hF]) rfl ⟨rfl, hA.toExt⟩
theorem tab_out {L0 L F : List Part} {w0 w : World} {t p m : Nat} {ss : List Ses} {b : Lock.Bk} (h : At L0 w0 L w) (s : Sel (TabP t p m ss b) L F) : At L0 w0 (headT t p b.p :: Lease.BookP p m ss :: Lock.BookP b :: F) w := (h.take s).to (tab_eqv t p m ss b F)
theorem tab_in {L0 L F G H : List Part} {w0 w : World} {t p m : Nat} {ss : List Ses} {b : Lock.Bk} (h : At L0 w0 L w) (s1 : Sel (headT t p b.p) L F) (s2 : Sel (Lease.BookP p m ss) F G) (s3 : Sel (Lock.BookP b) G H) : At L0 w0 (TabP t p m ss b :: H) w :=
 (h.perm (s1.perm.trans ((s2.perm.trans (s3.perm.cons _)).cons _))).to (tab_eqv t p m ss b H).symm
structure LkOk (b : Lock.Bk) : Prop where
 len : b.es.length ≤ 1000000000
 ctr : ∀ q, 0 ≤ Lock.counter b.first b.cs q
 path : ∀ x ∈ b.es, x.path.size ≤ 1000
 stamp : ∀ x ∈ b.es, x.stamp ≤ 1000000000
 num : ∀ x ∈ b.es, 0 ≤ x.num ∧ x.num < Lock.big64
 foot : ∀ x ∈ b.es, x.foot.size ≤ maxLen
 chk : ∀ p n, (∀ e ∈ b.es, e.path = p → e.n = n → Lock.clearB b.es e = Lock.checkD b.es p n) ∧ ((∀ e ∈ b.es, ¬(e.path = p ∧ e.n = n)) → Lock.checkD b.es p n = false)
theorem LkOk.of {b : Lock.Bk} {k : Nat} (h : Lock.Inv b.st k) (hk : k ≤ 1000000) : LkOk b :=
 ⟨by have := h.len; simp only [Lock.Bk.st] at this; omega, fun q => by have := Lock.counter_ge h q; have := h.first0; simp only [Lock.Bk.st] at *; omega, fun x hx => Nat.le_trans (h.path x hx) (by omega), fun x hx => by have := h.stamp1 x hx; omega, fun x hx => ⟨h.num0 x hx, h.num1 x hx⟩, fun x hx => h.foot x hx, fun p n => ⟨fun e he e1 e2 => by
   obtain ⟨k, hk⟩ := List.mem_iff_getElem?.1 he
   rw [← e1, ← e2]
   exact (Lock.clear_grant (l := b.es) h.order hk).trans (Lock.check_some (l := b.es) h.nums hk).symm, fun q => Lock.check_none q⟩⟩
section
variable {w : World} {t p m : Nat} {ss : List Ses} {b : Lock.Bk} (h : Sep [TabP t p m ss b] w)
include h
theorem sessions_any : Calls Tryz.prog 13 #[.pointer (some ⟨t, 0, none⟩)] w fun e w' => e = .returned (.pointer (some ⟨p, 0, none⟩)) ∧ At [TabP t p m ss b] w [TabP t p m ss b] w' := by
 have hA := tab_begin h
 clear h
 have hF := hA.facts; (try simp only [uY] at hA hF)
 go_enter Tryz.func13, Tryz.ntmps13
 go_wp2_with fail
 go_ret
 exact ⟨rfl, tab_close (hA.pick pZ)⟩
theorem locks_of_any : Calls Tryz.prog 15 #[.pointer (some ⟨t, 0, none⟩)] w fun e w' => e = .returned (.pointer (some ⟨b.p, 0, none⟩)) ∧ At [TabP t p m ss b] w [TabP t p m ss b] w' := by
 have hA := tab_begin h
 clear h
 have hF := hA.facts; (try simp only [uY] at hA hF)
 go_enter Tryz.func15, Tryz.ntmps15
 go_wp2_with fail
 go_ret
 exact ⟨rfl, tab_close (hA.pick pZ)⟩
theorem ended_any (num : Int) (foot : ByteArray) (e : Int) (hok : LkOk b) :
 Calls Tryz.prog 37 #[.pointer (some ⟨t, 0, none⟩), .agg #[.int .u64 num, .string foot], .int .i64 e] w fun r w' => r = .returned (ansV e 0 false) ∧ At [TabP t p m ss b] w [TabP t p m ss (if e = 0 then b.with (b.st.dropAll num foot) else b)] w' := by
 have hm : Tryz.prog.follows .mixedOrders = true := by kernel_rfl
 have hok' := Lib.hid hok
 clear hok
 by_cases he : e = 0
 · subst he
   rw [if_pos rfl]
   have hA := tab_begin h
   clear h
   have hF := hA.facts; (try simp only [uY] at hA hF)
   go_enter Tryz.func37, Tryz.ntmps37
   go_upto_region 2 with (first | ((with_reducible refine gbx ?_); refine wH 25 [.int .u64 num, .string foot] hA ?_; clear hF hA; intro b4 w1 hA hb4 hF; (try simp only [uY] at hA hF)) | ((with_reducible refine gal ?_); refine wG 48 [.int .i64 0, .int .u64 0, .bool false] hA ?_; clear hF hA; intro b6 w1 hA hb6 hF; (try simp only [uY] at hA hF)))
   try go_frame
   have hB := hA.drew
   clear hF hA; have hA := hB; clear hB
   refine wp_region_held (S := fun w' => BlockIs w' t (k2 p b.p) 75 ∧ BlockIs w' b4 [.int .u64 num, .string foot] 25) hm ?_
   change wpAnyH _ _ _ _ _ 6 _ _ (World.drew _)
   generalize World.drew _ = wd at *
   have hS0 := (⟨hA.get (A := Part.cells t (k2 p b.p) 75) sZ, hA.get (A := Part.cells b4 [.int .u64 num, .string foot] 25) sZ⟩ : (fun w' => BlockIs w' t (k2 p b.p) 75 ∧ BlockIs w' b4 [.int .u64 num, .string foot] 25) wd)
   refine tP 0 9 (.pointer (some ⟨t, 0, none⟩)) (s := hS0) (h := ?_)
   try go_frame
   refine tP 1 10 (.pointer (some ⟨t, 0, none⟩)) (s := hS0) (h := ?_)
   try go_frame
   refine tP 2 11 (.pointer (some ⟨t, 1, none⟩)) (s := hS0) (h := ?_)
   try go_frame
   refine tZ 3 12 (.pointer (some ⟨b.p, 0, none⟩)) (r := (fun w' hS => run_load_one (ty := 43) (b := t) (j := 1) rfl (by exact rfl) hS.1 (by kernel_rfl) rfl)) (s := hS0) (h := ?_)
   try go_frame
   refine tZ 4 13 (.agg #[.int .u64 num, .string foot]) (r := (fun w' hS => run_load_row (ty := 25) (n := 2) (b := b4) (j := 0) rfl (by exact rfl) hS.2 (by kernel_rfl) (by kernel_rfl) rfl rfl)) (s := hS0) (h := ?_)
   try go_frame
   refine wpAnyH_one (i := 5) (by kernel_rfl) ?_
   refine cY 5 14 64 (fun u w' => u = .int .i64 (b.es.length - (b.st.dropAll num foot).es.length) ∧ At [Lock.BookP b] _ [Lock.BookP (b.with (b.st.dropAll num foot))] w') ((Lock.drop_any (hA.sep1 (A := Lock.BookP b) sZ) num foot hok'.out.len (fun x hx => ⟨Nat.le_trans (hok'.out.path x hx) (by unfold maxLen; omega), (hok'.out.num x hx).1, (hok'.out.num x hx).2, hok'.out.foot x hx⟩)).mono fun e w' ⟨he, hT⟩ => ⟨_, he, rfl, hT⟩) ?_
   rintro u w3 ⟨rfl, hT⟩
   have hB := hA.call1 (A := Lock.BookP b) sZ hT
   clear hT
   simp only [uA] at hB
   refine andH ⟨hB.ci, hB.ci⟩ fun hS0 => ?_
   clear hA; have hA := hB; clear hB
   try go_frame
   refine wpAnyH_done (by kernel_rfl) ?_ _
   try go_frame
   clear hS0
   have hF := hA.facts; (try simp only [uY] at hA hF)
   go_wp2_with fail
   refine (refused_any _ _).mono ?_
   rintro e w1 ⟨rfl, hx⟩
   have hB := hA.ext hx
   clear hx
   clear hF hA; have hA := hB; clear hB
   try simp only [uA] at hA
   have hF := hA.facts; (try simp only [uY] at hA hF)
   go_wp2_with ((with_reducible refine gst ?_); refine wT hA ?_; clear hF hA; intro w1 hA hF; (try simp only [uY] at hA hF))
   exact bodyPost_ret (v := ansV 0 0 false) (by simp [results, Tryz.results37, go_sem, hF]) rfl ⟨rfl, tab_close (b := b.with (b.st.dropAll num foot)) (hA.pick pZ)⟩
 · rw [if_neg he]
   have hA := tab_begin h
   clear h
   have hF := hA.facts; (try simp only [uY] at hA hF)
   go_enter Tryz.func37, Tryz.ntmps37
   go_wp2_with (first | ((with_reducible refine gbx ?_); refine wH 25 [.int .u64 num, .string foot] hA ?_; clear hF hA; intro b4 w1 hA hb4 hF; (try simp only [uY] at hA hF)) | ((with_reducible refine gal ?_); refine wG 48 [.int .i64 0, .int .u64 0, .bool false] hA ?_; clear hF hA; intro b6 w1 hA hb6 hF; (try simp only [uY] at hA hF)))
   refine (refused_any _ _).mono ?_
   rintro e w1 ⟨rfl, hx⟩
   have hB := hA.ext hx
   clear hx
   clear hF hA; have hA := hB; clear hB
   try simp only [uA] at hA
   have hF := hA.facts; (try simp only [uY] at hA hF)
   go_wp2_with ((with_reducible refine gst ?_); refine wT hA ?_; clear hF hA; intro w1 hA hF; (try simp only [uY] at hA hF))
   exact bodyPost_ret (v := ansV e 0 false) (by simp [results, Tryz.results37, go_sem, hF]) rfl ⟨rfl, tab_close (hA.pick pZ)⟩
theorem may_any (kind num : Int) (foot : ByteArray) (req : Int) (path : ByteArray) (mode n time : Int) (h0 : 0 ≤ num) (h1 : num < Lease.big64) (hf : foot.size ≤ 1000) (hp : path.size ≤ 1000) :
 Calls Tryz.prog 103 #[.pointer (some ⟨t, 0, none⟩), .agg #[.int .i64 kind, .int .u64 num, .string foot, .int .u64 req, .string path, .int .i64 mode, .int .u64 n, .int .i64 time]] w fun r w' => r = .returned (.int .i64 (if (Lease.look ss num foot).op = false then 50 else if aboveB (bl foot) (bl path) = false then 55 else 0)) ∧ At [TabP t p m ss b] w [TabP t p m ss b] w' := by
 have hm : Tryz.prog.follows .mixedOrders = true := by kernel_rfl
 have hin := fun (w1 : World) (q : Sep [Lease.BookP p m ss] w1) => Lease.info_any q h0 h1 (show foot.size ≤ maxLen by unfold maxLen; omega)
 have hab := fun w1 => Path.above_any foot path w1 (by omega) (by omega)
 obtain ⟨lk, hlk⟩ : ∃ z, Lease.look ss num foot = z := ⟨_, rfl⟩
 obtain ⟨ab, hab2⟩ : ∃ z, aboveB (bl foot) (bl path) = z := ⟨_, rfl⟩
 rw [hlk] at ⊢
 simp only [hlk] at hin
 rw [hab2]
 simp only [hab2] at hab
 clear hlk hab2
 obtain ⟨ln, lf, lo, ld, ldl, lt, ltold, lb, ltm⟩ := lk
 simp only [Lease.Ses.info] at hin
 have hin' := Lib.hid hin
 clear hin
 have hA := tab_begin h
 clear h
 have hF := hA.facts; (try simp only [uY] at hA hF)
 go_enter Tryz.func103, Tryz.ntmps103
 go_upto_region 1 with ((with_reducible refine gbx ?_); refine wH 29 [.int .i64 kind, .int .u64 num, .string foot, .int .u64 req, .string path, .int .i64 mode, .int .u64 n, .int .i64 time] hA ?_; clear hF hA; intro b3 w1 hA hb3 hF; (try simp only [uY] at hA hF))
 try go_frame
 have hB := hA.drew
 clear hF hA; have hA := hB; clear hB
 refine wp_region_held (S := fun w' => BlockIs w' t (k2 p b.p) 75 ∧ BlockIs w' b3 (k8 kind num foot req path mode n time) 29) hm ?_
 change wpAnyH _ _ _ _ _ 10 _ _ (World.drew _)
 generalize World.drew _ = wd at *
 have hS0 := (⟨hA.get (A := Part.cells t (k2 p b.p) 75) sZ, hA.get (A := Part.cells b3 (k8 kind num foot req path mode n time) 29) sZ⟩ : (fun w' => BlockIs w' t (k2 p b.p) 75 ∧ BlockIs w' b3 (k8 kind num foot req path mode n time) 29) wd)
 refine tP 0 6 (.pointer (some ⟨t, 0, none⟩)) (s := hS0) (h := ?_)
 try go_frame
 refine tP 1 7 (.pointer (some ⟨t, 0, none⟩)) (s := hS0) (h := ?_)
 try go_frame
 refine tP 2 8 (.pointer (some ⟨t, 0, none⟩)) (s := hS0) (h := ?_)
 try go_frame
 refine tZ 3 9 (.pointer (some ⟨p, 0, none⟩)) (r := (fun w' hS => run_load_one (ty := 39) (b := t) (j := 0) rfl (by exact rfl) hS.1 (by kernel_rfl) rfl)) (s := hS0) (h := ?_)
 try go_frame
 refine tP 4 10 (.pointer (some ⟨b3, 1, none⟩)) (s := hS0) (h := ?_)
 try go_frame
 refine tZ 5 11 (.agg #[.int .u64 num, .string foot]) (r := (fun w' hS => run_load_row (ty := 25) (n := 2) (b := b3) (j := 1) rfl (by exact rfl) hS.2 (by kernel_rfl) (by kernel_rfl) rfl rfl)) (s := hS0) (h := ?_)
 try go_frame
 refine wpAnyH_one (i := 6) (by kernel_rfl) ?_
 refine cY 6 12 14 (fun u w' => u = .agg #[.bool lo, .bool ld, .int .i64 ldl, .int .i64 lt, .int .i64 ltold.length] ∧ At [Lease.BookP p m ss] _ [Lease.BookP p m ss] w') ((hin'.out _ (hA.sep1 (A := Lease.BookP p m ss) sZ)).mono fun e w' ⟨he, hT⟩ => ⟨_, he, rfl, hT⟩) ?_
 rintro u w3 ⟨rfl, hT⟩
 have hB := hA.call1 (A := Lease.BookP p m ss) sZ hT
 clear hT
 simp only [uA] at hB
 refine andH ⟨hB.ci, hB.ci⟩ fun hS0 => ?_
 clear hA; have hA := hB; clear hB
 try go_frame
 refine tP 7 13 (.bool lo) (s := hS0) (h := ?_)
 try go_frame
 refine tP 8 14 (.bool (!lo)) (s := hS0) (h := ?_)
 try go_frame
 refine tP 9 5 (.bool (!lo)) (s := hS0) (h := ?_)
 try go_frame
 refine wpAnyH_done (by kernel_rfl) ?_ _
 try go_frame
 clear hS0
 have hF := hA.facts; (try simp only [uY] at hA hF)
 cases lo
 · go_wp2_with fail
   go_ret
   exact ⟨rfl, tab_close (hA.pick pZ)⟩
 · go_wp2_with fail
   refine (hab _).mono ?_
   rintro e w1 ⟨rfl, hx⟩
   have hB := hA.ext hx
   clear hx
   clear hF hA; have hA := hB; clear hB
   try simp only [uA] at hA
   have hF := hA.facts; (try simp only [uY] at hA hF)
   cases ab
   · go_wp2_with fail
     go_ret
     exact ⟨rfl, tab_close (hA.pick pZ)⟩
   · go_wp2_with fail
     go_ret
     exact ⟨rfl, tab_close (hA.pick pZ)⟩
end
end Go.Proofs.YtpebabaigakagaaGreatDoor.Tab
end
