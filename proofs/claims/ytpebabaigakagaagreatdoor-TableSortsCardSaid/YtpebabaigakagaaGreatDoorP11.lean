/- LockG, LockH, LockI, CmdM, joined. -/
import Derived.Test.YtpebabaigakagaaGreatDoorP9
import Derived.Test.YtpebabaigakagaaGreatDoorP10
import Derived.Test.YtpebabaigakagaaGreatDoorP8
import Derived.Test.YtpebabaigakagaaGreatDoorP6
set_option linter.unusedSimpArgs false
set_option linter.unusedVariables false
set_option maxRecDepth 100000
set_option maxHeartbeats 16000000
section
namespace Go.Proofs.YtpebabaigakagaaGreatDoor.Lock
open Go.RowKit
open Go.Maps (Keyed)
open Path (bl rightB overB)
def Bk.st (b : Bk) : S3 := ⟨b.first, b.es, b.cs⟩
theorem through1 {L0 L F : List Part} {A : Part} {w0 w : World} {P : Program} {f : FuncId} {args : Array Value} {v : Value} (h : At L0 w0 L w) (s : Sel A L F) (hc : Sep [A] w → Calls P f args w fun e w' => e = .returned v ∧ At [A] w [A] w') :
 Calls P f args w fun e w' => e = .returned v ∧ At L0 w0 L w' :=
 (hc (h.sep1 s)).mono fun e w' ⟨he, t⟩ => ⟨he, ((h.call1 s t).perm s.perm.symm)⟩
theorem through0 {L0 L : List Part} {w0 w : World} {P : Program} {f : FuncId} {args : Array Value} {v : Value} (h : At L0 w0 L w) (hc : Calls P f args w fun e w' => e = .returned v ∧ Ext w w') :
 Calls P f args w fun e w' => e = .returned v ∧ At L0 w0 L w' := hc.mono fun e w' ⟨he, t⟩ => ⟨he, h.ext t⟩
section
variable {w : World} {b : Bk} {p f : ByteArray} {n mode : Int}
theorem may_code {has : Bool} (hh : (find b.es p n f).isSome = has) : b.st.may p n f mode = if rightM p mode = false then 10 else if has = true then 15 else if 64 ≤ heldN b.es n f then 14 else if lastN ≤ counter b.first b.cs p then 53 else 0 := by
 subst hh; rfl
theorem may_any (h : Sep [BookP b] w) (hp : p.size ≤ 1000000) (h0 : 0 ≤ n) (h1 : n < big64) (hf : f.size ≤ maxLen) (hl : b.es.length ≤ 1000000000) (hc : ∀ q, 0 ≤ counter b.first b.cs q) :
 Calls Tryz.prog 132 #[.pointer (some ⟨b.p, 0, none⟩), .string p, .agg #[.int .u64 n, .string f], .int .i64 mode] w fun e w' => e = .returned (.int .i64 (b.st.may p n f mode)) ∧ At [BookP b] w [BookP b] w' := by
 obtain ⟨kl, hk⟩ := keyP (p := p) (by unfold maxLen; omega) h0 h1 hf
 have hA := begin0 h
 have hF := hA.facts
 have hr := right_any p mode
 have hcode := fun has => may_code (b := b) (p := p) (f := f) (n := n) (mode := mode) (has := has)
 obtain ⟨r, hrr⟩ : ∃ r, rightM p mode = r := ⟨_, rfl⟩
 rw [hrr] at hcode hr
 unfold keyV at *
 cases hfi : find b.es p n f with
 | none =>
  have hmiss := Lib.hid (find_none hfi)
  have hcode' := Lib.hid (hcode false (by rw [hfi]; rfl))
  clear h hfi hcode hrr
  have hF := hA.facts; (try simp only [uY] at hA hF)
  go_enter Tryz.func132, Tryz.ntmps132
  go_wp2_with ((with_reducible refine gbx ?_); refine wC (E := 25) hA ?_; clear hF hA; intro bS w1 hA hbS hF; (try simp only [uY] at hA hF))
  (refine wp_region_new (a1 := ?a1_q1) (v := ?v_q1) 11 9 51 _ (.agg #[.string .empty, .int .u64 0, .string .empty, .int .i64 0, .int .u64 0, .int .i64 0]) [.string .empty, .int .u64 0, .string .empty, .int .i64 0, .int .u64 0, .int .i64 0] ([.string .empty, .int .u64 0, .string .empty, .int .i64 0, .int .u64 0, .int .i64 0]) (by kernel_rfl) (by kernel_rfl) rfl rfl ?hyd_q1 (by kernel_rfl) rfl hA ?h1_q1 ?hd_q1 ?hy_q1 ?hu_q1 ?hsz_q1 ?hus_q1 ?hl_q1 ?h2_q1); (case h1_q1 => (intro R wR hR; (try clear hF); (simp only [List.take_succ_cons, List.take_zero, List.drop_succ_cons, List.drop_zero]); (have hn1 := Cl.none hR); (have hn2 := Cl.none2 hR); (repeat (first | go_big_quiet_skip | (go_big_quiet_want; (first | (refine qM 25 2 ?_; go_frame; go_big_quiet_on) | ((refine quiet_look_none_at rfl rfl (by (try simp only [Act.eval, eV]) <;> exact rfl) (k := 90) (es := ents b.es) sR lawP Tryz.underlying88 hk hmiss.out (z := nullE.val) (fun _ => by kernel_rfl) ?_); go_frame; go_big_quiet_on) | (refine qL ?_; go_frame; go_big_quiet_on) | (go_big_quiet_op; (first | go_big_quiet_on)))))); (refine wpQuiet_nil ?_); exact rfl)); (case hyd_q1 => rfl); (case hd_q1 => (first | decide | simp)); (case hy_q1 => ((try simp only [Act.eval, Array.getD_eq_getD_getElem?, List.getElem?_toArray, List.getElem?_cons_succ, List.getElem?_cons_zero, Option.getD_some]); exact rfl)); (case hu_q1 => exact rfl); (case hsz_q1 => kernel_rfl); (case hus_q1 => rfl); (case hl_q1 => rfl); (intro b1 w1 hB hb1; clear hF hA; have hA := hB; clear hB; (simp only [List.drop_succ_cons, List.drop_zero]); have hF := hA.facts; (try simp only [uY] at hA hF); (try go_frame))
  have hB := fold0 b hA sR sR sR
  clear hF hA; have hA := hB; clear hB
  have hF := hA.facts; (try simp only [uY] at hA hF)
  go_wp2_with fail
  refine (hr w1 hp).mono ?_
  clear hr
  rintro e w2 ⟨rfl, hx⟩
  have hB := hA.ext hx
  clear hF hA hx; have hA := hB; clear hB
  have hF := hA.facts; (try simp only [uY] at hA hF)
  cases r
  · go_wp2_with fail
    go_ret
    exact ⟨by rw [hcode'.out]; rfl, hA.only1 sR⟩
  · go_wp2_with fail
    refine (held_any (hA.sep1 (A := BookP b) sR) n f hl).mono ?_
    have hq0 : heldN b.es n f ≤ 1000000000 := by have := heldN_le b.es n f; omega
    generalize heldN b.es n f = q at *
    rintro e w1 ⟨rfl, hT⟩; have hB := hA.call1 sR hT; clear hF hA hT; have hA := hB; clear hB; have hF := hA.facts; (try simp only [uY] at hA hF)
    by_cases hq : 64 ≤ q
    · have hq' : (64 : Int) ≤ (q : Int) := by omega
      have hq2 := Lib.hid hq
      clear hq
      go_wp2_with fail
      go_ret
      exact ⟨by rw [hcode'.out]; simp [hq2.out], hA.only1 sR⟩
    · have hq' : ¬ (64 : Int) ≤ (q : Int) := by omega
      have hcode2 : b.st.may p n f mode = if lastN ≤ counter b.first b.cs p then 53 else 0 := by rw [hcode'.out, if_neg (by simp), if_neg (by simp), if_neg hq]
      have hcode3 := Lib.hid hcode2
      clear hq hcode2 hcode'
      go_wp2_with fail
      refine (counter_any (hA.sep1 (A := BookP b) sR) (p := p) (by unfold maxLen; omega)).mono ?_
      have hc0 := hc p
      generalize counter b.first b.cs p = cc at *
      rintro e w1 ⟨rfl, hT⟩; have hB := hA.call1 sR hT; clear hF hA hT; have hA := hB; clear hB; have hF := hA.facts; (try simp only [uY] at hA hF)
      by_cases hq3 : 9223372036854775807 ≤ cc
      · have hcode4 := Lib.hid (hcode3.out.trans (if_pos hq3))
        go_wp2_with fail
        go_ret
        exact ⟨by rw [hcode4.out]; rfl, hA.only1 sR⟩
      · have hcode4 := Lib.hid (hcode3.out.trans (if_neg hq3))
        go_wp2_with fail
        go_ret
        exact ⟨by rw [hcode4.out]; rfl, hA.only1 sR⟩
 | some x =>
  have hmem := Lib.hid (find_mem hfi)
  have hcode' := Lib.hid (hcode true (by rw [hfi]; rfl))
  clear h hfi hcode hrr
  have hF := hA.facts; (try simp only [uY] at hA hF)
  unfold Ent.val keyV at hmem
  go_enter Tryz.func132, Tryz.ntmps132
  go_wp2_with ((with_reducible refine gbx ?_); refine wC (E := 25) hA ?_; clear hF hA; intro bS w1 hA hbS hF; (try simp only [uY] at hA hF))
  (refine wp_region_new (a1 := ?a1_q2) (v := ?v_q2) 11 9 51 _ (.agg #[.string .empty, .int .u64 0, .string .empty, .int .i64 0, .int .u64 0, .int .i64 0]) [.string .empty, .int .u64 0, .string .empty, .int .i64 0, .int .u64 0, .int .i64 0] ([.string x.path, .int .u64 x.num, .string x.foot, .int .i64 x.mode, .int .u64 x.n, .int .i64 x.stamp]) (by kernel_rfl) (by kernel_rfl) rfl rfl ?hyd_q2 (by kernel_rfl) rfl hA ?h1_q2 ?hd_q2 ?hy_q2 ?hu_q2 ?hsz_q2 ?hus_q2 ?hl_q2 ?h2_q2); (case h1_q2 => (intro R wR hR; (try clear hF); (simp only [List.take_succ_cons, List.take_zero, List.drop_succ_cons, List.drop_zero]); (have hn1 := Cl.none hR); (have hn2 := Cl.none2 hR); (repeat (first | go_big_quiet_skip | (go_big_quiet_want; (first | (refine qM 25 2 ?_; go_frame; go_big_quiet_on) | ((refine quiet_look_some_at rfl rfl (by (try simp only [Act.eval, eV]) <;> exact rfl) (k := 90) (es := ents b.es) sR lawP Tryz.underlying88 hk hmem.out ?_); go_frame; go_big_quiet_on) | (refine qL ?_; go_frame; go_big_quiet_on) | (go_big_quiet_op; (first | go_big_quiet_on)))))); (refine wpQuiet_nil ?_); exact rfl)); (case hyd_q2 => rfl); (case hd_q2 => (first | decide | simp)); (case hy_q2 => ((try simp only [Act.eval, Array.getD_eq_getD_getElem?, List.getElem?_toArray, List.getElem?_cons_succ, List.getElem?_cons_zero, Option.getD_some]); exact rfl)); (case hu_q2 => exact rfl); (case hsz_q2 => kernel_rfl); (case hus_q2 => rfl); (case hl_q2 => rfl); (intro b1 w1 hB hb1; clear hF hA; have hA := hB; clear hB; (simp only [List.drop_succ_cons, List.drop_zero]); have hF := hA.facts; (try simp only [uY] at hA hF); (try go_frame))
  have hB := fold0 b hA sR sR sR
  clear hF hA; have hA := hB; clear hB
  have hF := hA.facts; (try simp only [uY] at hA hF)
  go_wp2_with fail
  refine (hr w1 hp).mono ?_
  clear hr
  rintro e w2 ⟨rfl, hx⟩
  have hB := hA.ext hx
  clear hF hA hx; have hA := hB; clear hB
  have hF := hA.facts; (try simp only [uY] at hA hF)
  cases r
  all_goals
   go_wp2_with fail
   go_ret
   exact ⟨by rw [hcode'.out]; rfl, hA.only1 sR⟩
end
end Go.Proofs.YtpebabaigakagaaGreatDoor.Lock
end
section
namespace Go.Proofs.YtpebabaigakagaaGreatDoor.Lock
open Go.RowKit
open Go.Maps (Keyed)
open Path (bl rightB overB)
theorem ctrs_app (l r : List (ByteArray × Int)) : ctrs (l ++ r) = ctrs l ++ ctrs r := by simp [ctrs]
section
variable {P : Program} {ops : Array Oper} {rest : List Oper} {o : Oper} {a : Act} {Q : Exit → Act → World → Prop} {L0 L F : List Part} {w0 w : World} {k : TypeId} {c : Nat}
theorem wpList_putC_at {t : TypeId} {m x y : Operand} {cs : List (ByteArray × Int)} {p : ByteArray} {n : Int} (hg : o.guard = none) (hop : o.op = .mapUpdate t m x y) (hm : a.eval m = .map (some c)) (hx : a.eval x = .string p) (hy : a.eval y = .int .u64 n)
 (h : At L0 w0 L w) (s : Sel (Part.map P k c (ctrs cs)) L F) {e : TypeId} (K : Keyed P k) (ht : P.underlying t = some (.map k e)) {kl : Lit} (hk : keyOf P k (.string p) = some kl)
 (hK : ∀ w', At L0 w0 (Part.map P k c (ctrs (putC cs p n)) :: F) w' → wpList P ops Q rest (a.put o.dst undef) w') : wpList P ops Q (o :: rest) a w := by
 cases hq : ctr cs p with
 | none =>
  refine wpList_put_new_at hg hop hm hx hy h s K ht hk (ctr_none hq) fun w' h' => hK w' ?_
  rw [putC_none hq, ctrs_app]
  exact h'
 | some u =>
  obtain ⟨l1, l2, rfl, hl⟩ := ctr_split hq
  rw [ctrs_app] at s
  refine wpList_put_there_at (u := .int .u64 u) (l1 := ctrs l1) (l2 := ctrs l2) hg hop hm hx hy h s K ht hk fun w' h' => hK w' ?_
  rw [putC_mid hl, ctrs_app]
  exact h'
end
section
variable {w : World} {b : Bk} {p f : ByteArray} {n mode : Int}
def Bk.with (b : Bk) (s : S3) : Bk := ⟨b.p, b.m, b.c, b.first, s.es, s.cs⟩
theorem with_added : b.with (b.st.added p n f mode) = ⟨b.p, b.m, b.c, b.first, b.es ++ [b.st.newE p n f mode], putC b.cs p (counter b.first b.cs p + 1)⟩ := rfl
theorem ents_one (l : List Ent) (e : Ent) : ents l ++ [(keyV e.path e.num e.foot, e.val)] = ents (l ++ [e]) := ents_snoc l e
theorem add_no (h : Sep [BookP b] w) (hp : p.size ≤ 1000000) (h0 : 0 ≤ n) (h1 : n < big64) (hf : f.size ≤ maxLen) (hl : b.es.length ≤ 1000000000) (hc : ∀ q, 0 ≤ counter b.first b.cs q) {c : Int} (hm : b.st.may p n f mode = c) (hm0 : c ≠ 0) :
 Calls Tryz.prog 131 #[.pointer (some ⟨b.p, 0, none⟩), .string p, .agg #[.int .u64 n, .string f], .int .i64 mode] w fun e w' => e = .returned (.tuple #[nullE.val, .int .i64 c]) ∧ At [BookP b] w [BookP b] w' := by
 have hA := At.start h
 have hF := hA.facts
 have hm' := Lib.hid hm
 have hm2 : (c == 0) = false := by simpa using hm0
 clear h hm hm0
 have hF := hA.facts; (try simp only [uY] at hA hF)
 go_enter Tryz.func131, Tryz.ntmps131
 go_wp2_with (first | ((with_reducible refine gbx ?_); refine wC (E := 25) hA ?_; clear hF hA; intro bS w1 hA hbS hF; (try simp only [uY] at hA hF)) | ((with_reducible refine gal ?_); refine wG 51 [.string .empty, .int .u64 0, .string .empty, .int .i64 0, .int .u64 0, .int .i64 0] hA ?_; clear hF hA; intro bE w1 hA hbE hF; (try simp only [uY] at hA hF)))
 refine (may_any (hA.sep1 (A := BookP b) sR) hp h0 h1 hf hl hc).mono ?_
 rw [hm'.out]
 rintro e w1 ⟨rfl, hT⟩; have hB := hA.call1 sR hT; clear hF hA hT; have hA := hB; clear hB; have hF := hA.facts; (try simp only [uY] at hA hF)
 go_wp2_with ((with_reducible refine gst ?_); refine wT hA ?_; clear hF hA; intro w1 hA hF; (try simp only [uY] at hA hF))
 refine bodyPost_ret (v := .tuple #[nullE.val, .int .i64 c]) (by simp [results, Tryz.results131, go_sem, hF, nullE, Ent.val] <;> rfl) rfl ⟨rfl, ?_⟩
 exact hA.only1 sR
theorem add_yes (h : Sep [BookP b] w) (hp : p.size ≤ 1000000) (h0 : 0 ≤ n) (h1 : n < big64) (hf : f.size ≤ maxLen) (hl : b.es.length ≤ 1000000000) (hc : ∀ q, 0 ≤ counter b.first b.cs q) (hok : ∀ x ∈ b.es, x.path.size ≤ 1000000 ∧ x.stamp ≤ 1000000000) (hm : b.st.may p n f mode = 0) :
 Calls Tryz.prog 131 #[.pointer (some ⟨b.p, 0, none⟩), .string p, .agg #[.int .u64 n, .string f], .int .i64 mode] w fun e w' => e = .returned (.tuple #[(b.st.newE p n f mode).val, .int .i64 0]) ∧ At [BookP b] w [BookP (b.with (b.st.added p n f mode))] w' := by
 obtain ⟨kl, hk⟩ := keyP (p := p) (by unfold maxLen; omega) h0 h1 hf
 obtain ⟨kl2, hk2⟩ := keyT (p := p) (by unfold maxLen; omega)
 have hpm : p.size ≤ maxLen := by unfold maxLen; omega
 obtain ⟨_, hfi, _, hcl⟩ := may_parts hm
 have hmiss := Lib.hid (find_none (es := b.es) hfi)
 have hc0 := hc p
 have hms := maxS_le (l := b.es) (p := p) (B := 1000000000) (by omega) (fun x hx => (hok x hx).2)
 have hA := At.start h
 have hF := hA.facts
 have hm' := Lib.hid hm
 have hok' := Lib.hid hok
 have hcl' : counter b.first b.cs p < 9223372036854775807 := hcl
 have hwr : IntKind.u64.wrap (counter b.first b.cs p + 1) = counter b.first b.cs p + 1 := by rw [IntKind.wrap_u64]; omega
 rw [with_added]
 have hne : (b.st.newE p n f mode).val = .agg #[.string p, .int .u64 n, .string f, .int .i64 mode, .int .u64 (counter b.first b.cs p + 1), .int .i64 (maxS b.es p + 1)] := rfl
 rw [hne]
 have hone : ents b.es ++ [(.agg #[.string p, .int .u64 n, .string f], .agg #[.string p, .int .u64 n, .string f, .int .i64 mode, .int .u64 (counter b.first b.cs p + 1), .int .i64 (maxS b.es p + 1)])] = ents (b.es ++ [b.st.newE p n f mode]) := ents_one b.es (b.st.newE p n f mode)
 unfold keyV at *
 have hct := fun (w1 : World) (q : Sep [BookP b] w1) => counter_any q (p := p) hpm
 have hst := fun (w1 : World) (q : Sep [BookP b] w1) => stamp_any q p hp hok
 generalize hnn : b.st.newE p n f mode = e at *
 generalize counter b.first b.cs p = cc at *
 generalize maxS b.es p = ss at *
 have hone' := Lib.hid hone
 clear h hm hok hfi hcl hone hnn hne
 have hF := hA.facts; (try simp only [uY] at hA hF)
 go_enter Tryz.func131, Tryz.ntmps131
 go_wp2_with (first | ((with_reducible refine gbx ?_); refine wC (E := 25) hA ?_; clear hF hA; intro bS w1 hA hbS hF; (try simp only [uY] at hA hF)) | ((with_reducible refine gal ?_); refine wG 51 [.string .empty, .int .u64 0, .string .empty, .int .i64 0, .int .u64 0, .int .i64 0] hA ?_; clear hF hA; intro bE w1 hA hbE hF; (try simp only [uY] at hA hF)))
 refine (may_any (hA.sep1 (A := BookP b) sR) hp h0 h1 hf hl hc).mono ?_
 rw [hm'.out]
 rintro e w1 ⟨rfl, hT⟩; have hB := hA.call1 sR hT; clear hF hA hT; have hA := hB; clear hB; have hF := hA.facts; (try simp only [uY] at hA hF)
 go_wp2_with fail
 (refine wp_region_new (a1 := ?a1_q3) (v := ?v_q3) 11 11 51 _ (.agg #[.string .empty, .int .u64 0, .string .empty, .int .i64 0, .int .u64 0, .int .i64 0]) [.string .empty, .int .u64 0, .string .empty, .int .i64 0, .int .u64 0, .int .i64 0] ([.string p, .int .u64 n, .string f, .int .i64 mode, .int .u64 (cc + 1), .int .i64 (ss + 1)]) (by kernel_rfl) (by kernel_rfl) rfl rfl ?hyd_q3 (by kernel_rfl) rfl hA ?h1_q3 ?hd_q3 ?hy_q3 ?hu_q3 ?hsz_q3 ?hus_q3 ?hl_q3 ?h2_q3); (case h1_q3 => (intro R wR hR; (try clear hF); (simp only [List.take_succ_cons, List.take_zero, List.drop_succ_cons, List.drop_zero]); (have hn1 := Cl.none hR); (have hn2 := Cl.none2 hR); (repeat (first | go_big_quiet_skip | (go_big_quiet_want; (first | (refine qM 25 2 ?_; go_frame; go_big_quiet_on) | (refine qL ?_; go_frame; go_big_quiet_on) | (go_big_quiet_op; (first | go_big_quiet_on | ((apply Exists.intro); (refine ⟨fun w1 hw => ?_, ?_⟩); (focus ((have hw := Cl.out hw); (first | exact through1 hw (A := BookP b) sR (hct _) | exact through1 hw (A := BookP b) sR (hst _)))); (go_big_quiet_on)))))))); (refine wpQuiet_nil ?_); exact rfl)); (case hyd_q3 => rfl); (case hd_q3 => (first | decide | simp)); (case hy_q3 => ((try simp only [Act.eval, Array.getD_eq_getD_getElem?, List.getElem?_toArray, List.getElem?_cons_succ, List.getElem?_cons_zero, Option.getD_some]); exact rfl)); (case hu_q3 => exact rfl); (case hsz_q3 => kernel_rfl); (case hus_q3 => rfl); (case hl_q3 => rfl); (intro b1 w1 hB hb1; clear hF hA; have hA := hB; clear hB; (simp only [List.drop_succ_cons, List.drop_zero]); have hF := hA.facts; (try simp only [uY] at hA hF); (try go_frame))
 clear hct hst
 have hB := open0 hA sR
 clear hF hA; have hA := hB; clear hB
 have hF := hA.facts; (try simp only [uY] at hA hF)
 go_wp2_with fail
 (refine wp_region_head 7 (Cl _ _ _) (by kernel_rfl) (by kernel_rfl) (Cl.drew hA) ?_); (simp only [List.take_succ_cons, List.take_zero, List.drop_succ_cons, List.drop_zero]); (have hn1 := Cl.none hA); (have hn2 := Cl.none2 hA); (repeat (first | go_big_quiet_skip | (go_big_quiet_want; (first | (refine qL ?_; go_frame; go_big_quiet_on) | (go_big_quiet_op; (first | go_big_quiet_on))))))
 (refine wpQuiet_nil ?_); (intro w1 hB); (clear hF hA hn1 hn2); (have hA := Cl.out hB); (clear hB); have hF := hA.facts; (try simp only [uY] at hA hF)
 go_wp2_with (refine wpList_putC_at rfl rfl rfl (by (try simp only [Act.eval, eV]) <;> exact rfl) (by exact rfl) hA (k := 9) (cs := b.cs) sR lawT Tryz.underlying91 hk2 ?_; intro w1 hB; clear hF hA; have hA := hB; clear hB; have hF := hA.facts; (try simp only [uY] at hA hF))
 try go_frame
 (refine wp_region_head 8 (Cl _ _ _) (by kernel_rfl) (by kernel_rfl) (Cl.drew hA) ?_); (simp only [List.take_succ_cons, List.take_zero, List.drop_succ_cons, List.drop_zero]); (have hn1 := Cl.none hA); (have hn2 := Cl.none2 hA); (repeat (first | go_big_quiet_skip | (go_big_quiet_want; (first | (refine qM 25 2 ?_; go_frame; go_big_quiet_on) | (refine qM 51 6 ?_; go_frame; go_big_quiet_on) | (refine qL ?_; go_frame; go_big_quiet_on) | (go_big_quiet_op; (first | go_big_quiet_on))))))
 (refine wpQuiet_nil ?_); (intro w1 hB); (clear hF hA hn1 hn2); (have hA := Cl.out hB); (clear hB); have hF := hA.facts; (try simp only [uY] at hA hF)
 go_wp2_with (first | ((with_reducible refine gst ?_); refine wT hA ?_; clear hF hA; intro w1 hA hF; (try simp only [uY] at hA hF)) | (refine wpList_put_new_at rfl rfl rfl (by (try simp only [Act.eval, eV]) <;> exact rfl) (by (try simp only [Act.eval, eV]) <;> exact rfl) hA (k := 90) (es := ents b.es) sR lawP Tryz.underlying88 hk hmiss.out ?_; intro w1 hB; rw [hone'.out] at hB; clear hF hA; have hA := hB; clear hB; have hF := hA.facts; (try simp only [uY] at hA hF)))
 refine bodyPost_ret (v := .tuple #[.agg #[.string p, .int .u64 n, .string f, .int .i64 mode, .int .u64 (cc + 1), .int .i64 (ss + 1)], .int .i64 0]) (by simp [results, Tryz.results131, go_sem, hF]) rfl ⟨rfl, ?_⟩
 exact close0 ⟨b.p, b.m, b.c, b.first, b.es ++ [e], putC b.cs p (cc + 1)⟩ hA sR sR sR
theorem add_any (h : Sep [BookP b] w) (hp : p.size ≤ 1000000) (h0 : 0 ≤ n) (h1 : n < big64) (hf : f.size ≤ maxLen) (hl : b.es.length ≤ 1000000000) (hc : ∀ q, 0 ≤ counter b.first b.cs q) (hok : ∀ x ∈ b.es, x.path.size ≤ 1000000 ∧ x.stamp ≤ 1000000000) :
 Calls Tryz.prog 131 #[.pointer (some ⟨b.p, 0, none⟩), .string p, .agg #[.int .u64 n, .string f], .int .i64 mode] w fun e w' => e = .returned (.tuple #[(b.st.addE p n f mode).val, .int .i64 (b.st.may p n f mode)]) ∧ At [BookP b] w [BookP (b.with (b.st.add p n f mode))] w' := by
 by_cases hm : b.st.may p n f mode = 0
 · have := add_yes h hp h0 h1 hf hl hc hok hm
   unfold S3.addE S3.add
   rw [if_pos hm, if_pos hm, hm]
   exact this
 · have := add_no h hp h0 h1 hf hl hc (c := b.st.may p n f mode) rfl hm
   unfold S3.addE S3.add
   rw [if_neg hm, if_neg hm]
   exact this
end
end Go.Proofs.YtpebabaigakagaaGreatDoor.Lock
end
section
namespace Go.Proofs.YtpebabaigakagaaGreatDoor.Lock
open Go.RowKit
open Go.Maps (Keyed)
open Path (bl rightB overB)
section
variable {w : World} {b : Bk} {p f : ByteArray} {n mode : Int}
theorem remove_none (h : find b.es p n f = none) : b.st.remove p n f = b.st := by
 unfold S3.remove Bk.st
 congr 1
 rw [List.filter_eq_self]
 intro e he
 have := find_none_iff.1 h e he
 simp only [Ent.is, Bool.not_eq_true', decide_eq_false_iff_not]
 exact this
theorem keys_of {es : List Ent} (h : (ents es).Pairwise (fun p q => p.1 ≠ q.1)) : es.Pairwise (fun a b => a.key ≠ b.key) := by
 unfold ents at h
 rw [List.pairwise_map] at h
 exact h
theorem is_key {a e : Ent} (h : a.is e.path e.num e.foot = true) : a.key = e.key := by
 simp [Ent.is] at h
 simp [Ent.key, keyV, h]
theorem remove_mid {l1 l2 : List Ent} {e : Ent} (hk : (l1 ++ e :: l2).Pairwise (fun a b => a.key ≠ b.key)) : (l1 ++ e :: l2).filter (fun x => !x.is e.path e.num e.foot) = l1 ++ l2 := by
 have h1 := List.pairwise_append.1 hk
 have h2 := List.pairwise_cons.1 h1.2.1
 have he : e.is e.path e.num e.foot = true := by simp [Ent.is]
 have f1 : l1.filter (fun x => !x.is e.path e.num e.foot) = l1 := by
  rw [List.filter_eq_self]
  intro x hx
  cases hq : x.is e.path e.num e.foot with
  | false => rfl
  | true => exact absurd (is_key hq) (h1.2.2 x hx e (by simp))
 have f2 : l2.filter (fun x => !x.is e.path e.num e.foot) = l2 := by
  rw [List.filter_eq_self]
  intro x hx
  cases hq : x.is e.path e.num e.foot with
  | false => rfl
  | true => exact absurd (is_key hq).symm (h2.1 x hx)
 rw [List.filter_append, List.filter_cons, he, f1, f2]
 rfl
theorem remove_no (h : Sep [BookP b] w) (hp : p.size ≤ maxLen) (h0 : 0 ≤ n) (h1 : n < big64) (hf : f.size ≤ maxLen) (hfi : find b.es p n f = none) :
 Calls Tryz.prog 106 #[.pointer (some ⟨b.p, 0, none⟩), .string p, .agg #[.int .u64 n, .string f]] w fun e w' => e = .returned (.int .i64 52) ∧ At [BookP b] w [BookP b] w' := by
 obtain ⟨kl, hk⟩ := keyP hp h0 h1 hf
 have hA := begin0 h
 have hF := hA.facts
 have hmiss := Lib.hid (find_none hfi)
 clear h hfi
 unfold keyV at *
 have hF := hA.facts; (try simp only [uY] at hA hF)
 go_enter Tryz.func106, Tryz.ntmps106
 go_wp2_with ((with_reducible refine gbx ?_); refine wC (E := 25) hA ?_; clear hF hA; intro bS w1 hA hbS hF; (try simp only [uY] at hA hF))
 (refine wp_region_new (a1 := ?a1_q4) (v := ?v_q4) 11 7 51 _ (.agg #[.string .empty, .int .u64 0, .string .empty, .int .i64 0, .int .u64 0, .int .i64 0]) [.string .empty, .int .u64 0, .string .empty, .int .i64 0, .int .u64 0, .int .i64 0] ([.string .empty, .int .u64 0, .string .empty, .int .i64 0, .int .u64 0, .int .i64 0]) (by kernel_rfl) (by kernel_rfl) rfl rfl ?hyd_q4 (by kernel_rfl) rfl hA ?h1_q4 ?hd_q4 ?hy_q4 ?hu_q4 ?hsz_q4 ?hus_q4 ?hl_q4 ?h2_q4); (case h1_q4 => (intro R wR hR; (try clear hF); (simp only [List.take_succ_cons, List.take_zero, List.drop_succ_cons, List.drop_zero]); (have hn1 := Cl.none hR); (have hn2 := Cl.none2 hR); (repeat (first | go_big_quiet_skip | (go_big_quiet_want; (first | (refine qM 25 2 ?_; go_frame; go_big_quiet_on) | ((refine quiet_look_none_at rfl rfl (by (try simp only [Act.eval, eV]) <;> exact rfl) (k := 90) (es := ents b.es) sR lawP Tryz.underlying88 hk hmiss.out (z := nullE.val) (fun _ => by kernel_rfl) ?_); go_frame; go_big_quiet_on) | (refine qL ?_; go_frame; go_big_quiet_on) | (go_big_quiet_op; (first | go_big_quiet_on)))))); (refine wpQuiet_nil ?_); exact rfl)); (case hyd_q4 => rfl); (case hd_q4 => (first | decide | simp)); (case hy_q4 => ((try simp only [Act.eval, Array.getD_eq_getD_getElem?, List.getElem?_toArray, List.getElem?_cons_succ, List.getElem?_cons_zero, Option.getD_some]); exact rfl)); (case hu_q4 => exact rfl); (case hsz_q4 => kernel_rfl); (case hus_q4 => rfl); (case hl_q4 => rfl); (intro b1 w1 hB hb1; clear hF hA; have hA := hB; clear hB; (simp only [List.drop_succ_cons, List.drop_zero]); have hF := hA.facts; (try simp only [uY] at hA hF); (try go_frame))
 go_wp2_with fail
 go_ret
 exact ⟨rfl, close0 b hA sR sR sR⟩
theorem remove_yes (h : Sep [BookP b] w) (hp : p.size ≤ maxLen) (h0 : 0 ≤ n) (h1 : n < big64) (hf : f.size ≤ maxLen) {x : Ent} (hfi : find b.es p n f = some x) :
 Calls Tryz.prog 106 #[.pointer (some ⟨b.p, 0, none⟩), .string p, .agg #[.int .u64 n, .string f]] w fun e w' => e = .returned (.int .i64 0) ∧ At [BookP b] w [BookP (b.with (b.st.remove p n f))] w' := by
 obtain ⟨kl, hk⟩ := keyP hp h0 h1 hf
 have hA := begin0 h
 have hmem := Lib.hid (find_mem hfi)
 obtain ⟨l1, l2, hes, rfl, rfl, rfl, _⟩ := find_split hfi
 have hkeys := keys_of (MapAt.keys (hA.get (A := mapC b.m (ents b.es)) sR))
 rw [hes] at hkeys
 have hrem : b.st.remove x.path x.num x.foot = ⟨b.first, l1 ++ l2, b.cs⟩ := by
  unfold S3.remove Bk.st
  simp only [hes]
  rw [remove_mid hkeys]
 rw [hrem]
 have hF := hA.facts
 have hents : ents b.es = ents l1 ++ (x.key, x.val) :: ents l2 := by rw [hes]; simp [ents, ent]
 have hes' := Lib.hid hents
 clear h hfi hkeys hrem hes hents
 unfold Ent.val keyV at hmem
 unfold keyV at hk
 have hF := hA.facts; (try simp only [uY] at hA hF)
 go_enter Tryz.func106, Tryz.ntmps106
 go_wp2_with ((with_reducible refine gbx ?_); refine wC (E := 25) hA ?_; clear hF hA; intro bS w1 hA hbS hF; (try simp only [uY] at hA hF))
 (refine wp_region_new (a1 := ?a1_q5) (v := ?v_q5) 11 7 51 _ (.agg #[.string .empty, .int .u64 0, .string .empty, .int .i64 0, .int .u64 0, .int .i64 0]) [.string .empty, .int .u64 0, .string .empty, .int .i64 0, .int .u64 0, .int .i64 0] ([.string x.path, .int .u64 x.num, .string x.foot, .int .i64 x.mode, .int .u64 x.n, .int .i64 x.stamp]) (by kernel_rfl) (by kernel_rfl) rfl rfl ?hyd_q5 (by kernel_rfl) rfl hA ?h1_q5 ?hd_q5 ?hy_q5 ?hu_q5 ?hsz_q5 ?hus_q5 ?hl_q5 ?h2_q5); (case h1_q5 => (intro R wR hR; (try clear hF); (simp only [List.take_succ_cons, List.take_zero, List.drop_succ_cons, List.drop_zero]); (have hn1 := Cl.none hR); (have hn2 := Cl.none2 hR); (repeat (first | go_big_quiet_skip | (go_big_quiet_want; (first | (refine qM 25 2 ?_; go_frame; go_big_quiet_on) | ((refine quiet_look_some_at rfl rfl (by (try simp only [Act.eval, eV]) <;> exact rfl) (k := 90) (es := ents b.es) sR lawP Tryz.underlying88 hk hmem.out ?_); go_frame; go_big_quiet_on) | (refine qL ?_; go_frame; go_big_quiet_on) | (go_big_quiet_op; (first | go_big_quiet_on)))))); (refine wpQuiet_nil ?_); exact rfl)); (case hyd_q5 => rfl); (case hd_q5 => (first | decide | simp)); (case hy_q5 => ((try simp only [Act.eval, Array.getD_eq_getD_getElem?, List.getElem?_toArray, List.getElem?_cons_succ, List.getElem?_cons_zero, Option.getD_some]); exact rfl)); (case hu_q5 => exact rfl); (case hsz_q5 => kernel_rfl); (case hus_q5 => rfl); (case hl_q5 => rfl); (intro b1 w1 hB hb1; clear hF hA; have hA := hB; clear hB; (simp only [List.drop_succ_cons, List.drop_zero]); have hF := hA.facts; (try simp only [uY] at hA hF); (try go_frame))
 go_wp2_with fail
 try go_frame
 (refine wp_region_head 7 (Cl _ _ _) (by kernel_rfl) (by kernel_rfl) (Cl.drew hA) ?_); (simp only [List.take_succ_cons, List.take_zero, List.drop_succ_cons, List.drop_zero]); (have hn1 := Cl.none hA); (have hn2 := Cl.none2 hA); (repeat (first | go_big_quiet_skip | (go_big_quiet_want; (first | (refine qM 25 2 ?_; go_frame; go_big_quiet_on) | (refine qL ?_; go_frame; go_big_quiet_on) | (go_big_quiet_op; (first | go_big_quiet_on))))))
 (refine wpQuiet_nil ?_); (intro w1 hB); (clear hF hA hn1 hn2); (have hA := Cl.out hB); (clear hB); have hF := hA.facts; (try simp only [uY] at hA hF)
 unfold mapC at hA
 rw [hes'.out] at hA
 unfold Ent.key keyV at hA
 have hF := hA.facts; (try simp only [uY] at hA hF)
 go_wp2_with (refine wpList_del_there_at rfl rfl rfl (by (try simp only [Act.eval, eV]) <;> exact rfl) hA (k := 90) sR lawP Tryz.underlying88 hk ?_; intro w1 hB; clear hF hA; have hA := hB; clear hB; have hF := hA.facts; (try simp only [uY] at hA hF))
 go_ret
 have hel : ents l1 ++ ents l2 = ents (l1 ++ l2) := by simp [ents]
 rw [hel] at hA
 exact ⟨rfl, close0 ⟨b.p, b.m, b.c, b.first, l1 ++ l2, b.cs⟩ hA sR sR sR⟩
theorem remove_any (h : Sep [BookP b] w) (hp : p.size ≤ maxLen) (h0 : 0 ≤ n) (h1 : n < big64) (hf : f.size ≤ maxLen) :
 Calls Tryz.prog 106 #[.pointer (some ⟨b.p, 0, none⟩), .string p, .agg #[.int .u64 n, .string f]] w fun e w' => e = .returned (.int .i64 (if (find b.es p n f).isSome = true then 0 else 52)) ∧ At [BookP b] w [BookP (b.with (b.st.remove p n f))] w' := by
 cases hfi : find b.es p n f with
 | none =>
  have := remove_no h hp h0 h1 hf hfi
  rw [remove_none hfi]
  exact this
 | some x => exact remove_yes h hp h0 h1 hf hfi
theorem could_any (h : Sep [BookP b] w) (hp : p.size ≤ 1000000) (hok : ∀ x ∈ b.es, x.path.size ≤ 1000000 ∧ x.stamp ≤ 1000000000) :
 Calls Tryz.prog 130 #[.pointer (some ⟨b.p, 0, none⟩), .string p, .int .i64 mode] w fun e w' => e = .returned (.bool (couldD b.es p mode)) ∧ At [BookP b] w [BookP b] w' := by
 have hA := At.start h
 have hF := hA.facts
 have hr := right_any p mode
 have hcd : couldD b.es p mode = (rightM p mode && clearB b.es ⟨p, 0, .empty, mode, 0, maxS b.es p + 1⟩) := by
  rw [clear_could, Bool.and_comm]; rfl
 rw [hcd]
 have hst := fun (w1 : World) (q : Sep [BookP b] w1) => stamp_any q p hp hok
 have hcl := fun (w1 : World) (q : Sep [BookP b] w1) => clear_any q ⟨p, 0, .empty, mode, 0, maxS b.es p + 1⟩ hp (fun x hx => (hok x hx).1)
 generalize clearB b.es ⟨p, 0, .empty, mode, 0, maxS b.es p + 1⟩ = c at *
 simp only at hcl
 generalize maxS b.es p = ss at *
 generalize rightM p mode = r at *
 clear h hok hcd
 have hF := hA.facts; (try simp only [uY] at hA hF)
 go_enter Tryz.func130, Tryz.ntmps130
 go_wp2_with fail
 refine (hr w hp).mono ?_
 clear hr
 rintro e w2 ⟨rfl, hx⟩
 have hB := hA.ext hx
 clear hF hA hx; have hA := hB; clear hB
 have hF := hA.facts; (try simp only [uY] at hA hF)
 cases r
 · go_wp2_with fail
   go_ret
   exact ⟨rfl, hA.only1 sR⟩
 · go_wp2_with fail
   refine (hst _ (hA.sep1 (A := BookP b) sR)).mono ?_
   clear hst
   rintro e w1 ⟨rfl, hT⟩; have hB := hA.call1 sR hT; clear hF hA hT; have hA := hB; clear hB; have hF := hA.facts; (try simp only [uY] at hA hF)
   go_wp2_with fail
   refine (hcl _ (hA.sep1 (A := BookP b) sR)).mono ?_
   clear hcl
   rintro e w1 ⟨rfl, hT⟩; have hB := hA.call1 sR hT; clear hF hA hT; have hA := hB; clear hB; have hF := hA.facts; (try simp only [uY] at hA hF)
   go_wp2_with fail
   go_ret
   exact ⟨rfl, hA.only1 sR⟩
end
end Go.Proofs.YtpebabaigakagaaGreatDoor.Lock
end
section
namespace Go.Proofs.YtpebabaigakagaaGreatDoor.Cmd
open Path (bl rightB overB)
structure Cm where
 kind : Int
 num : Int
 foot : ByteArray
 req : Int
 path : ByteArray
 mode : Int
 n : Int
 time : Int
deriving DecidableEq
def Cm.cells (c : Cm) : List Value := [.int .i64 c.kind, .int .u64 c.num, .string c.foot, .int .u64 c.req, .string c.path, .int .i64 c.mode, .int .u64 c.n, .int .i64 c.time]
def Cm.val (c : Cm) : Value := .agg #[.int .i64 c.kind, .int .u64 c.num, .string c.foot, .int .u64 c.req, .string c.path, .int .i64 c.mode, .int .u64 c.n, .int .i64 c.time]
structure Hs where
 session : Bool
 request : Bool
 path : Bool
 mode : Bool
 n : Bool
 time : Bool
def hasOf (k : Int) : Option Hs :=
 if k = 0 then some ⟨false, false, false, false, false, false⟩
 else if k = 1 then some ⟨true, true, false, false, true, true⟩
 else if k = 2 then some ⟨true, true, false, false, false, false⟩
 else if k = 3 then some ⟨true, true, false, false, false, true⟩
 else if k = 4 then some ⟨true, true, true, true, false, false⟩
 else if k = 5 then some ⟨true, true, true, true, false, false⟩
 else if k = 6 then some ⟨true, true, true, false, false, false⟩
 else if k = 7 then some ⟨true, true, true, false, true, false⟩
 else if k = 8 then some ⟨true, false, false, false, false, true⟩
 else none
def bareC (c : Cm) (h : Hs) : Cm := ⟨c.kind, if h.session then c.num else 0, if h.session then c.foot else .empty, if h.request then c.req else 0, if h.path then c.path else .empty, if h.mode then c.mode else 0, if h.n then c.n else 0, if h.time then c.time else 0⟩
def mostN (k : Int) : Int := if k = 1 then 1048576 else 9223372036854775807
def rightH (c : Cm) (h : Hs) : Bool := decide (c = bareC c h) && (!h.session || rightB (bl c.foot)) && (!h.request || !(c.req == 0)) && (!h.path || rightB (bl c.path)) && (!h.mode || !((c.mode != 1) && (c.mode != 2))) && (!h.n || !((c.n == 0) || decide (mostN c.kind < c.n))) && (decide (0 ≤ c.time) && decide (c.time ≤ 1099511627776))
def rightC (c : Cm) : Bool := match hasOf c.kind with
 | some h => rightH c h
 | none => false
def footC (c : Cm) : ByteArray × Bool := if rightC c then (match hasOf c.kind with
 | some h => if h.path then (c.path, true) else (c.foot, h.session)
 | none => (.empty, false)) else (.empty, false)
def keyC (c : Cm) : Option (ByteArray × Int) := if (footC c).2 then some ((footC c).1, c.num) else none
end Go.Proofs.YtpebabaigakagaaGreatDoor.Cmd
namespace Go
abbrev k8 (k n : Int) (f : ByteArray) (r : Int) (p : ByteArray) (m u t : Int) : List Value := [.int .i64 k, .int .u64 n, .string f, .int .u64 r, .string p, .int .i64 m, .int .u64 u, .int .i64 t]
abbrev k2 (p q : Nat) : List Value := [.pointer (some ⟨p, 0, none⟩), .pointer (some ⟨q, 0, none⟩)]
end Go
end
