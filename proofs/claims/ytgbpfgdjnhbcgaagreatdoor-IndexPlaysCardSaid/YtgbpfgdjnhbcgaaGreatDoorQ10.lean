/- IndexW, IndexD, CollM, MarkC, SessC, joined. -/
import Derived.Test.YtgbpfgdjnhbcgaaGreatDoorQ7
import Derived.Test.YtgbpfgdjnhbcgaaGreatDoorQ9
import Derived.Test.YtgbpfgdjnhbcgaaGreatDoorSortt
set_option linter.unusedSimpArgs false
set_option linter.unusedVariables false
set_option maxRecDepth 100000
set_option maxHeartbeats 16000000
section
namespace Go.Proofs.YtgbpfgdjnhbcgaaGreatDoor.Ix
open Go.RowKit
open Go.Maps (Keyed)
open Path (bl rightB overB)
open Attr (A8 rightI)
open Cmd (Cm keyC footC through0)
attribute [-go_sem] run_eql_struct run_neq_struct run_eqGuard_agg
def NewPost (w : World) (e : Ending) (w' : World) : Prop := ∃ p m, e = .returned (.pointer (some ⟨p, 0, none⟩)) ∧ At [] w [IxP p m []] w'
theorem new_any (w : World) : Calls Tryz.prog 8 #[] w (NewPost w) := by
 have hA : At [] w [] w := At.start (L0 := []) trivial
 have hF := hA.facts
 go_enter Tryz.func8, Tryz.ntmps8
 go_wp2_with (first | ((with_reducible refine gbx ?_); refine wC (E := 76) hA ?_; clear hF hA; intro p w1 hA hp hF; (try simp only [uY] at hA hF)) | ((with_reducible refine gst ?_); refine wT hA ?_; clear hF hA; intro w1 hA hF; (try simp only [uY] at hA hF)) | ((with_reducible refine gbx ?_); refine wC hA ?_; clear hF hA; intro b1 w1 hA hb1 hF; (try simp only [uY] at hA hF)) | (refine wpList_makeMap_at Tryz.prog 37 rfl rfl hA ?_; intro m w1 hB hm; clear hF hA; have hA := hB; clear hB; have hF := hA.facts; (try simp only [uY] at hA hF)))
 go_ret
 exact ⟨p, m, rfl, close0 (es := []) hA sZ sZ⟩
theorem count_any {w : World} {p m : Nat} {es : List En} (h : Sep [IxP p m es] w) : Calls Tryz.prog 12 #[.pointer (some ⟨p, 0, none⟩)] w fun e w' => e = .returned (.int .i64 es.length) ∧ At [IxP p m es] w [IxP p m es] w' := by
 have hA := begin0 h
 have hF := hA.facts
 have hel : (ents es).length = es.length := by simp [ents]
 clear h
 have hF := hA.facts; (try simp only [uY] at hA hF)
 go_enter Tryz.func12, Tryz.ntmps12
 go_wp2_with (first | ((with_reducible refine gst ?_); refine wT hA ?_; clear hF hA; intro w1 hA hF; (try simp only [uY] at hA hF)) | ((with_reducible refine gbx ?_); refine wC hA ?_; clear hF hA; intro b1 w1 hA hb1 hF; (try simp only [uY] at hA hF)) | (refine wpList_len_map_at rfl rfl (by (try simp only [Act.eval, eV]) <;> exact rfl) hA (k := 37) (es := ents es) sR Tryz.underlying74 ?_))
 go_ret
 exact ⟨rfl, close0 hA sR sR⟩
theorem wpList_mergeE_at {P : Program} {ops : Array Oper} {rest : List Oper} {o : Oper} {a : Act} {Q : Exit → Act → World → Prop} {L0 L F : List Part} {w0 w : World} {k : TypeId} {c : Nat} {t : TypeId} {m x y : Operand} {es : List En} {f : ByteArray} {n : Int} {v : A8} (hg : o.guard = none) (hop : o.op = .mapUpdate t m x y) (hm : a.eval m = .map (some c)) (hx : a.eval x = keyV f n)
 (hy : a.eval y = (((find es f n).map (·.a)).getD A8.zero |>.merge v).val)
 (h : At L0 w0 L w) (s : Sel (Part.map P k c (ents es)) L F) {e : TypeId} (K : Keyed P k) (ht : P.underlying t = some (.map k e)) {kl : Lit} (hk : keyOf P k (keyV f n) = some kl)
 (hK : ∀ w', At L0 w0 (Part.map P k c (ents (mergeE es f n v)) :: F) w' → wpList P ops Q rest (a.put o.dst undef) w') : wpList P ops Q (o :: rest) a w := by
 cases hq : find es f n with
 | none =>
  rw [hq] at hy
  refine wpList_put_new_at hg hop hm hx hy h s K ht hk (find_none hq) fun w' h' => hK w' ?_
  rw [merge_none hq, ← ents_one]
  exact h'
 | some u =>
  rw [hq] at hy
  obtain ⟨l1, l2, rfl, h1, h2, hl⟩ := find_split hq
  subst h1 h2
  rw [ents_mid] at s
  refine wpList_put_there_at (u := u.a.val) (l1 := ents l1) (l2 := ents l2) hg hop hm hx hy h s K ht hk fun w' h' => hK w' ?_
  rw [merge_mid (by simp [En.is]) hl, ents_mid]
  exact h'
theorem quiet_find_at {P : Program} {k : TypeId} {c : Nat} {es : List En} {o : Oper} {a : Act} {L0 L F : List Part} {w0 : World} {K : Act → Prop} {t : TypeId} {m x : Operand} (hop : o.op = .lookup t m x false) (hm : a.eval m = .map (some c)) {f : ByteArray} {n : Int} (hx : a.eval x = keyV f n)
 (s : Sel (Part.map P k c (ents es)) L F) {e : TypeId} (Kd : Keyed P k) (ht : P.underlying t = some (.map k e)) {kl : Lit} (hk : keyOf P k (keyV f n) = some kl) (hz : ∀ w, (zeroValue e).run P w = .ok A8.zero.val w) {v : A8} (hv : ((find es f n).map (·.a)).getD A8.zero = v)
 (hK : K (a.put o.dst v.val)) : o.quiet P a (Cl L0 w0 L) K := by
 cases hq : find es f n with
 | none =>
  rw [hq] at hv
  subst hv
  exact quiet_look1_none_at hop hm hx s Kd ht hk (find_none hq) hz hK
 | some u =>
  rw [hq] at hv
  subst hv
  exact quiet_look1_some_at hop hm hx s Kd ht hk (find_mem hq) hK
theorem note_yes {w : World} {p m : Nat} {es : List En} (h : Sep [IxP p m es] w) (kind num : Int) (foot : ByteArray) (req : Int) (path : ByteArray) (mode n time : Int) {ff : ByteArray} (hof : ∀ w, Calls Tryz.prog 32 #[.agg #[.int .i64 kind, .int .u64 num, .string foot, .int .u64 req, .string path, .int .i64 mode, .int .u64 n, .int .i64 time]] w fun e w' => e = .returned (.tuple #[.agg #[.string ff, .int .u64 num], .bool true]) ∧ Ext w w')
 (hff : ff.size ≤ 1000) (h0 : 0 ≤ num) (h1 : num < big64) (r t q : Int) (hr : rightI r t = true) :
 Calls Tryz.prog 22 #[.pointer (some ⟨p, 0, none⟩), .agg #[.int .i64 kind, .int .u64 num, .string foot, .int .u64 req, .string path, .int .i64 mode, .int .u64 n, .int .i64 time], .agg #[.int .i64 r, .int .i64 t], .int .i64 q] w fun e w' => e = .returned (.tuple #[]) ∧ At [IxP p m es] w [IxP p m (mergeE es ff num (noteA r t q))] w' := by
 have hA := begin0 h
 have hF := hA.facts
 clear h
 have hri := fun w => Attr.idRight_any r t w
 rw [hr] at hri
 have hq := Attr.rightI_iff.1 hr
 obtain ⟨kl, hkl⟩ := keyK (f := ff) (n := num) (by unfold maxLen; omega) h0 h1
 obtain ⟨old, hold0⟩ : ∃ old, ((find es ff num).map (·.a)).getD A8.zero = old := ⟨_, rfl⟩
 have hold := Lib.hid hold0
 have hq7 : r = 0 ∨ r = 1 ∨ r = 2 ∨ r = 3 ∨ r = 4 ∨ r = 5 ∨ r = 6 := by omega
 have hwt : IntKind.i64.wrap (t + 1) = t + 1 := by rw [IntKind.wrap_i64] <;> omega
 clear hq hr hold0
 unfold keyV at hkl
 have hF := hA.facts; (try simp only [uY] at hA hF)
 rcases hq7 with rfl | rfl | rfl | rfl | rfl | rfl | rfl
 · have hmg := fun w => Attr.merge_any old ⟨min (max q 0) 1073741824, (t + 1), 0, 0, 0, 0, 0, 0⟩ w
   have hna : noteA 0 t q = ⟨min (max q 0) 1073741824, (t + 1), 0, 0, 0, 0, 0, 0⟩ := rfl
   rw [hna]
   obtain ⟨mg, hmgd⟩ : ∃ mg, old.merge ⟨min (max q 0) 1073741824, (t + 1), 0, 0, 0, 0, 0, 0⟩ = mg := ⟨_, rfl⟩
   have hmg' := Lib.hid hmgd
   rw [hmgd] at hmg
   clear hna hmgd
   obtain ⟨o0, o1, o2, o3, o4, o5, o6, o7⟩ := old
   obtain ⟨g0, g1, g2, g3, g4, g5, g6, g7⟩ := mg
   simp only [A8.val] at hmg
   go_enter Tryz.func22, Tryz.ntmps22
   go_wp2_with (first | ((with_reducible refine gbx ?_); refine wH 27 [.int .i64 kind, .int .u64 num, .string foot, .int .u64 req, .string path, .int .i64 mode, .int .u64 n, .int .i64 time] hA ?_; clear hF hA; intro bC w1 hA hbC hF; (try simp only [uY] at hA hF)) | ((with_reducible refine gbx ?_); refine wH 29 [.int .i64 0, .int .i64 t] hA ?_; clear hF hA; intro bI w1 hA hbI hF; (try simp only [uY] at hA hF)) | ((with_reducible refine gst ?_); refine wT hA ?_; clear hF hA; intro w1 hA hF; (try simp only [uY] at hA hF)) | ((with_reducible refine gbx ?_); refine wC hA ?_; clear hF hA; intro b1 w1 hA hb1 hF; (try simp only [uY] at hA hF)))
   refine (hof _).mono ?_
   clear hof
   rintro e w1 ⟨rfl, hx⟩
   have hB := hA.ext hx
   clear hF hA hx; have hA := hB; clear hB
   have hF := hA.facts; (try simp only [uY] at hA hF)
   go_wp2_with (first | ((with_reducible refine gal ?_); refine wG 37 [.string .empty, .int .u64 0] hA ?_; clear hF hA; intro bK w1 hA hbK hF; (try simp only [uY] at hA hF)) | ((with_reducible refine gst ?_); refine wT hA ?_; clear hF hA; intro w1 hA hF; (try simp only [uY] at hA hF)) | ((with_reducible refine gbx ?_); refine wC hA ?_; clear hF hA; intro b1 w1 hA hb1 hF; (try simp only [uY] at hA hF)))
   refine (hri _).mono ?_
   clear hri
   rintro e w1 ⟨rfl, hx⟩
   have hB := hA.ext hx
   clear hF hA hx; have hA := hB; clear hB
   have hF := hA.facts; (try simp only [uY] at hA hF)
   go_wp2_with (first | ((with_reducible refine gal ?_); refine wG 40 [.int .i64 0, .int .i64 0, .int .i64 0, .int .i64 0, .int .i64 0, .int .i64 0, .int .i64 0, .int .i64 0] hA ?_; clear hF hA; intro bA w1 hA hbA hF; (try simp only [uY] at hA hF)) | ((with_reducible refine gst ?_); refine wT hA ?_; clear hF hA; intro w1 hA hF; (try simp only [uY] at hA hF)) | ((with_reducible refine gbx ?_); refine wC hA ?_; clear hF hA; intro b1 w1 hA hb1 hF; (try simp only [uY] at hA hF)))
   try go_frame
   clear hwt
   (refine wp_region_head 13 (Cl _ _ _) (by kernel_rfl) (by kernel_rfl) (Cl.drew hA) ?_); (simp only [List.take_succ_cons, List.take_zero, List.drop_succ_cons, List.drop_zero]); (have hn1 := Cl.none hA); (have hn2 := Cl.none2 hA); (repeat (first | go_big_quiet_skip | (go_big_quiet_want; (first | (refine qM 37 2 ?_; go_frame; go_big_quiet_on) | (refine qM 40 8 ?_; go_frame; go_big_quiet_on) | ((refine quiet_find_at rfl (by (try simp only [Act.eval, eV]) <;> exact rfl) (by (try simp only [Act.eval, eV]) <;> exact rfl) (k := 37) (es := es) (f := ff) (n := num) sR lawK Tryz.underlying74 hkl (fun _ => by kernel_rfl) hold.out ?_); go_frame; go_big_quiet_on) | (refine qL ?_; go_frame; go_big_quiet_on) | (go_big_quiet_op; (first | go_big_quiet_on | ((apply Exists.intro); (refine ⟨fun w1 hw => ?_, ?_⟩); (focus ((have hw := Cl.out hw); (exact through0 hw (hmg _)))); (go_big_quiet_on))))))))
   (refine wpQuiet_nil ?_); (intro w1 hB); (clear hF hA hn1 hn2); (have hA := Cl.out hB); (clear hB); have hF := hA.facts; (try simp only [uY] at hA hF)
   go_wp2_with (first | (refine wpList_mergeE_at (k := 37) (es := es) (f := ff) (n := num) (v := ⟨min (max q 0) 1073741824, (t + 1), 0, 0, 0, 0, 0, 0⟩) rfl rfl (by (try simp only [Act.eval, eV]) <;> exact rfl) (by (try simp only [Act.eval, eV]) <;> exact rfl) (by rw [hold.out, hmg'.out]; exact rfl) hA sR lawK Tryz.underlying74 hkl ?_; intro w1 hB; clear hF hA; have hA := hB; clear hB; have hF := hA.facts; (try simp only [uY] at hA hF)) | ((with_reducible refine gst ?_); refine wT hA ?_; clear hF hA; intro w1 hA hF; (try simp only [uY] at hA hF)) | ((with_reducible refine gbx ?_); refine wC hA ?_; clear hF hA; intro b1 w1 hA hb1 hF; (try simp only [uY] at hA hF)))
   first | go_ret | go_end0
   exact ⟨rfl, close0 hA sR sR⟩
 · have hmg := fun w => Attr.merge_any old ⟨min (max q 0) 1073741824, 0, (t + 1), 0, 0, 0, 0, 0⟩ w
   have hna : noteA 1 t q = ⟨min (max q 0) 1073741824, 0, (t + 1), 0, 0, 0, 0, 0⟩ := rfl
   rw [hna]
   obtain ⟨mg, hmgd⟩ : ∃ mg, old.merge ⟨min (max q 0) 1073741824, 0, (t + 1), 0, 0, 0, 0, 0⟩ = mg := ⟨_, rfl⟩
   have hmg' := Lib.hid hmgd
   rw [hmgd] at hmg
   clear hna hmgd
   obtain ⟨o0, o1, o2, o3, o4, o5, o6, o7⟩ := old
   obtain ⟨g0, g1, g2, g3, g4, g5, g6, g7⟩ := mg
   simp only [A8.val] at hmg
   go_enter Tryz.func22, Tryz.ntmps22
   go_wp2_with (first | ((with_reducible refine gbx ?_); refine wH 27 [.int .i64 kind, .int .u64 num, .string foot, .int .u64 req, .string path, .int .i64 mode, .int .u64 n, .int .i64 time] hA ?_; clear hF hA; intro bC w1 hA hbC hF; (try simp only [uY] at hA hF)) | ((with_reducible refine gbx ?_); refine wH 29 [.int .i64 1, .int .i64 t] hA ?_; clear hF hA; intro bI w1 hA hbI hF; (try simp only [uY] at hA hF)) | ((with_reducible refine gst ?_); refine wT hA ?_; clear hF hA; intro w1 hA hF; (try simp only [uY] at hA hF)) | ((with_reducible refine gbx ?_); refine wC hA ?_; clear hF hA; intro b1 w1 hA hb1 hF; (try simp only [uY] at hA hF)))
   refine (hof _).mono ?_
   clear hof
   rintro e w1 ⟨rfl, hx⟩
   have hB := hA.ext hx
   clear hF hA hx; have hA := hB; clear hB
   have hF := hA.facts; (try simp only [uY] at hA hF)
   go_wp2_with (first | ((with_reducible refine gal ?_); refine wG 37 [.string .empty, .int .u64 0] hA ?_; clear hF hA; intro bK w1 hA hbK hF; (try simp only [uY] at hA hF)) | ((with_reducible refine gst ?_); refine wT hA ?_; clear hF hA; intro w1 hA hF; (try simp only [uY] at hA hF)) | ((with_reducible refine gbx ?_); refine wC hA ?_; clear hF hA; intro b1 w1 hA hb1 hF; (try simp only [uY] at hA hF)))
   refine (hri _).mono ?_
   clear hri
   rintro e w1 ⟨rfl, hx⟩
   have hB := hA.ext hx
   clear hF hA hx; have hA := hB; clear hB
   have hF := hA.facts; (try simp only [uY] at hA hF)
   go_wp2_with (first | ((with_reducible refine gal ?_); refine wG 40 [.int .i64 0, .int .i64 0, .int .i64 0, .int .i64 0, .int .i64 0, .int .i64 0, .int .i64 0, .int .i64 0] hA ?_; clear hF hA; intro bA w1 hA hbA hF; (try simp only [uY] at hA hF)) | ((with_reducible refine gst ?_); refine wT hA ?_; clear hF hA; intro w1 hA hF; (try simp only [uY] at hA hF)) | ((with_reducible refine gbx ?_); refine wC hA ?_; clear hF hA; intro b1 w1 hA hb1 hF; (try simp only [uY] at hA hF)))
   try go_frame
   clear hwt
   (refine wp_region_head 13 (Cl _ _ _) (by kernel_rfl) (by kernel_rfl) (Cl.drew hA) ?_); (simp only [List.take_succ_cons, List.take_zero, List.drop_succ_cons, List.drop_zero]); (have hn1 := Cl.none hA); (have hn2 := Cl.none2 hA); (repeat (first | go_big_quiet_skip | (go_big_quiet_want; (first | (refine qM 37 2 ?_; go_frame; go_big_quiet_on) | (refine qM 40 8 ?_; go_frame; go_big_quiet_on) | ((refine quiet_find_at rfl (by (try simp only [Act.eval, eV]) <;> exact rfl) (by (try simp only [Act.eval, eV]) <;> exact rfl) (k := 37) (es := es) (f := ff) (n := num) sR lawK Tryz.underlying74 hkl (fun _ => by kernel_rfl) hold.out ?_); go_frame; go_big_quiet_on) | (refine qL ?_; go_frame; go_big_quiet_on) | (go_big_quiet_op; (first | go_big_quiet_on | ((apply Exists.intro); (refine ⟨fun w1 hw => ?_, ?_⟩); (focus ((have hw := Cl.out hw); (exact through0 hw (hmg _)))); (go_big_quiet_on))))))))
   (refine wpQuiet_nil ?_); (intro w1 hB); (clear hF hA hn1 hn2); (have hA := Cl.out hB); (clear hB); have hF := hA.facts; (try simp only [uY] at hA hF)
   go_wp2_with (first | (refine wpList_mergeE_at (k := 37) (es := es) (f := ff) (n := num) (v := ⟨min (max q 0) 1073741824, 0, (t + 1), 0, 0, 0, 0, 0⟩) rfl rfl (by (try simp only [Act.eval, eV]) <;> exact rfl) (by (try simp only [Act.eval, eV]) <;> exact rfl) (by rw [hold.out, hmg'.out]; exact rfl) hA sR lawK Tryz.underlying74 hkl ?_; intro w1 hB; clear hF hA; have hA := hB; clear hB; have hF := hA.facts; (try simp only [uY] at hA hF)) | ((with_reducible refine gst ?_); refine wT hA ?_; clear hF hA; intro w1 hA hF; (try simp only [uY] at hA hF)) | ((with_reducible refine gbx ?_); refine wC hA ?_; clear hF hA; intro b1 w1 hA hb1 hF; (try simp only [uY] at hA hF)))
   first | go_ret | go_end0
   exact ⟨rfl, close0 hA sR sR⟩
 · have hmg := fun w => Attr.merge_any old ⟨min (max q 0) 1073741824, 0, 0, (t + 1), 0, 0, 0, 0⟩ w
   have hna : noteA 2 t q = ⟨min (max q 0) 1073741824, 0, 0, (t + 1), 0, 0, 0, 0⟩ := rfl
   rw [hna]
   obtain ⟨mg, hmgd⟩ : ∃ mg, old.merge ⟨min (max q 0) 1073741824, 0, 0, (t + 1), 0, 0, 0, 0⟩ = mg := ⟨_, rfl⟩
   have hmg' := Lib.hid hmgd
   rw [hmgd] at hmg
   clear hna hmgd
   obtain ⟨o0, o1, o2, o3, o4, o5, o6, o7⟩ := old
   obtain ⟨g0, g1, g2, g3, g4, g5, g6, g7⟩ := mg
   simp only [A8.val] at hmg
   go_enter Tryz.func22, Tryz.ntmps22
   go_wp2_with (first | ((with_reducible refine gbx ?_); refine wH 27 [.int .i64 kind, .int .u64 num, .string foot, .int .u64 req, .string path, .int .i64 mode, .int .u64 n, .int .i64 time] hA ?_; clear hF hA; intro bC w1 hA hbC hF; (try simp only [uY] at hA hF)) | ((with_reducible refine gbx ?_); refine wH 29 [.int .i64 2, .int .i64 t] hA ?_; clear hF hA; intro bI w1 hA hbI hF; (try simp only [uY] at hA hF)) | ((with_reducible refine gst ?_); refine wT hA ?_; clear hF hA; intro w1 hA hF; (try simp only [uY] at hA hF)) | ((with_reducible refine gbx ?_); refine wC hA ?_; clear hF hA; intro b1 w1 hA hb1 hF; (try simp only [uY] at hA hF)))
   refine (hof _).mono ?_
   clear hof
   rintro e w1 ⟨rfl, hx⟩
   have hB := hA.ext hx
   clear hF hA hx; have hA := hB; clear hB
   have hF := hA.facts; (try simp only [uY] at hA hF)
   go_wp2_with (first | ((with_reducible refine gal ?_); refine wG 37 [.string .empty, .int .u64 0] hA ?_; clear hF hA; intro bK w1 hA hbK hF; (try simp only [uY] at hA hF)) | ((with_reducible refine gst ?_); refine wT hA ?_; clear hF hA; intro w1 hA hF; (try simp only [uY] at hA hF)) | ((with_reducible refine gbx ?_); refine wC hA ?_; clear hF hA; intro b1 w1 hA hb1 hF; (try simp only [uY] at hA hF)))
   refine (hri _).mono ?_
   clear hri
   rintro e w1 ⟨rfl, hx⟩
   have hB := hA.ext hx
   clear hF hA hx; have hA := hB; clear hB
   have hF := hA.facts; (try simp only [uY] at hA hF)
   go_wp2_with (first | ((with_reducible refine gal ?_); refine wG 40 [.int .i64 0, .int .i64 0, .int .i64 0, .int .i64 0, .int .i64 0, .int .i64 0, .int .i64 0, .int .i64 0] hA ?_; clear hF hA; intro bA w1 hA hbA hF; (try simp only [uY] at hA hF)) | ((with_reducible refine gst ?_); refine wT hA ?_; clear hF hA; intro w1 hA hF; (try simp only [uY] at hA hF)) | ((with_reducible refine gbx ?_); refine wC hA ?_; clear hF hA; intro b1 w1 hA hb1 hF; (try simp only [uY] at hA hF)))
   try go_frame
   clear hwt
   (refine wp_region_head 13 (Cl _ _ _) (by kernel_rfl) (by kernel_rfl) (Cl.drew hA) ?_); (simp only [List.take_succ_cons, List.take_zero, List.drop_succ_cons, List.drop_zero]); (have hn1 := Cl.none hA); (have hn2 := Cl.none2 hA); (repeat (first | go_big_quiet_skip | (go_big_quiet_want; (first | (refine qM 37 2 ?_; go_frame; go_big_quiet_on) | (refine qM 40 8 ?_; go_frame; go_big_quiet_on) | ((refine quiet_find_at rfl (by (try simp only [Act.eval, eV]) <;> exact rfl) (by (try simp only [Act.eval, eV]) <;> exact rfl) (k := 37) (es := es) (f := ff) (n := num) sR lawK Tryz.underlying74 hkl (fun _ => by kernel_rfl) hold.out ?_); go_frame; go_big_quiet_on) | (refine qL ?_; go_frame; go_big_quiet_on) | (go_big_quiet_op; (first | go_big_quiet_on | ((apply Exists.intro); (refine ⟨fun w1 hw => ?_, ?_⟩); (focus ((have hw := Cl.out hw); (exact through0 hw (hmg _)))); (go_big_quiet_on))))))))
   (refine wpQuiet_nil ?_); (intro w1 hB); (clear hF hA hn1 hn2); (have hA := Cl.out hB); (clear hB); have hF := hA.facts; (try simp only [uY] at hA hF)
   go_wp2_with (first | (refine wpList_mergeE_at (k := 37) (es := es) (f := ff) (n := num) (v := ⟨min (max q 0) 1073741824, 0, 0, (t + 1), 0, 0, 0, 0⟩) rfl rfl (by (try simp only [Act.eval, eV]) <;> exact rfl) (by (try simp only [Act.eval, eV]) <;> exact rfl) (by rw [hold.out, hmg'.out]; exact rfl) hA sR lawK Tryz.underlying74 hkl ?_; intro w1 hB; clear hF hA; have hA := hB; clear hB; have hF := hA.facts; (try simp only [uY] at hA hF)) | ((with_reducible refine gst ?_); refine wT hA ?_; clear hF hA; intro w1 hA hF; (try simp only [uY] at hA hF)) | ((with_reducible refine gbx ?_); refine wC hA ?_; clear hF hA; intro b1 w1 hA hb1 hF; (try simp only [uY] at hA hF)))
   first | go_ret | go_end0
   exact ⟨rfl, close0 hA sR sR⟩
 · have hmg := fun w => Attr.merge_any old ⟨min (max q 0) 1073741824, 0, 0, 0, (t + 1), 0, 0, 0⟩ w
   have hna : noteA 3 t q = ⟨min (max q 0) 1073741824, 0, 0, 0, (t + 1), 0, 0, 0⟩ := rfl
   rw [hna]
   obtain ⟨mg, hmgd⟩ : ∃ mg, old.merge ⟨min (max q 0) 1073741824, 0, 0, 0, (t + 1), 0, 0, 0⟩ = mg := ⟨_, rfl⟩
   have hmg' := Lib.hid hmgd
   rw [hmgd] at hmg
   clear hna hmgd
   obtain ⟨o0, o1, o2, o3, o4, o5, o6, o7⟩ := old
   obtain ⟨g0, g1, g2, g3, g4, g5, g6, g7⟩ := mg
   simp only [A8.val] at hmg
   go_enter Tryz.func22, Tryz.ntmps22
   go_wp2_with (first | ((with_reducible refine gbx ?_); refine wH 27 [.int .i64 kind, .int .u64 num, .string foot, .int .u64 req, .string path, .int .i64 mode, .int .u64 n, .int .i64 time] hA ?_; clear hF hA; intro bC w1 hA hbC hF; (try simp only [uY] at hA hF)) | ((with_reducible refine gbx ?_); refine wH 29 [.int .i64 3, .int .i64 t] hA ?_; clear hF hA; intro bI w1 hA hbI hF; (try simp only [uY] at hA hF)) | ((with_reducible refine gst ?_); refine wT hA ?_; clear hF hA; intro w1 hA hF; (try simp only [uY] at hA hF)) | ((with_reducible refine gbx ?_); refine wC hA ?_; clear hF hA; intro b1 w1 hA hb1 hF; (try simp only [uY] at hA hF)))
   refine (hof _).mono ?_
   clear hof
   rintro e w1 ⟨rfl, hx⟩
   have hB := hA.ext hx
   clear hF hA hx; have hA := hB; clear hB
   have hF := hA.facts; (try simp only [uY] at hA hF)
   go_wp2_with (first | ((with_reducible refine gal ?_); refine wG 37 [.string .empty, .int .u64 0] hA ?_; clear hF hA; intro bK w1 hA hbK hF; (try simp only [uY] at hA hF)) | ((with_reducible refine gst ?_); refine wT hA ?_; clear hF hA; intro w1 hA hF; (try simp only [uY] at hA hF)) | ((with_reducible refine gbx ?_); refine wC hA ?_; clear hF hA; intro b1 w1 hA hb1 hF; (try simp only [uY] at hA hF)))
   refine (hri _).mono ?_
   clear hri
   rintro e w1 ⟨rfl, hx⟩
   have hB := hA.ext hx
   clear hF hA hx; have hA := hB; clear hB
   have hF := hA.facts; (try simp only [uY] at hA hF)
   go_wp2_with (first | ((with_reducible refine gal ?_); refine wG 40 [.int .i64 0, .int .i64 0, .int .i64 0, .int .i64 0, .int .i64 0, .int .i64 0, .int .i64 0, .int .i64 0] hA ?_; clear hF hA; intro bA w1 hA hbA hF; (try simp only [uY] at hA hF)) | ((with_reducible refine gst ?_); refine wT hA ?_; clear hF hA; intro w1 hA hF; (try simp only [uY] at hA hF)) | ((with_reducible refine gbx ?_); refine wC hA ?_; clear hF hA; intro b1 w1 hA hb1 hF; (try simp only [uY] at hA hF)))
   try go_frame
   clear hwt
   (refine wp_region_head 13 (Cl _ _ _) (by kernel_rfl) (by kernel_rfl) (Cl.drew hA) ?_); (simp only [List.take_succ_cons, List.take_zero, List.drop_succ_cons, List.drop_zero]); (have hn1 := Cl.none hA); (have hn2 := Cl.none2 hA); (repeat (first | go_big_quiet_skip | (go_big_quiet_want; (first | (refine qM 37 2 ?_; go_frame; go_big_quiet_on) | (refine qM 40 8 ?_; go_frame; go_big_quiet_on) | ((refine quiet_find_at rfl (by (try simp only [Act.eval, eV]) <;> exact rfl) (by (try simp only [Act.eval, eV]) <;> exact rfl) (k := 37) (es := es) (f := ff) (n := num) sR lawK Tryz.underlying74 hkl (fun _ => by kernel_rfl) hold.out ?_); go_frame; go_big_quiet_on) | (refine qL ?_; go_frame; go_big_quiet_on) | (go_big_quiet_op; (first | go_big_quiet_on | ((apply Exists.intro); (refine ⟨fun w1 hw => ?_, ?_⟩); (focus ((have hw := Cl.out hw); (exact through0 hw (hmg _)))); (go_big_quiet_on))))))))
   (refine wpQuiet_nil ?_); (intro w1 hB); (clear hF hA hn1 hn2); (have hA := Cl.out hB); (clear hB); have hF := hA.facts; (try simp only [uY] at hA hF)
   go_wp2_with (first | (refine wpList_mergeE_at (k := 37) (es := es) (f := ff) (n := num) (v := ⟨min (max q 0) 1073741824, 0, 0, 0, (t + 1), 0, 0, 0⟩) rfl rfl (by (try simp only [Act.eval, eV]) <;> exact rfl) (by (try simp only [Act.eval, eV]) <;> exact rfl) (by rw [hold.out, hmg'.out]; exact rfl) hA sR lawK Tryz.underlying74 hkl ?_; intro w1 hB; clear hF hA; have hA := hB; clear hB; have hF := hA.facts; (try simp only [uY] at hA hF)) | ((with_reducible refine gst ?_); refine wT hA ?_; clear hF hA; intro w1 hA hF; (try simp only [uY] at hA hF)) | ((with_reducible refine gbx ?_); refine wC hA ?_; clear hF hA; intro b1 w1 hA hb1 hF; (try simp only [uY] at hA hF)))
   first | go_ret | go_end0
   exact ⟨rfl, close0 hA sR sR⟩
 · have hmg := fun w => Attr.merge_any old ⟨min (max q 0) 1073741824, 0, 0, 0, 0, (t + 1), 0, 0⟩ w
   have hna : noteA 4 t q = ⟨min (max q 0) 1073741824, 0, 0, 0, 0, (t + 1), 0, 0⟩ := rfl
   rw [hna]
   obtain ⟨mg, hmgd⟩ : ∃ mg, old.merge ⟨min (max q 0) 1073741824, 0, 0, 0, 0, (t + 1), 0, 0⟩ = mg := ⟨_, rfl⟩
   have hmg' := Lib.hid hmgd
   rw [hmgd] at hmg
   clear hna hmgd
   obtain ⟨o0, o1, o2, o3, o4, o5, o6, o7⟩ := old
   obtain ⟨g0, g1, g2, g3, g4, g5, g6, g7⟩ := mg
   simp only [A8.val] at hmg
   go_enter Tryz.func22, Tryz.ntmps22
   go_wp2_with (first | ((with_reducible refine gbx ?_); refine wH 27 [.int .i64 kind, .int .u64 num, .string foot, .int .u64 req, .string path, .int .i64 mode, .int .u64 n, .int .i64 time] hA ?_; clear hF hA; intro bC w1 hA hbC hF; (try simp only [uY] at hA hF)) | ((with_reducible refine gbx ?_); refine wH 29 [.int .i64 4, .int .i64 t] hA ?_; clear hF hA; intro bI w1 hA hbI hF; (try simp only [uY] at hA hF)) | ((with_reducible refine gst ?_); refine wT hA ?_; clear hF hA; intro w1 hA hF; (try simp only [uY] at hA hF)) | ((with_reducible refine gbx ?_); refine wC hA ?_; clear hF hA; intro b1 w1 hA hb1 hF; (try simp only [uY] at hA hF)))
   refine (hof _).mono ?_
   clear hof
   rintro e w1 ⟨rfl, hx⟩
   have hB := hA.ext hx
   clear hF hA hx; have hA := hB; clear hB
   have hF := hA.facts; (try simp only [uY] at hA hF)
   go_wp2_with (first | ((with_reducible refine gal ?_); refine wG 37 [.string .empty, .int .u64 0] hA ?_; clear hF hA; intro bK w1 hA hbK hF; (try simp only [uY] at hA hF)) | ((with_reducible refine gst ?_); refine wT hA ?_; clear hF hA; intro w1 hA hF; (try simp only [uY] at hA hF)) | ((with_reducible refine gbx ?_); refine wC hA ?_; clear hF hA; intro b1 w1 hA hb1 hF; (try simp only [uY] at hA hF)))
   refine (hri _).mono ?_
   clear hri
   rintro e w1 ⟨rfl, hx⟩
   have hB := hA.ext hx
   clear hF hA hx; have hA := hB; clear hB
   have hF := hA.facts; (try simp only [uY] at hA hF)
   go_wp2_with (first | ((with_reducible refine gal ?_); refine wG 40 [.int .i64 0, .int .i64 0, .int .i64 0, .int .i64 0, .int .i64 0, .int .i64 0, .int .i64 0, .int .i64 0] hA ?_; clear hF hA; intro bA w1 hA hbA hF; (try simp only [uY] at hA hF)) | ((with_reducible refine gst ?_); refine wT hA ?_; clear hF hA; intro w1 hA hF; (try simp only [uY] at hA hF)) | ((with_reducible refine gbx ?_); refine wC hA ?_; clear hF hA; intro b1 w1 hA hb1 hF; (try simp only [uY] at hA hF)))
   try go_frame
   clear hwt
   (refine wp_region_head 13 (Cl _ _ _) (by kernel_rfl) (by kernel_rfl) (Cl.drew hA) ?_); (simp only [List.take_succ_cons, List.take_zero, List.drop_succ_cons, List.drop_zero]); (have hn1 := Cl.none hA); (have hn2 := Cl.none2 hA); (repeat (first | go_big_quiet_skip | (go_big_quiet_want; (first | (refine qM 37 2 ?_; go_frame; go_big_quiet_on) | (refine qM 40 8 ?_; go_frame; go_big_quiet_on) | ((refine quiet_find_at rfl (by (try simp only [Act.eval, eV]) <;> exact rfl) (by (try simp only [Act.eval, eV]) <;> exact rfl) (k := 37) (es := es) (f := ff) (n := num) sR lawK Tryz.underlying74 hkl (fun _ => by kernel_rfl) hold.out ?_); go_frame; go_big_quiet_on) | (refine qL ?_; go_frame; go_big_quiet_on) | (go_big_quiet_op; (first | go_big_quiet_on | ((apply Exists.intro); (refine ⟨fun w1 hw => ?_, ?_⟩); (focus ((have hw := Cl.out hw); (exact through0 hw (hmg _)))); (go_big_quiet_on))))))))
   (refine wpQuiet_nil ?_); (intro w1 hB); (clear hF hA hn1 hn2); (have hA := Cl.out hB); (clear hB); have hF := hA.facts; (try simp only [uY] at hA hF)
   go_wp2_with (first | (refine wpList_mergeE_at (k := 37) (es := es) (f := ff) (n := num) (v := ⟨min (max q 0) 1073741824, 0, 0, 0, 0, (t + 1), 0, 0⟩) rfl rfl (by (try simp only [Act.eval, eV]) <;> exact rfl) (by (try simp only [Act.eval, eV]) <;> exact rfl) (by rw [hold.out, hmg'.out]; exact rfl) hA sR lawK Tryz.underlying74 hkl ?_; intro w1 hB; clear hF hA; have hA := hB; clear hB; have hF := hA.facts; (try simp only [uY] at hA hF)) | ((with_reducible refine gst ?_); refine wT hA ?_; clear hF hA; intro w1 hA hF; (try simp only [uY] at hA hF)) | ((with_reducible refine gbx ?_); refine wC hA ?_; clear hF hA; intro b1 w1 hA hb1 hF; (try simp only [uY] at hA hF)))
   first | go_ret | go_end0
   exact ⟨rfl, close0 hA sR sR⟩
 · have hmg := fun w => Attr.merge_any old ⟨min (max q 0) 1073741824, 0, 0, 0, 0, 0, (t + 1), 0⟩ w
   have hna : noteA 5 t q = ⟨min (max q 0) 1073741824, 0, 0, 0, 0, 0, (t + 1), 0⟩ := rfl
   rw [hna]
   obtain ⟨mg, hmgd⟩ : ∃ mg, old.merge ⟨min (max q 0) 1073741824, 0, 0, 0, 0, 0, (t + 1), 0⟩ = mg := ⟨_, rfl⟩
   have hmg' := Lib.hid hmgd
   rw [hmgd] at hmg
   clear hna hmgd
   obtain ⟨o0, o1, o2, o3, o4, o5, o6, o7⟩ := old
   obtain ⟨g0, g1, g2, g3, g4, g5, g6, g7⟩ := mg
   simp only [A8.val] at hmg
   go_enter Tryz.func22, Tryz.ntmps22
   go_wp2_with (first | ((with_reducible refine gbx ?_); refine wH 27 [.int .i64 kind, .int .u64 num, .string foot, .int .u64 req, .string path, .int .i64 mode, .int .u64 n, .int .i64 time] hA ?_; clear hF hA; intro bC w1 hA hbC hF; (try simp only [uY] at hA hF)) | ((with_reducible refine gbx ?_); refine wH 29 [.int .i64 5, .int .i64 t] hA ?_; clear hF hA; intro bI w1 hA hbI hF; (try simp only [uY] at hA hF)) | ((with_reducible refine gst ?_); refine wT hA ?_; clear hF hA; intro w1 hA hF; (try simp only [uY] at hA hF)) | ((with_reducible refine gbx ?_); refine wC hA ?_; clear hF hA; intro b1 w1 hA hb1 hF; (try simp only [uY] at hA hF)))
   refine (hof _).mono ?_
   clear hof
   rintro e w1 ⟨rfl, hx⟩
   have hB := hA.ext hx
   clear hF hA hx; have hA := hB; clear hB
   have hF := hA.facts; (try simp only [uY] at hA hF)
   go_wp2_with (first | ((with_reducible refine gal ?_); refine wG 37 [.string .empty, .int .u64 0] hA ?_; clear hF hA; intro bK w1 hA hbK hF; (try simp only [uY] at hA hF)) | ((with_reducible refine gst ?_); refine wT hA ?_; clear hF hA; intro w1 hA hF; (try simp only [uY] at hA hF)) | ((with_reducible refine gbx ?_); refine wC hA ?_; clear hF hA; intro b1 w1 hA hb1 hF; (try simp only [uY] at hA hF)))
   refine (hri _).mono ?_
   clear hri
   rintro e w1 ⟨rfl, hx⟩
   have hB := hA.ext hx
   clear hF hA hx; have hA := hB; clear hB
   have hF := hA.facts; (try simp only [uY] at hA hF)
   go_wp2_with (first | ((with_reducible refine gal ?_); refine wG 40 [.int .i64 0, .int .i64 0, .int .i64 0, .int .i64 0, .int .i64 0, .int .i64 0, .int .i64 0, .int .i64 0] hA ?_; clear hF hA; intro bA w1 hA hbA hF; (try simp only [uY] at hA hF)) | ((with_reducible refine gst ?_); refine wT hA ?_; clear hF hA; intro w1 hA hF; (try simp only [uY] at hA hF)) | ((with_reducible refine gbx ?_); refine wC hA ?_; clear hF hA; intro b1 w1 hA hb1 hF; (try simp only [uY] at hA hF)))
   try go_frame
   clear hwt
   (refine wp_region_head 13 (Cl _ _ _) (by kernel_rfl) (by kernel_rfl) (Cl.drew hA) ?_); (simp only [List.take_succ_cons, List.take_zero, List.drop_succ_cons, List.drop_zero]); (have hn1 := Cl.none hA); (have hn2 := Cl.none2 hA); (repeat (first | go_big_quiet_skip | (go_big_quiet_want; (first | (refine qM 37 2 ?_; go_frame; go_big_quiet_on) | (refine qM 40 8 ?_; go_frame; go_big_quiet_on) | ((refine quiet_find_at rfl (by (try simp only [Act.eval, eV]) <;> exact rfl) (by (try simp only [Act.eval, eV]) <;> exact rfl) (k := 37) (es := es) (f := ff) (n := num) sR lawK Tryz.underlying74 hkl (fun _ => by kernel_rfl) hold.out ?_); go_frame; go_big_quiet_on) | (refine qL ?_; go_frame; go_big_quiet_on) | (go_big_quiet_op; (first | go_big_quiet_on | ((apply Exists.intro); (refine ⟨fun w1 hw => ?_, ?_⟩); (focus ((have hw := Cl.out hw); (exact through0 hw (hmg _)))); (go_big_quiet_on))))))))
   (refine wpQuiet_nil ?_); (intro w1 hB); (clear hF hA hn1 hn2); (have hA := Cl.out hB); (clear hB); have hF := hA.facts; (try simp only [uY] at hA hF)
   go_wp2_with (first | (refine wpList_mergeE_at (k := 37) (es := es) (f := ff) (n := num) (v := ⟨min (max q 0) 1073741824, 0, 0, 0, 0, 0, (t + 1), 0⟩) rfl rfl (by (try simp only [Act.eval, eV]) <;> exact rfl) (by (try simp only [Act.eval, eV]) <;> exact rfl) (by rw [hold.out, hmg'.out]; exact rfl) hA sR lawK Tryz.underlying74 hkl ?_; intro w1 hB; clear hF hA; have hA := hB; clear hB; have hF := hA.facts; (try simp only [uY] at hA hF)) | ((with_reducible refine gst ?_); refine wT hA ?_; clear hF hA; intro w1 hA hF; (try simp only [uY] at hA hF)) | ((with_reducible refine gbx ?_); refine wC hA ?_; clear hF hA; intro b1 w1 hA hb1 hF; (try simp only [uY] at hA hF)))
   first | go_ret | go_end0
   exact ⟨rfl, close0 hA sR sR⟩
 · have hmg := fun w => Attr.merge_any old ⟨min (max q 0) 1073741824, 0, 0, 0, 0, 0, 0, (t + 1)⟩ w
   have hna : noteA 6 t q = ⟨min (max q 0) 1073741824, 0, 0, 0, 0, 0, 0, (t + 1)⟩ := rfl
   rw [hna]
   obtain ⟨mg, hmgd⟩ : ∃ mg, old.merge ⟨min (max q 0) 1073741824, 0, 0, 0, 0, 0, 0, (t + 1)⟩ = mg := ⟨_, rfl⟩
   have hmg' := Lib.hid hmgd
   rw [hmgd] at hmg
   clear hna hmgd
   obtain ⟨o0, o1, o2, o3, o4, o5, o6, o7⟩ := old
   obtain ⟨g0, g1, g2, g3, g4, g5, g6, g7⟩ := mg
   simp only [A8.val] at hmg
   go_enter Tryz.func22, Tryz.ntmps22
   go_wp2_with (first | ((with_reducible refine gbx ?_); refine wH 27 [.int .i64 kind, .int .u64 num, .string foot, .int .u64 req, .string path, .int .i64 mode, .int .u64 n, .int .i64 time] hA ?_; clear hF hA; intro bC w1 hA hbC hF; (try simp only [uY] at hA hF)) | ((with_reducible refine gbx ?_); refine wH 29 [.int .i64 6, .int .i64 t] hA ?_; clear hF hA; intro bI w1 hA hbI hF; (try simp only [uY] at hA hF)) | ((with_reducible refine gst ?_); refine wT hA ?_; clear hF hA; intro w1 hA hF; (try simp only [uY] at hA hF)) | ((with_reducible refine gbx ?_); refine wC hA ?_; clear hF hA; intro b1 w1 hA hb1 hF; (try simp only [uY] at hA hF)))
   refine (hof _).mono ?_
   clear hof
   rintro e w1 ⟨rfl, hx⟩
   have hB := hA.ext hx
   clear hF hA hx; have hA := hB; clear hB
   have hF := hA.facts; (try simp only [uY] at hA hF)
   go_wp2_with (first | ((with_reducible refine gal ?_); refine wG 37 [.string .empty, .int .u64 0] hA ?_; clear hF hA; intro bK w1 hA hbK hF; (try simp only [uY] at hA hF)) | ((with_reducible refine gst ?_); refine wT hA ?_; clear hF hA; intro w1 hA hF; (try simp only [uY] at hA hF)) | ((with_reducible refine gbx ?_); refine wC hA ?_; clear hF hA; intro b1 w1 hA hb1 hF; (try simp only [uY] at hA hF)))
   refine (hri _).mono ?_
   clear hri
   rintro e w1 ⟨rfl, hx⟩
   have hB := hA.ext hx
   clear hF hA hx; have hA := hB; clear hB
   have hF := hA.facts; (try simp only [uY] at hA hF)
   go_wp2_with (first | ((with_reducible refine gal ?_); refine wG 40 [.int .i64 0, .int .i64 0, .int .i64 0, .int .i64 0, .int .i64 0, .int .i64 0, .int .i64 0, .int .i64 0] hA ?_; clear hF hA; intro bA w1 hA hbA hF; (try simp only [uY] at hA hF)) | ((with_reducible refine gst ?_); refine wT hA ?_; clear hF hA; intro w1 hA hF; (try simp only [uY] at hA hF)) | ((with_reducible refine gbx ?_); refine wC hA ?_; clear hF hA; intro b1 w1 hA hb1 hF; (try simp only [uY] at hA hF)))
   try go_frame
   clear hwt
   (refine wp_region_head 13 (Cl _ _ _) (by kernel_rfl) (by kernel_rfl) (Cl.drew hA) ?_); (simp only [List.take_succ_cons, List.take_zero, List.drop_succ_cons, List.drop_zero]); (have hn1 := Cl.none hA); (have hn2 := Cl.none2 hA); (repeat (first | go_big_quiet_skip | (go_big_quiet_want; (first | (refine qM 37 2 ?_; go_frame; go_big_quiet_on) | (refine qM 40 8 ?_; go_frame; go_big_quiet_on) | ((refine quiet_find_at rfl (by (try simp only [Act.eval, eV]) <;> exact rfl) (by (try simp only [Act.eval, eV]) <;> exact rfl) (k := 37) (es := es) (f := ff) (n := num) sR lawK Tryz.underlying74 hkl (fun _ => by kernel_rfl) hold.out ?_); go_frame; go_big_quiet_on) | (refine qL ?_; go_frame; go_big_quiet_on) | (go_big_quiet_op; (first | go_big_quiet_on | ((apply Exists.intro); (refine ⟨fun w1 hw => ?_, ?_⟩); (focus ((have hw := Cl.out hw); (exact through0 hw (hmg _)))); (go_big_quiet_on))))))))
   (refine wpQuiet_nil ?_); (intro w1 hB); (clear hF hA hn1 hn2); (have hA := Cl.out hB); (clear hB); have hF := hA.facts; (try simp only [uY] at hA hF)
   go_wp2_with (first | (refine wpList_mergeE_at (k := 37) (es := es) (f := ff) (n := num) (v := ⟨min (max q 0) 1073741824, 0, 0, 0, 0, 0, 0, (t + 1)⟩) rfl rfl (by (try simp only [Act.eval, eV]) <;> exact rfl) (by (try simp only [Act.eval, eV]) <;> exact rfl) (by rw [hold.out, hmg'.out]; exact rfl) hA sR lawK Tryz.underlying74 hkl ?_; intro w1 hB; clear hF hA; have hA := hB; clear hB; have hF := hA.facts; (try simp only [uY] at hA hF)) | ((with_reducible refine gst ?_); refine wT hA ?_; clear hF hA; intro w1 hA hF; (try simp only [uY] at hA hF)) | ((with_reducible refine gbx ?_); refine wC hA ?_; clear hF hA; intro b1 w1 hA hb1 hF; (try simp only [uY] at hA hF)))
   first | go_ret | go_end0
   exact ⟨rfl, close0 hA sR sR⟩
theorem note_no {w : World} {p m : Nat} {es : List En} (h : Sep [IxP p m es] w) (kind num : Int) (foot : ByteArray) (req : Int) (path : ByteArray) (mode n time : Int) {ff : ByteArray} {kn : Int} {ok : Bool} (hof : ∀ w, Calls Tryz.prog 32 #[.agg #[.int .i64 kind, .int .u64 num, .string foot, .int .u64 req, .string path, .int .i64 mode, .int .u64 n, .int .i64 time]] w fun e w' => e = .returned (.tuple #[.agg #[.string ff, .int .u64 kn], .bool ok]) ∧ Ext w w')
 (r t q : Int) (hr : ok = false ∨ rightI r t = false) :
 Calls Tryz.prog 22 #[.pointer (some ⟨p, 0, none⟩), .agg #[.int .i64 kind, .int .u64 num, .string foot, .int .u64 req, .string path, .int .i64 mode, .int .u64 n, .int .i64 time], .agg #[.int .i64 r, .int .i64 t], .int .i64 q] w fun e w' => e = .returned (.tuple #[]) ∧ At [IxP p m es] w [IxP p m es] w' := by
 have hA := At.start h
 have hF := hA.facts
 clear h
 have hri := fun w => Attr.idRight_any r t w
 have hF := hA.facts; (try simp only [uY] at hA hF)
 cases ok
 · go_enter Tryz.func22, Tryz.ntmps22
   go_wp2_with (first | ((with_reducible refine gbx ?_); refine wH 27 [.int .i64 kind, .int .u64 num, .string foot, .int .u64 req, .string path, .int .i64 mode, .int .u64 n, .int .i64 time] hA ?_; clear hF hA; intro bC w1 hA hbC hF; (try simp only [uY] at hA hF)) | ((with_reducible refine gbx ?_); refine wH 29 [.int .i64 r, .int .i64 t] hA ?_; clear hF hA; intro bI w1 hA hbI hF; (try simp only [uY] at hA hF)) | ((with_reducible refine gst ?_); refine wT hA ?_; clear hF hA; intro w1 hA hF; (try simp only [uY] at hA hF)) | ((with_reducible refine gbx ?_); refine wC hA ?_; clear hF hA; intro b1 w1 hA hb1 hF; (try simp only [uY] at hA hF)))
   refine (hof _).mono ?_
   clear hof
   rintro e w1 ⟨rfl, hx⟩
   have hB := hA.ext hx
   clear hF hA hx; have hA := hB; clear hB
   have hF := hA.facts; (try simp only [uY] at hA hF)
   go_wp2_with (first | ((with_reducible refine gal ?_); refine wG 37 [.string .empty, .int .u64 0] hA ?_; clear hF hA; intro bK w1 hA hbK hF; (try simp only [uY] at hA hF)) | ((with_reducible refine gst ?_); refine wT hA ?_; clear hF hA; intro w1 hA hF; (try simp only [uY] at hA hF)) | ((with_reducible refine gbx ?_); refine wC hA ?_; clear hF hA; intro b1 w1 hA hb1 hF; (try simp only [uY] at hA hF)))
   (try simp only [Exit.inBlock, Exit.then])
   refine bodyPost_ret (results_none rfl _ _ _) rfl ?_
   exact ⟨rfl, hA.only1 sR⟩
 · have hr2 : rightI r t = false := by rcases hr with h | h; cases h; exact h
   rw [hr2] at hri
   clear hr hr2
   go_enter Tryz.func22, Tryz.ntmps22
   go_wp2_with (first | ((with_reducible refine gbx ?_); refine wH 27 [.int .i64 kind, .int .u64 num, .string foot, .int .u64 req, .string path, .int .i64 mode, .int .u64 n, .int .i64 time] hA ?_; clear hF hA; intro bC w1 hA hbC hF; (try simp only [uY] at hA hF)) | ((with_reducible refine gbx ?_); refine wH 29 [.int .i64 r, .int .i64 t] hA ?_; clear hF hA; intro bI w1 hA hbI hF; (try simp only [uY] at hA hF)) | ((with_reducible refine gst ?_); refine wT hA ?_; clear hF hA; intro w1 hA hF; (try simp only [uY] at hA hF)) | ((with_reducible refine gbx ?_); refine wC hA ?_; clear hF hA; intro b1 w1 hA hb1 hF; (try simp only [uY] at hA hF)))
   refine (hof _).mono ?_
   clear hof
   rintro e w1 ⟨rfl, hx⟩
   have hB := hA.ext hx
   clear hF hA hx; have hA := hB; clear hB
   have hF := hA.facts; (try simp only [uY] at hA hF)
   go_wp2_with (first | ((with_reducible refine gal ?_); refine wG 37 [.string .empty, .int .u64 0] hA ?_; clear hF hA; intro bK w1 hA hbK hF; (try simp only [uY] at hA hF)) | ((with_reducible refine gst ?_); refine wT hA ?_; clear hF hA; intro w1 hA hF; (try simp only [uY] at hA hF)) | ((with_reducible refine gbx ?_); refine wC hA ?_; clear hF hA; intro b1 w1 hA hb1 hF; (try simp only [uY] at hA hF)))
   refine (hri _).mono ?_
   clear hri
   rintro e w1 ⟨rfl, hx⟩
   have hB := hA.ext hx
   clear hF hA hx; have hA := hB; clear hB
   have hF := hA.facts; (try simp only [uY] at hA hF)
   go_wp2_with (first | ((with_reducible refine gst ?_); refine wT hA ?_; clear hF hA; intro w1 hA hF; (try simp only [uY] at hA hF)) | ((with_reducible refine gbx ?_); refine wC hA ?_; clear hF hA; intro b1 w1 hA hb1 hF; (try simp only [uY] at hA hF)))
   (try simp only [Exit.inBlock, Exit.then])
   refine bodyPost_ret (results_none rfl _ _ _) rfl ?_
   exact ⟨rfl, hA.only1 sR⟩
theorem note_any {w : World} {p m : Nat} {es : List En} (h : Sep [IxP p m es] w) (c : Cm) (hf : c.foot.size ≤ 1000) (hp : c.path.size ≤ 1000) (h0 : 0 ≤ c.num) (h1 : c.num < big64) (r t q : Int) :
 Calls Tryz.prog 22 #[.pointer (some ⟨p, 0, none⟩), c.val, .agg #[.int .i64 r, .int .i64 t], .int .i64 q] w fun e w' => e = .returned (.tuple #[]) ∧ At [IxP p m es] w [IxP p m (noteE es (keyC c) r t q)] w' := by
 have hof := fun w => Cmd.of_any c w hf hp
 have hsz := Cmd.foot_size c hf hp
 unfold noteE keyC
 cases hb : (footC c).2 with
 | false =>
  rw [hb] at hof
  simp only [Bool.false_eq_true, if_false] at hof ⊢
  exact note_no h c.kind c.num c.foot c.req c.path c.mode c.n c.time hof r t q (.inl rfl)
 | true =>
  rw [hb] at hof
  simp only [if_true] at hof ⊢
  cases hr : rightI r t with
  | false =>
   simp only [Bool.false_eq_true, if_false]
   exact note_no h c.kind c.num c.foot c.req c.path c.mode c.n c.time hof r t q (.inr hr)
  | true =>
   simp only [if_true]
   exact note_yes h c.kind c.num c.foot c.req c.path c.mode c.n c.time hof hsz h0 h1 r t q hr
end Go.Proofs.YtgbpfgdjnhbcgaaGreatDoor.Ix
end
section
namespace Go.Proofs.YtgbpfgdjnhbcgaaGreatDoor.Ix
open Go.RowKit
open Go.Maps (Keyed)
open Path (bl rightB overB)
open Attr (A8 rightI)
open Cmd (Cm keyC footC through0)
attribute [-go_sem] run_eql_struct run_neq_struct run_eqGuard_agg
def En.val (e : En) : Value := .agg #[.string e.foot, .int .u64 e.num, .int .i64 e.a.s, .int .i64 e.a.d0, .int .i64 e.a.d1, .int .i64 e.a.d2, .int .i64 e.a.d3, .int .i64 e.a.d4, .int .i64 e.a.d5, .int .i64 e.a.d6]
def En.ok (e : En) : Bool := rightB (bl e.foot) && e.a.right
theorem add_any {w : World} {p m : Nat} {es : List En} (h : Sep [IxP p m es] w) (e : En) (hf : e.foot.size ≤ 1000) (h0 : 0 ≤ e.num) (h1 : e.num < big64) :
 Calls Tryz.prog 19 #[.pointer (some ⟨p, 0, none⟩), e.val] w fun o w' => o = .returned (.int .i64 (if e.ok then 0 else 10)) ∧ At [IxP p m es] w [IxP p m (addE es e.foot e.num e.a)] w' := by
 have hA := begin0 h
 have hF := hA.facts
 clear h
 obtain ⟨f, n, v⟩ := e
 simp only at hf h0 h1
 have hpr := fun w => Path.right_any f w (by omega)
 have har := fun w => Attr.right_any v w
 unfold En.ok addE
 simp only
 obtain ⟨rf, hrf⟩ : ∃ x, rightB (bl f) = x := ⟨_, rfl⟩
 obtain ⟨ar, har0⟩ : ∃ x, v.right = x := ⟨_, rfl⟩
 rw [hrf] at hpr
 rw [har0] at har
 rw [hrf, har0]
 clear hrf har0
 obtain ⟨kl, hkl⟩ := keyK (f := f) (n := n) (by unfold maxLen; omega) h0 h1
 unfold keyV at hkl
 obtain ⟨old, hold0⟩ : ∃ old, ((find es f n).map (·.a)).getD A8.zero = old := ⟨_, rfl⟩
 have hold := Lib.hid hold0
 have hmg := fun w => Attr.merge_any old v w
 obtain ⟨mg, hmgd⟩ : ∃ mg, old.merge v = mg := ⟨_, rfl⟩
 have hmg' := Lib.hid hmgd
 rw [hmgd] at hmg
 clear hold0 hmgd
 obtain ⟨a0, a1, a2, a3, a4, a5, a6, a7⟩ := v
 obtain ⟨o0, o1, o2, o3, o4, o5, o6, o7⟩ := old
 obtain ⟨g0, g1, g2, g3, g4, g5, g6, g7⟩ := mg
 simp only [A8.val] at hmg har
 simp only [En.val]
 have hF := hA.facts; (try simp only [uY] at hA hF)
 cases rf
 · simp only [Bool.false_and, Bool.false_eq_true, if_false]
   go_enter Tryz.func19, Tryz.ntmps19
   go_wp2_with (first | ((with_reducible refine gbx ?_); refine wH 42 [.string f, .int .u64 n, .int .i64 a0, .int .i64 a1, .int .i64 a2, .int .i64 a3, .int .i64 a4, .int .i64 a5, .int .i64 a6, .int .i64 a7] hA ?_; clear hF hA; intro bE w1 hA hbE hF; (try simp only [uY] at hA hF)) | ((with_reducible refine gst ?_); refine wT hA ?_; clear hF hA; intro w1 hA hF; (try simp only [uY] at hA hF)) | ((with_reducible refine gbx ?_); refine wC hA ?_; clear hF hA; intro b1 w1 hA hb1 hF; (try simp only [uY] at hA hF)))
   refine (hpr _).mono ?_
   clear hpr
   rintro e w1 ⟨rfl, hx⟩
   have hB := hA.ext hx
   clear hF hA hx; have hA := hB; clear hB
   have hF := hA.facts; (try simp only [uY] at hA hF)
   go_wp2_with (first | ((with_reducible refine gst ?_); refine wT hA ?_; clear hF hA; intro w1 hA hF; (try simp only [uY] at hA hF)) | ((with_reducible refine gbx ?_); refine wC hA ?_; clear hF hA; intro b1 w1 hA hb1 hF; (try simp only [uY] at hA hF)))
   go_ret
   exact ⟨rfl, close0 hA sR sR⟩
 · cases ar
   · simp only [Bool.and_false, Bool.false_eq_true, if_false]
     go_enter Tryz.func19, Tryz.ntmps19
     go_wp2_with (first | ((with_reducible refine gbx ?_); refine wH 42 [.string f, .int .u64 n, .int .i64 a0, .int .i64 a1, .int .i64 a2, .int .i64 a3, .int .i64 a4, .int .i64 a5, .int .i64 a6, .int .i64 a7] hA ?_; clear hF hA; intro bE w1 hA hbE hF; (try simp only [uY] at hA hF)) | ((with_reducible refine gst ?_); refine wT hA ?_; clear hF hA; intro w1 hA hF; (try simp only [uY] at hA hF)) | ((with_reducible refine gbx ?_); refine wC hA ?_; clear hF hA; intro b1 w1 hA hb1 hF; (try simp only [uY] at hA hF)))
     refine (hpr _).mono ?_
     clear hpr
     rintro e w1 ⟨rfl, hx⟩
     have hB := hA.ext hx
     clear hF hA hx; have hA := hB; clear hB
     have hF := hA.facts; (try simp only [uY] at hA hF)
     go_wp2_with (first | ((with_reducible refine gst ?_); refine wT hA ?_; clear hF hA; intro w1 hA hF; (try simp only [uY] at hA hF)) | ((with_reducible refine gbx ?_); refine wC hA ?_; clear hF hA; intro b1 w1 hA hb1 hF; (try simp only [uY] at hA hF)))
     refine (har _).mono ?_
     clear har
     rintro e w1 ⟨rfl, hx⟩
     have hB := hA.ext hx
     clear hF hA hx; have hA := hB; clear hB
     have hF := hA.facts; (try simp only [uY] at hA hF)
     go_wp2_with (first | ((with_reducible refine gst ?_); refine wT hA ?_; clear hF hA; intro w1 hA hF; (try simp only [uY] at hA hF)) | ((with_reducible refine gbx ?_); refine wC hA ?_; clear hF hA; intro b1 w1 hA hb1 hF; (try simp only [uY] at hA hF)))
     go_ret
     exact ⟨rfl, close0 hA sR sR⟩
   · simp only [Bool.and_true, if_true]
     go_enter Tryz.func19, Tryz.ntmps19
     go_wp2_with (first | ((with_reducible refine gbx ?_); refine wH 42 [.string f, .int .u64 n, .int .i64 a0, .int .i64 a1, .int .i64 a2, .int .i64 a3, .int .i64 a4, .int .i64 a5, .int .i64 a6, .int .i64 a7] hA ?_; clear hF hA; intro bE w1 hA hbE hF; (try simp only [uY] at hA hF)) | ((with_reducible refine gst ?_); refine wT hA ?_; clear hF hA; intro w1 hA hF; (try simp only [uY] at hA hF)) | ((with_reducible refine gbx ?_); refine wC hA ?_; clear hF hA; intro b1 w1 hA hb1 hF; (try simp only [uY] at hA hF)))
     refine (hpr _).mono ?_
     clear hpr
     rintro e w1 ⟨rfl, hx⟩
     have hB := hA.ext hx
     clear hF hA hx; have hA := hB; clear hB
     have hF := hA.facts; (try simp only [uY] at hA hF)
     go_wp2_with (first | ((with_reducible refine gst ?_); refine wT hA ?_; clear hF hA; intro w1 hA hF; (try simp only [uY] at hA hF)) | ((with_reducible refine gbx ?_); refine wC hA ?_; clear hF hA; intro b1 w1 hA hb1 hF; (try simp only [uY] at hA hF)))
     refine (har _).mono ?_
     clear har
     rintro e w1 ⟨rfl, hx⟩
     have hB := hA.ext hx
     clear hF hA hx; have hA := hB; clear hB
     have hF := hA.facts; (try simp only [uY] at hA hF)
     go_wp2_with (first | ((with_reducible refine gst ?_); refine wT hA ?_; clear hF hA; intro w1 hA hF; (try simp only [uY] at hA hF)) | ((with_reducible refine gbx ?_); refine wC hA ?_; clear hF hA; intro b1 w1 hA hb1 hF; (try simp only [uY] at hA hF)))
     try go_frame
     (refine wp_region_head 16 (Cl _ _ _) (by kernel_rfl) (by kernel_rfl) (Cl.drew hA) ?_); (simp only [List.take_succ_cons, List.take_zero, List.drop_succ_cons, List.drop_zero]); (have hn1 := Cl.none hA); (have hn2 := Cl.none2 hA); (repeat (first | go_big_quiet_skip | (go_big_quiet_want; (first | (refine qM 37 2 ?_; go_frame; go_big_quiet_on) | (refine qM 40 8 ?_; go_frame; go_big_quiet_on) | ((refine quiet_find_at rfl (by (try simp only [Act.eval, eV]) <;> exact rfl) (by (try simp only [Act.eval, eV]) <;> exact rfl) (k := 37) (es := es) (f := f) (n := n) sR lawK Tryz.underlying74 hkl (fun _ => by kernel_rfl) hold.out ?_); go_frame; go_big_quiet_on) | (refine qL ?_; go_frame; go_big_quiet_on) | (go_big_quiet_op; (first | go_big_quiet_on | ((apply Exists.intro); (refine ⟨fun w1 hw => ?_, ?_⟩); (focus ((have hw := Cl.out hw); (exact through0 hw (hmg _)))); (go_big_quiet_on))))))))
     (refine wpQuiet_nil ?_); (intro w1 hB); (clear hF hA hn1 hn2); (have hA := Cl.out hB); (clear hB); have hF := hA.facts; (try simp only [uY] at hA hF)
     go_wp2_with (first | (refine wpList_mergeE_at (k := 37) (es := es) (f := f) (n := n) (v := ⟨a0, a1, a2, a3, a4, a5, a6, a7⟩) rfl rfl (by (try simp only [Act.eval, eV]) <;> exact rfl) (by (try simp only [Act.eval, eV]) <;> exact rfl) (by rw [hold.out, hmg'.out]; exact rfl) hA sR lawK Tryz.underlying74 hkl ?_; intro w1 hB; clear hF hA; have hA := hB; clear hB; have hF := hA.facts; (try simp only [uY] at hA hF)) | ((with_reducible refine gst ?_); refine wT hA ?_; clear hF hA; intro w1 hA hF; (try simp only [uY] at hA hF)) | ((with_reducible refine gbx ?_); refine wC hA ?_; clear hF hA; intro b1 w1 hA hb1 hF; (try simp only [uY] at hA hF)))
     go_ret
     exact ⟨rfl, close0 hA sR sR⟩
end Go.Proofs.YtgbpfgdjnhbcgaaGreatDoor.Ix
end
section
namespace Go.Proofs.YtgbpfgdjnhbcgaaGreatDoor.Mark
open Go.RowKit Go.Shelf
open Go.Maps (Keyed)
attribute [local go_sem] Oper.semAt_some
end Go.Proofs.YtgbpfgdjnhbcgaaGreatDoor.Mark
end
section
namespace Go.Proofs.YtgbpfgdjnhbcgaaGreatDoor.Mark
open Go.RowKit
open Go.Sort Go.Shelf
def orI (a b : Int) : Int := if a = 0 then b else a
theorem or2 (a b : Int) (g : Nat) (w : World) (h0 : w.cell? ⟨g, 0, none⟩ = some (.int .i64 a)) (h1 : w.cell? ⟨g, 1, none⟩ = some (.int .i64 b)) :
 Calls Tryz.prog 29 #[.slice (some ⟨g, 0, none⟩) 2 2] w fun e w' => e = .returned (.int .i64 (orI a b)) ∧ w = w' := by
 by_cases ha : a = 0
 · subst ha
   by_cases hb : b = 0
   · subst hb
     go_enter Tryz.func29, Tryz.ntmps29
     go_wp2
     refine wp_loop_rounds 3 ?_
     rw [rounds_succ]
     go_wp2
     rw [rounds_succ]
     go_wp2
     rw [rounds_succ]
     go_wp2
     go_ret
     exact ⟨rfl, rfl⟩
   · have hb' : (b == 0) = false := by simpa using hb
     go_enter Tryz.func29, Tryz.ntmps29
     go_wp2
     refine wp_loop_rounds 2 ?_
     rw [rounds_succ]
     go_wp2
     rw [rounds_succ]
     go_wp2
     refine bodyPost_ret (results_tmp rfl _ _ _) rfl ?_
     exact ⟨rfl, rfl⟩
 · have ha' : (a == 0) = false := by simpa using ha
   have e : orI a b = a := by simp [orI, ha]
   rw [e]
   go_enter Tryz.func29, Tryz.ntmps29
   go_wp2
   refine wp_loop_rounds 1 ?_
   rw [rounds_succ]
   go_wp2
   refine bodyPost_ret (results_tmp rfl _ _ _) rfl ?_
   exact ⟨rfl, rfl⟩
theorem three_grow (W : World) (A B C : Obj) (n : Nat) : (((W.alloc A).alloc B).drewN n).alloc C = grow (W.drewN n) #[A, B, C] := by
 rw [alloc_eq_grow W, alloc_eq_grow _ B, alloc_eq_grow _ C, grow_grow]
 show grow (grow (W.drewN n) _) _ = _
 rw [grow_grow]
 rfl
theorem new_cell (X : World) (n : Nat) (h : X.heap.size = n) (cs : Array Value) (t : TypeId) (j : Nat) (v : Value) (hv : cs[j]? = some v) : (X.alloc (.cells cs t)).cell? ⟨n, j, none⟩ = some v := by
 subst h
 rw [World.cell?, World.alloc_heap_new]
 exact hv
def ltID (x y : Int × Int) : Prop := x.1 < y.1 ∨ (x.1 = y.1 ∧ x.2 < y.2)
instance (x y : Int × Int) : Decidable (ltID x y) := by unfold ltID; infer_instance
end Go.Proofs.YtgbpfgdjnhbcgaaGreatDoor.Mark
end
section
namespace Go.Proofs.YtgbpfgdjnhbcgaaGreatDoor.Sess
open Go.RowKit
open Go.Sort Go.Shelf
open Go.Lib (compareBytes compareInt)
open _root_.Go.Proofs.YtgbpfgdjnhbcgaaGreatDoor.Mark (orI or2 three_grow new_cell)
theorem cb_three : ∀ (a b : List UInt8), compareBytes a b = -1 ∨ compareBytes a b = 0 ∨ compareBytes a b = 1
 | [], [] => by simp [compareBytes]
 | [], _ :: _ => by simp [compareBytes]
 | _ :: _, [] => by simp [compareBytes]
 | a :: x, b :: y => by
  have := cb_three x y
  unfold compareBytes
  split
  · simp
  · split
    · simp
    · exact this
theorem cb_flip : ∀ (a b : List UInt8), compareBytes b a = - compareBytes a b
 | [], [] => by simp [compareBytes]
 | [], _ :: _ => by simp [compareBytes]
 | _ :: _, [] => by simp [compareBytes]
 | a :: x, b :: y => by
  have := cb_flip x y
  simp only [compareBytes]
  rcases Nat.lt_trichotomy a.toNat b.toNat with h | h | h
  · have h1 : a < b := UInt8.lt_iff_toNat_lt.2 h
    have h2 : ¬ b < a := fun q => by have := UInt8.lt_iff_toNat_lt.1 q; omega
    simp [h1, h2]
  · have e : a = b := UInt8.toNat_inj.1 h
    subst e
    have h1 : ¬ a < a := fun q => by have := UInt8.lt_iff_toNat_lt.1 q; omega
    simp [h1, this]
  · have h1 : b < a := UInt8.lt_iff_toNat_lt.2 h
    have h2 : ¬ a < b := fun q => by have := UInt8.lt_iff_toNat_lt.1 q; omega
    simp [h1, h2]
theorem cb_zero : ∀ (a b : List UInt8), compareBytes a b = 0 → a = b
 | [], [], _ => rfl
 | [], _ :: _, h => by simp [compareBytes] at h
 | _ :: _, [], h => by simp [compareBytes] at h
 | a :: x, b :: y, h => by
  simp only [compareBytes] at h
  rcases Nat.lt_trichotomy a.toNat b.toNat with q | q | q
  · have h1 : a < b := UInt8.lt_iff_toNat_lt.2 q
    simp [h1] at h
  · have e : a = b := UInt8.toNat_inj.1 q
    subst e
    have h1 : ¬ a < a := fun q => by have := UInt8.lt_iff_toNat_lt.1 q; omega
    simp [h1] at h
    rw [cb_zero x y h]
  · have h1 : b < a := UInt8.lt_iff_toNat_lt.2 q
    have h2 : ¬ a < b := fun q => by have := UInt8.lt_iff_toNat_lt.1 q; omega
    simp [h1, h2] at h
theorem cb_trans : ∀ (a b c : List UInt8), compareBytes a b < 0 → compareBytes b c < 0 → compareBytes a c < 0
 | [], _, [], h1, h2 => by
  rename_i b
  have := cb_flip [] b
  omega
 | [], _, _ :: _, _, _ => by simp [compareBytes]
 | _ :: _, [], _, h1, _ => by simp [compareBytes] at h1
 | _ :: _, _ :: _, [], _, h2 => by simp [compareBytes] at h2
 | a :: x, b :: y, c :: z, h1, h2 => by
  have ih := cb_trans x y z
  simp only [compareBytes] at *
  simp only [UInt8.lt_iff_toNat_lt] at *
  split at h1
  · split at h2
    · rw [if_pos (by omega)]; omega
    · split at h2
      · simp at h2
      · rw [if_pos (by omega)]; omega
  · split at h1
    · simp at h1
    · split at h2
      · rw [if_pos (by omega)]; omega
      · split at h2
        · simp at h2
        · rw [if_neg (by omega), if_neg (by omega)]
          exact ih h1 h2
theorem isNaN_u64 (x : Int) (w : World) : Calls Tryz.prog 58 #[.int .u64 x] w fun e w' => e = .returned (.bool false) ∧ w' = w := by
 go_enter Tryz.func58, Tryz.ntmps58
 go_wp2
 go_ret
 exact ⟨by simp, rfl⟩
theorem compare_u64 (x y : Int) (w : World) : Calls Tryz.prog 31 #[.int .u64 x, .int .u64 y] w fun e w' => e = .returned (.int .i64 (compareInt x y)) ∧ w' = w := by
 unfold compareInt
 by_cases h1 : x < y
 · go_enter Tryz.func31, Tryz.ntmps31
   go_wp2_with (go_at_call 58; refine (isNaN_u64 _ _).mono ?_; rintro e w' ⟨rfl, rfl⟩)
   refine bodyPost_ret (results_tmp rfl _ _ _) rfl ?_
   exact ⟨by simp [h1], rfl⟩
 · by_cases h2 : y < x
   · go_enter Tryz.func31, Tryz.ntmps31
     go_wp2_with (go_at_call 58; refine (isNaN_u64 _ _).mono ?_; rintro e w' ⟨rfl, rfl⟩)
     refine bodyPost_ret (results_tmp rfl _ _ _) rfl ?_
     exact ⟨by simp [h1, h2], rfl⟩
   · go_enter Tryz.func31, Tryz.ntmps31
     go_wp2_with (go_at_call 58; refine (isNaN_u64 _ _).mono ?_; rintro e w' ⟨rfl, rfl⟩)
     go_ret
     exact ⟨by simp [h1, h2], rfl⟩
def cbS (a b : ByteArray) : Int := compareBytes a.data.toList b.data.toList
def ltS (x y : Int × ByteArray) : Prop := x.1 < y.1 ∨ (x.1 = y.1 ∧ cbS x.2 y.2 < 0)
instance (x y : Int × ByteArray) : Decidable (ltS x y) := by unfold ltS; infer_instance
theorem cbS_flip (a b : ByteArray) : cbS b a = - cbS a b := cb_flip _ _
theorem cbS_trans {a b c : ByteArray} (h1 : cbS a b < 0) (h2 : cbS b c < 0) : cbS a c < 0 := cb_trans _ _ _ h1 h2
theorem cbS_zero {a b : ByteArray} (h : cbS a b = 0) : a = b := by
 have := cb_zero _ _ h
 obtain ⟨⟨x⟩⟩ := a
 obtain ⟨⟨y⟩⟩ := b
 simp at this
 rw [this]
end Go.Proofs.YtgbpfgdjnhbcgaaGreatDoor.Sess
end
