/- WinB, WinC, WinD, IxD, joined. -/
import Derived.Test.YtgbpfgdjnhbcgaaGreatDoorR12
set_option linter.unusedSimpArgs false
set_option linter.unusedVariables false
set_option maxRecDepth 100000
set_option maxHeartbeats 16000000
section
namespace Go.Proofs.YtgbpfgdjnhbcgaaGreatDoor.Wire
open Go.RowKit
theorem or_add (a b k : Nat) (h : b < 2 ^ k) (ha : a * 2 ^ k < 18446744073709551616) (hs : a * 2 ^ k + b < 18446744073709551616) : bits .or .u64 (b : Int) ((a * 2 ^ k : Nat) : Int) = ((b + a * 2 ^ k : Nat) : Int) := by
 rw [bits_or_u64_nat b (a * 2 ^ k) (by omega) ha, Nat.or_comm, ← Nat.shiftLeft_eq, ← Nat.shiftLeft_add_eq_or_of_lt h, Nat.add_comm]
theorem or_add2 (a b k : Nat) (h : b < 2 ^ k) (ha : a * 2 ^ k < 18446744073709551616) (hs : a * 2 ^ k + b < 18446744073709551616) : bits .or .u64 ((a * 2 ^ k : Nat) : Int) (b : Int) = ((a * 2 ^ k + b : Nat) : Int) := by
 rw [bits_or_u64_nat (a * 2 ^ k) b ha (by omega), ← Nat.shiftLeft_eq, ← Nat.shiftLeft_add_eq_or_of_lt h]
theorem and127 {x : Int} (h0 : 0 ≤ x) (h1 : x < 256) : bits .and .u8 x 127 = ((x.toNat % 128 : Nat) : Int) := by
 rw [u8_and x 127 h0 h1 (by omega) (by omega)]
 exact congrArg _ (Nat.and_two_pow_sub_one_eq_mod x.toNat 7)
def CellsY (b o : Nat) (l : List Int) (w : World) : Prop := ∀ j (hj : j < l.length), w.cell? ⟨b, o + j, none⟩ = some (.int .u8 l[j])
theorem bigN_snoc (l : List Int) (x : Int) : bigN (l ++ [x]) = bigN l * 256 + x.toNat := by unfold bigN; rw [List.foldl_append]; rfl
theorem bigN_lt : ∀ (l : List Int), Byt l → bigN l < 256 ^ l.length := by
 suffices H : ∀ (k : Nat) (l : List Int), l.length = k → Byt l → bigN l < 256 ^ k from fun l h => H _ l rfl h
 intro k
 induction k with
 | zero => intro l hl _; rw [List.eq_nil_of_length_eq_zero hl]; decide
 | succ k ih =>
  intro l hl hb
  have hk : k < l.length := by omega
  have e : l = l.take k ++ [l[k]] := by
   rw [← List.take_succ_eq_append_getElem hk, List.take_of_length_le (by omega)]
  rw [e, bigN_snoc]
  have h1 := ih (l.take k) (by rw [List.length_take]; omega) (fun x hx => hb x (List.mem_of_mem_take hx))
  have h2 := hb _ (List.getElem_mem hk)
  rw [Nat.pow_succ]
  omega
def RdRel (b o : Nat) (l : List Int) (w : World) (k : Nat) (u4 u25 : Value) (wr : World) : Prop := ∃ i : Nat, u25 = .int .i64 i ∧ i + k = 8 ∧ u4 = .int .u64 (bigN (l.take i)) ∧ wr = w
theorem read8_any {b o : Nat} {l : List Int} (hl : l.length = 8) (hb : Byt l) (w : World) (hc : CellsY b o l w) : Calls Tryz.prog 69 #[.slice (some ⟨b, o, none⟩) 8 8, .int .i64 8] w fun e w' => e = .returned (.tuple #[.int .u64 (bigN l), .int .i64 8, .int .i64 0]) ∧ w' = w := by
 have hsl : (Instr.sliceAt 62 (.slice (some ⟨b, o, none⟩) 8 8) none (some (.int .i64 8)) none).run Tryz.prog w = .ok (.slice (some ⟨b, o, none⟩) 8 8) w := by
  have hz : ∀ w, (sizeOf 5).run Tryz.prog w = .ok 1 w := fun w => by kernel_rfl
  simp [Instr.sliceAt, Instr.slice, run_underlying Tryz.underlying62, Instr.sliceBounds, run_sliceBound, hz, Result.andThen, Addr.add]
 go_enter Tryz.func69, Tryz.ntmps69
 go_wp2_with fail
 try go_frame
 go_loopg [4, 25] 8 (RdRel b o l w)
 case atStart => exact ⟨0, rfl, rfl, rfl, rfl⟩
 case round =>
  obtain ⟨i, rfl, hik, rfl, rfl⟩ := hrel
  by_cases hi : i < 8
  · have hx := hc i (by omega)
    obtain ⟨hx0, hx1⟩ := hb l[i] (List.getElem_mem (by omega))
    have hv := bigN_lt (l.take i) (fun y hy => hb y (List.mem_of_mem_take hy))
    have hvl : (l.take i).length = i := by rw [List.length_take]; omega
    rw [hvl] at hv
    have hn : bigN (l.take (i + 1)) = bigN (l.take i) * 256 + (l[i]'(by omega)).toNat := by rw [List.take_succ_eq_append_getElem (by omega), bigN_snoc]
    obtain ⟨x, hxx⟩ : ∃ z, l[i]'(by omega) = z := ⟨_, rfl⟩
    rw [hxx] at hx hx0 hx1 hn
    generalize bigN (l.take i) = v at *
    obtain ⟨y, rfl⟩ := Int.eq_ofNat_of_zero_le hx0
    have hv7 : v < 72057594037927936 := Nat.lt_of_lt_of_le hv (Nat.pow_le_pow_right (by decide) (show i ≤ 7 by omega))
    have hor := or_add2 v y 8 (by omega) (by omega) (by omega)
    have hor2 : bits .or .u64 ((v : Int) * 256) (y : Int) = (v : Int) * 256 + (y : Int) := by
     have e : ((v * 2 ^ 8 : Nat) : Int) = (v : Int) * 256 := by omega
     rw [← e, hor]
     omega
    have hor2' := Lib.hid hor2
    clear hor hor2
    have hw1 : IntKind.u64.wrap ((v : Int) * 256) = (v : Int) * 256 := by rw [IntKind.wrap_u64]; omega
    have hw2 : IntKind.u64.wrap (y : Int) = (y : Int) := by rw [IntKind.wrap_u64]; omega
    have hn' := Lib.hid hn
    clear hn hxx hvl hv hx0
    go_wp2_with fail
    go_roundg (gk - 1)
    case measure => omega
    case rel => exact ⟨i + 1, by simp, by omega, by rw [hn'.out]; simp [hw1, hor2'.out], rfl⟩
  · have hli : l.take i = l := List.take_of_length_le (by omega)
    go_wp2_with fail
    refine bodyPost_ret (v := .tuple #[.int .u64 (bigN l), .int .i64 8, .int .i64 0]) (by simp [results, Tryz.results69, go_sem, hli]) rfl ⟨rfl, rfl⟩
theorem read0_any (ax : Option Addr) (c : Nat) (w : World) : Calls Tryz.prog 69 #[.slice ax 0 c, .int .i64 8] w fun e w' => e = .returned (.tuple #[.int .u64 0, .int .i64 0, .int .i64 20]) ∧ w' = w := by
 go_enter Tryz.func69, Tryz.ntmps69
 go_wp2_with fail
 refine bodyPost_ret (v := .tuple #[.int .u64 0, .int .i64 0, .int .i64 20]) (by simp [results, Tryz.results69, go_sem]) rfl ⟨rfl, rfl⟩
def ShR (b o : Nat) (l : List Int) (w : World) (k : Nat) (u2 u6 : Value) (wr : World) : Prop := ∃ i v : Nat, u6 = .int .i64 i ∧ i + k = 10 ∧ u2 = .int .u64 v ∧ v < 128 ^ i ∧ rsL i v (l.drop i) = rs l ∧ wr = w
theorem readShort_any {b o cap : Nat} {l : List Int} (hl : l.length ≤ 1000000000000) (hb : Byt l) (w : World) (hc : CellsY b o l w) : Calls Tryz.prog 89 #[.slice (some ⟨b, o, none⟩) l.length cap] w fun e w' => e = .returned (.tuple #[.int .u64 ((rs l).1 : Nat), .int .i64 ((rs l).2.1 : Nat), .int .i64 (rs l).2.2]) ∧ w' = w := by
 go_enter Tryz.func89, Tryz.ntmps89
 go_wp2_with fail
 try go_frame
 go_loopg [2, 6] 10 (ShR b o l w)
 case atStart => exact ⟨0, 0, rfl, by omega, rfl, by omega, rfl, rfl⟩
 case round =>
  obtain ⟨i, v, rfl, hik, rfl, hv, hrs, rfl⟩ := hrel
  by_cases hi : i < 10
  · by_cases hn : i < l.length
    · have hx := hc i hn
      obtain ⟨hx0, hx1⟩ := hb l[i] (List.getElem_mem hn)
      have hdr : l.drop i = l[i] :: l.drop (i + 1) := List.drop_eq_getElem_cons hn
      obtain ⟨x, hxx⟩ : ∃ z, l[i] = z := ⟨_, rfl⟩
      rw [hxx] at hx hx0 hx1 hdr
      clear hxx
      obtain ⟨y, rfl⟩ := Int.eq_ofNat_of_zero_le hx0
      have hy : y < 256 := by omega
      have ha0 := and127 hx0 hx1
      have ha : bits .and .u8 (y : Int) 127 = (y : Int) % 128 := by rw [ha0]; omega
      clear ha0 hx0 hx1
      have hp : (128 : Nat) ^ i = 2 ^ (i * 7) := by rw [Nat.mul_comm, Nat.pow_mul]
      have hstep : ¬ (i = 9 ∧ 1 < (y : Int)) → bits .or .u64 (v : Int) (IntKind.u64.wrap ((y : Int) % 128 * 2 ^ (i * 7))) = ((v + y % 128 * 128 ^ i : Nat) : Int) := fun h9 => by
       have h2 : (2 : Nat) ^ (i * 7) ≤ 9223372036854775808 := Nat.le_trans (Nat.pow_le_pow_right (by decide) (show i * 7 ≤ 63 by omega)) (by decide)
       have hm : y % 128 < 128 := Nat.mod_lt _ (by decide)
       have hv2 : v < 2 ^ (i * 7) := by rw [← hp]; exact hv
       have hb1 : y % 128 * 2 ^ (i * 7) ≤ 9223372036854775808 := by
        by_cases q : i = 9
        · have : y ≤ 1 := by
           by_cases z : 1 < y
           · exact absurd ⟨q, by omega⟩ h9
           · omega
          have hm1 : y % 128 ≤ 1 := by omega
          exact Nat.le_trans (Nat.mul_le_mul hm1 h2) (by decide)
        · have h3 : (2 : Nat) ^ (i * 7) ≤ 72057594037927936 := Nat.le_trans (Nat.pow_le_pow_right (by decide) (show i * 7 ≤ 56 by omega)) (by decide)
          exact Nat.le_trans (Nat.mul_le_mul (show y % 128 ≤ 128 by omega) h3) (by decide)
       have e : (y : Int) % 128 * 2 ^ (i * 7) = ((y % 128 * 2 ^ (i * 7) : Nat) : Int) := by simp
       have hw : IntKind.u64.wrap ((y : Int) % 128 * 2 ^ (i * 7)) = ((y % 128 * 2 ^ (i * 7) : Nat) : Int) := by
        rw [e, IntKind.wrap_u64]
        generalize y % 128 * 2 ^ (i * 7) = z at *
        omega
       rw [hw, hp]
       exact or_add (y % 128) v (i * 7) hv2 (by omega) (by omega)
      have hs0 := hrs
      rw [hdr] at hs0
      unfold rsL at hs0
      rw [if_pos hi] at hs0
      have hv128 : ¬ (i = 9 ∧ 1 < (y : Int)) → v + y % 128 * 128 ^ i < 128 ^ (i + 1) := fun _ => by
       have h1 : y % 128 * 128 ^ i ≤ 127 * 128 ^ i := Nat.mul_le_mul_right _ (by omega)
       have hp2 : (128 : Nat) ^ (i + 1) = 128 * 128 ^ i := by rw [Nat.pow_succ, Nat.mul_comm]
       rw [hp2]
       omega
      have hle : (i : Int) ≤ 9 := by omega
      have hstep' := Lib.hid hstep
      have hv128' := Lib.hid hv128
      clear hrs hdr hp hstep hv hv128
      by_cases h9 : i = 9 ∧ 1 < (y : Int)
      · rw [if_pos h9] at hs0
        obtain ⟨h91, h92⟩ := h9
        subst h91
        have hr' := Lib.hid hs0
        clear hs0
        go_wp2_with fail
        refine bodyPost_ret (v := .tuple #[.int .u64 0, .int .i64 0, .int .i64 12]) (by simp [results, Tryz.results89, go_sem]) rfl ⟨by rw [← hr'.out]; rfl, rfl⟩
      · rw [if_neg h9] at hs0
        have hst := Lib.hid (hstep'.out h9)
        have hvn := Lib.hid (hv128'.out h9)
        have hcs : ((i : Int) == 9) = false ∨ (i = 9 ∧ ¬ 1 < (y : Int)) := by
         by_cases q : i = 9
         · exact .inr ⟨q, fun z => h9 ⟨q, z⟩⟩
         · exact .inl (by simp; omega)
        clear hstep' hv128' h9
        by_cases h128 : (y : Int) < 128
        · rw [if_pos h128] at hs0
          by_cases h00 : (y : Int) = 0 ∧ 0 < i
          · rw [if_pos h00] at hs0
            obtain ⟨h01, h02⟩ := h00
            have hy0 : y = 0 := by omega
            subst hy0
            have h02' : (0 : Int) < (i : Int) := by omega
            have hr' := Lib.hid hs0
            clear hs0 hst hvn
            rcases hcs with hcs | ⟨rfl, hcs⟩
            all_goals
             go_wp2_with fail
             refine bodyPost_ret (v := .tuple #[.int .u64 0, .int .i64 0, .int .i64 10]) (by simp [results, Tryz.results89, go_sem]) rfl ⟨by rw [← hr'.out]; rfl, rfl⟩
          · rw [if_neg h00] at hs0
            have hr' := Lib.hid hs0
            have hcs2 : ((y : Int) == 0) = false ∨ (y = 0 ∧ ¬ (0 : Int) < (i : Int)) := by
             by_cases q : y = 0
             · exact .inr ⟨q, fun z => h00 ⟨by omega, by omega⟩⟩
             · exact .inl (by simp; omega)
            clear hs0 h00
            rcases hcs with hcs | ⟨rfl, hcs⟩
            · rcases hcs2 with hcs2 | ⟨rfl, hi0⟩
              · go_wp2_with fail
                refine bodyPost_ret (v := .tuple #[.int .u64 (bits .or .u64 (v : Int) (IntKind.u64.wrap ((y : Int) % 128 * 2 ^ (i * 7)))), .int .i64 ((i : Int) + 1), .int .i64 0]) (by simp [results, Tryz.results89, go_sem]) rfl ⟨?_, rfl⟩
                rw [← hr'.out, hst.out]
                simp
              · go_wp2_with fail
                refine bodyPost_ret (by simp [results, Tryz.results89, go_sem] <;> rfl) rfl ⟨?_, rfl⟩
                have hq := hst.out
                rw [← hr'.out]
                simp [show bits .and .u8 0 127 = 0 by decide, show IntKind.u64.wrap 0 = 0 by decide] at hq ⊢
                exact hq
            · rcases hcs2 with hcs2 | ⟨rfl, hi0⟩
              · go_wp2_with fail
                refine bodyPost_ret (by simp [results, Tryz.results89, go_sem] <;> rfl) rfl ⟨?_, rfl⟩
                have hq := hst.out
                rw [← hr'.out]
                obtain rfl : y = 1 := by
                 have : ¬ (y : Int) = 0 := by simpa using hcs2
                 omega
                simp [IntKind.wrap_u64] at hq ⊢
                exact hq
              · omega
        · rw [if_neg h128] at hs0
          have hr' := Lib.hid hs0
          have hcs2 : ((i : Int) == 9) = false := by
           rcases hcs with q | ⟨_, q⟩
           · exact q
           · omega
          clear hs0 hcs
          go_wp2_with fail
          go_roundg (gk - 1)
          case measure => omega
          case rel => exact ⟨i + 1, v + y % 128 * 128 ^ i, by simp, by omega, by simp [hst.out], hvn.out, by rw [← hr'.out]; simp, rfl⟩
    · have hdr : l.drop i = [] := List.drop_eq_nil_of_le (by omega)
      have hr : rs l = (0, 0, 20) := by rw [← hrs, hdr]; unfold rsL; rw [if_pos hi]
      have hr' := Lib.hid hr
      clear hr hrs hdr hv
      go_wp2_with fail
      refine bodyPost_ret (v := .tuple #[.int .u64 0, .int .i64 0, .int .i64 20]) (by simp [results, Tryz.results89, go_sem]) rfl ⟨by rw [hr'.out]; rfl, rfl⟩
  · have hr : rs l = (0, 0, 12) := by
     rw [← hrs]
     cases l.drop i with
     | nil => unfold rsL; rw [if_neg hi]
     | cons x r => unfold rsL; rw [if_neg hi]
    have hr' := Lib.hid hr
    clear hr hrs hv
    go_wp2_with fail
    refine bodyPost_ret (v := .tuple #[.int .u64 0, .int .i64 0, .int .i64 12]) (by simp [results, Tryz.results89, go_sem]) rfl ⟨by rw [hr'.out]; rfl, rfl⟩
end Go.Proofs.YtgbpfgdjnhbcgaaGreatDoor.Wire
end
section
namespace Go.Proofs.YtgbpfgdjnhbcgaaGreatDoor.Wire
open Go.RowKit
structure Rdr where
 v : Value
 l : List Int
 pos : Nat
 u : Value
 e : Int
def Rdr.s (r : Rdr) : InS := ⟨r.l.drop r.pos, r.e⟩
def Win (v : Value) (n pos : Nat) (u : Value) : Prop := pos ≤ n ∧ ∃ ax cap bx, v = .slice ax n cap ∧ n ≤ cap ∧ u = .slice bx (n - pos) (cap - pos) ∧ (ax = none ∧ bx = none ∧ cap = 0 ∨ ∃ g o, ax = some ⟨g, 0, none⟩ ∧ bx = some ⟨g, o, none⟩ ∧ (pos < cap → o = pos))
structure Rdr.Ok (r : Rdr) : Prop where
 win : Win r.v r.l.length r.pos r.u
 byt : Byt r.l
 len : r.l.length ≤ 1000000000000
abbrev inC (i : Nat) (u : Value) (e : Int) : Part := .cells i [u, .int .i64 e] 99
def RdP (i : Nat) (r : Rdr) : Part := Part.all [inC i r.u r.e, rowY r.v r.l]
theorem rd_eqv (i : Nat) (r : Rdr) (F : List Part) : Eqv (RdP i r :: F) (inC i r.u r.e :: rowY r.v r.l :: F) := Eqv.all [inC i r.u r.e, rowY r.v r.l] F
theorem win_cells {R : Rdr} {w : World} (h : (rowY R.v R.l).holds w) (hw : R.Ok) (hp : R.pos < R.l.length) : ∃ g c, R.u = .slice (some ⟨g, R.pos, none⟩) (R.l.length - R.pos) c ∧ CellsY g R.pos (R.l.drop R.pos) w := by
 obtain ⟨hpn, ax, cap, bx, hv, hnc, hu, hc⟩ := hw.win
 obtain ⟨ax2, cap2, hv2, _, _, _, hx⟩ := own_form h
 rw [hv] at hv2
 cases hv2
 rcases hc with ⟨rfl, rfl, rfl⟩ | ⟨g, o, rfl, rfl, ho⟩
 · omega
 · have hop := ho (by omega)
   subst hop
   rcases hx with ⟨q, _⟩ | ⟨g2, hg, hcell⟩
   · cases q
   · cases hg
     refine ⟨g, _, hu, fun j hj => ?_⟩
     rw [List.length_drop] at hj
     rw [List.getElem_drop]
     exact hcell (R.pos + j) _ (flatY_get R.l (R.pos + j) (by omega))
theorem rd_cells {i : Nat} {r : Rdr} {w : World} (h : (RdP i r).holds w) : (rowY r.v r.l).holds w := Sep.get (L := [inC i r.u r.e, rowY r.v r.l]) h (by simp)
theorem take_slices {v u : Value} {N pos : Nat} (hw : Win v N pos u) {n : Nat} (hn : n ≤ N - pos) (w : World) : ∃ bx c ux, u = .slice bx (N - pos) c ∧
 (Instr.sliceAt 62 (.slice bx (N - pos) c) none (some (.int .i64 n)) (some (.int .i64 n))).run Tryz.prog w = .ok (.slice bx n n) w ∧
 (Instr.sliceAt 62 (.slice bx (N - pos) c) (some (.int .i64 n)) none none).run Tryz.prog w = .ok (.slice ux (N - pos - n) (c - n)) w ∧
 Win v N (pos + n) (.slice ux (N - pos - n) (c - n)) := by
 obtain ⟨hpn, ax, cap, bx, hv, hnc, rfl, hc⟩ := hw
 have hz : ∀ w, (sizeOf 5).run Tryz.prog w = .ok 1 w := fun w => by kernel_rfl
 refine ⟨bx, cap - pos, if cap - pos = n then bx else bx.map (·.add (n * 1)), rfl, ?_, ?_, ?_⟩
 · have e : (if n = 0 then bx else bx.map (·.add (0 * 1))) = bx := by
    split
    · rfl
    · rcases hc with ⟨_, rfl, _⟩ | ⟨g, o, _, rfl, _⟩
      · rfl
      · simp [Addr.add]
   simp [Instr.sliceAt, Instr.slice, run_underlying Tryz.underlying62, Instr.sliceBounds, run_sliceBound, hz, Result.andThen, show (n : Int) ≤ ((cap - pos : Nat) : Int) by omega]
   simpa using e
 · simp [Instr.sliceAt, Instr.slice, run_underlying Tryz.underlying62, Instr.sliceBounds, run_sliceBound, hz, Result.andThen, show (n : Int) ≤ ((N - pos : Nat) : Int) by omega]
 · refine ⟨by omega, ax, cap, _, hv, hnc, by rw [show N - (pos + n) = N - pos - n by omega, show cap - (pos + n) = cap - pos - n by omega], ?_⟩
   rcases hc with ⟨rfl, rfl, rfl⟩ | ⟨g, o, rfl, rfl, ho⟩
   · exact .inl ⟨rfl, by split <;> rfl, rfl⟩
   · right
     by_cases q : cap - pos = n
     · exact ⟨g, o, rfl, by rw [if_pos q], fun z => by omega⟩
     · refine ⟨g, o + n, rfl, by rw [if_neg q]; simp [Addr.add], fun z => ?_⟩
       have := ho (by omega)
       omega
def FailP (w : World) (i : Nat) (r : Rdr) (x : Int) (e : Ending) (w' : World) : Prop := e = .returned (.tuple #[]) ∧ At [RdP i r] w [RdP i { r with e := if r.e = 0 then x else r.e }] w'
theorem fail_s (r : Rdr) (x : Int) : ({ r with e := if r.e = 0 then x else r.e } : Rdr).s = r.s.fail x := by
 unfold Rdr.s InS.fail
 by_cases h : r.e = 0
 · simp [h]
 · simp [h]
theorem ok_e {r : Rdr} (h : r.Ok) (x : Int) : ({ r with e := x } : Rdr).Ok := ⟨h.win, h.byt, h.len⟩
theorem fail_any {w : World} {i : Nat} {r : Rdr} (h : Sep [RdP i r] w) (x : Int) : Calls Tryz.prog 51 #[.pointer (some ⟨i, 0, none⟩), .int .i64 x] w (FailP w i r x) := by
 have hA := (At.start h).to (rd_eqv i r [])
 have hF := hA.facts
 clear h
 have hF := hA.facts; (try simp only [uZ] at hA hF)
 by_cases he : r.e = 0
 · rw [he] at hA hF
   go_enter Tryz.func51, Tryz.ntmps51
   go_wp2_with (first | ((with_reducible refine gst ?_); refine wT hA ?_; clear hF hA; intro w1 hA hF; (try simp only [uZ] at hA hF)) | ((with_reducible refine gbx ?_); refine wC hA ?_; clear hF hA; intro b1 w1 hA hb1 hF; (try simp only [uZ] at hA hF)))
   refine bodyPost_ret (v := .tuple #[]) (by simp [results, Tryz.results51, go_sem]) rfl ⟨rfl, ?_⟩
   rw [if_pos he]
   exact hA.to (rd_eqv i { r with e := x } []).symm
 · have he' : (r.e == 0) = false := by simpa using he
   go_enter Tryz.func51, Tryz.ntmps51
   go_wp2_with (first | ((with_reducible refine gst ?_); refine wT hA ?_; clear hF hA; intro w1 hA hF; (try simp only [uZ] at hA hF)) | ((with_reducible refine gbx ?_); refine wC hA ?_; clear hF hA; intro b1 w1 hA hb1 hF; (try simp only [uZ] at hA hF)))
   refine bodyPost_ret (v := .tuple #[]) (by simp [results, Tryz.results51, go_sem]) rfl ⟨rfl, ?_⟩
   rw [if_neg he]
   exact hA.to (rd_eqv i r []).symm
def TakeP (w : World) (i : Nat) (r : Rdr) (n : Nat) (e : Ending) (w' : World) : Prop :=
 ∃ (xa : Option Addr) (m mc : Nat) (r' : Rdr), e = .returned (.slice xa m mc) ∧ (r.s.takeL n).length = m ∧ (m ≠ 0 → mc = m ∧ ∃ g o, xa = some ⟨g, o, none⟩ ∧ ∀ w1, (RdP i r').holds w1 → CellsY g o (r.s.takeL n) w1) ∧ r'.s = r.s.takeS n ∧ r'.Ok ∧ At [RdP i r] w [RdP i r'] w'
theorem take_no {w w' : World} {i : Nat} {r : Rdr} {n : Nat} (hr : r.Ok) (hn : ¬ r.s.okT n) (hT : At [RdP i r] w [RdP i { r with e := if r.e = 0 then 20 else r.e }] w') : TakeP w i r n (.returned (.slice none 0 0)) w' := by
 have e1 : r.s.takeL n = [] := if_neg hn
 have e2 : r.s.takeS n = r.s.fail 20 := if_neg hn
 exact ⟨none, 0, 0, _, rfl, by rw [e1]; rfl, fun q => absurd rfl q, by rw [e2, fail_s], ok_e hr _, hT⟩
theorem take_any {w : World} {i : Nat} {r : Rdr} (h : Sep [RdP i r] w) (hr : r.Ok) (n : Nat) (hn : n ≤ 4611686018427387904) : Calls Tryz.prog 68 #[.pointer (some ⟨i, 0, none⟩), .int .i64 n] w (TakeP w i r n) := by
 have hsl : r.s.b.length = r.l.length - r.pos := List.length_drop
 have hs0 : r.s.e = r.e := rfl
 obtain ⟨bx0, c0, _, hu0, _⟩ := take_slices hr.win (n := 0) (Nat.zero_le _) w
 by_cases he : r.e = 0
 · by_cases hle : n ≤ r.l.length - r.pos
   · obtain ⟨bx, c, ux, hu, h1, h2, hw2⟩ := take_slices hr.win hle w
     have hok : r.s.okT n := ⟨he, by rw [hsl]; exact hle⟩
     have e1 : r.s.takeL n = r.s.b.take n := if_pos hok
     have e2 : r.s.takeS n = ⟨r.s.b.drop n, 0⟩ := if_pos hok
     have hpn := hr.win.1
     obtain ⟨v, l, pos, u, e⟩ := r
     simp only at he hu hw2 hpn
     subst he
     subst hu
     have hA := (At.start h).to (rd_eqv i ⟨v, l, pos, .slice bx (l.length - pos) c, 0⟩ [])
     have hF := hA.facts
     clear h
     have hle2 : ¬ ((l.length - pos : Nat) : Int) < (n : Int) := by simp only at hle; omega
     have h3 := hr
     have hr' := Lib.hid hr
     have hw2' := Lib.hid hw2
     have e1' := Lib.hid e1
     have e2' := Lib.hid e2
     have hle' := Lib.hid hle
     have hpn' := Lib.hid hpn
     clear hr hw2 e1 e2 hle hok hsl hs0 hu0 hpn h3
     have hF := hA.facts; (try simp only [uZ] at hA hF)
     go_enter Tryz.func68, Tryz.ntmps68
     go_wp2_with (first | ((with_reducible refine gst ?_); refine wT hA ?_; clear hF hA; intro w1 hA hF; (try simp only [uZ] at hA hF)) | ((with_reducible refine gbx ?_); refine wC hA ?_; clear hF hA; intro b1 w1 hA hb1 hF; (try simp only [uZ] at hA hF)))
     go_ret
     refine ⟨bx, n, n, ⟨v, l, pos + n, .slice ux (l.length - pos - n) (c - n), 0⟩, rfl, ?_, fun hm => ⟨rfl, ?_⟩, ?_, ⟨hw2'.out, hr'.out.byt, hr'.out.len⟩, ?_⟩
     · rw [e1'.out, List.length_take]
       have := hle'.out
       show min n (l.drop pos).length = n
       rw [List.length_drop]
       omega
     · have hlt : pos < l.length := by have := hle'.out; omega
       have hax : ∃ g, bx = some ⟨g, pos, none⟩ := by
        obtain ⟨_, ax, cap, bx2, _, hnc, hu2, hc⟩ := hr'.out.win
        simp only at hu2 hc hnc
        cases hu2
        rcases hc with ⟨_, _, q⟩ | ⟨g, o, _, q, ho⟩
        · omega
        · exact ⟨g, by rw [q, ho (by omega)]⟩
       obtain ⟨g, rfl⟩ := hax
       refine ⟨g, pos, rfl, fun w1 hw1 => ?_⟩
       obtain ⟨g2, c2, hu2, hcell⟩ := win_cells (R := ⟨v, l, pos, .slice (some ⟨g, pos, none⟩) (l.length - pos) c, 0⟩) (show (rowY v l).holds w1 from rd_cells hw1) hr'.out hlt
       cases hu2
       rw [e1'.out]
       intro j hj
       have hj2 : j < (l.drop pos).length := by
        have q := hj
        rw [List.length_take] at q
        exact Nat.lt_of_lt_of_le q (Nat.min_le_right _ _)
       refine (hcell j hj2).trans (congrArg (fun z => some (Value.int .u8 z)) ?_)
       exact (List.getElem_take (xs := l.drop pos) (j := n) (i := j) (h := hj)).symm
     · rw [e2'.out]
       simp only [Rdr.s, List.drop_drop]
     · exact hA.to (rd_eqv i ⟨v, l, pos + n, .slice ux (l.length - pos - n) (c - n), 0⟩ []).symm
   · have hno : ¬ r.s.okT n := fun q => hle (by rw [← hsl]; exact q.2)
     have hk := fun (w' : World) => take_no (w := w) (w' := w') (i := i) hr hno
     obtain ⟨v, l, pos, u, e⟩ := r
     simp only at he hu0 hle
     subst he
     subst hu0
     have hA := (At.start h).to (rd_eqv i ⟨v, l, pos, .slice bx0 (l.length - pos) c0, 0⟩ [])
     have hF := hA.facts
     have hle2 : ((l.length - pos : Nat) : Int) < (n : Int) := by omega
     have hk' := Lib.hid hk
     clear hk hr hsl hs0 hno
     have hF := hA.facts; (try simp only [uZ] at hA hF)
     go_enter Tryz.func68, Tryz.ntmps68
     go_wp2_with (first | ((with_reducible refine gst ?_); refine wT hA ?_; clear hF hA; intro w1 hA hF; (try simp only [uZ] at hA hF)) | ((with_reducible refine gbx ?_); refine wC hA ?_; clear hF hA; intro b1 w1 hA hb1 hF; (try simp only [uZ] at hA hF)))
     refine (fail_any h 20).mono ?_
     rintro e w1 ⟨rfl, hT⟩
     go_wp2_with fail
     go_ret
     exact hk'.out _ hT
 · have hno : ¬ r.s.okT n := fun q => he q.1
   have hk := fun (w' : World) => take_no (w := w) (w' := w') (i := i) hr hno
   obtain ⟨v, l, pos, u, e⟩ := r
   simp only at he hu0
   subst hu0
   have hA := (At.start h).to (rd_eqv i ⟨v, l, pos, .slice bx0 (l.length - pos) c0, e⟩ [])
   have hF := hA.facts
   have he' : (e != 0) = true := by simpa using he
   have he2 : (e == 0) = false := by simpa using he
   have hk' := Lib.hid hk
   clear hk hr hsl hs0 hno
   have hF := hA.facts; (try simp only [uZ] at hA hF)
   go_enter Tryz.func68, Tryz.ntmps68
   go_wp2_with (first | ((with_reducible refine gst ?_); refine wT hA ?_; clear hF hA; intro w1 hA hF; (try simp only [uZ] at hA hF)) | ((with_reducible refine gbx ?_); refine wC hA ?_; clear hF hA; intro b1 w1 hA hb1 hF; (try simp only [uZ] at hA hF)))
   refine (fail_any h 20).mono ?_
   rintro e w1 ⟨rfl, hT⟩
   go_wp2_with fail
   go_ret
   exact hk'.out _ hT
def InP (w : World) (i : Nat) (r : Rdr) (x : Value) (s' : InS) (e : Ending) (w' : World) : Prop := ∃ r' : Rdr, e = .returned x ∧ r'.s = s' ∧ r'.Ok ∧ At [RdP i r] w [RdP i r'] w'
theorem fail_in {w : World} {i : Nat} {r : Rdr} (h : Sep [RdP i r] w) (hr : r.Ok) (x : Int) : Calls Tryz.prog 51 #[.pointer (some ⟨i, 0, none⟩), .int .i64 x] w (InP w i r (.tuple #[]) (r.s.fail x)) := by
 refine (fail_any h x).mono ?_
 rintro e w1 ⟨rfl, hT⟩
 exact ⟨_, rfl, fail_s r x, ok_e hr _, hT⟩
theorem failed_any {w : World} {i : Nat} {r : Rdr} (h : Sep [RdP i r] w) : Calls Tryz.prog 52 #[.pointer (some ⟨i, 0, none⟩)] w fun e w' => e = .returned (.bool (r.s.e != 0)) ∧ At [RdP i r] w [RdP i r] w' := by
 have hA := (At.start h).to (rd_eqv i r [])
 have hF := hA.facts; (try simp only [uZ] at hA hF)
 go_enter Tryz.func52, Tryz.ntmps52
 go_wp2_with fail
 go_ret
 exact ⟨rfl, At.start h⟩
theorem left_any {w : World} {i : Nat} {r : Rdr} (h : Sep [RdP i r] w) (hr : r.Ok) : Calls Tryz.prog 53 #[.pointer (some ⟨i, 0, none⟩)] w fun e w' => e = .returned (.int .i64 (r.s.left : Nat)) ∧ At [RdP i r] w [RdP i r] w' := by
 have hA := (At.start h).to (rd_eqv i r [])
 obtain ⟨bx0, c0, _, hu0, _⟩ := take_slices hr.win (n := 0) (Nat.zero_le _) w
 have hl : r.s.left = if r.e ≠ 0 then 0 else r.l.length - r.pos := by
  unfold InS.left Rdr.s
  simp
 rw [hu0] at hA
 have hF := hA.facts
 by_cases he : r.e = 0
 · rw [if_neg (by simpa using he)] at hl
   rw [he] at hF
   have hF := hA.facts; (try simp only [uZ] at hA hF)
   go_enter Tryz.func53, Tryz.ntmps53
   go_wp2_with fail
   go_ret
   exact ⟨by rw [hl]; rfl, At.start h⟩
 · rw [if_pos he] at hl
   have he' : (r.e != 0) = true := by simpa using he
   have he2 : (r.e == 0) = false := by simpa using he
   have hF := hA.facts; (try simp only [uZ] at hA hF)
   go_enter Tryz.func53, Tryz.ntmps53
   go_wp2_with fail
   go_ret
   exact ⟨by rw [hl]; rfl, At.start h⟩
theorem end_any {w : World} {i : Nat} {r : Rdr} (h : Sep [RdP i r] w) (hr : r.Ok) : Calls Tryz.prog 21 #[.pointer (some ⟨i, 0, none⟩)] w fun e w' => e = .returned (.int .i64 r.s.fin) ∧ At [RdP i r] w [RdP i r] w' := by
 go_enter Tryz.func21, Tryz.ntmps21
 go_wp2_with fail
 refine (left_any h hr).mono ?_
 rintro e w1 ⟨rfl, hT⟩
 have hfi : r.s.fin = if 0 < r.s.left then 21 else r.e := rfl
 have hA := hT.to (rd_eqv i r [])
 have hF := hA.facts
 generalize r.s.left = m at *
 by_cases hm : 0 < m
 · rw [if_pos hm] at hfi
   have hm' : (0 : Int) < (m : Int) := by omega
   have hfi' := Lib.hid hfi
   clear hfi
   have hF := hA.facts; (try simp only [uZ] at hA hF)
   go_wp2_with fail
   go_ret
   exact ⟨by rw [hfi'.out]; rfl, hT⟩
 · rw [if_neg hm] at hfi
   have hm' : ¬ (0 : Int) < (m : Int) := by omega
   have hfi' := Lib.hid hfi
   clear hfi
   have hF := hA.facts; (try simp only [uZ] at hA hF)
   go_wp2_with fail
   go_ret
   exact ⟨by rw [hfi'.out]; rfl, hT⟩
end Go.Proofs.YtgbpfgdjnhbcgaaGreatDoor.Wire
end
section
namespace Go.Proofs.YtgbpfgdjnhbcgaaGreatDoor.Wire
open Go.RowKit
theorem readShort0 (ax : Option Addr) (c : Nat) (w : World) : Calls Tryz.prog 89 #[.slice ax 0 c] w fun e w' => e = .returned (.tuple #[.int .u64 0, .int .i64 0, .int .i64 20]) ∧ w' = w := by
 go_enter Tryz.func89, Tryz.ntmps89
 go_wp2_with fail
 try go_frame
 go_loopg [6] 10 (fun k u wr => u = .int .i64 0 ∧ k = 10 ∧ wr = w)
 case atStart => exact ⟨rfl, rfl, rfl⟩
 case round =>
  obtain ⟨rfl, rfl, rfl⟩ := hrel
  go_wp2_with fail
  refine bodyPost_ret (v := .tuple #[.int .u64 0, .int .i64 0, .int .i64 20]) (by simp [results, Tryz.results89, go_sem]) rfl ⟨rfl, rfl⟩
theorem rs_win {L0 : List Part} {w0 w : World} {i : Nat} {r : Rdr} (hA : At L0 w0 [RdP i r] w) (hr : r.Ok) : Calls Tryz.prog 89 #[r.u] w fun e w' => e = .returned (.tuple #[.int .u64 ((rs r.s.b).1 : Nat), .int .i64 ((rs r.s.b).2.1 : Nat), .int .i64 (rs r.s.b).2.2]) ∧ w' = w := by
 by_cases hp : r.pos < r.l.length
 · obtain ⟨g, c, hu, hcell⟩ := win_cells (rd_cells (hA.get .here)) hr hp
   rw [hu]
   have hl : r.l.length - r.pos = (r.l.drop r.pos).length := by rw [List.length_drop]
   rw [hl]
   exact readShort_any (by have := hr.len; rw [List.length_drop]; omega) (hr.byt.drop _) w hcell
 · obtain ⟨bx, c, _, hu, _⟩ := take_slices hr.win (n := 0) (Nat.zero_le _) w
   have hb : r.s.b = [] := List.drop_eq_nil_of_le (by omega)
   rw [hu, hb, show r.l.length - r.pos = 0 by omega]
   exact readShort0 bx c w
theorem rs_bound {b : List Int} (hb : Byt b) (he : (rs b).2.2 = 0) : (rs b).1 < 18446744073709551616 ∧ (rs b).2.1 ≤ 10 := by
 obtain ⟨k, r, e1, e2, e3, e4, _⟩ := rs_ok b hb 0 0 (rs b).1 (rs b).2.1 (by decide) (show rs b = _ by rw [← he])
 have e5 : (rs b).1 = k := by simpa using e1
 refine ⟨e4, ?_⟩
 rw [e3]
 have := short_len 9 k (by rw [← e5]; exact Nat.lt_of_lt_of_le e4 (by decide))
 omega
theorem short_in {w : World} {i : Nat} {r : Rdr} (h : Sep [RdP i r] w) (hr : r.Ok) (most : Nat) (hmo : most < 18446744073709551616) : Calls Tryz.prog 67 #[.pointer (some ⟨i, 0, none⟩), .int .u64 most] w (InP w i r (.int .u64 (r.s.shortV most : Nat)) (r.s.shortS most)) := by
 have hT0 := At.start h
 have hrs := rs_win hT0 hr
 have hA := hT0.to (rd_eqv i r [])
 obtain ⟨bx0, c0, _, hu0, _⟩ := take_slices hr.win (n := 0) (Nat.zero_le _) w
 have hbd := rs_bound (b := r.s.b) (hr.byt.drop _)
 have hV : r.s.shortV most = if r.e ≠ 0 then 0 else if (rs r.s.b).2.2 ≠ 0 then 0 else if most < (rs r.s.b).1 then 0 else (rs r.s.b).1 := rfl
 have hS : r.s.shortS most = if r.e ≠ 0 then r.s else if (rs r.s.b).2.2 ≠ 0 then ⟨r.s.b, (rs r.s.b).2.2⟩ else if most < (rs r.s.b).1 then ⟨r.s.b, 12⟩ else r.s.takeS (rs r.s.b).2.1 := rfl
 have hfl : r.e = 0 → ∀ x, r.s.fail x = ⟨r.s.b, x⟩ := fun q x => if_pos q
 rw [hu0] at hA hrs
 have hF := hA.facts
 by_cases he : r.e = 0
 · have hne : ¬ r.e ≠ 0 := fun q => q he
   rw [if_neg hne] at hV hS
   obtain ⟨v, n, x, hq⟩ : ∃ v n x, rs r.s.b = (v, n, x) := ⟨_, _, _, rfl⟩
   rw [hq] at hV hS hrs hbd
   simp only at hV hS hbd
   rw [he] at hF
   have hV' := Lib.hid hV
   have hS' := Lib.hid hS
   have hfl' := Lib.hid (hfl he)
   clear hV hS hne hfl hu0 hq
   have hF := hA.facts; (try simp only [uZ] at hA hF)
   go_enter Tryz.func67, Tryz.ntmps67
   go_wp2_with fail
   refine hrs.mono ?_
   rintro e w1 ⟨rfl, rfl⟩
   by_cases hx : x = 0
   · obtain ⟨hb1, hb2⟩ := hbd hx
     subst hx
     by_cases hm : most < v
     · have hm' : (most : Int) < (v : Int) := by omega
       go_wp2_with fail
       refine (fail_in h hr 12).mono ?_
       rintro e w2 ⟨r', rfl, hs, hr', hT⟩
       go_wp2_with fail
       go_ret
       refine ⟨r', ?_, ?_, hr', hT⟩
       · rw [hV'.out, if_neg (by simp), if_pos hm]; rfl
       · rw [hs, hS'.out, if_neg (by simp), if_pos hm, hfl'.out]
     · have hm' : ¬ (most : Int) < (v : Int) := by omega
       go_wp2_with fail
       refine (take_any h hr n (by omega)).mono ?_
       rintro e w2 ⟨xa, m, mc, r', rfl, _, _, hs, hr', hT⟩
       go_wp2_with fail
       go_ret
       refine ⟨r', ?_, ?_, hr', hT⟩
       · rw [hV'.out, if_neg (by simp), if_neg hm]; rfl
       · rw [hs, hS'.out, if_neg (by simp), if_neg hm]
   · have hx' : (x == 0) = false := by simpa using hx
     have hx2 : (x != 0) = true := by simpa using hx
     go_wp2_with fail
     refine (fail_in h hr x).mono ?_
     rintro e w2 ⟨r', rfl, hs, hr', hT⟩
     go_wp2_with fail
     go_ret
     refine ⟨r', ?_, ?_, hr', hT⟩
     · rw [hV'.out, if_pos hx]; rfl
     · rw [hs, hS'.out, if_pos hx, hfl'.out]
 · rw [if_pos he] at hV hS
   have he' : (r.e != 0) = true := by simpa using he
   have he2 : (r.e == 0) = false := by simpa using he
   have hV' := Lib.hid hV
   have hS' := Lib.hid hS
   clear hV hS hfl hrs hbd
   have hF := hA.facts; (try simp only [uZ] at hA hF)
   go_enter Tryz.func67, Tryz.ntmps67
   go_wp2_with fail
   go_ret
   exact ⟨r, by rw [hV'.out]; rfl, hS'.out.symm, hr, hT0⟩
theorem fixed_in {w : World} {i : Nat} {r : Rdr} (h : Sep [RdP i r] w) (hr : r.Ok) : Calls Tryz.prog 49 #[.pointer (some ⟨i, 0, none⟩)] w (InP w i r (.int .u64 (r.s.fixV : Nat)) (r.s.takeS 8)) := by
 go_enter Tryz.func49, Tryz.ntmps49
 go_wp2_with fail
 refine (take_any h hr 8 (by omega)).mono ?_
 rintro e w1 ⟨xa, m, mc, r', rfl, hm, hc, hs, hr', hT⟩
 have hv : r.s.fixV = bigN (r.s.takeL 8) := rfl
 have hbt : Byt (r.s.takeL 8) := by
  unfold InS.takeL
  split
  · exact (hr.byt.drop _).take _
  · nofun
 have hcs : m = 0 ∨ m = 8 := by
  rw [← hm]
  unfold InS.takeL
  split
  · rename_i q
    right
    rw [List.length_take]
    have := q.2
    omega
  · left; rfl
 rcases hcs with rfl | rfl
 · rw [List.eq_nil_of_length_eq_zero hm] at hv
   have hv' := Lib.hid hv
   clear hv hbt hm hc
   go_wp2_with fail
   refine (read0_any xa mc w1).mono ?_
   rintro e w2 ⟨rfl, rfl⟩
   go_wp2_with fail
   go_ret
   exact ⟨r', by rw [hv'.out]; rfl, hs, hr', hT⟩
 · obtain ⟨rfl, g, o, rfl, hcell⟩ := hc (by omega)
   have hrd := read8_any hm hbt w1 (hcell w1 (hT.get .here))
   generalize bigN (r.s.takeL 8) = v at *
   have hv' := Lib.hid hv
   clear hv hbt hm hc hcell
   go_wp2_with fail
   refine hrd.mono ?_
   rintro e w2 ⟨rfl, rfl⟩
   go_wp2_with fail
   go_ret
   exact ⟨r', by rw [hv'.out]; rfl, hs, hr', hT⟩
theorem conv_bytes {l : List Int} {xa : Option Addr} {m mc : Nat} {w : World} (hm : l.length = m) (hb : Byt l) (hc : m ≠ 0 → mc = m ∧ ∃ g o, xa = some ⟨g, o, none⟩ ∧ CellsY g o l w) : (convert 62 9 (.slice xa m mc)).run Tryz.prog w = .ok (.string (byL l)) w := by
 by_cases h0 : m = 0
 · subst h0
   have hl : l = [] := List.eq_nil_of_length_eq_zero hm
   subst hl
   cases xa with
   | none =>
    rw [run_convert_bytes_string w 62 9 5 none 0 mc Tryz.underlying62 Tryz.underlying5 Tryz.underlying9]
    rfl
   | some a => exact run_convert_bytes_back w 62 9 5 a mc [] Tryz.underlying62 Tryz.underlying5 Tryz.underlying9 (fun j hj => absurd hj (by simp))
 · obtain ⟨rfl, g, o, rfl, hcell⟩ := hc h0
   have hq := run_convert_bytes_back w 62 9 5 ⟨g, o, none⟩ mc (l.map fun x => UInt8.ofNat x.toNat) Tryz.underlying62 Tryz.underlying5 Tryz.underlying9 (fun j hj => by
    rw [List.length_map] at hj
    have h1 := hcell j hj
    have h2 := hb l[j] (List.getElem_mem hj)
    rw [List.getElem_map]
    have hv : ((UInt8.ofNat l[j].toNat).toNat : Int) = l[j] := by
     simp only [UInt8.toNat_ofNat', Nat.reducePow]
     omega
    rw [hv, ← h1]
    by_cases q : j = 0
    · subst q; simp [Addr.add]
    · simp [Addr.add, q])
   rw [List.length_map, hm] at hq
   exact hq
set_option maxRecDepth 1000000 in
theorem text_in {w : World} {i : Nat} {r : Rdr} (h : Sep [RdP i r] w) (hr : r.Ok) : Calls Tryz.prog 48 #[.pointer (some ⟨i, 0, none⟩), .int .i64 64] w (InP w i r (.string (r.s.textV 64)) (r.s.textS 64)) := by
 have hmx : max (64 : Int) 0 = 64 := by omega
 go_enter Tryz.func48, Tryz.ntmps48
 go_wp2_with fail
 refine (short_in h hr 64 (by omega)).mono ?_
 rintro e w1 ⟨r1, rfl, hs1, hr1, hT1⟩
 have hle : r.s.shortV 64 ≤ 64 := by
  unfold InS.shortV
  split
  · omega
  split
  · omega
  split
  · omega
  · omega
 have hV : r.s.textV 64 = byL ((r.s.shortS 64).takeL (r.s.shortV 64)) := rfl
 have hS : r.s.textS 64 = (r.s.shortS 64).takeS (r.s.shortV 64) := rfl
 rw [← hs1] at hV hS
 generalize r.s.shortV 64 = n at *
 have hw1 : IntKind.i64.wrap (n : Int) = (n : Int) := by rw [IntKind.wrap_i64] <;> omega
 have hV' := Lib.hid hV
 have hS' := Lib.hid hS
 have hs1' := Lib.hid hs1
 clear hV hS hs1
 go_wp2_with fail
 refine (take_any (hT1.seps (K := [RdP i r1]) (by with_reducible repeat (first | exact Picks.nil | refine Picks.cons sR ?_))) hr1 n (by omega)).mono ?_
 rintro e w2 ⟨xa, m, mc, r2, rfl, hm, hc, hs2, hr2, hT2⟩
 have hbt : Byt (r1.s.takeL n) := by
  unfold InS.takeL
  split
  · exact (hr1.byt.drop _).take _
  · nofun
 have hcv := conv_bytes hm hbt (w := w2) (fun q => by
  obtain ⟨q1, g, o, q2, q3⟩ := hc q
  exact ⟨q1, g, o, q2, q3 w2 (hT2.get .here)⟩)
 have hs2' := Lib.hid hs2
 clear hm hc hbt hs2
 go_wp2_with fail
 go_ret
 exact ⟨r2, by rw [hV'.out]; rfl, by rw [hS'.out, hs2'.out], hr2, hT1.call1 .here hT2⟩
theorem clone_reads {L0 L F : List Part} {R : Part} {w0 w : World} {v : Value} {l : List Int} (hA : At L0 w0 L w) (s : Sel R L F) (hR : ∀ w, R.holds w → Reads w v l.length (flatY l)) (hl : l.length ≤ 140000000000000) :
 Calls Tryz.prog 45 #[v] w fun e w' => ∃ v', e = .returned v' ∧ At L0 w0 (rowY v' l :: L) w' := by
 have hr := hR w (hA.get s)
 obtain ⟨ax, cap, rfl, hax, hc⟩ := hr
 cases ax with
 | none =>
  have h0 : l = [] := List.eq_nil_of_length_eq_zero (hax rfl)
  subst h0
  refine (Tryz.bytes_Clone_nil _ cap w).mono fun e w' h => ?_
  obtain ⟨he, hw⟩ := h
  subst he; subst hw
  exact ⟨_, rfl, rowY_nil hA⟩
 | some a =>
  refine (Tryz.bytes_Clone_at a l.length cap l w rfl (by omega) ?_).mono fun e w' h => ?_
  · intro i hi
    obtain ⟨b, off, h, hx⟩ := hc i _ (flatY_get l i hi)
    cases h
    rw [List.getD_eq_getElem?_getD, List.getElem?_eq_getElem hi]
    by_cases q : i = 0
    · subst q; simpa [Addr.add] using hx
    · simpa [Addr.add, q] using hx
  · obtain ⟨v', rfl, hown, _, hb⟩ := h
    refine ⟨v', rfl, ?_⟩
    have := hA.row_new (e := 5) (size := 1) (n := l.length) (xs := flatY l) (v := v') hb (by rw [flatY_map]; exact hown)
    exact this
def NewIP (R : Part) (l : List Int) (w : World) (e : Ending) (w' : World) : Prop := ∃ (i : Nat) (r : Rdr), e = .returned (.pointer (some ⟨i, 0, none⟩)) ∧ r.s = ⟨l, 0⟩ ∧ r.Ok ∧ At [R] w [RdP i r, R] w'
theorem newIn_any {R : Part} {w : World} {v : Value} {l : List Int} (h : Sep [R] w) (hR : ∀ w, R.holds w → Reads w v l.length (flatY l)) (hb : Byt l) (hl : l.length ≤ 1000000000000) :
 Calls Tryz.prog 17 #[v] w (NewIP R l w) := by
 have hA := At.start h
 obtain ⟨ax, cap, hv, _, _⟩ := hR w (hA.get .here)
 subst hv
 clear h
 go_enter Tryz.func17, Tryz.ntmps17
 go_wp2_with fail
 refine (clone_reads hA .here hR (by omega)).mono ?_
 rintro e w1 ⟨v', rfl, hB⟩
 obtain ⟨cx, cc, rfl, hcx, hcc, _⟩ := hB.row_form (v := v') (n := l.length) (xs := flatY l) sR
 obtain ⟨ax', cap', hq, _, _, _, hfo⟩ := own_form (hB.get (A := rowY (.slice cx l.length cc) l) .here)
 cases hq
 have hfo' := Lib.hid hfo
 clear hfo
 clear hA; have hA := hB; clear hB
 have hF := hA.facts; (try simp only [uZ] at hA hF)
 go_wp2_with (first | ((with_reducible refine gbx ?_); refine wH 99 [.slice cx l.length cc, .int .i64 0] hA ?_; clear hF hA; intro bI w1 hA hbI hF; (try simp only [uZ] at hA hF)) | ((with_reducible refine gst ?_); refine wT hA ?_; clear hF hA; intro w1 hA hF; (try simp only [uZ] at hA hF)) | ((with_reducible refine gbx ?_); refine wC hA ?_; clear hF hA; intro b1 w1 hA hb1 hF; (try simp only [uZ] at hA hF)))
 go_ret
 refine ⟨bI, ⟨.slice cx l.length cc, l, 0, .slice cx l.length cc, 0⟩, rfl, rfl, ⟨⟨Nat.zero_le _, cx, cc, cx, rfl, hcc, by simp, ?_⟩, hb, hl⟩, hA.to (rd_eqv bI ⟨.slice cx l.length cc, l, 0, .slice cx l.length cc, 0⟩ [R]).symm⟩
 rcases hfo'.out with ⟨a, b, c⟩ | ⟨g, a, _⟩
 · exact .inl ⟨a, a, c⟩
 · exact .inr ⟨g, 0, a, a, fun _ => rfl⟩
end Go.Proofs.YtgbpfgdjnhbcgaaGreatDoor.Wire
end
section
namespace Go.Proofs.YtgbpfgdjnhbcgaaGreatDoor.Ix
open Go.RowKit
open _root_.Go.Proofs.YtgbpfgdjnhbcgaaGreatDoor.Wire
open Path (bl rightB)
open Attr (A8)
def BackP (w : World) (i : Nat) (r : Rdr) (x : Value) (rr : List Int) (e : Ending) (w' : World) : Prop := ∃ r' : Rdr, e = .returned x ∧ r'.s = ⟨rr, 0⟩ ∧ r'.Ok ∧ At [RdP i r] w [RdP i r'] w'
set_option maxRecDepth 1000000 in
theorem takA_on {w : World} {i : Nat} {r0 : Rdr} (h : Sep [RdP i r0] w) (hr0 : r0.Ok) {a : A8} (ha : a.right = true) {rr : List Int} (hs : r0.s = ⟨encT a ++ rr, 0⟩) :
 Calls Tryz.prog 50 #[.pointer (some ⟨i, 0, none⟩)] w (BackP w i r0 a.val rr) := by
 have hA := At.start h
 have hbd := right_bd ha
 clear h ha
 obtain ⟨s, d0, d1, d2, d3, d4, d5, d6⟩ := a
 simp only at hbd
 obtain ⟨s, rfl⟩ : ∃ k : Nat, s = k := ⟨s.toNat, by omega⟩
 obtain ⟨d0, rfl⟩ : ∃ k : Nat, d0 = k := ⟨d0.toNat, by omega⟩
 obtain ⟨d1, rfl⟩ : ∃ k : Nat, d1 = k := ⟨d1.toNat, by omega⟩
 obtain ⟨d2, rfl⟩ : ∃ k : Nat, d2 = k := ⟨d2.toNat, by omega⟩
 obtain ⟨d3, rfl⟩ : ∃ k : Nat, d3 = k := ⟨d3.toNat, by omega⟩
 obtain ⟨d4, rfl⟩ : ∃ k : Nat, d4 = k := ⟨d4.toNat, by omega⟩
 obtain ⟨d5, rfl⟩ : ∃ k : Nat, d5 = k := ⟨d5.toNat, by omega⟩
 obtain ⟨d6, rfl⟩ : ∃ k : Nat, d6 = k := ⟨d6.toNat, by omega⟩
 unfold encT at hs
 simp only [Int.toNat_natCast, List.append_assoc] at hs
 have hs0 := Lib.hid hs
 clear hs
 have hws : IntKind.i64.wrap (s : Int) = (s : Int) := by rw [IntKind.wrap_i64] <;> omega
 have hwd0 : IntKind.i64.wrap (d0 : Int) = (d0 : Int) := by rw [IntKind.wrap_i64] <;> omega
 have hwd1 : IntKind.i64.wrap (d1 : Int) = (d1 : Int) := by rw [IntKind.wrap_i64] <;> omega
 have hwd2 : IntKind.i64.wrap (d2 : Int) = (d2 : Int) := by rw [IntKind.wrap_i64] <;> omega
 have hwd3 : IntKind.i64.wrap (d3 : Int) = (d3 : Int) := by rw [IntKind.wrap_i64] <;> omega
 have hwd4 : IntKind.i64.wrap (d4 : Int) = (d4 : Int) := by rw [IntKind.wrap_i64] <;> omega
 have hwd5 : IntKind.i64.wrap (d5 : Int) = (d5 : Int) := by rw [IntKind.wrap_i64] <;> omega
 have hwd6 : IntKind.i64.wrap (d6 : Int) = (d6 : Int) := by rw [IntKind.wrap_i64] <;> omega
 have hF := hA.facts; (try simp only [uZ] at hA hF)
 go_enter Tryz.func50, Tryz.ntmps50
 go_wp2_with (first | ((with_reducible refine gal ?_); refine wG 40 [.int .i64 0, .int .i64 0, .int .i64 0, .int .i64 0, .int .i64 0, .int .i64 0, .int .i64 0, .int .i64 0] hA ?_; clear hF hA; intro bR w1 hA hbR hF; (try simp only [uZ] at hA hF)) | ((with_reducible refine gst ?_); refine wT hA ?_; clear hF hA; intro w1 hA hF; (try simp only [uZ] at hA hF)) | ((with_reducible refine gbx ?_); refine wC hA ?_; clear hF hA; intro b1 w1 hA hb1 hF; (try simp only [uZ] at hA hF)))
 refine (short_in (hA.sep1 (A := RdP i r0) sR) hr0 1073741824 (by omega)).mono ?_
 rintro e w1 ⟨r1, rfl, hz, hr1, hT⟩
 have hq := short_on (s := r0.s) (most := 1073741824) (k := s) (r := shortN d0 ++ (shortN d1 ++ (shortN d2 ++ (shortN d3 ++ (shortN d4 ++ (shortN d5 ++ (shortN d6 ++ (rr)))))))) (by rw [hs0.out]) (by rw [hs0.out]) (by omega) (by omega)
 rw [hq.2] at hz
 rw [hq.1]
 have hs1 := Lib.hid hz
 have hB := hA.call1 (A := RdP i r0) sR hT
 clear hT hz hq hr0 hs0
 clear hF hA; have hA := hB; clear hB
 try simp only [uA] at hA
 have hF := hA.facts; (try simp only [uZ] at hA hF)
 go_wp2_with (first | ((with_reducible refine gal ?_); refine wG 40 [.int .i64 0, .int .i64 0, .int .i64 0, .int .i64 0, .int .i64 0, .int .i64 0, .int .i64 0, .int .i64 0] hA ?_; clear hF hA; intro bA w1 hA hbA hF; (try simp only [uZ] at hA hF)) | ((with_reducible refine gst ?_); refine wT hA ?_; clear hF hA; intro w1 hA hF; (try simp only [uZ] at hA hF)) | ((with_reducible refine gbx ?_); refine wC hA ?_; clear hF hA; intro b1 w1 hA hb1 hF; (try simp only [uZ] at hA hF)))
 refine wp_loop_rounds 8 ?_
 rw [rounds_succ]
 go_wp2_with (first | ((with_reducible refine gst ?_); refine wT hA ?_; clear hF hA; intro w1 hA hF; (try simp only [uZ] at hA hF)) | ((with_reducible refine gbx ?_); refine wC hA ?_; clear hF hA; intro b1 w1 hA hb1 hF; (try simp only [uZ] at hA hF)))
 refine (short_in (hA.sep1 (A := RdP i r1) sR) hr1 1024 (by omega)).mono ?_
 rintro e w1 ⟨r2, rfl, hz, hr2, hT⟩
 have hq := short_on (s := r1.s) (most := 1024) (k := d0) (r := shortN d1 ++ (shortN d2 ++ (shortN d3 ++ (shortN d4 ++ (shortN d5 ++ (shortN d6 ++ (rr))))))) (by rw [hs1.out]) (by rw [hs1.out]) (by omega) (by omega)
 rw [hq.2] at hz
 rw [hq.1]
 have hs2 := Lib.hid hz
 have hB := hA.call1 (A := RdP i r1) sR hT
 clear hT hz hq hr1 hs1
 clear hF hA; have hA := hB; clear hB
 try simp only [uA] at hA
 have hF := hA.facts; (try simp only [uZ] at hA hF)
 go_wp2_with (first | ((with_reducible refine gst ?_); refine wT hA ?_; clear hF hA; intro w1 hA hF; (try simp only [uZ] at hA hF)) | ((with_reducible refine gbx ?_); refine wC hA ?_; clear hF hA; intro b1 w1 hA hb1 hF; (try simp only [uZ] at hA hF)))
 rw [rounds_succ]
 go_wp2_with (first | ((with_reducible refine gst ?_); refine wT hA ?_; clear hF hA; intro w1 hA hF; (try simp only [uZ] at hA hF)) | ((with_reducible refine gbx ?_); refine wC hA ?_; clear hF hA; intro b1 w1 hA hb1 hF; (try simp only [uZ] at hA hF)))
 refine (short_in (hA.sep1 (A := RdP i r2) sR) hr2 1024 (by omega)).mono ?_
 rintro e w1 ⟨r3, rfl, hz, hr3, hT⟩
 have hq := short_on (s := r2.s) (most := 1024) (k := d1) (r := shortN d2 ++ (shortN d3 ++ (shortN d4 ++ (shortN d5 ++ (shortN d6 ++ (rr)))))) (by rw [hs2.out]) (by rw [hs2.out]) (by omega) (by omega)
 rw [hq.2] at hz
 rw [hq.1]
 have hs3 := Lib.hid hz
 have hB := hA.call1 (A := RdP i r2) sR hT
 clear hT hz hq hr2 hs2
 clear hF hA; have hA := hB; clear hB
 try simp only [uA] at hA
 have hF := hA.facts; (try simp only [uZ] at hA hF)
 go_wp2_with (first | ((with_reducible refine gst ?_); refine wT hA ?_; clear hF hA; intro w1 hA hF; (try simp only [uZ] at hA hF)) | ((with_reducible refine gbx ?_); refine wC hA ?_; clear hF hA; intro b1 w1 hA hb1 hF; (try simp only [uZ] at hA hF)))
 rw [rounds_succ]
 go_wp2_with (first | ((with_reducible refine gst ?_); refine wT hA ?_; clear hF hA; intro w1 hA hF; (try simp only [uZ] at hA hF)) | ((with_reducible refine gbx ?_); refine wC hA ?_; clear hF hA; intro b1 w1 hA hb1 hF; (try simp only [uZ] at hA hF)))
 refine (short_in (hA.sep1 (A := RdP i r3) sR) hr3 1024 (by omega)).mono ?_
 rintro e w1 ⟨r4, rfl, hz, hr4, hT⟩
 have hq := short_on (s := r3.s) (most := 1024) (k := d2) (r := shortN d3 ++ (shortN d4 ++ (shortN d5 ++ (shortN d6 ++ (rr))))) (by rw [hs3.out]) (by rw [hs3.out]) (by omega) (by omega)
 rw [hq.2] at hz
 rw [hq.1]
 have hs4 := Lib.hid hz
 have hB := hA.call1 (A := RdP i r3) sR hT
 clear hT hz hq hr3 hs3
 clear hF hA; have hA := hB; clear hB
 try simp only [uA] at hA
 have hF := hA.facts; (try simp only [uZ] at hA hF)
 go_wp2_with (first | ((with_reducible refine gst ?_); refine wT hA ?_; clear hF hA; intro w1 hA hF; (try simp only [uZ] at hA hF)) | ((with_reducible refine gbx ?_); refine wC hA ?_; clear hF hA; intro b1 w1 hA hb1 hF; (try simp only [uZ] at hA hF)))
 rw [rounds_succ]
 go_wp2_with (first | ((with_reducible refine gst ?_); refine wT hA ?_; clear hF hA; intro w1 hA hF; (try simp only [uZ] at hA hF)) | ((with_reducible refine gbx ?_); refine wC hA ?_; clear hF hA; intro b1 w1 hA hb1 hF; (try simp only [uZ] at hA hF)))
 refine (short_in (hA.sep1 (A := RdP i r4) sR) hr4 1024 (by omega)).mono ?_
 rintro e w1 ⟨r5, rfl, hz, hr5, hT⟩
 have hq := short_on (s := r4.s) (most := 1024) (k := d3) (r := shortN d4 ++ (shortN d5 ++ (shortN d6 ++ (rr)))) (by rw [hs4.out]) (by rw [hs4.out]) (by omega) (by omega)
 rw [hq.2] at hz
 rw [hq.1]
 have hs5 := Lib.hid hz
 have hB := hA.call1 (A := RdP i r4) sR hT
 clear hT hz hq hr4 hs4
 clear hF hA; have hA := hB; clear hB
 try simp only [uA] at hA
 have hF := hA.facts; (try simp only [uZ] at hA hF)
 go_wp2_with (first | ((with_reducible refine gst ?_); refine wT hA ?_; clear hF hA; intro w1 hA hF; (try simp only [uZ] at hA hF)) | ((with_reducible refine gbx ?_); refine wC hA ?_; clear hF hA; intro b1 w1 hA hb1 hF; (try simp only [uZ] at hA hF)))
 rw [rounds_succ]
 go_wp2_with (first | ((with_reducible refine gst ?_); refine wT hA ?_; clear hF hA; intro w1 hA hF; (try simp only [uZ] at hA hF)) | ((with_reducible refine gbx ?_); refine wC hA ?_; clear hF hA; intro b1 w1 hA hb1 hF; (try simp only [uZ] at hA hF)))
 refine (short_in (hA.sep1 (A := RdP i r5) sR) hr5 1024 (by omega)).mono ?_
 rintro e w1 ⟨r6, rfl, hz, hr6, hT⟩
 have hq := short_on (s := r5.s) (most := 1024) (k := d4) (r := shortN d5 ++ (shortN d6 ++ (rr))) (by rw [hs5.out]) (by rw [hs5.out]) (by omega) (by omega)
 rw [hq.2] at hz
 rw [hq.1]
 have hs6 := Lib.hid hz
 have hB := hA.call1 (A := RdP i r5) sR hT
 clear hT hz hq hr5 hs5
 clear hF hA; have hA := hB; clear hB
 try simp only [uA] at hA
 have hF := hA.facts; (try simp only [uZ] at hA hF)
 go_wp2_with (first | ((with_reducible refine gst ?_); refine wT hA ?_; clear hF hA; intro w1 hA hF; (try simp only [uZ] at hA hF)) | ((with_reducible refine gbx ?_); refine wC hA ?_; clear hF hA; intro b1 w1 hA hb1 hF; (try simp only [uZ] at hA hF)))
 rw [rounds_succ]
 go_wp2_with (first | ((with_reducible refine gst ?_); refine wT hA ?_; clear hF hA; intro w1 hA hF; (try simp only [uZ] at hA hF)) | ((with_reducible refine gbx ?_); refine wC hA ?_; clear hF hA; intro b1 w1 hA hb1 hF; (try simp only [uZ] at hA hF)))
 refine (short_in (hA.sep1 (A := RdP i r6) sR) hr6 1024 (by omega)).mono ?_
 rintro e w1 ⟨r7, rfl, hz, hr7, hT⟩
 have hq := short_on (s := r6.s) (most := 1024) (k := d5) (r := shortN d6 ++ (rr)) (by rw [hs6.out]) (by rw [hs6.out]) (by omega) (by omega)
 rw [hq.2] at hz
 rw [hq.1]
 have hs7 := Lib.hid hz
 have hB := hA.call1 (A := RdP i r6) sR hT
 clear hT hz hq hr6 hs6
 clear hF hA; have hA := hB; clear hB
 try simp only [uA] at hA
 have hF := hA.facts; (try simp only [uZ] at hA hF)
 go_wp2_with (first | ((with_reducible refine gst ?_); refine wT hA ?_; clear hF hA; intro w1 hA hF; (try simp only [uZ] at hA hF)) | ((with_reducible refine gbx ?_); refine wC hA ?_; clear hF hA; intro b1 w1 hA hb1 hF; (try simp only [uZ] at hA hF)))
 rw [rounds_succ]
 go_wp2_with (first | ((with_reducible refine gst ?_); refine wT hA ?_; clear hF hA; intro w1 hA hF; (try simp only [uZ] at hA hF)) | ((with_reducible refine gbx ?_); refine wC hA ?_; clear hF hA; intro b1 w1 hA hb1 hF; (try simp only [uZ] at hA hF)))
 refine (short_in (hA.sep1 (A := RdP i r7) sR) hr7 1024 (by omega)).mono ?_
 rintro e w1 ⟨r8, rfl, hz, hr8, hT⟩
 have hq := short_on (s := r7.s) (most := 1024) (k := d6) (r := rr) (by rw [hs7.out]) (by rw [hs7.out]) (by omega) (by omega)
 rw [hq.2] at hz
 rw [hq.1]
 have hs8 := Lib.hid hz
 have hB := hA.call1 (A := RdP i r7) sR hT
 clear hT hz hq hr7 hs7
 clear hF hA; have hA := hB; clear hB
 try simp only [uA] at hA
 have hF := hA.facts; (try simp only [uZ] at hA hF)
 go_wp2_with (first | ((with_reducible refine gst ?_); refine wT hA ?_; clear hF hA; intro w1 hA hF; (try simp only [uZ] at hA hF)) | ((with_reducible refine gbx ?_); refine wC hA ?_; clear hF hA; intro b1 w1 hA hb1 hF; (try simp only [uZ] at hA hF)))
 rw [rounds_succ]
 go_wp2_with (first | ((with_reducible refine gst ?_); refine wT hA ?_; clear hF hA; intro w1 hA hF; (try simp only [uZ] at hA hF)) | ((with_reducible refine gbx ?_); refine wC hA ?_; clear hF hA; intro b1 w1 hA hb1 hF; (try simp only [uZ] at hA hF)))
 refine (failed_any (hA.sep1 (A := RdP i r8) sR)).mono ?_
 rintro e w1 ⟨rfl, hT⟩
 have hne : (r8.s.e != 0) = false := by rw [hs8.out]; rfl
 have hB := hA.call1 (A := RdP i r8) sR hT
 clear hT
 clear hF hA; have hA := hB; clear hB
 try simp only [uA] at hA
 have hF := hA.facts; (try simp only [uZ] at hA hF)
 go_wp2_with (first | ((with_reducible refine gst ?_); refine wT hA ?_; clear hF hA; intro w1 hA hF; (try simp only [uZ] at hA hF)) | ((with_reducible refine gbx ?_); refine wC hA ?_; clear hF hA; intro b1 w1 hA hb1 hF; (try simp only [uZ] at hA hF)))
 refine bodyPost_ret (v := .agg #[.int .i64 (s : Int), .int .i64 (d0 : Int), .int .i64 (d1 : Int), .int .i64 (d2 : Int), .int .i64 (d3 : Int), .int .i64 (d4 : Int), .int .i64 (d5 : Int), .int .i64 (d6 : Int)]) (by simp [results, Tryz.results50, go_sem, hF]) rfl ?_
 exact ⟨r8, rfl, hs8.out, hr8, hA.pick pZ⟩
set_option maxRecDepth 1000000 in
theorem takX_on {w : World} {i : Nat} {r0 : Rdr} (h : Sep [RdP i r0] w) (hr0 : r0.Ok) {x : En} (ha : x.a.right = true) (hf : rightB (bl x.foot) = true) (hsz : x.foot.size ≤ 64) (hn : 0 ≤ x.num ∧ x.num < 18446744073709551616) {rr : List Int} (hs : r0.s = ⟨encX x ++ rr, 0⟩) :
 Calls Tryz.prog 20 #[.pointer (some ⟨i, 0, none⟩)] w (BackP w i r0 x.val rr) := by
 have hA := At.start h
 clear h
 obtain ⟨foot, num, a⟩ := x
 simp only at ha hf hn hsz
 have hta := fun (w1 : World) (r : Rdr) (q : Sep [RdP i r] w1) (hr : r.Ok) (hs : r.s = ⟨encT a ++ rr, 0⟩) => takA_on q hr ha hs
 have hrt := fun (w1 : World) => Path.right_any foot w1 (by omega)
 rw [hf] at hrt
 unfold encX at hs
 simp only [List.append_assoc] at hs
 generalize encT a = ea at *
 obtain ⟨s, d0, d1, d2, d3, d4, d5, d6⟩ := a
 obtain ⟨num, rfl⟩ : ∃ k : Nat, num = k := ⟨num.toNat, by omega⟩
 simp only [En.val, Int.toNat_natCast, A8.val] at hta hs ⊢
 have hta' := Lib.hid hta
 have hrt' := Lib.hid hrt
 have hs0 := Lib.hid hs
 have hsz' := Lib.hid hsz
 clear hta hrt hs ha hf hsz
 have hF := hA.facts; (try simp only [uZ] at hA hF)
 go_enter Tryz.func20, Tryz.ntmps20
 go_wp2_with (first | (((with_reducible show wpList _ _ _ ({ dst := some 2, op := Op.alloc _, type := _, pos := _, after := _, guard := _ } :: _) _ _)); ((with_reducible refine gal ?_); refine wG 42 [.string .empty, .int .u64 0, .int .i64 0, .int .i64 0, .int .i64 0, .int .i64 0, .int .i64 0, .int .i64 0, .int .i64 0, .int .i64 0] hA ?_; clear hF hA; intro bR w1 hA hbR hF; (try simp only [uZ] at hA hF))) | (((with_reducible show wpList _ _ _ ({ dst := some 3, op := Op.alloc _, type := _, pos := _, after := _, guard := _ } :: _) _ _)); ((with_reducible refine gal ?_); refine wG 42 [.string .empty, .int .u64 0, .int .i64 0, .int .i64 0, .int .i64 0, .int .i64 0, .int .i64 0, .int .i64 0, .int .i64 0, .int .i64 0] hA ?_; clear hF hA; intro bE w1 hA hbE hF; (try simp only [uZ] at hA hF))) | ((with_reducible refine gst ?_); refine wT hA ?_; clear hF hA; intro w1 hA hF; (try simp only [uZ] at hA hF)) | ((with_reducible refine gbx ?_); refine wC hA ?_; clear hF hA; intro b1 w1 hA hb1 hF; (try simp only [uZ] at hA hF)))
 refine (text_in (hA.sep1 (A := RdP i r0) sR) hr0).mono ?_
 rintro e w1 ⟨r1, rfl, hz, hr1, hT⟩
 have hq := text_on (s := r0.s) (most := 64) (t := foot) (r := fixL num ++ (ea ++ rr)) (by rw [hs0.out]) (by rw [hs0.out]) hsz'.out (by have := hsz'.out; omega)
 rw [hq.2] at hz
 rw [hq.1]
 have hs1 := Lib.hid hz
 have hB := hA.call1 (A := RdP i r0) sR hT
 clear hT hz hq hr0 hs0
 clear hF hA; have hA := hB; clear hB
 try simp only [uA] at hA
 have hF := hA.facts; (try simp only [uZ] at hA hF)
 go_wp2_with (first | ((with_reducible refine gst ?_); refine wT hA ?_; clear hF hA; intro w1 hA hF; (try simp only [uZ] at hA hF)) | ((with_reducible refine gbx ?_); refine wC hA ?_; clear hF hA; intro b1 w1 hA hb1 hF; (try simp only [uZ] at hA hF)))
 refine (fixed_in (hA.sep1 (A := RdP i r1) sR) hr1).mono ?_
 rintro e w1 ⟨r2, rfl, hz, hr2, hT⟩
 have hq := fix_on (s := r1.s) (v := num) (r := ea ++ rr) (by rw [hs1.out]) (by rw [hs1.out]) (by omega)
 rw [hq.2] at hz
 rw [hq.1]
 have hs2 := Lib.hid hz
 have hB := hA.call1 (A := RdP i r1) sR hT
 clear hT hz hq hr1 hs1
 clear hF hA; have hA := hB; clear hB
 try simp only [uA] at hA
 have hF := hA.facts; (try simp only [uZ] at hA hF)
 go_wp2_with (first | ((with_reducible refine gst ?_); refine wT hA ?_; clear hF hA; intro w1 hA hF; (try simp only [uZ] at hA hF)) | ((with_reducible refine gbx ?_); refine wC hA ?_; clear hF hA; intro b1 w1 hA hb1 hF; (try simp only [uZ] at hA hF)))
 refine (hta'.out _ r2 (hA.sep1 (A := RdP i r2) sR) hr2 hs2.out).mono ?_
 rintro e w1 ⟨r3, rfl, hz, hr3, hT⟩
 have hs3 := Lib.hid hz
 have hB := hA.call1 (A := RdP i r2) sR hT
 clear hT hz hr2 hs2
 clear hF hA; have hA := hB; clear hB
 try simp only [uA] at hA
 have hF := hA.facts; (try simp only [uZ] at hA hF)
 go_wp2_with (first | ((with_reducible refine gst ?_); refine wT hA ?_; clear hF hA; intro w1 hA hF; (try simp only [uZ] at hA hF)) | ((with_reducible refine gbx ?_); refine wC hA ?_; clear hF hA; intro b1 w1 hA hb1 hF; (try simp only [uZ] at hA hF)))
 refine (hrt'.out _).mono ?_
 rintro e wq ⟨rfl, hx⟩
 have hB := hA.ext hx
 clear hx
 clear hF hA; have hA := hB; clear hB
 try simp only [uA] at hA
 have hF := hA.facts; (try simp only [uZ] at hA hF)
 go_wp2_with (first | ((with_reducible refine gst ?_); refine wT hA ?_; clear hF hA; intro w1 hA hF; (try simp only [uZ] at hA hF)) | ((with_reducible refine gbx ?_); refine wC hA ?_; clear hF hA; intro b1 w1 hA hb1 hF; (try simp only [uZ] at hA hF)))
 refine (failed_any (hA.sep1 (A := RdP i r3) sR)).mono ?_
 rintro e w1 ⟨rfl, hT⟩
 have hne : (r3.s.e != 0) = false := by rw [hs3.out]; rfl
 have hB := hA.call1 (A := RdP i r3) sR hT
 clear hT
 clear hF hA; have hA := hB; clear hB
 try simp only [uA] at hA
 have hF := hA.facts; (try simp only [uZ] at hA hF)
 go_wp2_with (first | ((with_reducible refine gst ?_); refine wT hA ?_; clear hF hA; intro w1 hA hF; (try simp only [uZ] at hA hF)) | ((with_reducible refine gbx ?_); refine wC hA ?_; clear hF hA; intro b1 w1 hA hb1 hF; (try simp only [uZ] at hA hF)))
 refine bodyPost_ret (v := .agg #[.string foot, .int .u64 (num : Int), .int .i64 s, .int .i64 d0, .int .i64 d1, .int .i64 d2, .int .i64 d3, .int .i64 d4, .int .i64 d5, .int .i64 d6]) (by simp [results, Tryz.results20, go_sem, hF]) rfl ?_
 exact ⟨r3, rfl, hs3.out, hr3, hA.pick pZ⟩
end Go.Proofs.YtgbpfgdjnhbcgaaGreatDoor.Ix
end
