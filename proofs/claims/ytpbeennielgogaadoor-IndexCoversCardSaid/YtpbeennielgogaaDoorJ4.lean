/- IndexM, RowI, joined. -/
import Derived.Test.YtpbeennielgogaaDoorJ3
import Derived.Test.YtpbeennielgogaaDoorChecked
import Derived.Test.YtpbeennielgogaaDoorJ2
section
namespace Go.Proofs.YtpbeennielgogaaDoor.Ix
open Go.RowKit
open Go.Maps (Keyed)
open Path (bl rightB overB)
open Attr (A8 rightI)
open Cmd (Cm keyC)
set_option linter.unusedSimpArgs false
set_option linter.unusedVariables false

/-- an entry: what was noted of a key -/
structure En where
  foot : ByteArray
  num : Int
  a : A8
deriving DecidableEq
def keyV (f : ByteArray) (n : Int) : Value := .agg #[.string f, .int .u64 n]
def En.key (e : En) : Value := keyV e.foot e.num
def ent (e : En) : Value × Value := (e.key, e.a.val)
def ents (l : List En) : List (Value × Value) := l.map ent
abbrev headC (p m : Nat) : Part := Part.cells p [.map (some m)] 59
abbrev mapC (m : Nat) (es : List (Value × Value)) : Part := Part.map Tryd.prog 37 m es
def IxP (p m : Nat) (es : List En) : Part := Part.all [headC p m, mapC m (ents es)]
theorem eqv0 (p m : Nat) (es : List En) (F : List Part) : Eqv (IxP p m es :: F) (headC p m :: mapC m (ents es) :: F) := Eqv.all [headC p m, mapC m (ents es)] F
theorem begin0 {w : World} {p m : Nat} {es : List En} (h : Sep [IxP p m es] w) : At [IxP p m es] w [headC p m, mapC m (ents es)] w := (At.start h).to (eqv0 p m es [])
theorem fold0 {L0 L F G : List Part} {w0 w : World} {p m : Nat} {es : List En} (h : At L0 w0 L w) (s1 : Sel (headC p m) L F) (s2 : Sel (mapC m (ents es)) F G) : At L0 w0 (IxP p m es :: G) w :=
  (h.perm (s1.perm.trans (s2.perm.cons _))).to (eqv0 p m es G).symm
theorem close0 {L0 L F G : List Part} {w0 w : World} {p m : Nat} {es : List En} (h : At L0 w0 L w) (s1 : Sel (headC p m) L F) (s2 : Sel (mapC m (ents es)) F G) : At L0 w0 [IxP p m es] w := (fold0 h s1 s2).only1 .here

-- the keys
theorem laidOut : laidOutB Tryd.prog = true := by kernel_rfl
theorem wideK : (match Tryd.prog.underlying 37 with | some (.array _ _) | some (.struct _) => true | _ => false) = true := by kernel_rfl
theorem rowK : (37 : TypeId) < Tryd.prog.types.size := of_decide_eq_true (by kernel_rfl)
set_option maxRecDepth 100000 in
theorem lawK : Keyed Tryd.prog 37 := Keyed.of_law (deep_law_laid laidOut (m := 2) (by omega) rowK (by kernel_rfl) wideK)
theorem keyTypeK : Tryd.prog.keyType 37 = true := by kernel_rfl
theorem cellsK : Tryd.prog.cellsOf 37 = 2 := by kernel_rfl
theorem cellsU : Tryd.prog.cellsOf 24 = 1 := by kernel_rfl
theorem cellsStr : Tryd.prog.cellsOf 9 = 1 := by kernel_rfl
theorem formedK (c0 c1 : Value) : (Value.agg #[c0, c1]).formed Tryd.prog 37 = true := by simp [Value.formed, Tryd.underlying37, cellsK]
def big64 : Int := 18446744073709551616
theorem keyK {f : ByteArray} {n : Int} (hf : f.size ≤ maxLen) (h0 : 0 ≤ n) (h1 : n < big64) : ∃ l, keyOf Tryd.prog 37 (keyV f n) = some l := by
  have hw : (Lit.int .u64 n).wf = true := by simp [Lit.wf, IntKind.min, IntKind.max, IntKind.signed, IntKind.bits]; unfold big64 at h1; omega
  obtain ⟨d, hd⟩ : ∃ d, Tryd.prog.types.size = d + 1 := Nat.exists_eq_succ_of_ne_zero (Nat.ne_of_gt (Nat.lt_of_le_of_lt (Nat.zero_le _) rowK))
  have hl : Tryd.prog.keyLits (Tryd.prog.types.size + 1) 37 [.string f, .int .u64 n] = some [.string f.data.toList, .int .u64 n] := by
    rw [hd]
    simp [Program.keyLits, Tryd.underlying37, Tryd.underlying24, Tryd.underlying9, cellsK, cellsU, cellsStr, hw, hf]
  exact ⟨.string (keyBytes [.string f.data.toList, .int .u64 n]), by
    unfold keyOf
    rw [Tryd.underlying37]
    simp only [keyTypeK, keyV, formedK, Bool.and_self, if_true]
    rw [show (Value.agg #[.string f, .int .u64 n]).cells.toList = [.string f, .int .u64 n] from rfl, hl]
    rfl⟩

/-! ### The plain model -/
def En.is (e : En) (f : ByteArray) (n : Int) : Bool := decide (e.foot = f ∧ e.num = n)
def find (es : List En) (f : ByteArray) (n : Int) : Option En := es.find? (·.is f n)
/-- an entry is merged -/
def mergeE : List En → ByteArray → Int → A8 → List En
  | [], f, n, a => [⟨f, n, A8.zero.merge a⟩]
  | e :: es, f, n, a => if e.is f n then ⟨f, n, e.a.merge a⟩ :: es else e :: mergeE es f n a
/-- what is noted of a command -/
def noteA (r t q : Int) : A8 := ({ A8.zero with s := min (max q 0) 1073741824 }).set r.toNat (t + 1)
def noteE (es : List En) (k : Option (ByteArray × Int)) (r t q : Int) : List En := match k with
  | some (f, n) => if rightI r t then mergeE es f n (noteA r t q) else es
  | none => es
def addE (es : List En) (f : ByteArray) (n : Int) (a : A8) : List En := if rightB (bl f) && a.right then mergeE es f n a else es
def clashK (k o : ByteArray × Int) : Bool := (k.2 == o.2) || overB (bl k.1) (bl o.1)
def askStep (g : Bool) (k : ByteArray × Int) (o : A8) (e : En) : A8 := if g && clashK k (e.foot, e.num) then o.merge (e.a.past e.a.s) else o
def askF (g : Bool) (k : ByteArray × Int) (es : List En) : A8 := es.foldl (askStep g k) A8.zero
/-- what comes ahead of a command -/
def askE (es : List En) (k : Option (ByteArray × Int)) (r t : Int) : A8 := (match k with
  | some k => askF (rightI r t) k es
  | none => A8.zero).own r t

theorem find_split {es : List En} {f : ByteArray} {n : Int} {e : En} (h : find es f n = some e) : ∃ l1 l2, es = l1 ++ e :: l2 ∧ e.foot = f ∧ e.num = n ∧ ∀ x ∈ l1, x.is f n = false := by
  obtain ⟨h1, l1, l2, h2, h3⟩ := List.find?_eq_some_iff_append.1 h
  have h4 : e.foot = f ∧ e.num = n := by simpa [En.is] using h1
  exact ⟨l1, l2, h2, h4.1, h4.2, fun x hx => by simpa using h3 x hx⟩
theorem find_none {es : List En} {f : ByteArray} {n : Int} (h : find es f n = none) : ∀ q ∈ ents es, q.1 ≠ keyV f n := by
  intro q hq
  obtain ⟨e, he, rfl⟩ := List.mem_map.1 hq
  have h1 : ¬ e.is f n = true := List.find?_eq_none.1 h e he
  intro q2
  apply h1
  simp [ent, En.key, keyV] at q2
  simp [En.is, q2]
theorem find_mem {es : List En} {f : ByteArray} {n : Int} {e : En} (h : find es f n = some e) : (keyV f n, e.a.val) ∈ ents es := by
  obtain ⟨l1, l2, rfl, rfl, rfl, _⟩ := find_split h
  simp [ents, ent, En.key]
theorem merge_none {a : A8} {f : ByteArray} {n : Int} : ∀ {es : List En}, find es f n = none → mergeE es f n a = es ++ [⟨f, n, A8.zero.merge a⟩]
  | [], _ => rfl
  | e :: es, h => by
    unfold find at h
    rw [List.find?_cons] at h
    cases he : e.is f n with
    | true => rw [he] at h; cases h
    | false =>
      rw [he] at h
      simp [mergeE, he, merge_none (es := es) h]
theorem merge_mid {a : A8} {f : ByteArray} {n : Int} {e : En} {l2 : List En} (he : e.is f n = true) : ∀ {l1 : List En}, (∀ x ∈ l1, x.is f n = false) → mergeE (l1 ++ e :: l2) f n a = l1 ++ ⟨f, n, e.a.merge a⟩ :: l2
  | [], _ => by simp [mergeE, he]
  | x :: l1, h => by
    have h1 := h x (by simp)
    have h2 := merge_mid (a := a) (l2 := l2) he (l1 := l1) (fun y hy => h y (by simp [hy]))
    simp [mergeE, h1, h2]
theorem ents_one (es : List En) (f : ByteArray) (n : Int) (a : A8) : ents es ++ [(keyV f n, a.val)] = ents (es ++ [⟨f, n, a⟩]) := by simp [ents, ent, En.key]
theorem ents_mid (l1 l2 : List En) (e : En) : ents (l1 ++ e :: l2) = ents l1 ++ (e.key, e.a.val) :: ents l2 := by simp [ents, ent]
theorem ents_snoc (ds : List En) (s : En) : ents ds ++ [ent s] = ents (ds ++ [s]) := by simp [ents]
def unE : Value × Value → En
  | (.agg #[.string f, .int _ n], .agg #[.int _ s, .int _ d0, .int _ d1, .int _ d2, .int _ d3, .int _ d4, .int _ d5, .int _ d6]) => ⟨f, n, ⟨s, d0, d1, d2, d3, d4, d5, d6⟩⟩
  | _ => ⟨.empty, 0, A8.zero⟩
theorem unE_ent (e : En) : unE (ent e) = e := rfl
theorem ents_perm {ss ds : List En} (hp : (ents ss).Perm (ents ds)) : ss.Perm ds := by
  have := hp.map unE
  simpa [ents, List.map_map, Function.comp_def, unE_ent] using this
theorem foldl_perm {α β : Type} {f : β → α → β} (hc : ∀ z x y, f (f z x) y = f (f z y) x) {l m : List α} (h : l.Perm m) : ∀ z, l.foldl f z = m.foldl f z := by
  induction h with
  | nil => intro z; rfl
  | cons x _ ih => intro z; exact ih _
  | swap x y l => intro z; rw [List.foldl_cons, List.foldl_cons, List.foldl_cons, List.foldl_cons, hc]
  | trans _ _ i j => intro z; rw [i, j]
theorem merge_rc (z x y : A8) : (z.merge x).merge y = (z.merge y).merge x := by
  unfold A8.merge
  simp only [A8.mk.injEq]
  refine ⟨?_, ?_, ?_, ?_, ?_, ?_, ?_, ?_⟩ <;> omega
theorem ask_rc (g : Bool) (k : ByteArray × Int) (z : A8) (x y : En) : askStep g k (askStep g k z x) y = askStep g k (askStep g k z y) x := by
  unfold askStep
  split <;> split <;> first | rfl | exact merge_rc _ _ _
theorem askF_perm {g : Bool} {k : ByteArray × Int} {l m : List En} (h : l.Perm m) : askF g k l = askF g k m := foldl_perm (ask_rc g k) h _
theorem askF_snoc (g : Bool) (k : ByteArray × Int) (l : List En) (e : En) : askF g k (l ++ [e]) = askStep g k (askF g k l) e := by unfold askF; rw [List.foldl_append]; rfl
theorem askF_false (k : ByteArray × Int) (l : List En) : askF false k l = A8.zero := by
  unfold askF
  induction l with
  | nil => rfl
  | cons e l ih => rw [List.foldl_cons]; exact ih
end Go.Proofs.YtpbeennielgogaaDoor.Ix
end

section
namespace Go.Proofs.YtpbeennielgogaaDoor
open Go.RowKit
set_option linter.unusedVariables false
set_option linter.unusedSimpArgs false

section
variable {F : Fence} {n : Nat} {P : Program} {ops : Array Oper} {rest : List Oper} {o : Oper} {a : Act} {Q : Exit → Act → World → Prop} {L0 L G : List Part} {w0 w : World}
theorem wpListIn_val (hfn : ∀ f, F.fn f) (hg : o.guard = none) (hd : ∀ c, o.op ≠ .defer c) {v : Value} {w' : World} (hrun : (execOp a.eval o).run P w = .ok (.value v) w') (hK : wpListIn F n P ops Q rest (a.put o.dst v) w') : wpListIn F n P ops Q (o :: rest) a w :=
  wpListIn_plain hg fun K hK' => ⟨fun f _ => hfn f, by rw [Oper.semAt_eq _ _ _ hd, hrun, Oper.uponIn_value]; exact hK' _ _ hK⟩
theorem wpListIn_unit (hfn : ∀ f, F.fn f) (hg : o.guard = none) (hd : ∀ c, o.op ≠ .defer c) {w' : World} (hrun : (execOp a.eval o).run P w = .ok .skip w') (hK : wpListIn F n P ops Q rest (a.put o.dst undef) w') : wpListIn F n P ops Q (o :: rest) a w :=
  wpListIn_plain hg fun K hK' => ⟨fun f _ => hfn f, by rw [Oper.semAt_eq _ _ _ hd, hrun, Oper.uponIn_skip]; exact hK' _ _ hK⟩
/-- a store -/
theorem wpListIn_store_at {ty : TypeId} {x y : Operand} (hfn : ∀ f, F.fn f) (hg : o.guard = none) (hop : o.op = .store ty x y) {b j : Nat} (hx : a.eval x = .pointer (some ⟨b, j, none⟩)) {v : Value} (hy : a.eval y = v) {vs : List Value} (hv : v.cells = vs.toArray)
    (h : At L0 w0 L w) {c : List Value} {T : TypeId} (s : Sel (Part.cells b c T) L G) (hi : (P.info? ty).map (·.size) = some vs.length) (h1 : vs.all (·.oneCell') = true) (hj : j + vs.length ≤ c.length)
    (hK : ∀ w', At L0 w0 (Part.cells b (setL c j vs) T :: G) w' → wpListIn F n P ops Q rest (a.put o.dst undef) w') : wpListIn F n P ops Q (o :: rest) a w := by
  have hb : BlockIs w b c T := h.get s
  have hs : v.cells.size = vs.length := by rw [hv]; simp
  have h1' : v.cells.all (·.oneCell') = true := by
    rw [hv, Array.all_eq_true_iff_forall_mem]
    intro u hu
    exact List.all_eq_true.1 h1 u (by simpa using hu)
  have hrun := run_storeAt_cells (P := P) w b j ty v (hb.there j _ (by omega)) (by rw [hs]; exact hi) h1'
  rw [show v.cells.toList = vs from by rw [hv]] at hrun
  refine wpListIn_unit hfn hg (by rw [hop]; nofun) ?_ (hK _ (h.stores s j vs))
  simp [execOp, hop, hx, hy, hrun, Result.andThen]
/-- a row of one element is laid -/
theorem wpListIn_one_at {t e : TypeId} {x : Operand} (hfn : ∀ f, F.fn f) (hg : o.guard = none) (hop : o.op = .buildSlice t 1 #[(0, x)]) {xv : Value} (hx : a.eval x = xv) {vs : List Value}
    (hrun : ∀ w, (Instr.buildSlice t 1 #[(0, xv)]).run P w = .ok (.slice (some ⟨w.heap.size, 0, none⟩) 1 1) (w.alloc (.cells vs.toArray e)))
    (h : At L0 w0 L w)
    (hK : ∀ b w', At L0 w0 (Part.cells b vs e :: L) w' → w0.heap.size ≤ b → wpListIn F n P ops Q rest (a.put o.dst (.slice (some ⟨b, 0, none⟩) 1 1)) w') : wpListIn F n P ops Q (o :: rest) a w := by
  refine wpListIn_val hfn hg (by rw [hop]; nofun) ?_ (hK _ _ (h.alloc vs e) h.size)
  simp [execOp, hop, hx, hrun, Result.andThen]
/-- append of a row that is read -/
theorem wpListIn_append_at {e : TypeId} {size m0 : Nat} {v : Value} {xs : List Value} {i : TypeInfo} {z : Value} {bytes : Nat} (hfn : ∀ f, F.fn f) (hg : o.guard = none) (s' x : Operand) (t : TypeId) (ho : o.op = .call { callee := .builtin .append, args := #[s', x], argTypes := #[t, t] })
    (ht : P.underlying t = some (.slice e)) (hi : P.info? e = some i) (hz : i.zero = some z) (hsize : i.size = size) (hby : i.bytes = bytes) (hzs : z.cells.size = size) (hsz : 0 < size)
    (h : At L0 w0 L w) (s : Sel (Part.row e size v m0 xs) L G) (hs : a.eval s' = v) {xv : Value} {m : Nat} {news : List Value} (hxv : a.eval x = xv) (hl : news.length = m * size) (hx : Reads w xv m news) (h1 : ∀ u ∈ news, u.oneCell' = true)
    (h63 : m0 + m ≤ maxLen) (hbytes : (m0 + m) * bytes ≤ 140737488355328)
    (hK : ∀ v' w', At L0 w0 (Part.row e size v' (m0 + m) (xs ++ news) :: G) w' → wpListIn F n P ops Q rest (a.put o.dst v') w') : wpListIn F n P ops Q (o :: rest) a w := by
  obtain ⟨v', w', hr, h2, h3, h4⟩ := run_append_all (P := P) w 0 t o.type e i z size bytes ht hi hz hsize hby hzs hsz v m0 xs (h.get s) xv m news hl hx h1 h63 hbytes (Nat.zero_le _)
  refine wpListIn_val hfn hg (by rw [ho]; nofun) (v := v') (w' := w') ?_ (hK v' w' (h.turn s _ h2 (fun b hb => ?_) (exc_grown h3)))
  · simp [execOp, ho, resolve, invoke, builtin, hs, hxv, hr, Result.andThen]
  · rcases h4 with h4 | h4
    · exact .inl (show v.ownBlock = some b from by rw [← h4]; exact hb)
    · right
      have hb' : v'.ownBlock = some b := hb
      rw [h4] at hb'
      cases hb'
      exact Nat.le_refl _
end

/-- a row's first elements, as a row of one's own -/
theorem run_cut_own {P : Program} {w : World} {t e : TypeId} {i : TypeInfo} {size n : Nat} {v : Value} {xs : List Value} (ht : P.underlying t = some (.slice e)) (hi : P.info? e = some i) (hsize : i.size = size) (hr : w.ownsRow 0 e size v n xs) (k : Nat) (hk : k ≤ n) :
    ∃ v', (Instr.sliceAt t v none (some (.int .i64 k)) none).run P w = .ok v' w ∧ w.ownsRow 0 e size v' k (xs.take (k * size)) ∧ v'.ownBlock = v.ownBlock := by
  have hz : ∀ w, (sizeOf e).run P w = .ok size w := fun w => by simp [sizeOf, typeInfo, hi, hsize]
  rcases hr.2 with ⟨rfl, rfl⟩ | ⟨g, cap, cur, rfl, hg, hh, hc, hm, hs, htk⟩
  · obtain rfl : k = 0 := by omega
    refine ⟨.slice none 0 0, ?_, ⟨by simp, .inl ⟨rfl, rfl⟩⟩, rfl⟩
    simp [Instr.sliceAt, Instr.slice, run_underlying ht, Instr.sliceBounds, run_sliceBound, hz, Result.andThen]
  · refine ⟨.slice (some ⟨g, 0, none⟩) k cap, ?_, ⟨?_, .inr ⟨g, cap, cur, rfl, hg, hh, by omega, hm, hs, ?_⟩⟩, rfl⟩
    · by_cases h0 : cap = 0
      · subst h0
        obtain rfl : k = 0 := by omega
        simp [Instr.sliceAt, Instr.slice, run_underlying ht, Instr.sliceBounds, run_sliceBound, hz, Result.andThen]
      · simp [Instr.sliceAt, Instr.slice, run_underlying ht, Instr.sliceBounds, run_sliceBound, hz, Result.andThen, show (k : Int) ≤ cap by omega, h0, Addr.add]
    · rw [List.length_take, hr.1]
      have : k * size ≤ n * size := Nat.mul_le_mul_right _ hk
      omega
    · rw [← htk, List.take_take]
      have : k * size ≤ n * size := Nat.mul_le_mul_right _ hk
      rw [Nat.min_eq_left this]

theorem wpListIn_cut_at {F : Fence} {n : Nat} {P : Program} {ops : Array Oper} {rest : List Oper} {o : Oper} {a : Act} {Q : Exit → Act → World → Prop} {L0 L G : List Part} {w0 w : World} {t e : TypeId} {i : TypeInfo} {size m0 k : Nat} {v : Value} {xs : List Value} {x hi' : Operand}
    (hfn : ∀ f, F.fn f) (hg : o.guard = none) (hop : o.op = .slice t x none (some hi') none) (ht : P.underlying t = some (.slice e)) (hi : P.info? e = some i) (hsize : i.size = size) (hx : a.eval x = v) (hh : a.eval hi' = .int .i64 k)
    (h : At L0 w0 L w) (s : Sel (Part.row e size v m0 xs) L G) (hk : k ≤ m0) (hK : ∀ v', At L0 w0 (Part.row e size v' k (xs.take (k * size)) :: G) w → wpListIn F n P ops Q rest (a.put o.dst v') w) : wpListIn F n P ops Q (o :: rest) a w := by
  obtain ⟨v', hr, h1, h2⟩ := run_cut_own (P := P) ht hi hsize (h.get s : w.ownsRow 0 e size v m0 xs) k hk
  refine wpListIn_val hfn hg (by rw [hop]; nofun) ?_ (hK v' (h.turn s (Part.row e size v' k (xs.take (k * size))) h1 (fun b hb => .inl (by simpa [Part.row, h2] using hb)) (Exc.refl _ _)))
  simp [execOp, hop, hx, hh, hr, Result.andThen]

/-! ### Blocks of cells alone -/
/-- a block that holds cells, whatever they are -/
def Part.hole (b : Nat) : Part where
  holds w := ∃ o : Obj, w.heap[b]? = some o ∧ o.isCells = true
  foot k := k = b
  lt := fun w ⟨o, h, _⟩ _ e => by subst e; exact lt_of_some h
  stay := fun _ _ ⟨o, h, ho⟩ e => ⟨o, (e b rfl).trans h, ho⟩
/-- its blocks hold cells -/
def Part.Cl (A : Part) : Prop := ∀ w, A.holds w → ∀ b, A.foot b → ∃ o : Obj, w.heap[b]? = some o ∧ o.isCells = true
theorem Part.cl_cells (b : Nat) (c : List Value) (T : TypeId) : (Part.cells b c T).Cl := fun w h k e => by subst e; exact ⟨_, h, rfl⟩
theorem Part.cl_hole (b : Nat) : (Part.hole b).Cl := fun w h k e => by subst e; exact h
theorem Part.cl_row (e : TypeId) (size : Nat) (v : Value) (n : Nat) (xs : List Value) : (Part.row e size v n xs).Cl := fun w h k hk => by
  rcases h.2 with ⟨rfl, _⟩ | ⟨g, cap, cur, rfl, _, hh, _⟩
  · exact nomatch hk
  · cases hk; exact ⟨_, hh, rfl⟩
theorem At.grown {L0 L : List Part} {w0 W W' : World} {row : Option Nat} (h : At L0 w0 L W) (hg : W.grownBy W' row) (hr : ∀ r, row = some r → w0.heap.size ≤ r ∧ ¬ footL L r) : At L0 w0 L W' :=
  ⟨h.sep.same (fun b ⟨A, hA, hb⟩ => hg.block b (h.sep.lt hA hb) (fun e => (hr b e.symm).2 ⟨A, hA, hb⟩)), h.foot,
    h.exc.trans' (T := fun k => row = some k) (exc_grown hg) (fun b _ hb => .inr (hr b hb).1)⟩
/-- the law's book-keeping, and the iterator's writes -/
theorem At.ownB {L0 L G : List Part} {w0 W W' : World} {row : Option Nat} {Bs B : Nat} (h : At L0 w0 L W) (s : Sel (Part.hole Bs) L G) (hc : ∀ A ∈ L, A.Cl) (hB : w0.heap.size ≤ B) (hg : W.grownBy W' row)
    (hr : ∀ r, row = some r → (r = Bs ∧ ∃ o : Obj, W'.heap[r]? = some o ∧ o.isCells = true) ∨ (B ≤ r ∧ ∃ o : Obj, W.heap[r]? = some o ∧ o.isCells = false)) : At L0 w0 (Part.hole Bs :: G) W' := by
  cases row with
  | none => exact (h.grown hg (fun r e => by cases e)).take s
  | some r =>
    rcases hr r rfl with ⟨rfl, ho⟩ | ⟨h1, o, ho, hoc⟩
    · exact h.turn s (Part.hole r) ho (fun _ e => .inl e) ((exc_grown hg).mono (fun b _ e => by cases e; rfl))
    · refine (h.grown hg (fun q e => ?_)).take s
      cases e
      refine ⟨by omega, fun ⟨A, hA, hb⟩ => ?_⟩
      obtain ⟨o', ho', hoc'⟩ := hc A hA W (h.sep.get hA) r hb
      rw [ho] at ho'
      cases ho'
      rw [hoc] at hoc'
      cases hoc'
/-- what a body keeps, behind a walk from parts of cells alone -/
theorem At.keepsFrom {L0 L : List Part} {W W' : World} (h : At L0 W L W') (hs : Sep L0 W) (hc : ∀ A ∈ L0, A.Cl) (B : Nat) : KeepsFrom B W W' :=
  ⟨h.size, fun k o _ hk ho => (h.exc.block k (lt_of_some hk) (fun ⟨A, hA, hb⟩ => by
    obtain ⟨o', ho', hoc'⟩ := hc A hA W (hs.get hA) k hb
    rw [hk] at ho'
    cases ho'
    rw [ho] at hoc'
    cases hoc')).trans hk⟩
end Go.Proofs.YtpbeennielgogaaDoor
end
