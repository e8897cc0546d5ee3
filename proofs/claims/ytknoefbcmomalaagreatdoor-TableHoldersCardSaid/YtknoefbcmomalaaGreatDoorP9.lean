import Derived.Test.YtknoefbcmomalaaGreatDoorShelft
import Derived.Test.YtknoefbcmomalaaGreatDoorP3
set_option linter.unusedSimpArgs false
set_option linter.unusedVariables false
set_option maxRecDepth 100000
set_option maxHeartbeats 16000000
namespace Go.Proofs.YtknoefbcmomalaaGreatDoor
section
namespace Path
open Go.RowKit Go.Shelf
attribute [local go_sem] Oper.semAt_some
abbrev bl (x:ByteArray):Bs:=x.data.toList
def Znc:ByteArray:=⟨#[47]⟩
def keep3 (b1 b2 b3:Nat) (W W':World):Prop:=∀b,b=b1∨b=b2∨b=b3→W'.heap[b]? =W.heap[b]?
def lenAt (w:World) (b:Nat):Nat:=match w.heap[b]? with|some (.cells #[.string r] _ _)=>r.size|_=>0
theorem Zic {w:World} {b:Nat} {r:ByteArray} {t:TypeId} (h:Boxed w b t (.string r)):lenAt w b=r.size:=by
 unfold lenAt;rw[show w.heap[b]? =_ from h];rfl
theorem idx_none {l:Bs} (h:Lib.indexByte l 47 < 0):Zai l=[l]:=by
 refine ZbR l (fun c hc e=> ?_);subst e;have h1:Lib.indexByte l 47= -1:=by have:=Lib.indexByte_ge l 47;omega
 obtain⟨k,hk⟩:=List.mem_iff_getElem?.1 hc;exact Lib.indexByte_none h1 k hk
theorem Zih {l:Bs} {i:Nat} (h:Lib.indexByte l 47=i):i < l.length∧Zai l=l.take i::Zai (l.drop (i + 1)):=by
 obtain⟨h1,h2⟩:=Lib.indexByte_some h;have hi:=(List.getElem?_eq_some_iff.1 h1).1;refine⟨hi,?_⟩
 have e:l=l.take i++47::l.drop (i + 1):=by
  have:=(List.getElem?_eq_some_iff.1 h1).2;rw[←this,←List.drop_eq_getElem_cons hi,List.take_append_drop]
 conv=>lhs;rw[e]
 rw[Zdd _ _ (fun c hc ec=> ?_)];subst ec;obtain⟨k,hk⟩:=List.mem_iff_getElem?.1 hc;rw[List.getElem?_take] at hk;split at hk
 · rename_i hki;exact h2 k hki hk
 cases hk
theorem ZgA (n:Nat) (r:ByteArray) (w:World):CallsIn Fence.wide n Tryz.prog 169 #[.string r,.string ⟨#[47]⟩] w fun e w'=>e=.returned (.int .i64 (Lib.indexByte r.data.toList 47))∧w=w':=
 callsIn_wide.2 ((Tryz.strings_Index_one _ _ _).mono fun _ _ ⟨he,hw⟩=>⟨he,hw.symm⟩)
theorem ZjH (n:Nat) (hn:3≤n) (l Bs Bp Bv:Nat) (h12:Bs≠Bp) (h13:Bs≠Bv) (s:ByteArray) (hs:s.size≤2000000) (J Jx:List ByteArray→World→Prop) (W:World) (hJ:ZhO Bs J)
 (hY:∀pre x W1,J pre W1→pre.length < 2000001→YieldAt Fence.wide (n - 1) Tryz.prog l #[.string x] W1 fun e W'=>(e=.returned (.bool true)∧J (pre++[x]) W'∧keep3 Bs Bp Bv W1 W')∨(e=.returned (.bool false)∧Jx (pre++[x]) W'))
 (h1:Boxed W Bs 9 (.string s)) (h2:Boxed W Bp 9 (.string Znc)) (h3:Boxed W Bv 3 (.int .i64 0)) (h0:J [] W):
 CallsIn Fence.wide n Tryz.prog 206 #[.func (.yield l) #[] #[],.pointer (some ⟨Bp,0,none⟩),.pointer (some ⟨Bs,0,none⟩),.pointer (some ⟨Bv,0,none⟩)] W fun e W'=>
  (∃v,e=.returned v)∧((∃ys:List ByteArray,ys.map bl=Zai (bl s)∧J ys W')∨(∃pre:List ByteArray,pre.map bl <+:Zai (bl s)∧Jx pre W')):=by
 have hn1:1≤n:=by omega
 have c1:=h1.cell;have c2:=h2.cell;have c3:=h3.cell;refine callsIn_of_wp Tryz.func206 rfl trivial ?_ rfl;simp only[Tryz.ntmps206,List.size_toArray,List.length_cons,List.length_nil,Nat.reduceAdd,Nat.reduceSub,Array.replicate_succ,Array.replicate_zero,List.push_toArray,List.append_toArray,List.nil_append,List.cons_append];unfold Znc at c2;gi_wp2
 gi_loopw [7] (fun _ wr=>∃(pre:List ByteArray) (r:ByteArray),Zai (bl s)=pre.map bl++Zai (bl r)∧pre.length + r.size≤s.size∧J pre wr∧Boxed wr Bs 9 (.string r)∧Boxed wr Bp 9 (.string ⟨#[47]⟩)∧Boxed wr Bv 3 (.int .i64 0))
  (fun _ wr=>lenAt wr Bs)
 case atStart=>exact⟨[],s,rfl,by simp,h0,h1,h2,h3⟩
 case round=>
  obtain⟨pre,r,hsp,hlen,hJs,b1,b2,b3⟩:=hrel;clear c1 c2 c3;have c1:=b1.cell;have c2:=b2.cell;have c3:=b3.cell;rcases Int.lt_or_le (Lib.indexByte (bl r) 47) 0 with hi|hi
  · have hsr:=idx_none hi;have hi':decide (Lib.indexByte r.data.toList 47 < 0)=true:=by simpa using hi
    gi_wp2_with fail
    refine⟨trivial,(ZgA _ _ _).mono ?_⟩;rintro e _ ⟨rfl,rfl⟩;obtain⟨fn,tmps,assign,body,hy,hR⟩:=hY pre r wr hJs (by omega);have hsp':=Hd hsp;have hsr':=Hd hsr;clear hsp hsr
    gi_wp2
    refine hR.mono ?_;rintro e W3 (⟨rfl,hJ3,hk3⟩|⟨rfl,hJx3⟩)
    · gi_wp2
      go_end0
      exact⟨⟨_,rfl⟩,.inl ⟨pre++[r],by rw[hsp'.out,hsr'.out];simp,hJ3⟩⟩
    gi_wp2
    go_end0
    exact⟨⟨_,rfl⟩,.inr ⟨pre++[r],by rw[hsp'.out,hsr'.out];simp,hJx3⟩⟩
  obtain⟨i,hi2⟩:=Int.eq_ofNat_of_zero_le hi;obtain⟨hilt,hsr⟩:=Zih hi2;have hi':decide (Lib.indexByte r.data.toList 47 < 0)=false:=by simpa using hi
  have hi3:=Hd hi2;have hrl:(bl r).length=r.size:=by simp
  have hil:i + 1≤r.size:=by omega
  have hsp':=Hd hsp;have hsr':=Hd hsr;clear hsp hsr hi2;gi_wp2_with fail
  refine⟨trivial,(ZgA _ _ _).mono ?_⟩;rintro e _ ⟨rfl,rfl⟩;rw[show Lib.indexByte r.data.toList 47=(i:Int) from hi3.out];clear hi hi' hi3 hilt hrl
  have hi':decide ((i:Int) < 0)=false:=by simp
  obtain⟨fn,tmps,assign,body,hy,hR⟩:=hY pre (r.extract 0 i) wr hJs (by omega);gi_wp2
  refine hR.mono ?_;have e1:bl (r.extract 0 i)=(bl r).take i:=by simp[bl]
  have e2:bl (r.extract (i + 1) r.size)=(bl r).drop (i + 1):=by simp only[bl];simp;rw[List.take_of_length_le (by simp)]
  have e1':=Hd e1;have e2':=Hd e2;clear e1 e2;rintro e W3 (⟨rfl,hJ3,hk3⟩|⟨rfl,hJx3⟩)
  · have d1:Boxed W3 Bs 9 (.string r):=(hk3 Bs (.inl rfl)).trans b1;have d2:Boxed W3 Bp 9 (.string ⟨#[47]⟩):=(hk3 Bp (.inr (.inl rfl))).trans b2;have d3:Boxed W3 Bv 3 (.int .i64 0):=(hk3 Bv (.inr (.inr rfl))).trans b3;have x1:=d1.cell;have x2:=d2.cell;have x3:=d3.cell;have f1:=d1.frozen;clear hR hy hk3;gi_wp2
    have g1:=d1.set (.string (r.extract (i + 1) r.size));go_roundw
    case rel=>
     refine⟨pre++[r.extract 0 i],r.extract (i + 1) r.size,?_,?_,?_,g1,d2.other (Ne.symm h12) _,d3.other (Ne.symm h13) _⟩
     · rw[hsp'.out,hsr'.out,e2'.out];simp[e1'.out]
     · simp;omega
     exact hJ _ _ _ (some Bs) hJ3 (grownBy_setCell' W3 Bs _) (fun q e=>by cases e;exact⟨rfl,_,g1,rfl⟩)
    case measure=>
     rw[Zic g1,Zic b1];simp;omega
  gi_wp2
  refine bodyPost_ret (results_none rfl _ _ _) rfl ?_;exact⟨⟨_,rfl⟩,.inr ⟨pre++[r.extract 0 i],⟨Zai ((bl r).drop (i + 1)),by rw[hsp'.out,hsr'.out,List.map_append,List.append_assoc];simp[e1'.out]⟩,hJx3⟩⟩
theorem Zgb (s:ByteArray) (w:World):Calls Tryz.prog 170 #[.string s,.string ⟨#[47]⟩] w fun e w'=>
 e=.returned (.func (.func 206) #[] #[.pointer (some ⟨w.heap.size + 1,0,none⟩),.pointer (some ⟨w.heap.size,0,none⟩),.pointer (some ⟨w.heap.size + 2,0,none⟩)])∧
  w'=((w.alloc (.cells #[.string s] 9)).alloc (.cells #[.string ⟨#[47]⟩] 9)).alloc (.cells #[.int .i64 0] 3):=by
 have h1:Calls Tryz.prog 192 #[.string s,.string ⟨#[47]⟩,.int .i64 0] w fun e w'=>
  e=.returned (.func (.func 206) #[] #[.pointer (some ⟨w.heap.size + 1,0,none⟩),.pointer (some ⟨w.heap.size,0,none⟩),.pointer (some ⟨w.heap.size + 2,0,none⟩)])∧
   w'=((w.alloc (.cells #[.string s] 9)).alloc (.cells #[.string ⟨#[47]⟩] 9)).alloc (.cells #[.int .i64 0] 3):=by
  go_enter Tryz.func192,Tryz.ntmps192;go_wp2
  go_ret;exact⟨rfl,rfl⟩
 go_enter Tryz.func170,Tryz.ntmps170;go_wp2_with fail;refine h1.mono ?_;rintro e _ ⟨rfl,rfl⟩;go_wp2_with fail;go_ret;exact⟨rfl,rfl⟩
end Path
end
section
namespace Path
open Go.RowKit Go.Shelf
attribute [local go_sem] Oper.semAt_some
def strC (x:ByteArray):List Value:=[.string x]
theorem Zdz (x:ByteArray):(strC x).length=1:=rfl
theorem Zfn (x:ByteArray):∀u ∈ strC x,u.oneCell'=true:=by intro u hu;simp[strC] at hu;subst hu;rfl
def flatS (ws:List ByteArray):List Value:=ws.flatMap strC
abbrev rowS (v:Value) (ws:List ByteArray):Part:=Part.row 9 1 v ws.length (flatS ws)
theorem Zhx:(Tryz.prog.info? 9).map (fun i=>(i.zero,i.size,i.bytes))=some (some (.string .empty),1,16):=by kernel_rfl
def WI (w:World) (N:Nat) (pre:List ByteArray) (W:World):Prop:=
 ∃(v:Value) (ws:List ByteArray),At [] w [Part.hole (N + 3),Part.cells (N + 2) [v] 144,rowS v ws,Part.cells N [.slice none 0 0] 144,Part.cells (N + 1) [.int .i64 0] 63,Part.hole (N + 4),Part.hole (N + 5)] W∧
  walkL [] (pre.map bl)=some (ws.map bl)∧ws.length≤pre.length
def WIx (w:World) (N:Nat) (c:Code) (pre:List ByteArray) (W:World):Prop:=
 c=.ret∧At [] w [Part.hole (N + 3),Part.cells N [.slice none 0 0] 144,Part.cells (N + 1) [.int .i64 30] 63] W∧walkL [] (pre.map bl)=none
theorem wi_own (w:World) (N B:Nat) (hB:w.heap.size≤B):OwnB (N + 3) B (WI w N):=by
 rintro pre W W' row ⟨v,ws,hA,h1,h2⟩ hg hr;refine⟨v,ws,hA.ownB sR ?_ hB hg hr,h1,h2⟩;intro A hA;simp only[List.mem_cons,List.not_mem_nil,or_false] at hA;rcases hA with rfl|rfl|rfl|rfl|rfl|rfl|rfl;all_goals first|exact Part.cl_hole _|exact Part.cl_cells _ _ _|exact Part.cl_row _ _ _ _ _
theorem Zno (w:World) (N B:Nat) (hB:w.heap.size≤B) (c:Code):OwnB (N + 3) B (WIx w N c):=by
 rintro pre W W' row ⟨hc,hA,h1⟩ hg hr;refine⟨hc,hA.ownB sR ?_ hB hg hr,h1⟩;intro A hA;simp only[List.mem_cons,List.not_mem_nil,or_false] at hA;rcases hA with rfl|rfl|rfl;all_goals first|exact Part.cl_hole _|exact Part.cl_cells _ _ _
def ZbB:Option (List Bs)→Int
 |none=>30
 |some _=>0
def Zm0 (s:ByteArray) (w:World) (e:Ending) (w':World):Prop:=
 ∃(v:Value) (ws:List ByteArray),e=.returned (.tuple #[v,.int .i64 (ZbB (walkL [] (Zai (bl s))))])∧At [] w [rowS v ws] w'∧(walkL [] (Zai (bl s))=some (ws.map bl)∨walkL [] (Zai (bl s))=none∧ws=[])∧ws.length≤s.size + 1
theorem ZaV:∀l:Bs,(Zai l).length≤l.length + 1
 |[]=>by simp[Zai]
 |c::r=>by
  have ih:=ZaV r;rw[ZaD];split
  · simpa using ih
  simp;omega
theorem ZhQ (l m acc:List Bs):walkL acc (l++m)=(walkL acc l).bind fun a=>walkL a m:=by
 induction l generalizing acc with
 |nil=>rfl
 |cons p l ih=>
  rw[List.cons_append,walkL,walkL]
  cases stepW acc p with
  |none=>rfl
  |some a=>exact ih a
theorem Zhd (n:Nat) (s:ByteArray) (w:World):CallsIn Fence.wide n Tryz.prog 170 #[.string s,.string ⟨#[47]⟩] w fun e w'=>
 e=.returned (.func (.func 206) #[] #[.pointer (some ⟨w.heap.size + 1,0,none⟩),.pointer (some ⟨w.heap.size,0,none⟩),.pointer (some ⟨w.heap.size + 2,0,none⟩)])∧
  ((w.alloc (.cells #[.string s] 9)).alloc (.cells #[.string ⟨#[47]⟩] 9)).alloc (.cells #[.int .i64 0] 3)=w':=
 callsIn_wide.2 ((Zgb s w).mono fun _ _ ⟨he,hw⟩=>⟨he,hw.symm⟩)
theorem _root_.Go.Proofs.YtknoefbcmomalaaGreatDoor.At.toHole {L0 L G:List Part} {w0 w:World} {b:Nat} {c:List Value} {T:TypeId} (h:At L0 w0 L w) (s:Sel (Part.cells b c T) L G):At L0 w0 (Part.hole b::G) w:=
 h.turn s (Part.hole b) ⟨_,(h.get s:Zaa w b c T),rfl⟩ (fun _ e=>.inl e) (Exc.refl _ _)
def Zcb (s:ByteArray) (w:World):World:=(((((w.alloc (.cells #[.slice none 0 0] 144)).alloc (.cells #[.int .i64 0] 63)).alloc (.cells #[.slice none 0 0] 144)).alloc (.cells #[.string s] 9)).alloc (.cells #[.string ⟨#[47]⟩] 9)).alloc (.cells #[.int .i64 0] 3)
theorem ZjE (s:ByteArray) (w:World):At [] w [rowS (.slice none 0 0) [],Part.hole (w.heap.size + 5),Part.hole (w.heap.size + 4),Part.hole (w.heap.size + 3),Part.cells (w.heap.size + 2) [.slice none 0 0] 144,Part.cells (w.heap.size + 1) [.int .i64 0] 63,Part.cells w.heap.size [.slice none 0 0] 144] (Zcb s w)∧
 Boxed (Zcb s w) (w.heap.size + 3) 9 (.string s)∧Boxed (Zcb s w) (w.heap.size + 4) 9 (.string ⟨#[47]⟩)∧Boxed (Zcb s w) (w.heap.size + 5) 3 (.int .i64 0)∧(Zcb s w).heap.size=w.heap.size + 6:=by
 have q:=(At.start (w0:=w) (L0:=[]) trivial).alloc [.slice none 0 0] 144;have q:=q.alloc [.int .i64 0] 63;have q:=q.alloc [.slice none 0 0] 144;have q:=q.alloc [.string s] 9;have q:=q.alloc [.string ⟨#[47]⟩] 9;have q:=q.alloc [.int .i64 0] 3;simp only[World.size_alloc,Nat.add_assoc,Nat.reduceAdd] at q;change At [] w _ (Zcb s w) at q;have b1:Boxed (Zcb s w) (w.heap.size + 3) 9 (.string s):=q.get (A:=Part.cells (w.heap.size + 3) [.string s] 9) sR;have b2:Boxed (Zcb s w) (w.heap.size + 4) 9 (.string ⟨#[47]⟩):=q.get (A:=Part.cells (w.heap.size + 4) [.string ⟨#[47]⟩] 9) sR;have b3:Boxed (Zcb s w) (w.heap.size + 5) 3 (.int .i64 0):=q.get (A:=Part.cells (w.heap.size + 5) [.int .i64 0] 3) sR;have q:=q.toHole (b:=w.heap.size + 3) sR;have q:=q.toHole (b:=w.heap.size + 4) sR;have q:=q.toHole (b:=w.heap.size + 5) sR;have q:=q.row_nil 9 1;exact⟨q,b1,b2,b3,by simp[Zcb]⟩
theorem ZmU {w W W':World} {N B:Nat} {K K':List Part} (h:At [] w (K++[Part.hole (N + 3),Part.hole (N + 4),Part.hole (N + 5)]) W) (hc:∀A ∈ K,A.Cl) (t:At K W K' W'):
 KeepsFrom B W W'∧keep3 (N + 3) (N + 4) (N + 5) W W'∧At [] w (K'++[Part.hole (N + 3),Part.hole (N + 4),Part.hole (N + 5)]) W':=by
 obtain⟨s1,s2,s3⟩:=h.sep.apart2;refine⟨t.keepsFrom s1 hc B,fun b hb=> ?_,h.frame t⟩
 have key:∀H:Part,H ∈ [Part.hole (N + 3),Part.hole (N + 4),Part.hole (N + 5)]→H.foot b→W'.heap[b]? =W.heap[b]? :=fun H hH hf=>
  t.exc.block b (s2.lt hH hf) (fun⟨A,hA,ha⟩=>s3 A hA H hH b ha hf)
 rcases hb with rfl|rfl|rfl
 · exact key (Part.hole (N + 3)) (by simp) rfl
 · exact key (Part.hole (N + 4)) (by simp) rfl
 exact key (Part.hole (N + 5)) (by simp) rfl
theorem ZhV {acc:List Bs}:stepW acc []=some acc:=by simp[stepW]
theorem ZhW {acc:List Bs}:stepW acc [46]=some acc:=by simp[stepW]
theorem Zfo:stepW [] [46,46]=none:=by simp[stepW]
theorem ZjC {acc:List Bs} (h:acc≠[]):stepW acc [46,46]=some acc.dropLast:=by simp[stepW,h]
theorem ZjD {acc:List Bs} {p:Bs} (h0:p≠[]) (h1:p≠[46]) (h2:p≠[46,46]) (h:partB p=false):stepW acc p=none:=by
 have h3:¬p.all letB=true:=fun q=>by rw[Zcd.2 ⟨h0,q⟩] at h;cases h
 simp[stepW,h0,h1,h2,h3]
theorem ZbY {x y:ByteArray} (h:bl x=bl y):x=y:=Go.WideShapes.bytes_inj h
theorem Zjr {pre:List ByteArray} {x:ByteArray} {acc:List Bs} (h:walkL [] (pre.map bl)=some acc):walkL [] ((pre++[x]).map bl)=stepW acc (bl x):=by
 rw[List.map_append,ZhQ,h];simp only[List.map_cons,List.map_nil,Option.bind_some,walkL];cases stepW acc (bl x)<;>rfl
theorem _root_.Go.Proofs.YtknoefbcmomalaaGreatDoor.At.trans {L0 L L':List Part} {w0 w w':World} (h:At L0 w0 L w) (t:At L w L' w'):At L0 w0 L' w':=by
 have:=At.frame (F:=[]) (K:=L) (by simpa using h) t
 simpa using this
def WAct (s:ByteArray) (w:World) (x:ByteArray):Act:=
 {tmps:= #[.string s,undef,.pointer (some ⟨w.heap.size,0,none⟩),.pointer (some ⟨w.heap.size + 1,0,none⟩),.pointer (some ⟨w.heap.size + 2,0,none⟩),.string x,.string s,.func (.func 206) #[] #[.pointer (some ⟨w.heap.size + 4,0,none⟩),.pointer (some ⟨w.heap.size + 3,0,none⟩),.pointer (some ⟨w.heap.size + 5,0,none⟩)],.string x,
  undef,undef,undef,undef,undef,undef,undef,undef,undef,undef,undef,undef,undef,undef,undef,undef,undef,undef,undef,undef,undef,undef,undef,undef,undef,undef,undef,undef,undef,undef,undef,undef],defers:=[]}
theorem Zlr (s:ByteArray) (w:World) (hs:s.size≤2000000):Calls Tryz.prog 157 #[.string s] w (Zm0 s w):=by
 obtain⟨i0,hi0,hz0,hz1,hz2⟩:=info_parts Zhx;refine(callsIn_wide (n:=9)).1 ?_;refine callsIn_of_wp_marks Tryz.func157 rfl trivial ?_ rfl;simp only[Tryz.ntmps157,List.size_toArray,List.length_cons,List.length_nil,Nat.reduceAdd,Nat.reduceSub,Array.replicate_succ,Array.replicate_zero,List.push_toArray,List.append_toArray,List.nil_append,List.cons_append];gi_wp2
 refine⟨trivial,(Zhd 8 s _).mono ?_⟩;rintro e _ ⟨rfl,rfl⟩
 gi_wp2
 obtain⟨W5,hW5⟩:∃W5,Zcb s w=W5:=⟨_,rfl⟩
 obtain⟨q,b1,b2,b3,hsz⟩:=ZjE s w;simp only[World.size_alloc,Nat.add_assoc,Nat.reduceAdd];rw[show((((((w.alloc (.cells #[.slice none 0 0] 144)).alloc (.cells #[.int .i64 0] 63)).alloc (.cells #[.slice none 0 0] 144)).alloc (.cells #[.string s] 9)).alloc (.cells #[.string ⟨#[47]⟩] 9)).alloc (.cells #[.int .i64 0] 3))=W5 from hW5];rw[hW5] at q b1 b2 b3 hsz;clear hW5
 refine Zdy rfl (by omega) (gf:=206) (lb:= #[.pointer (some ⟨w.heap.size + 4,0,none⟩),.pointer (some ⟨w.heap.size + 3,0,none⟩),.pointer (some ⟨w.heap.size + 5,0,none⟩)]) rfl trivial (enters_of Tryz.func206 (by kernel_rfl) rfl)
  (encs:=fun x:ByteArray=> #[.string x]) (Bs:=w.heap.size + 3) (Kp:=keep3 (w.heap.size + 3) (w.heap.size + 4) (w.heap.size + 5)) (S:=fun xs=>xs.map bl=Zai (bl s)) (Sp:=fun pre=>pre.map bl <+:Zai (bl s)) (N:=2000001)
  (fun l J Jx W hW hJ hY h0=>ZjH _ (by omega) l _ _ _ (by omega) (by omega) s hs J Jx W hJ hY ((hW.block _ b1.lt).trans b1) ((hW.block _ b2.lt).trans b2) ((hW.block _ b3.lt).trans b3) h0)
  (by omega) (fun h k b hb=>(k b hb).trans (h b hb)) (fun W l o' hl b hb=>World.putObj_heap_other (by omega)) (fun _=>rfl)
  (WI w w.heap.size) (WIx w w.heap.size) (wi_own _ _ _ (by omega)) (Zno _ _ _ (by omega)) ⟨_,[],q.pick pR,rfl,by simp⟩ (WAct s w) ?assign ?body ?done ?stop
 case assign=>
  intro l x W K hK;gi_wp2
  exact hK
 case body=>
  rintro l pre x W ⟨v,ws,hA,hwk,hle⟩ hlen;have h0:=hA.pick (K:=[Part.cells (w.heap.size + 2) [v] 144,rowS v ws,Part.cells w.heap.size [.slice none 0 0] 144,Part.cells (w.heap.size + 1) [.int .i64 0] 63,Part.hole (w.heap.size + 3),Part.hole (w.heap.size + 4),Part.hole (w.heap.size + 5)]) pR;have h1:At [] w ([Part.cells (w.heap.size + 2) [v] 144,rowS v ws,Part.cells w.heap.size [.slice none 0 0] 144,Part.cells (w.heap.size + 1) [.int .i64 0] 63]++[Part.hole (w.heap.size + 3),Part.hole (w.heap.size + 4),Part.hole (w.heap.size + 5)]) W:=h0
  have hcl:∀A ∈ [Part.cells (w.heap.size + 2) [v] 144,rowS v ws,Part.cells w.heap.size [.slice none 0 0] 144,Part.cells (w.heap.size + 1) [.int .i64 0] 63],A.Cl:=by
   intro A hA;simp only[List.mem_cons,List.not_mem_nil,or_false] at hA;rcases hA with rfl|rfl|rfl|rfl;all_goals first|exact Part.cl_cells _ _ _|exact Part.cl_row _ _ _ _ _
  have hfin:=fun(B:Nat) (K':List Part) (W':World) (t:At _ W K' W')=>ZmU (B:=B) h1 hcl t;have hA2:=At.start h1.sep.apart2.1;have hsn:=fun x=>Hd (Zjr (x:=x) hwk);clear hA h0 h1 hcl hwk hsz q b1 b2 b3;have hA:=hA2;clear hA2;obtain⟨hA,hF⟩:=fZ hA;unfold WAct;by_cases e0:bl x=[]∨bl x=[46]
  · have hk:stepW (ws.map bl) (bl x)=some (ws.map bl):=by rcases e0 with e|e<;>rw[e]<;>first|exact ZhV|exact ZhW
    have hk':=Hd hk;clear hk;rcases e0 with e0|e0
    · obtain rfl:x=⟨#[]⟩:=ZbY e0;gi_wp2
      obtain⟨k1,k2,k3⟩:=hfin _ _ _ hA;simp only[List.cons_append,List.nil_append] at k3;exact⟨k1,k2,v,ws,k3.pick pR,by rw[(hsn _).out,hk'.out],by simp;omega⟩
    obtain rfl:x=⟨#[46]⟩:=ZbY e0;gi_wp2
    obtain⟨k1,k2,k3⟩:=hfin _ _ _ hA;simp only[List.cons_append,List.nil_append] at k3;exact⟨k1,k2,v,ws,k3.pick pR,by rw[(hsn _).out,hk'.out],by simp;omega⟩
  by_cases e1:bl x=[46,46]
  · obtain rfl:x=⟨#[46,46]⟩:=ZbY e1;clear e0;obtain⟨ax,cap,rfl,hax,hcap,_⟩:=hA.row_form (v:=v) (xs:=flatS ws) sR;by_cases e2:ws=[]
    · subst e2
      gi_wp2_with (refine ZaS (by exact fun _=>trivial) rfl rfl rfl (by(try simp only[Act.eval,eV])<;>exact rfl) (by exact rfl) hA sR (by kernel_rfl) rfl (by first|decide|(simp;done)|omega) ?_;intro w1 hB;replace hA:=hB;clear hF hB;obtain⟨hA,hF⟩:=fZ hA)
      obtain⟨k1,k2,k3⟩:=hfin _ _ _ hA;simp only[List.cons_append,List.nil_append] at k3;exact⟨k1,rfl,k3.pick pR,by rw[(hsn _).out];exact Zfo⟩
    have hl:0 < ws.length:=List.length_pos_iff.2 e2;have hl1:((ws.length:Int)==0)=false:=by simpa using e2
    have hl2:=Hd (show((ws.length:Int) - 1)=((ws.length - 1:Nat):Int) by omega);have e2':=Hd e2;clear e2
    gi_wp2_with (first|(refine ZaS (by exact fun _=>trivial) rfl rfl rfl (by(try simp only[Act.eval,eV])<;>exact rfl) (by exact rfl) hA sR (by kernel_rfl) rfl (by first|decide|(simp;done)|omega) ?_;intro w1 hB;replace hA:=hB;clear hF hB;obtain⟨hA,hF⟩:=fZ hA)|(refine ZdO (k:=ws.length - 1) (by exact fun _=>trivial) rfl rfl Tryz.underlying144 hi0 hz1 (by(try simp only[Act.eval,eV])<;>exact rfl) (by exact congrArg (Value.int .i64) hl2.out) hA sR (by omega) ?_;intro v1 hB;obtain⟨ax3,n3,cap3,hv3,hn3⟩:=hB.row_hid .here;subst hv3;replace hA:=hB;clear hF hB;obtain⟨hA,hF⟩:=fZ hA))
    have e3:(flatS ws).take ((ws.length - 1) * 1)=flatS ws.dropLast:=by
     unfold flatS;rw[Zbl Zdz,List.dropLast_eq_take]
    have e4:ws.length - 1=ws.dropLast.length:=by simp
    rw[e3] at hA;have hA2:At _ W _ w1:=hA;rw[e4] at hA2;obtain⟨k1,k2,k3⟩:=hfin _ _ _ hA2;simp only[List.cons_append,List.nil_append] at k3;exact⟨k1,k2,_,ws.dropLast,k3.pick pZ,by rw[(hsn _).out];exact(ZjC (by simpa using e2'.out)).trans (by rw[List.map_dropLast]),by simp;omega⟩
  have n0:x.toList.isEmpty=false:=by
   rw[Lib.toList_data];cases q:x.data.toList
   · exact absurd (Or.inl q) e0
   rfl
  have n1:(x.toList==[46])=false:=by rw[Lib.toList_data];simpa using fun q=>e0 (Or.inr q)
  have n2:(x.toList==[46,46])=false:=by rw[Lib.toList_data];simpa using e1
  have hne:bl x≠[]:=fun q=>e0 (Or.inl q);cases hp:partB (bl x)
  · have hk:=Hd (ZjD (acc:=ws.map bl) hne (fun q=>e0 (Or.inr q)) e1 hp);clear e0 e1 hne;obtain⟨ax,cap,rfl,hax,hcap,_⟩:=hA.row_form (v:=v) (xs:=flatS ws) sR;gi_wp2_with fail
    refine⟨trivial,(CallsIn.inRound l (callsIn_wide.2 (Zh9 x W))).mono ?_⟩;rw[show partB x.data.toList=false from hp];rintro e w1 ⟨rfl,hT⟩;replace hA:=hA.ext hT;clear hF hT;obtain⟨hA,hF⟩:=fZ hA
    gi_wp2_with (refine ZaS (by exact fun _=>trivial) rfl rfl rfl (by(try simp only[Act.eval,eV])<;>exact rfl) (by exact rfl) hA sR (by kernel_rfl) rfl (by first|decide|(simp;done)|omega) ?_;intro w1 hB;replace hA:=hB;clear hF hB;obtain⟨hA,hF⟩:=fZ hA)
    obtain⟨k1,k2,k3⟩:=hfin _ _ _ hA;simp only[List.cons_append,List.nil_append] at k3;exact⟨k1,rfl,k3.pick pR,by rw[(hsn _).out];exact hk.out⟩
  have hk:=Hd (ZdV (acc:=ws.map bl) hp);clear e0 e1 hne;obtain⟨ax,kn,cap,hv0,hkn⟩:=hA.row_hid (v:=v) (xs:=flatS ws) sR;subst hv0;gi_wp2_with fail
  refine⟨trivial,(CallsIn.inRound l (callsIn_wide.2 (Zh9 x W))).mono ?_⟩;rw[show partB x.data.toList=true from hp];rintro e w1 ⟨rfl,hT⟩;replace hA:=hA.ext hT;clear hF hT;obtain⟨hA,hF⟩:=fZ hA
  gi_wp2_with (first|(refine ZaS (by exact fun _=>trivial) rfl rfl rfl (by(try simp only[Act.eval,eV])<;>exact rfl) (by exact rfl) hA sR (by kernel_rfl) rfl (by first|decide|(simp;done)|omega) ?_;intro w1 hB;replace hA:=hB;clear hF hB;obtain⟨hA,hF⟩:=fZ hA;try go_frame)|(refine ZdN (e:=9) (vs:=strC x) (by exact fun _=>trivial) rfl rfl (by(try simp only[Act.eval,eV])<;>exact rfl) (fun _=>by kernel_rfl) hA ?_;intro b2 w1 hB hb2;replace hA:=hB;clear hF hB;obtain⟨hA,hF⟩:=fZ hA;try go_frame)|(refine ZcO (e:=9) (size:=1) (v:=.slice ax kn cap) (xs:=flatS ws) (m0:=ws.length) (m:=1) (news:=strC x) (by exact fun _=>trivial) rfl _ _ 144 rfl Tryz.underlying144 hi0 hz0 hz1 hz2 rfl (by omega) hA sR (by(try simp only[Act.eval,eV])<;>exact rfl) (by(try simp only[Act.eval,eV])<;>exact rfl) rfl (hA.cells_reads sR _ _) (Zfn x) (by unfold maxLen;omega) (by omega) ?_;intro v1 w1 hB;obtain⟨ax3,n3,cap3,hv3,hn3⟩:=hB.row_hid .here;subst hv3;replace hA:=hB;clear hF hB;obtain⟨hA,hF⟩:=fZ hA;try go_frame))
  rw[show flatS ws++strC x=flatS (ws++[x]) by simp[flatS,List.flatMap_append],show ws.length + 1=(ws++[x]).length by simp] at hA;obtain⟨k1,k2,k3⟩:=hfin _ _ _ hA;simp only[List.cons_append,List.nil_append] at k3;exact⟨k1,k2,_,ws++[x],k3.pick pZ,by rw[(hsn _).out];exact hk.out.trans (by simp),by simp;omega⟩
 case done=>
  rintro D xs W hD hS ⟨v,ws,hA,hwk,hle⟩ hK;rw[hS] at hwk;obtain⟨ax,kn,cap,hv0,hkn⟩:=hA.row_hid (v:=v) (xs:=flatS ws) sR;subst hv0;have hwk':=Hd hwk;have hSl:xs.length=(Zai (bl s)).length:=by rw[←hS];simp
  have hS':=Hd hSl;have hK':=Hd hK;clear hS hwk hSl hK
  have hcl:∀A ∈ [Part.hole (w.heap.size + 3),Part.cells (w.heap.size + 2) [.slice ax kn cap] 144,rowS (.slice ax kn cap) ws,Part.cells w.heap.size [.slice none 0 0] 144,Part.cells (w.heap.size + 1) [.int .i64 0] 63,Part.hole (w.heap.size + 4),Part.hole (w.heap.size + 5)],A.Cl:=by
   intro A hA;simp only[List.mem_cons,List.not_mem_nil,or_false] at hA;rcases hA with rfl|rfl|rfl|rfl|rfl|rfl|rfl;all_goals first|exact Part.cl_hole _|exact Part.cl_cells _ _ _|exact Part.cl_row _ _ _ _ _
  have hcl2:∀A ∈ [Part.cells (w.heap.size + 1) [.int .i64 0] 63,Part.cells w.heap.size [.slice ax kn cap] 144,Part.hole (w.heap.size + 3),Part.cells (w.heap.size + 2) [.slice ax kn cap] 144,rowS (.slice ax kn cap) ws,Part.hole (w.heap.size + 4),Part.hole (w.heap.size + 5)],A.Cl:=by
   intro A hA;simp only[List.mem_cons,List.not_mem_nil,or_false] at hA;rcases hA with rfl|rfl|rfl|rfl|rfl|rfl|rfl;all_goals first|exact Part.cl_hole _|exact Part.cl_cells _ _ _|exact Part.cl_row _ _ _ _ _
  have hbk:=fun(L':List Part) (W':World) (t:At _ W L' W')=>(⟨hA.trans t,(t.keepsFrom hA.sep hcl 0).same D _ (Nat.zero_le _) hK'.out rfl⟩:At [] w L' W'∧W'.heap[D]? =some (.deferred (some [])))
  have hA2:=At.start hA.sep;clear hA hcl;have hA:=hA2;clear hA2;obtain⟨hA,hF⟩:=fZ hA
  gi_wp2_with (refine ZaS (by exact fun _=>trivial) rfl rfl rfl (by(try simp only[Act.eval,eV])<;>exact rfl) (by exact rfl) hA sR (by kernel_rfl) rfl (by first|decide|(simp;done)|omega) ?_;intro w1 hB;replace hA:=hB;clear hF hB;obtain⟨hA,hF⟩:=fZ hA;try go_frame)
  obtain⟨g1,g2⟩:=hbk _ _ hA;have g3:=g1.ownB (Bs:=w.heap.size + 3) sR hcl2 (B:=W5.heap.size) (by omega) (grownBy_putObj' w1 D (.deferred none)) (fun r e=>by cases e;exact .inr ⟨hD,_,g2,rfl⟩);have hF3:=g3.facts;(try simp only[ZeX,ZgF,Zee,ZgD,ZeW,ZgE,ZgG,ZeV,Zc3,and_true,true_and] at hF3)
  clear hF hA hbk hcl2 g1;refine⟨by simp,.inl ⟨_,_,rfl,run_takeDeferred g2,?_⟩⟩;refine⟨.tuple #[.slice ax kn cap,.int .i64 0],by simp[results,Tryz.results157,go_sem,hF3],?_⟩;have hl:=ZaV (bl s);have hl2:=hS'.out;have hl3:(bl s).length=s.size:=by simp
  exact⟨_,ws,by rw[hwk'.out];rfl,g3.pick pR,.inl hwk'.out,by omega⟩
 case stop=>
  rintro D c pre W hD hS ⟨rfl,hA,hwk⟩ hK
  have hnone:walkL [] (Zai (bl s))=none:=by
   obtain⟨r,hr⟩:=hS;rw[←hr,ZhQ,hwk];rfl
  have hn':=Hd hnone;clear hS hwk hnone
  have hcl:∀A ∈ [Part.hole (w.heap.size + 3),Part.cells w.heap.size [.slice none 0 0] 144,Part.cells (w.heap.size + 1) [.int .i64 30] 63],A.Cl:=by
   intro A hA;simp only[List.mem_cons,List.not_mem_nil,or_false] at hA;rcases hA with rfl|rfl|rfl;all_goals first|exact Part.cl_hole _|exact Part.cl_cells _ _ _
  have g3:=hA.ownB (Bs:=w.heap.size + 3) sR hcl (B:=W5.heap.size) (by omega) (grownBy_putObj' W D (.deferred none)) (fun r e=>by cases e;exact .inr ⟨hD,_,hK,rfl⟩);have hF3:=g3.facts;(try simp only[ZeX,ZgF,Zee,ZgD,ZeW,ZgE,ZgG,ZeV,Zc3,and_true,true_and] at hF3)
  have g4:=g3.row_nil 9 1;clear hA hcl;gi_wp2
  refine⟨by simp,.inl ⟨_,_,rfl,run_takeDeferred hK,?_⟩⟩;refine⟨.tuple #[.slice none 0 0,.int .i64 30],by simp[results,Tryz.results157,go_sem,hF3],?_⟩;exact⟨_,[],by rw[hn'.out];rfl,g4.pick pZ,.inr ⟨hn'.out,rfl⟩,by simp⟩
end Path
end
section
namespace Path
open Go.RowKit
theorem Zfe:∀{l acc a:List Bs},walkL acc l=some a→∀q ∈ a,q ∈ acc∨q ∈ l
 |[],acc,a,h,q,hq=>by simp[walkL] at h;subst h;exact .inl hq
 |p::r,acc,a,h,q,hq=>by
  rw[walkL] at h
  cases hs:stepW acc p with
  |none=>simp[hs] at h
  |some b=>
   simp only[hs] at h;rcases Zfe h q hq with h1|h1
   · unfold stepW at hs;split at hs
     · cases hs;exact .inl h1
     split at hs
     · split at hs
       · cases hs
       cases hs;exact .inl (List.dropLast_subset _ h1)
     split at hs
     · cases hs;rcases List.mem_append.1 h1 with h1|h1
       · exact .inl h1
       rw[List.mem_singleton.1 h1];exact .inr (by simp)
     cases hs
   exact .inr (by simp[h1])
theorem ZbS:∀(s:Bs),∀q ∈ Zai s,q.length≤s.length
 |[],q,hq=>by simp[Zai] at hq;subst hq;simp
 |c::r,q,hq=>by
  have ih:=ZbS r;rw[ZaD] at hq;split at hq
  · rcases List.mem_cons.1 hq with rfl|hq
    · simp
    have:=ih q hq;simp;omega
  cases hs:Zai r with
  |nil=>exact absurd hs (Zbg r)
  |cons a b=>
   rw[hs] at hq ih;simp only[List.headD_cons,List.tail_cons] at hq;rcases List.mem_cons.1 hq with rfl|hq
   · have:=ih a (by simp);simp;omega
   have:=ih q (by simp[hq]);simp;omega
theorem Zif:∀(l:List Bs) (m:Nat),(∀q ∈ l,q.length≤m)→(joinS l).length≤l.length * (m + 1)
 |[],m,_=>by simp[joinS,Lib.join]
 |[p],m,h=>by rw[join_one];have:=h p (by simp);simp;omega
 |p::q::r,m,h=>by
  rw[ZbH _ _ (by simp)];have ih:=Zif (q::r) m (fun x hx=>h x (by simp[hx]));have:=h p (by simp);simp only[List.length_append,List.length_cons] at ih ⊢;have e:(r.length + 1 + 1) * (m + 1)=(r.length + 1) * (m + 1) + (m + 1):=by rw[Nat.add_mul (r.length + 1)];omega
  omega
theorem ZfL {s:Bs} {l:List Bs} (h:walkL [] (Zai s)=some l):(joinS l).length≤l.length * (s.length + 1):=
 Zif l s.length (fun q hq=>by
  rcases Zfe h q hq with h1|h1
  · simp at h1
  exact ZbS s q h1)
theorem Zcs {c:List Value} {ws:List ByteArray} (ht:c.take (ws.length * 1)=flatS ws) {j:Nat} {x:ByteArray} (hx:ws[j]? =some x):c[j]? =some (.string x):=by
 have:=Zag Zdz (enc:=strC) ht hx 0 (by omega)
 simpa [strC] using this
def Zm4 (s:ByteArray) (w:World) (e:Ending) (w':World):Prop:=
 ∃q:ByteArray,e=.returned (.tuple #[.string q,.int .i64 (normL (bl s)).2])∧bl q=(normL (bl s)).1∧Ext w w'
theorem ZiW (s:ByteArray) (w:World) (hs:s.size≤2000000):Calls Tryz.prog 127 #[.string s] w (Zm4 s w):=by
 have hA:=At.start (w0:=w) (L0:=[]) trivial;have hF:=hA.facts;go_enter Tryz.func127,Tryz.ntmps127;go_wp2_with fail;refine(Zlr s w hs).mono ?_;rintro e w1 ⟨v,ws,rfl,hT,hres,hlen⟩;replace hA:=hA.call0 hT;clear hF hT;simp only[List.append_nil] at hA;obtain⟨ax,cap,hv,hax0,hcap0,_⟩:=hA.row_form (v:=v) (n:=ws.length) (xs:=flatS ws) sR;subst hv;have hcap:=Hd hcap0;clear hax0 hcap0
 have hn:normL (bl s)=(match walkL [] (Zai (bl s)) with
  |none=>([],30)
  |some l=>if l=[] then([],13) else if 8 < l.length then([],31) else if 64 < (joinS l).length then([],11) else(joinS l,0)):=rfl
 rcases hres with hre|⟨hre,hw0⟩
 · rw[hre] at hn;simp only at hn;have hjl:=ZfL hre;rw[hre];simp only[ZbB];simp only[List.length_map] at hjl hn;by_cases e1:ws=[]
   · subst e1;simp only[List.map_nil,if_pos] at hn;have hn':=Hd hn;clear hn hre hjl hlen hcap;obtain⟨hA,hF⟩:=fZ hA;go_wp2_with fail;go_ret2;exact⟨⟨#[]⟩,by rw[hn'.out];rfl,by rw[hn'.out],hA.toExt⟩
   rw[if_neg (by simpa using e1)] at hn;have hl0:((ws.length:Int)==0)=false:=by simpa using e1
   by_cases e2:8 < ws.length
   · rw[if_pos e2] at hn;have hn':=Hd hn;clear hn hre hjl hlen hcap e1;obtain⟨hA,hF⟩:=fZ hA;go_wp2_with fail;go_ret2;exact⟨⟨#[]⟩,by rw[hn'.out];rfl,by rw[hn'.out],hA.toExt⟩
   rw[if_neg e2] at hn;have hl1:0 < ws.length:=List.length_pos_iff.2 e1;obtain⟨g,c,hax,_,hcm,hcl,hct,hB⟩:=hA.row_open (ax:=ax) (cap:=cap) (n:=ws.length) (xs:=flatS ws) sR hl1;subst hax
   have hj:(Lib.join (ws.map (·.data.toList)) [47]).length≤140737488355328:=by
    have h1:(joinS (ws.map bl)).length≤ws.length * (s.size + 1):=by simpa using hjl
    have h2:ws.length * (s.size + 1)≤8 * 2000001:=Nat.mul_le_mul (by omega) (by omega);have h3:(Lib.join (ws.map (·.data.toList)) [47]).length=(joinS (ws.map bl)).length:=rfl;omega
   have hcl':g < w1.heap.size:=(hB.get (A:=Part.cells g c 9) sR:Zaa w1 g c _).lt
   have hjoin:=Tryz.strings_Join g 0 cap ws ⟨#[47]⟩ w1 (fun j x hx=>by
    rw[Nat.zero_add]
    exact((hB.get (A:=Part.cells g c 9) sR:Zaa w1 g c _).cell j).trans (Zcs hct hx)) hcl' (by omega) hcap.out hj
   clear hA;have hA:=hB;have hext:Ext w w1:=hA.toExt;clear hB hre hlen e1;have hn':=Hd hn;have hct':=Hd hct;have hcl2:=Hd hcl;clear hn hct hcl hjl hj;go_wp2_with fail;refine hjoin.mono ?_;clear hjoin;rintro e w2 ⟨rfl,hb⟩;have hext2:=hext.trans hb;clear hb hext hA
   obtain⟨jn,hjn⟩:∃q:ByteArray,(⟨(Lib.join (ws.map (·.data.toList)) [47]).toArray⟩:ByteArray)=q:=⟨_,rfl⟩
   have hjb:joinS (ws.map bl)=bl jn:=by rw[←hjn];rfl
   have hjs:(joinS (ws.map bl)).length=jn.size:=by rw[hjb];simp
   have hjb':=Hd hjb;have hn2:=hn'.out;rw[hjs] at hn2;rw[hjn];clear hjn hjb hjs hn' hct' hcl2;by_cases e3:64 < jn.size
   · rw[if_pos e3] at hn2;have hn3:=Hd hn2;clear hn2;go_wp2_with fail;go_ret2;exact⟨⟨#[]⟩,by rw[hn3.out];rfl,by rw[hn3.out],hext2⟩
   rw[if_neg e3] at hn2;have hn3:=Hd hn2;clear hn2;go_wp2_with fail;go_ret2;exact⟨jn,by rw[hn3.out];rfl,by rw[hn3.out];exact hjb'.out.symm,hext2⟩
 rw[hre] at hn;simp only at hn;subst hw0;rw[hre];simp only[ZbB];have hn':=Hd hn;clear hn hre hlen hcap;obtain⟨hA,hF⟩:=fZ hA;go_wp2_with fail;go_ret2;exact⟨⟨#[]⟩,by rw[hn'.out];rfl,by rw[hn'.out],hA.toExt⟩
end Path
end
section
namespace Path
open Go.RowKit
theorem eqB (s q:ByteArray):(s.toList==q.toList)=decide (bl s=bl q):=by
 rw[Lib.toList_data,Lib.toList_data];cases h:(s.data.toList==q.data.toList)
 · symm;simpa using h
 symm;simpa using h
theorem right_any (s:ByteArray) (w:World) (hs:s.size≤2000000):Calls Tryz.prog 91 #[.string s] w fun e w'=>e=.returned (.bool (Zaf (bl s)))∧Ext w w':=by
 have hr:=ZeF (bl s);go_enter Tryz.func91,Tryz.ntmps91;go_wp2_with fail;refine(ZiW s w hs).mono ?_;rintro e w1 ⟨q,rfl,hq,hx⟩;rw[←hq] at hr;have heq:=eqB s q
 obtain⟨n2,hn2⟩:∃n,(normL (bl s)).2=n:=⟨_,rfl⟩
 rw[hn2] at hr ⊢;clear hn2 hq;by_cases h0:n2=0
 · subst h0;by_cases h1:bl s=bl q
   · have hb:Zaf (bl s)=true:=hr.1 ⟨rfl,h1.symm⟩;rw[decide_eq_true h1] at heq;have hb':=Hd hb;clear hb hr h1;go_wp2_with fail;go_ret;exact⟨by rw[hb'.out];rfl,hx⟩
   have hb:Zaf (bl s)=false:=by
    cases hb:Zaf (bl s)
    · rfl
    exact absurd (hr.2 hb).2.symm h1
   rw[decide_eq_false h1] at heq;have hb':=Hd hb;clear hb hr h1;go_wp2_with fail;go_ret;exact⟨by rw[hb'.out];rfl,hx⟩
 have hb:Zaf (bl s)=false:=by
  cases hb:Zaf (bl s)
  · rfl
  exact absurd (hr.2 hb).1 h0
 have hb':=Hd hb;have h0':(n2==0)=false:=by simpa using h0
 clear hb hr h0 heq;go_wp2_with fail;go_ret;exact⟨by rw[hb'.out];rfl,hx⟩
theorem Zbx {s:ByteArray} {b:Bool} (w:World) (hs:s.size≤2000000) (hb:Zaf (bl s)=b):Calls Tryz.prog 91 #[.string s] w fun e w'=>e=.returned (.bool b)∧Ext w w':=hb ▸ right_any s w hs
theorem pre_is (q p:ByteArray) (w:World):Calls Tryz.prog 109 #[.string q,.string p] w fun e w'=>e=.returned (.bool ((bl p).isPrefixOf (bl q)))∧w=w':=
 (Tryz.strings_HasPrefix q p w).mono fun _ _ ⟨he,hw⟩=>⟨he,hw.symm⟩
theorem Zen (p q:ByteArray) (w:World) (hp:p.size≤2000000) (hq:q.size≤2000000):Calls Tryz.prog 77 #[.string p,.string q] w fun e w'=>e=.returned (.bool (Zan (bl p) (bl q)))∧Ext w w':=by
 have heq:=eqB p q;cases h1:Zaf (bl p)
 · have hb:=Hd (show Zan (bl p) (bl q)=false by simp[Zan,h1]);clear heq;go_enter Tryz.func77,Tryz.ntmps77;go_wp2_with fail;refine(Zbx w hp h1).mono ?_;rintro e w1 ⟨rfl,hx⟩;go_wp2_with fail;go_ret;exact⟨by rw[hb.out];rfl,hx⟩
 cases h2:Zaf (bl q)
 · have hb:=Hd (show Zan (bl p) (bl q)=false by simp[Zan,h1,h2]);clear heq;go_enter Tryz.func77,Tryz.ntmps77;go_wp2_with fail;refine(Zbx w hp h1).mono ?_;rintro e w1 ⟨rfl,hx⟩;go_wp2_with fail;refine(Zbx w1 hq h2).mono ?_;rintro e w2 ⟨rfl,hx2⟩;go_wp2_with fail;go_ret;exact⟨by rw[hb.out];rfl,hx.trans hx2⟩
 by_cases h3:bl p=bl q
 · have hb:=Hd (show Zan (bl p) (bl q)=true by simp[Zan,h1,h2,h3]);rw[decide_eq_true h3] at heq;clear h3;go_enter Tryz.func77,Tryz.ntmps77;go_wp2_with fail;refine(Zbx w hp h1).mono ?_;rintro e w1 ⟨rfl,hx⟩;go_wp2_with fail;refine(Zbx w1 hq h2).mono ?_;rintro e w2 ⟨rfl,hx2⟩;go_wp2_with fail;go_ret;exact⟨by rw[hb.out];rfl,hx.trans hx2⟩
 have hb:=Hd (show Zan (bl p) (bl q)=(bl p++[47]).isPrefixOf (bl q) by simp[Zan,h1,h2,h3]);rw[decide_eq_false h3] at heq;clear h3;go_enter Tryz.func77,Tryz.ntmps77;go_wp2_with fail;refine(Zbx w hp h1).mono ?_;rintro e w1 ⟨rfl,hx⟩;go_wp2_with fail;refine(Zbx w1 hq h2).mono ?_;rintro e w2 ⟨rfl,hx2⟩;go_wp2_with fail;refine(pre_is _ _ _).mono ?_;rintro e _ ⟨rfl,rfl⟩;have hpa:bl (p++⟨#[47]⟩)=bl p++[47]:=by simp[bl]
 rw[hpa,←hb.out];clear hpa
 obtain⟨bb,hbb⟩:∃b,Zan (bl p) (bl q)=b:=⟨_,rfl⟩
 rw[hbb];have hbb':=Hd hbb;clear hb hbb;cases bb
 all_goals
  go_wp2_with fail;go_ret;exact⟨by rw[hbb'.out];rfl,hx.trans hx2⟩
theorem Zb4 (p q:ByteArray) (w:World) (hp:p.size≤2000000) (hq:q.size≤2000000):Calls Tryz.prog 35 #[.string p,.string q] w fun e w'=>e=.returned (.bool (overB (bl p) (bl q)))∧Ext w w':=by
 have h1:=Zen p q w hp hq;have h2:=fun w=>Zen q p w hq hp;have ho:overB (bl p) (bl q)=(Zan (bl p) (bl q) || Zan (bl q) (bl p)):=rfl;rw[ho];clear ho;generalize Zan (bl p) (bl q)=b1 at *
 generalize Zan (bl q) (bl p)=b2 at *
 cases b1
 · go_enter Tryz.func35,Tryz.ntmps35;go_wp2_with fail;refine h1.mono ?_;clear h1;rintro e w1 ⟨rfl,hx⟩;go_wp2_with fail;refine(h2 w1).mono ?_;clear h2;rintro e w2 ⟨rfl,hx2⟩;cases b2
   all_goals
    go_wp2_with fail;go_ret;exact⟨rfl,hx.trans hx2⟩
 go_enter Tryz.func35,Tryz.ntmps35;go_wp2_with fail;refine h1.mono ?_;clear h1;rintro e w1 ⟨rfl,hx⟩;go_wp2_with fail;go_ret;exact⟨rfl,hx⟩
end Path
end
section
namespace Lock
open Go.RowKit
open Go.Maps (Keyed)
open Path (bl Zaf overB)
structure Ent where
 path:ByteArray
 num:Int
 foot:ByteArray
 mode:Int
 n:Int
 stamp:Int
deriving DecidableEq
def keyV (p:ByteArray) (n:Int) (f:ByteArray):Value:=.agg #[.string p,.int .u64 n,.string f]
def Ent.key (e:Ent):Value:=keyV e.path e.num e.foot
def Ent.cells (e:Ent):List Value:=[.string e.path,.int .u64 e.num,.string e.foot,.int .i64 e.mode,.int .u64 e.n,.int .i64 e.stamp]
def Ent.val (e:Ent):Value:=.agg #[.string e.path,.int .u64 e.num,.string e.foot,.int .i64 e.mode,.int .u64 e.n,.int .i64 e.stamp]
def ent (e:Ent):Value × Value:=(e.key,e.val)
def ents (l:List Ent):List (Value × Value):=l.map ent
def ctrE (c:ByteArray × Int):Value × Value:=(.string c.1,.int .u64 c.2)
def ctrs (l:List (ByteArray × Int)):List (Value × Value):=l.map ctrE
abbrev headC (p m c:Nat) (first:Int):Part:=Part.cells p [.int .u64 first,.map (some m),.map (some c)] 109
abbrev mapC (m:Nat) (es:List (Value × Value)):Part:=Part.map Tryz.prog 106 m es
abbrev ctrC (c:Nat) (cs:List (Value × Value)):Part:=Part.map Tryz.prog 9 c cs
structure Bk where
 p:Nat
 m:Nat
 c:Nat
 first:Int
 es:List Ent
 cs:List (ByteArray × Int)
def BookP (b:Bk):Part:=Part.all [headC b.p b.m b.c b.first,mapC b.m (ents b.es),ctrC b.c (ctrs b.cs)]
theorem eqv0 (b:Bk) (F:List Part):Eqv (BookP b::F) (headC b.p b.m b.c b.first::mapC b.m (ents b.es)::ctrC b.c (ctrs b.cs)::F):=Eqv.all [headC b.p b.m b.c b.first,mapC b.m (ents b.es),ctrC b.c (ctrs b.cs)] F
theorem begin0 {w:World} {b:Bk} (h:Sep [BookP b] w):At [BookP b] w [headC b.p b.m b.c b.first,mapC b.m (ents b.es),ctrC b.c (ctrs b.cs)] w:=(At.start h).to (eqv0 b [])
theorem open0 {L0 L F:List Part} {w0 w:World} {b:Bk} (h:At L0 w0 L w) (q:Sel (BookP b) L F):At L0 w0 (headC b.p b.m b.c b.first::mapC b.m (ents b.es)::ctrC b.c (ctrs b.cs)::F) w:=(h.take q).to (eqv0 b F)
theorem fold0 {L0 L F G H:List Part} {w0 w:World} (b:Bk) (h:At L0 w0 L w) (s1:Sel (headC b.p b.m b.c b.first) L F) (s2:Sel (mapC b.m (ents b.es)) F G) (s3:Sel (ctrC b.c (ctrs b.cs)) G H):At L0 w0 (BookP b::H) w:=
 (h.perm (s1.perm.trans ((s2.perm.trans (s3.perm.cons _)).cons _))).to (eqv0 b H).symm
theorem close0 {L0 L F G H:List Part} {w0 w:World} (b:Bk) (h:At L0 w0 L w) (s1:Sel (headC b.p b.m b.c b.first) L F) (s2:Sel (mapC b.m (ents b.es)) F G) (s3:Sel (ctrC b.c (ctrs b.cs)) G H):At L0 w0 [BookP b] w:=(fold0 b h s1 s2 s3).only1 .here
theorem laidOut:laidOutB Tryz.prog=true:=by kernel_rfl
theorem wideP:(match Tryz.prog.underlying 106 with|some (.array _ _)|some (.struct _)=>true|_=>false)=true:=by kernel_rfl
theorem rowP:(106:TypeId) < Tryz.prog.types.size:=of_decide_eq_true (by kernel_rfl)
theorem lawP:Keyed Tryz.prog 106:=Keyed.of_law (deep_law_laid laidOut (m:=3) (by omega) rowP (by kernel_rfl) wideP)
theorem lawT:Keyed Tryz.prog 9:=Go.Maps.string_keyed Tryz.underlying9
theorem Zmm:Tryz.prog.keyType 106=true:=by kernel_rfl
theorem Znl:Tryz.prog.cellsOf 106=3:=by kernel_rfl
theorem cellsS:Tryz.prog.cellsOf 25=2:=by kernel_rfl
theorem cellsU:Tryz.prog.cellsOf 22=1:=by kernel_rfl
theorem cellsStr:Tryz.prog.cellsOf 9=1:=by kernel_rfl
theorem Zoa (c0 c1 c2:Value):(Value.agg #[c0,c1,c2]).formed Tryz.prog 106=true:=by simp[Value.formed,Tryz.underlying106,Znl]
def big64:Int:=18446744073709551616
theorem keyP {p:ByteArray} {n:Int} {f:ByteArray} (hp:p.size≤maxLen) (h0:0≤n) (h1:n < big64) (hf:f.size≤maxLen):∃l,keyOf Tryz.prog 106 (keyV p n f)=some l:=by
 have hw:(Lit.int .u64 n).wf=true:=by simp[Lit.wf,IntKind.min,IntKind.max,IntKind.signed,IntKind.bits];unfold big64 at h1;omega
 obtain⟨d,hd⟩:∃d,Tryz.prog.types.size=d + 2:=⟨Tryz.prog.types.size - 2,by have:2≤Tryz.prog.types.size:=of_decide_eq_true (by kernel_rfl);omega⟩
 have hl:Tryz.prog.keyLits (Tryz.prog.types.size + 1) 106 [.string p,.int .u64 n,.string f]=some [.string p.data.toList,.int .u64 n,.string f.data.toList]:=by
  rw[hd];simp[Program.keyLits,Tryz.underlying106,Tryz.underlying25,Tryz.underlying22,Tryz.underlying9,Znl,cellsS,cellsU,cellsStr,hw,hf,hp];rw[if_pos (by decide)];rfl
 exact⟨.string (keyBytes [.string p.data.toList,.int .u64 n,.string f.data.toList]),by
  unfold keyOf;rw[Tryz.underlying106];simp only[Zmm,keyV,Zoa,Bool.and_self,if_true];rw[show(Value.agg #[.string p,.int .u64 n,.string f]).cells.toList=[.string p,.int .u64 n,.string f] from rfl,hl]
  rfl⟩
theorem keyT {p:ByteArray} (hp:p.size≤maxLen):∃l,keyOf Tryz.prog 9 (.string p)=some l:=⟨_,WideMaps.keyOf_string_mk Tryz.underlying9 hp⟩
def Ent.is (e:Ent) (p:ByteArray) (n:Int) (f:ByteArray):Bool:=decide (e.path=p∧e.num=n∧e.foot=f)
def find (es:List Ent) (p:ByteArray) (n:Int) (f:ByteArray):Option Ent:=es.find? (·.is p n f)
theorem find_split {es:List Ent} {p:ByteArray} {n:Int} {f:ByteArray} {e:Ent} (h:find es p n f=some e):∃l1 l2,es=l1++e::l2∧e.path=p∧e.num=n∧e.foot=f∧∀x ∈ l1,x.is p n f=false:=by
 obtain⟨h1,l1,l2,h2,h3⟩:=List.find?_eq_some_iff_append.1 h;have h4:e.path=p∧e.num=n∧e.foot=f:=by simpa [Ent.is] using h1
 exact⟨l1,l2,h2,h4.1,h4.2.1,h4.2.2,fun x hx=>by simpa using h3 x hx⟩
theorem find_none {es:List Ent} {p:ByteArray} {n:Int} {f:ByteArray} (h:find es p n f=none):∀q ∈ ents es,q.1≠keyV p n f:=by
 intro q hq;obtain⟨e,he,rfl⟩:=List.mem_map.1 hq;have h1:¬e.is p n f=true:=List.find?_eq_none.1 h e he;intro q2;apply h1;simp[ent,Ent.key,keyV] at q2;simp[Ent.is,q2]
theorem find_mem {es:List Ent} {p:ByteArray} {n:Int} {f:ByteArray} {e:Ent} (h:find es p n f=some e):(keyV p n f,e.val) ∈ ents es:=by
 obtain⟨l1,l2,rfl,rfl,rfl,rfl,_⟩:=find_split h;simp[ents,ent,Ent.key]
def ctr (cs:List (ByteArray × Int)) (p:ByteArray):Option Int:=(cs.find? (·.1=p)).map (·.2)
def counter (first:Int) (cs:List (ByteArray × Int)) (p:ByteArray):Int:=(ctr cs p).getD first
theorem ZfW {cs:List (ByteArray × Int)} {p:ByteArray} (h:ctr cs p=none):∀q ∈ ctrs cs,q.1≠.string p:=by
 intro q hq;obtain⟨s,hs,rfl⟩:=List.mem_map.1 hq;unfold ctr at h;simp at h
 intro e;simp[ctrE] at e;exact h s.1 s.2 hs e
theorem Zoj {cs:List (ByteArray × Int)} {p:ByteArray} {n:Int} (h:ctr cs p=some n):(.string p,.int .u64 n) ∈ ctrs cs:=by
 unfold ctr at h;simp only[Option.map_eq_some_iff] at h;obtain⟨q,h1,h2⟩:=h;have h3:=List.find?_some h1;have h4:=List.mem_of_find?_eq_some h1;refine List.mem_map.2 ⟨q,h4,?_⟩;simp at h3
 simp[ctrE,h3,h2]
def wayB (a b:Ent):Bool:=(decide (a.mode=2) || decide (b.mode=2))&&overB (bl a.path) (bl b.path)
end Lock
end
section
namespace Lock
open Go.RowKit
open Go.Maps (Keyed)
open Path (bl Zaf overB)
def NewPost (first:Int) (w:World) (e:Ending) (w':World):Prop:=∃b:Bk,e=.returned (.pointer (some ⟨b.p,0,none⟩))∧b.first=first∧b.es=[]∧b.cs=[]∧At [] w [BookP b] w'
theorem new_any (w:World) (first:Int):Calls Tryz.prog 52 #[.int .u64 first] w (NewPost first w):=by
 have hA:At [] w [] w:=At.start (L0:=[]) trivial;have hF:=hA.facts;go_enter Tryz.func52,Tryz.ntmps52
 go_wp2_with (first|((with_reducible refine gbx ?_);refine wCy hA ?_;clear hF hA;intro b1 w1 hA hb1 hF)|(refine ZaR Tryz.prog 106 rfl rfl hA ?_;intro b1 w1 hB hb1;replace hA:=hB;clear hF hB;obtain⟨hA,hF⟩:=fY hA;refine ZaR Tryz.prog 9 rfl rfl hA ?_;intro b2 w1 hB hb2;replace hA:=hB;clear hF hB;obtain⟨hA,hF⟩:=fY hA))
 go_ret;exact⟨⟨_,_,_,first,[],[]⟩,rfl,rfl,rfl,rfl,close0 ⟨_,_,_,first,[],[]⟩ hA sR sZ sZ⟩
theorem ZgM {w:World} {b:Bk} (h:Sep [BookP b] w) {p:ByteArray} (hp:p.size≤maxLen) (hn:ctr b.cs p=none):
 Calls Tryz.prog 177 #[.pointer (some ⟨b.p,0,none⟩),.string p] w fun e w'=>e=.returned (.int .u64 b.first)∧At [BookP b] w [BookP b] w':=by
 obtain⟨kl,hk⟩:=keyT hp;have hmiss:=Hd (ZfW hn);have hA:=begin0 h;have hF:=hA.facts;clear h hn;obtain⟨hA,hF⟩:=fY hA;go_enter Tryz.func177,Tryz.ntmps177
 go_wp2_with (refine ZbA rfl rfl rfl (by(try simp only[Act.eval,eV])<;>exact rfl) hA (k:=9) (es:=ctrs b.cs) sR lawT Tryz.underlying107 hk hmiss.out (z:=.int .u64 0) (fun _=>by kernel_rfl) ?_)
 go_ret;exact⟨rfl,close0 b hA sR sR sR⟩
theorem ZgL {w:World} {b:Bk} (h:Sep [BookP b] w) {p:ByteArray} (hp:p.size≤maxLen) {n:Int} (hn:ctr b.cs p=some n):
 Calls Tryz.prog 177 #[.pointer (some ⟨b.p,0,none⟩),.string p] w fun e w'=>e=.returned (.int .u64 n)∧At [BookP b] w [BookP b] w':=by
 obtain⟨kl,hk⟩:=keyT hp;have hmem:=Hd (Zoj hn);have hA:=begin0 h;have hF:=hA.facts;clear h hn;obtain⟨hA,hF⟩:=fY hA;go_enter Tryz.func177,Tryz.ntmps177
 go_wp2_with (refine Zba rfl rfl rfl (by(try simp only[Act.eval,eV])<;>exact rfl) hA (k:=9) (es:=ctrs b.cs) sR lawT Tryz.underlying107 hk hmem.out ?_)
 go_ret;exact⟨rfl,close0 b hA sR sR sR⟩
theorem Zei {w:World} {b:Bk} (h:Sep [BookP b] w) {p:ByteArray} (hp:p.size≤maxLen):
 Calls Tryz.prog 177 #[.pointer (some ⟨b.p,0,none⟩),.string p] w fun e w'=>e=.returned (.int .u64 (counter b.first b.cs p))∧At [BookP b] w [BookP b] w':=by
 cases hn:ctr b.cs p with
 |none=>have:=ZgM h hp hn;unfold counter;rw[hn];exact this
 |some n=>have:=ZgL h hp hn;unfold counter;rw[hn];exact this
def Zbi (p:ByteArray) (mode:Int):Bool:=Zaf (bl p)&&(decide (mode=1) || decide (mode=2))
theorem right_any (p:ByteArray) (mode:Int) (w:World) (hp:p.size≤1000000):Calls Tryz.prog 175 #[.string p,.int .i64 mode] w fun e w'=>e=.returned (.bool (Zbi p mode))∧Ext w w':=by
 have hr:=Path.right_any p w (by omega);unfold Zbi;generalize Zaf (bl p)=rb at *
 go_enter Tryz.func175,Tryz.ntmps175;go_wp2_with fail;refine hr.mono ?_;clear hr;rintro e w1 ⟨rfl,hx⟩;by_cases h1:mode=1
 · subst h1;cases rb
   all_goals
    go_wp2_with fail;go_ret;exact⟨rfl,hx⟩
 have e1:(mode==1)=false:=by simpa using h1
 by_cases h2:mode=2
 · subst h2;cases rb
   all_goals
    go_wp2_with fail;go_ret;exact⟨rfl,hx⟩
 have e2:(mode==2)=false:=by simpa using h2
 have d1:=decide_eq_false h1;have d2:=decide_eq_false h2;clear h1 h2;cases rb
 all_goals
  go_wp2_with fail;go_ret;exact⟨by simp[d1,d2],hx⟩
theorem Znp (x y:Ent) (w:World) (hx:x.path.size≤1000000) (hy:y.path.size≤1000000):Calls Tryz.prog 142 #[x.val,y.val] w fun e w'=>e=.returned (.bool (wayB x y))∧Ext w w':=by
 have ho:=fun w=>Path.Zb4 x.path y.path w (by omega) (by omega);unfold wayB;generalize overB (bl x.path) (bl y.path)=ob at *
 have hA:At [] w [] w:=At.start (L0:=[]) trivial;have hF:=hA.facts;obtain⟨p1,n1,f1,m1,k1,s1⟩:=x;obtain⟨p2,n2,f2,m2,k2,s2⟩:=y;simp only[Ent.val] at *
 by_cases h1:m1=2
 · subst h1;go_enter Tryz.func142,Tryz.ntmps142
   go_wp2_with ((with_reducible refine gbx ?_);refine wCy hA ?_;clear hF hA;intro b1 w1 hA hb1 hF)
   refine(ho _).mono ?_;clear ho;rintro e w2 ⟨rfl,hx2⟩;cases ob
   all_goals
    go_wp2_with fail;go_ret;exact⟨rfl,hA.toExt.trans hx2⟩
 have e1:(m1==2)=false:=by simpa using h1
 have d1:=Hd (decide_eq_false h1);clear h1;by_cases h2:m2=2
 · subst h2;go_enter Tryz.func142,Tryz.ntmps142
   go_wp2_with ((with_reducible refine gbx ?_);refine wCy hA ?_;clear hF hA;intro b1 w1 hA hb1 hF)
   refine(ho _).mono ?_;clear ho;rintro e w2 ⟨rfl,hx2⟩;cases ob
   all_goals
    go_wp2_with fail;go_ret;exact⟨by rw[d1.out];rfl,hA.toExt.trans hx2⟩
 have e2:(m2==2)=false:=by simpa using h2
 have d2:=Hd (decide_eq_false h2);clear h2 ho;go_enter Tryz.func142,Tryz.ntmps142
 go_wp2_with ((with_reducible refine gbx ?_);refine wCy hA ?_;clear hF hA;intro b1 w1 hA hb1 hF)
 go_ret;exact⟨by rw[d1.out,d2.out];rfl,hA.toExt⟩
end Lock
end
section
namespace Lock
open Go.RowKit
open Go.Maps (Keyed)
open Path (bl Zaf overB)
def nullE:Ent:=⟨.empty,0,.empty,0,0,0⟩
theorem Zoc {w:World} {b:Bk} (h:Sep [BookP b] w) {p:ByteArray} {n:Int} {f:ByteArray} (hp:p.size≤maxLen) (h0:0≤n) (h1:n < big64) (hf:f.size≤maxLen) (hn:find b.es p n f=none):
 Calls Tryz.prog 107 #[.pointer (some ⟨b.p,0,none⟩),.string p,.agg #[.int .u64 n,.string f]] w fun e w'=>e=.returned (.tuple #[nullE.val,.bool false])∧At [BookP b] w [BookP b] w':=by
 obtain⟨kl,hk⟩:=keyP hp h0 h1 hf;have hmiss:=Hd (find_none hn);have hA:=begin0 h;have hF:=hA.facts;clear h hn;obtain⟨hA,hF⟩:=fY hA;unfold keyV at *
 go_enter Tryz.func107,Tryz.ntmps107
 go_wp2_with (first|((with_reducible refine gbx ?_);refine wCy hA ?_;clear hF hA;intro b1 w1 hA hb1 hF)|((with_reducible refine gal ?_);refine g6 hA ?_;clear hF hA;intro b1 w1 hA hb1 hF))
 have hB:=hA.alloc [.string ⟨#[]⟩,.int .u64 0,.string ⟨#[]⟩,.int .i64 0,.int .u64 0,.int .i64 0] 55
 have hl0:(Instr.lookup 104 (.map (some b.m)) (.agg #[.string p,.int .u64 n,.string f]) true).run Tryz.prog w1.drew=.ok (.tuple #[nullE.val,.bool false]) w1.drew:=
  MapAt.look_none (hA.drew.get (A:=mapC b.m (ents b.es)) sR) lawP Tryz.underlying104 hk hmiss.out (by kernel_rfl) true
 have hl1:(Instr.lookup 104 (.map (some b.m)) (.agg #[.string p,.int .u64 n,.string f]) true).run Tryz.prog (w1.alloc (.cells #[.string ⟨#[]⟩,.int .u64 0,.string ⟨#[]⟩,.int .i64 0,.int .u64 0,.int .i64 0] 55)).drew=.ok (.tuple #[nullE.val,.bool false]) (w1.alloc (.cells #[.string ⟨#[]⟩,.int .u64 0,.string ⟨#[]⟩,.int .i64 0,.int .u64 0,.int .i64 0] 55)).drew:=
  MapAt.look_none (hB.drew.get (A:=mapC b.m (ents b.es)) sR) lawP Tryz.underlying104 hk hmiss.out (by kernel_rfl) true
 unfold nullE Ent.val at hl0 hl1;clear hB;go_region
 all_goals
  have hB:At [BookP b] w _ (w1.alloc (.cells #[.string .empty,.int .u64 0,.string .empty,.int .i64 0,.int .u64 0,.int .i64 0] 55)).drew:=(hA.alloc [.string .empty,.int .u64 0,.string .empty,.int .i64 0,.int .u64 0,.int .i64 0] 55).drew;clear hF hA hl0 hl1;generalize (w1.alloc (.cells #[.string .empty,.int .u64 0,.string .empty,.int .i64 0,.int .u64 0,.int .i64 0] 55)).drew=w2 at *
  have hA:=hB;clear hB;obtain⟨hA,hF⟩:=fY hA
  go_wp2_with ((with_reducible refine gst ?_);refine wTy hA ?_;clear hF hA;intro w1 hA hF)
  refine bodyPost_ret (v:=.tuple #[nullE.val,.bool false]) (by simp[results,Tryz.results107,go_sem,hF,nullE,Ent.val]) rfl ⟨rfl,?_⟩;exact close0 b hA sR sR sR
theorem Zmz {w:World} {b:Bk} (h:Sep [BookP b] w) {p:ByteArray} {n:Int} {f:ByteArray} (hp:p.size≤maxLen) (h0:0≤n) (h1:n < big64) (hf:f.size≤maxLen) {x:Ent} (hn:find b.es p n f=some x):
 Calls Tryz.prog 107 #[.pointer (some ⟨b.p,0,none⟩),.string p,.agg #[.int .u64 n,.string f]] w fun e w'=>e=.returned (.tuple #[x.val,.bool true])∧At [BookP b] w [BookP b] w':=by
 obtain⟨kl,hk⟩:=keyP hp h0 h1 hf;have hmem:=Hd (find_mem hn);have hA:=begin0 h;have hF:=hA.facts;clear h hn;obtain⟨hA,hF⟩:=fY hA;unfold keyV Ent.val at *
 go_enter Tryz.func107,Tryz.ntmps107
 go_wp2_with (first|((with_reducible refine gbx ?_);refine wCy hA ?_;clear hF hA;intro b1 w1 hA hb1 hF)|((with_reducible refine gal ?_);refine g6 hA ?_;clear hF hA;intro b1 w1 hA hb1 hF))
 (have hl0:(Instr.lookup 104 (.map (some b.m)) (.agg #[.string p,.int .u64 n,.string f]) true).run Tryz.prog w1.drew=.ok (.tuple #[.agg #[.string x.path,.int .u64 x.num,.string x.foot,.int .i64 x.mode,.int .u64 x.n,.int .i64 x.stamp],.bool true]) w1.drew:=MapAt.look_some (hA.drew.get (A:=mapC b.m (ents b.es)) sR) lawP Tryz.underlying104 hk hmem.out true);(have hl1:(Instr.lookup 104 (.map (some b.m)) (.agg #[.string p,.int .u64 n,.string f]) true).run Tryz.prog (w1.alloc (.cells #[.string ⟨#[]⟩,.int .u64 0,.string ⟨#[]⟩,.int .i64 0,.int .u64 0,.int .i64 0] 55)).drew=.ok (.tuple #[.agg #[.string x.path,.int .u64 x.num,.string x.foot,.int .i64 x.mode,.int .u64 x.n,.int .i64 x.stamp],.bool true]) (w1.alloc (.cells #[.string ⟨#[]⟩,.int .u64 0,.string ⟨#[]⟩,.int .i64 0,.int .u64 0,.int .i64 0] 55)).drew:=MapAt.look_some ((hA.alloc [.string ⟨#[]⟩,.int .u64 0,.string ⟨#[]⟩,.int .i64 0,.int .u64 0,.int .i64 0] 55).drew.get (A:=mapC b.m (ents b.es)) sR) lawP Tryz.underlying104 hk hmem.out true);go_region;all_goals((have hB:At [BookP b] w _ (w1.alloc (.cells #[.string x.path,.int .u64 x.num,.string x.foot,.int .i64 x.mode,.int .u64 x.n,.int .i64 x.stamp] 55)).drew:=(hA.alloc [.string x.path,.int .u64 x.num,.string x.foot,.int .i64 x.mode,.int .u64 x.n,.int .i64 x.stamp] 55).drew);(clear hF hA hl0 hl1);(generalize (w1.alloc (.cells #[.string x.path,.int .u64 x.num,.string x.foot,.int .i64 x.mode,.int .u64 x.n,.int .i64 x.stamp] 55)).drew=w2 at *);(have hA:=hB);(clear hB);obtain⟨hA,hF⟩:=fY hA)
 all_goals
  go_wp2_with ((with_reducible refine gst ?_);refine wTy hA ?_;clear hF hA;intro w1 hA hF)
  refine bodyPost_ret (v:=.tuple #[.agg #[.string x.path,.int .u64 x.num,.string x.foot,.int .i64 x.mode,.int .u64 x.n,.int .i64 x.stamp],.bool true]) (by simp[results,Tryz.results107,go_sem,hF]) rfl ⟨rfl,?_⟩;exact close0 b hA sR sR sR
end Lock
end
section
namespace Lock
open Go.RowKit
open Go.Maps (Keyed)
open Path (bl Zaf overB)
def unE:Value × Value→Ent
 |(_,.agg #[.string p,.int _ n,.string f,.int _ m,.int _ k,.int _ s])=>⟨p,n,f,m,k,s⟩
 |_=>nullE
theorem Zg7 (l:List Ent):(ents l).map unE=l:=by
 unfold ents;rw[List.map_map];conv=>rhs;rw[←List.map_id l]
 rfl
theorem ents_perm {l r:List Ent} (h:(ents l).Perm (ents r)):l.Perm r:=by
 have:=h.map unE
 rwa [Zg7,Zg7] at this
theorem ents_snoc (ds:List Ent) (s:Ent):ents ds++[ent s]=ents (ds++[s]):=by simp[ents]
theorem Zod {e:Ent} {l:List Ent} (h:ent e ∈ ents l):e ∈ l:=by
 have:=List.mem_map_of_mem (f:=unE) h
 rwa [Zg7] at this
def maxS (l:List Ent) (p:ByteArray):Int:=l.foldl (fun m e=>if overB (bl e.path) (bl p) then max m e.stamp else m) 0
theorem Zgs (l:List Ent) (e:Ent) (p:ByteArray):maxS (l++[e]) p=if overB (bl e.path) (bl p) then max (maxS l p) e.stamp else maxS l p:=by simp[maxS,List.foldl_append]
theorem Zgt {l r:List Ent} (h:l.Perm r) (p:ByteArray):maxS l p=maxS r p:=by
 unfold maxS;refine h.foldl_eq' (fun x _ y _ z=> ?_) 0;split<;>split<;>omega
theorem Zdg {l:List Ent} {p:ByteArray} {B:Int} (hB:0≤B) (h:∀e ∈ l,e.stamp≤B):0≤maxS l p∧maxS l p≤B:=by
 have:∀(l:List Ent) (m:Int),(∀e ∈ l,e.stamp≤B)→0≤m→m≤B→0≤l.foldl (fun m e=>if overB (bl e.path) (bl p) then max m e.stamp else m) m∧l.foldl (fun m e=>if overB (bl e.path) (bl p) then max m e.stamp else m) m≤B:=by
  intro l
  induction l with
  |nil=>intro m _ h1 h2;exact⟨h1,h2⟩
  |cons e l ih=>
   intro m hl h1 h2;have:=hl e (by simp);rw[List.foldl_cons];refine ih _ (fun x hx=>hl x (by simp[hx])) ?_ ?_<;>split<;>omega
 exact this l 0 h (Int.le_refl 0) hB
def ZaL (l:List Ent) (e:Ent):Bool:=l.all (fun x=> !(decide (x.stamp < e.stamp)&&wayB x e))
theorem Zel {l r:List Ent} (h:l.Perm r) (e:Ent):ZaL l e=ZaL r e:=h.all_eq
def StRel (b:Bk) (r:Nat) (p:ByteArray) (w:World) (k:Nat) (v:Value) (wr:World):Prop:=
 ∃ds:List Ent,At [BookP b] w [Part.iter Tryz.prog 106 r b.m (ents b.es) (ents ds),headC b.p b.m b.c b.first,ctrC b.c (ctrs b.cs)] wr∧(∀s ∈ ds,s ∈ b.es)∧v=.int .i64 (maxS ds p)∧ds.length + k=b.es.length
theorem Zf9 {w:World} {b:Bk} (h:Sep [BookP b] w) (p:ByteArray) (hp:p.size≤1000000) (hok:∀x ∈ b.es,x.path.size≤1000000∧x.stamp≤1000000000):
 Calls Tryz.prog 176 #[.pointer (some ⟨b.p,0,none⟩),.string p] w fun e w'=>e=.returned (.int .i64 (maxS b.es p + 1))∧At [BookP b] w [BookP b] w':=by
 have hA:=begin0 h;obtain⟨hA,hF⟩:=fY hA;clear h;go_enter Tryz.func176,Tryz.ntmps176
 go_wp2_with (refine ZaQ rfl rfl rfl hA sR Tryz.underlying104 ?_;intro r w1 hB hr;replace hA:=hB;clear hF hB;obtain⟨hA,hF⟩:=fY hA)
 go_frame;go_loopg [5] b.es.length (StRel b r p w)
 case atStart=>exact⟨[],hA,nofun,by simp[maxS],by simp⟩
 case round=>
  obtain⟨ds,hA2,hds,rfl,hk⟩:=hrel;clear hF hA;have hA:=hA2;clear hA2;obtain⟨hA,hF⟩:=fY hA;go_step
  go_step
  refine Za3 rfl rfl rfl hA sR (fun hp=> ?_) (fun q w1 hq hd hB=> ?_)
  · have hc:=Hd (Zgt (ents_perm hp) p);have hb:=Zdg (p:=p) (B:=1000000000) (by omega) (fun e he=>(hok e (hds e he)).2);have hM:=At.ranged hA sR;clear hp;go_wp2_with fail;go_ret;exact⟨by rw[hc.out];rfl,close0 b hM sR sR sR⟩
  obtain⟨s,hs,rfl⟩:=List.mem_map.1 hq;have hI:Zax Tryz.prog 106 w1 r b.m (ents b.es) (ents ds++[ent s]):=hB.get (A:=Part.iter _ _ r b.m (ents b.es) (ents ds++[ent s])) sR;have hen:=hI.entry;have hlen:(ds++[s]).length≤b.es.length:=by have:=hI.len;simpa [ents] using this
  have hsub:∀x ∈ ds++[s],x ∈ b.es:=fun x hx=>by
   rcases List.mem_append.1 hx with hx|hx
   · exact hds x hx
   have:x=s:=by simpa using hx
   rw[this];exact hs
  rw[ents_snoc] at hB;have hb:=Zdg (p:=p) (B:=1000000000) (by omega) (fun e he=>(hok e (hds e he)).2);obtain⟨hs1,hs2⟩:=hok s hs;clear hF hA;have hA:=hB;have hk':=Hd hk;have hsub':=Hd hsub;have hsn:=Zgs ds s p;have ho:=fun w=>Path.Zb4 s.path p w (by omega) (by omega);simp only[List.length_append,List.length_cons,List.length_nil,Nat.zero_add] at hlen;clear hI hB hk hsub hds hq hd hs;obtain⟨hA,hF⟩:=fY hA;simp only[ent,Ent.key,Ent.val,keyV] at hen;generalize overB (bl s.path) (bl p)=ob at *
  generalize maxS ds p=mx at *
  have hsn':=Hd hsn;clear hsn
  go_wp2_with (first|((with_reducible refine gst ?_);refine wTy hA ?_;clear hF hA;intro w1 hA hF)|((with_reducible refine gal ?_);refine g6 hA ?_;clear hF hA;intro b1 w1 hA hb1 hF))
  refine(ho _).mono ?_;clear ho;rintro e w2 ⟨rfl,hx⟩;replace hA:=hA.ext hx;clear hF hx;obtain⟨hA,hF⟩:=fY hA;cases ob
  all_goals
   go_wp2_with fail;go_roundg (gk - 1);case measure=>have:=hk'.out;omega
   case rel=>exact⟨ds++[s],hA.only3 sR sR sR,hsub'.out,by rw[hsn'.out];rfl,by have:=hk'.out;simp;omega⟩
end Lock
end
end Go.Proofs.YtknoefbcmomalaaGreatDoor
