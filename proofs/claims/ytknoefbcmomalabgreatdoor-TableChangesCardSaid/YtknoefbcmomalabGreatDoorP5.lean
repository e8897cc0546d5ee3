import Derived.Test.YtknoefbcmomalabGreatDoorShelft
import Derived.Test.YtknoefbcmomalabGreatDoorP2
set_option linter.unusedSimpArgs false
set_option linter.unusedVariables false
set_option maxRecDepth 100000
set_option maxHeartbeats 16000000
namespace Go.Proofs.YtknoefbcmomalabGreatDoor
section
namespace Path
open Go.RowKit Go.Shelf
attribute [local go_sem] Oper.semAt_some
abbrev bl (x:ByteArray):Bs:=x.data.toList
def Zov:ByteArray:=⟨#[47]⟩
def keep3 (b1 b2 b3:Nat) (W W':World):Prop:=∀b,b=b1∨b=b2∨b=b3→W'.heap[b]? =W.heap[b]?
def lenAt (w:World) (b:Nat):Nat:=match w.heap[b]? with|some (.cells #[.string r] _ _)=>r.size|_=>0
theorem Zi8 {w:World} {b:Nat} {r:ByteArray} {t:TypeId} (h:Boxed w b t (.string r)):lenAt w b=r.size:=by
 unfold lenAt;rw[show w.heap[b]? =_ from h];rfl
theorem idx_none {l:Bs} (h:Lib.indexByte l 47 < 0):Zah l=[l]:=by
 refine ZbT l (fun c hc e=> ?_);subst e;have h1:Lib.indexByte l 47= -1:=by have:=Lib.indexByte_ge l 47;omega
 obtain⟨k,hk⟩:=List.mem_iff_getElem?.1 hc;exact Lib.indexByte_none h1 k hk
theorem Zje {l:Bs} {i:Nat} (h:Lib.indexByte l 47=i):i < l.length∧Zah l=l.take i::Zah (l.drop (i + 1)):=by
 obtain⟨h1,h2⟩:=Lib.indexByte_some h;have hi:=(List.getElem?_eq_some_iff.1 h1).1;refine⟨hi,?_⟩
 have e:l=l.take i++47::l.drop (i + 1):=by
  have:=(List.getElem?_eq_some_iff.1 h1).2;rw[←this,←List.drop_eq_getElem_cons hi,List.take_append_drop]
 conv=>lhs;rw[e]
 rw[Zdp _ _ (fun c hc ec=> ?_)];subst ec;obtain⟨k,hk⟩:=List.mem_iff_getElem?.1 hc;rw[List.getElem?_take] at hk;split at hk
 · rename_i hki;exact h2 k hki hk
 cases hk
theorem Zhj (n:Nat) (r:ByteArray) (w:World):CallsIn Fence.wide n Tryz.prog 198 #[.string r,.string ⟨#[47]⟩] w fun e w'=>e=.returned (.int .i64 (Lib.indexByte r.data.toList 47))∧w=w':=
 callsIn_wide.2 ((Tryz.strings_Index_one _ _ _).mono fun _ _ ⟨he,hw⟩=>⟨he,hw.symm⟩)
theorem ZkL (n:Nat) (hn:3≤n) (l Bs Bp Bv:Nat) (h12:Bs≠Bp) (h13:Bs≠Bv) (s:ByteArray) (hs:s.size≤2000000) (J Jx:List ByteArray→World→Prop) (W:World) (hJ:ZiE Bs J)
 (hY:∀pre x W1,J pre W1→pre.length < 2000001→YieldAt Fence.wide (n - 1) Tryz.prog l #[.string x] W1 fun e W'=>(e=.returned (.bool true)∧J (pre++[x]) W'∧keep3 Bs Bp Bv W1 W')∨(e=.returned (.bool false)∧Jx (pre++[x]) W'))
 (h1:Boxed W Bs 9 (.string s)) (h2:Boxed W Bp 9 (.string Zov)) (h3:Boxed W Bv 3 (.int .i64 0)) (h0:J [] W):
 CallsIn Fence.wide n Tryz.prog 231 #[.func (.yield l) #[] #[],.pointer (some ⟨Bp,0,none⟩),.pointer (some ⟨Bs,0,none⟩),.pointer (some ⟨Bv,0,none⟩)] W fun e W'=>
  (∃v,e=.returned v)∧((∃ys:List ByteArray,ys.map bl=Zah (bl s)∧J ys W')∨(∃pre:List ByteArray,pre.map bl <+:Zah (bl s)∧Jx pre W')):=by
 have hn1:1≤n:=by omega
 have c1:=h1.cell;have c2:=h2.cell;have c3:=h3.cell;refine callsIn_of_wp Tryz.func231 rfl trivial ?_ rfl;simp only[Tryz.ntmps231,List.size_toArray,List.length_cons,List.length_nil,Nat.reduceAdd,Nat.reduceSub,Array.replicate_succ,Array.replicate_zero,List.push_toArray,List.append_toArray,List.nil_append,List.cons_append];unfold Zov at c2;gi_wp2
 gi_loopw [7] (fun _ wr=>∃(pre:List ByteArray) (r:ByteArray),Zah (bl s)=pre.map bl++Zah (bl r)∧pre.length + r.size≤s.size∧J pre wr∧Boxed wr Bs 9 (.string r)∧Boxed wr Bp 9 (.string ⟨#[47]⟩)∧Boxed wr Bv 3 (.int .i64 0))
  (fun _ wr=>lenAt wr Bs)
 case atStart=>exact⟨[],s,rfl,by simp,h0,h1,h2,h3⟩
 case round=>
  obtain⟨pre,r,hsp,hlen,hJs,b1,b2,b3⟩:=hrel;clear c1 c2 c3;have c1:=b1.cell;have c2:=b2.cell;have c3:=b3.cell;rcases Int.lt_or_le (Lib.indexByte (bl r) 47) 0 with hi|hi
  · have hsr:=idx_none hi;have hi':decide (Lib.indexByte r.data.toList 47 < 0)=true:=by simpa using hi
    gi_wp2_with fail
    refine⟨trivial,(Zhj _ _ _).mono ?_⟩;rintro e _ ⟨rfl,rfl⟩;obtain⟨fn,tmps,assign,body,hy,hR⟩:=hY pre r wr hJs (by omega);have hsp':=Hd hsp;have hsr':=Hd hsr;clear hsp hsr
    gi_wp2
    refine hR.mono ?_;rintro e W3 (⟨rfl,hJ3,hk3⟩|⟨rfl,hJx3⟩)
    · gi_wp2
      go_end0
      exact⟨⟨_,rfl⟩,.inl ⟨pre++[r],by rw[hsp'.out,hsr'.out];simp,hJ3⟩⟩
    gi_wp2
    go_end0
    exact⟨⟨_,rfl⟩,.inr ⟨pre++[r],by rw[hsp'.out,hsr'.out];simp,hJx3⟩⟩
  obtain⟨i,hi2⟩:=Int.eq_ofNat_of_zero_le hi;obtain⟨hilt,hsr⟩:=Zje hi2;have hi':decide (Lib.indexByte r.data.toList 47 < 0)=false:=by simpa using hi
  have hi3:=Hd hi2;have hrl:(bl r).length=r.size:=by simp
  have hil:i + 1≤r.size:=by omega
  have hsp':=Hd hsp;have hsr':=Hd hsr;clear hsp hsr hi2;gi_wp2_with fail
  refine⟨trivial,(Zhj _ _ _).mono ?_⟩;rintro e _ ⟨rfl,rfl⟩;rw[show Lib.indexByte r.data.toList 47=(i:Int) from hi3.out];clear hi hi' hi3 hilt hrl
  have hi':decide ((i:Int) < 0)=false:=by simp
  obtain⟨fn,tmps,assign,body,hy,hR⟩:=hY pre (r.extract 0 i) wr hJs (by omega);gi_wp2
  refine hR.mono ?_;have e1:bl (r.extract 0 i)=(bl r).take i:=by simp[bl]
  have e2:bl (r.extract (i + 1) r.size)=(bl r).drop (i + 1):=by simp only[bl];simp;rw[List.take_of_length_le (by simp)]
  have e1':=Hd e1;have e2':=Hd e2;clear e1 e2;rintro e W3 (⟨rfl,hJ3,hk3⟩|⟨rfl,hJx3⟩)
  · have d1:Boxed W3 Bs 9 (.string r):=(hk3 Bs (.inl rfl)).trans b1;have d2:Boxed W3 Bp 9 (.string ⟨#[47]⟩):=(hk3 Bp (.inr (.inl rfl))).trans b2;have d3:Boxed W3 Bv 3 (.int .i64 0):=(hk3 Bv (.inr (.inr rfl))).trans b3;have x1:=d1.cell;have x2:=d2.cell;have x3:=d3.cell;have f1:=d1.frozen;clear hR hy hk3;gi_wp2
    have g1:=d1.set (.string (r.extract (i + 1) r.size));go_roundw
    case rel=>
     refine⟨pre++[r.extract 0 i],r.extract (i + 1) r.size,?_,?_,?_,g1,d2.other (Ne.symm h12) _,d3.other (Ne.symm h13) _⟩
     · rw[hsp'.out,hsr'.out,e2'.out];simp[e1'.out]
     · simp;omega
     exact hJ _ _ _ (some Bs) hJ3 (grownBy_setCell' W3 Bs _) (fun q e=>by cases e;exact⟨rfl,_,g1,rfl⟩)
    case measure=>
     rw[Zi8 g1,Zi8 b1];simp;omega
  gi_wp2
  refine bodyPost_ret (results_none rfl _ _ _) rfl ?_;exact⟨⟨_,rfl⟩,.inr ⟨pre++[r.extract 0 i],⟨Zah ((bl r).drop (i + 1)),by rw[hsp'.out,hsr'.out,List.map_append,List.append_assoc];simp[e1'.out]⟩,hJx3⟩⟩
theorem ZgQ (s:ByteArray) (w:World):Calls Tryz.prog 173 #[.string s,.string ⟨#[47]⟩] w fun e w'=>
 e=.returned (.func (.func 231) #[] #[.pointer (some ⟨w.heap.size + 1,0,none⟩),.pointer (some ⟨w.heap.size,0,none⟩),.pointer (some ⟨w.heap.size + 2,0,none⟩)])∧
  w'=((w.alloc (.cells #[.string s] 9)).alloc (.cells #[.string ⟨#[47]⟩] 9)).alloc (.cells #[.int .i64 0] 3):=by
 have h1:Calls Tryz.prog 199 #[.string s,.string ⟨#[47]⟩,.int .i64 0] w fun e w'=>
  e=.returned (.func (.func 231) #[] #[.pointer (some ⟨w.heap.size + 1,0,none⟩),.pointer (some ⟨w.heap.size,0,none⟩),.pointer (some ⟨w.heap.size + 2,0,none⟩)])∧
   w'=((w.alloc (.cells #[.string s] 9)).alloc (.cells #[.string ⟨#[47]⟩] 9)).alloc (.cells #[.int .i64 0] 3):=by
  go_enter Tryz.func199,Tryz.ntmps199;go_wp2
  go_ret;exact⟨rfl,rfl⟩
 go_enter Tryz.func173,Tryz.ntmps173;go_wp2_with fail;refine h1.mono ?_;rintro e _ ⟨rfl,rfl⟩;go_wp2_with fail;go_ret;exact⟨rfl,rfl⟩
end Path
end
section
namespace Path
open Go.RowKit Go.Shelf
attribute [local go_sem] Oper.semAt_some
def strC (x:ByteArray):List Value:=[.string x]
theorem ZdW (x:ByteArray):(strC x).length=1:=rfl
theorem ZfW (x:ByteArray):∀u ∈ strC x,u.oneCell'=true:=by intro u hu;simp[strC] at hu;subst hu;rfl
def flatS (ws:List ByteArray):List Value:=ws.flatMap strC
abbrev rowS (v:Value) (ws:List ByteArray):Part:=Part.row 9 1 v ws.length (flatS ws)
theorem Zik:(Tryz.prog.info? 9).map (fun i=>(i.zero,i.size,i.bytes))=some (some (.string .empty),1,16):=by kernel_rfl
def WI (w:World) (N:Nat) (pre:List ByteArray) (W:World):Prop:=
 ∃(v:Value) (ws:List ByteArray),At [] w [Part.hole (N + 3),Part.cells (N + 2) [v] 162,rowS v ws,Part.cells N [.slice none 0 0] 162,Part.cells (N + 1) [.int .i64 0] 50,Part.hole (N + 4),Part.hole (N + 5)] W∧
  walkL [] (pre.map bl)=some (ws.map bl)∧ws.length≤pre.length
def WIx (w:World) (N:Nat) (c:Code) (pre:List ByteArray) (W:World):Prop:=
 c=.ret∧At [] w [Part.hole (N + 3),Part.cells N [.slice none 0 0] 162,Part.cells (N + 1) [.int .i64 30] 50] W∧walkL [] (pre.map bl)=none
theorem wi_own (w:World) (N B:Nat) (hB:w.heap.size≤B):OwnB (N + 3) B (WI w N):=by
 rintro pre W W' row ⟨v,ws,hA,h1,h2⟩ hg hr;refine⟨v,ws,hA.ownB sR ?_ hB hg hr,h1,h2⟩;intro A hA;simp only[List.mem_cons,List.not_mem_nil,or_false] at hA;rcases hA with rfl|rfl|rfl|rfl|rfl|rfl|rfl;all_goals first|exact Part.cl_hole _|exact Part.cl_cells _ _ _|exact Part.cl_row _ _ _ _ _
theorem ZoL (w:World) (N B:Nat) (hB:w.heap.size≤B) (c:Code):OwnB (N + 3) B (WIx w N c):=by
 rintro pre W W' row ⟨hc,hA,h1⟩ hg hr;refine⟨hc,hA.ownB sR ?_ hB hg hr,h1⟩;intro A hA;simp only[List.mem_cons,List.not_mem_nil,or_false] at hA;rcases hA with rfl|rfl|rfl;all_goals first|exact Part.cl_hole _|exact Part.cl_cells _ _ _
def ZbF:Option (List Bs)→Int
 |none=>30
 |some _=>0
def Zoh (s:ByteArray) (w:World) (e:Ending) (w':World):Prop:=
 ∃(v:Value) (ws:List ByteArray),e=.returned (.tuple #[v,.int .i64 (ZbF (walkL [] (Zah (bl s))))])∧At [] w [rowS v ws] w'∧(walkL [] (Zah (bl s))=some (ws.map bl)∨walkL [] (Zah (bl s))=none∧ws=[])∧ws.length≤s.size + 1
theorem Za1:∀l:Bs,(Zah l).length≤l.length + 1
 |[]=>by simp[Zah]
 |c::r=>by
  have ih:=Za1 r;rw[ZaK];split
  · simpa using ih
  simp;omega
theorem ZiH (l m acc:List Bs):walkL acc (l++m)=(walkL acc l).bind fun a=>walkL a m:=by
 induction l generalizing acc with
 |nil=>rfl
 |cons p l ih=>
  rw[List.cons_append,walkL,walkL]
  cases stepW acc p with
  |none=>rfl
  |some a=>exact ih a
theorem ZhS (n:Nat) (s:ByteArray) (w:World):CallsIn Fence.wide n Tryz.prog 173 #[.string s,.string ⟨#[47]⟩] w fun e w'=>
 e=.returned (.func (.func 231) #[] #[.pointer (some ⟨w.heap.size + 1,0,none⟩),.pointer (some ⟨w.heap.size,0,none⟩),.pointer (some ⟨w.heap.size + 2,0,none⟩)])∧
  ((w.alloc (.cells #[.string s] 9)).alloc (.cells #[.string ⟨#[47]⟩] 9)).alloc (.cells #[.int .i64 0] 3)=w':=
 callsIn_wide.2 ((ZgQ s w).mono fun _ _ ⟨he,hw⟩=>⟨he,hw.symm⟩)
theorem _root_.Go.Proofs.YtknoefbcmomalabGreatDoor.At.toHole {L0 L G:List Part} {w0 w:World} {b:Nat} {c:List Value} {T:TypeId} (h:At L0 w0 L w) (s:Sel (Part.cells b c T) L G):At L0 w0 (Part.hole b::G) w:=
 h.turn s (Part.hole b) ⟨_,(h.get s:Zaa w b c T),rfl⟩ (fun _ e=>.inl e) (Exc.refl _ _)
def Zcm (s:ByteArray) (w:World):World:=(((((w.alloc (.cells #[.slice none 0 0] 162)).alloc (.cells #[.int .i64 0] 50)).alloc (.cells #[.slice none 0 0] 162)).alloc (.cells #[.string s] 9)).alloc (.cells #[.string ⟨#[47]⟩] 9)).alloc (.cells #[.int .i64 0] 3)
theorem ZkI (s:ByteArray) (w:World):At [] w [rowS (.slice none 0 0) [],Part.hole (w.heap.size + 5),Part.hole (w.heap.size + 4),Part.hole (w.heap.size + 3),Part.cells (w.heap.size + 2) [.slice none 0 0] 162,Part.cells (w.heap.size + 1) [.int .i64 0] 50,Part.cells w.heap.size [.slice none 0 0] 162] (Zcm s w)∧
 Boxed (Zcm s w) (w.heap.size + 3) 9 (.string s)∧Boxed (Zcm s w) (w.heap.size + 4) 9 (.string ⟨#[47]⟩)∧Boxed (Zcm s w) (w.heap.size + 5) 3 (.int .i64 0)∧(Zcm s w).heap.size=w.heap.size + 6:=by
 have q:=(At.start (w0:=w) (L0:=[]) trivial).alloc [.slice none 0 0] 162;have q:=q.alloc [.int .i64 0] 50;have q:=q.alloc [.slice none 0 0] 162;have q:=q.alloc [.string s] 9;have q:=q.alloc [.string ⟨#[47]⟩] 9;have q:=q.alloc [.int .i64 0] 3;simp only[World.size_alloc,Nat.add_assoc,Nat.reduceAdd] at q;change At [] w _ (Zcm s w) at q;have b1:Boxed (Zcm s w) (w.heap.size + 3) 9 (.string s):=q.get (A:=Part.cells (w.heap.size + 3) [.string s] 9) sR;have b2:Boxed (Zcm s w) (w.heap.size + 4) 9 (.string ⟨#[47]⟩):=q.get (A:=Part.cells (w.heap.size + 4) [.string ⟨#[47]⟩] 9) sR;have b3:Boxed (Zcm s w) (w.heap.size + 5) 3 (.int .i64 0):=q.get (A:=Part.cells (w.heap.size + 5) [.int .i64 0] 3) sR;have q:=q.toHole (b:=w.heap.size + 3) sR;have q:=q.toHole (b:=w.heap.size + 4) sR;have q:=q.toHole (b:=w.heap.size + 5) sR;have q:=q.row_nil 9 1;exact⟨q,b1,b2,b3,by simp[Zcm]⟩
theorem Zob {w W W':World} {N B:Nat} {K K':List Part} (h:At [] w (K++[Part.hole (N + 3),Part.hole (N + 4),Part.hole (N + 5)]) W) (hc:∀A ∈ K,A.Cl) (t:At K W K' W'):
 KeepsFrom B W W'∧keep3 (N + 3) (N + 4) (N + 5) W W'∧At [] w (K'++[Part.hole (N + 3),Part.hole (N + 4),Part.hole (N + 5)]) W':=by
 obtain⟨s1,s2,s3⟩:=h.sep.apart2;refine⟨t.keepsFrom s1 hc B,fun b hb=> ?_,h.frame t⟩
 have key:∀H:Part,H ∈ [Part.hole (N + 3),Part.hole (N + 4),Part.hole (N + 5)]→H.foot b→W'.heap[b]? =W.heap[b]? :=fun H hH hf=>
  t.exc.block b (s2.lt hH hf) (fun⟨A,hA,ha⟩=>s3 A hA H hH b ha hf)
 rcases hb with rfl|rfl|rfl
 · exact key (Part.hole (N + 3)) (by simp) rfl
 · exact key (Part.hole (N + 4)) (by simp) rfl
 exact key (Part.hole (N + 5)) (by simp) rfl
theorem ZiN {acc:List Bs}:stepW acc []=some acc:=by simp[stepW]
theorem ZiO {acc:List Bs}:stepW acc [46]=some acc:=by simp[stepW]
theorem ZfX:stepW [] [46,46]=none:=by simp[stepW]
theorem ZkG {acc:List Bs} (h:acc≠[]):stepW acc [46,46]=some acc.dropLast:=by simp[stepW,h]
theorem ZkH {acc:List Bs} {p:Bs} (h0:p≠[]) (h1:p≠[46]) (h2:p≠[46,46]) (h:partB p=false):stepW acc p=none:=by
 have h3:¬p.all letB=true:=fun q=>by rw[Zcq.2 ⟨h0,q⟩] at h;cases h
 simp[stepW,h0,h1,h2,h3]
theorem Zb3 {x y:ByteArray} (h:bl x=bl y):x=y:=Go.WideShapes.bytes_inj h
theorem Zks {pre:List ByteArray} {x:ByteArray} {acc:List Bs} (h:walkL [] (pre.map bl)=some acc):walkL [] ((pre++[x]).map bl)=stepW acc (bl x):=by
 rw[List.map_append,ZiH,h];simp only[List.map_cons,List.map_nil,Option.bind_some,walkL];cases stepW acc (bl x)<;>rfl
theorem _root_.Go.Proofs.YtknoefbcmomalabGreatDoor.At.trans {L0 L L':List Part} {w0 w w':World} (h:At L0 w0 L w) (t:At L w L' w'):At L0 w0 L' w':=by
 have:=At.frame (F:=[]) (K:=L) (by simpa using h) t
 simpa using this
def WAct (s:ByteArray) (w:World) (x:ByteArray):Act:=
 {tmps:= #[.string s,undef,.pointer (some ⟨w.heap.size,0,none⟩),.pointer (some ⟨w.heap.size + 1,0,none⟩),.pointer (some ⟨w.heap.size + 2,0,none⟩),.string x,.string s,.func (.func 231) #[] #[.pointer (some ⟨w.heap.size + 4,0,none⟩),.pointer (some ⟨w.heap.size + 3,0,none⟩),.pointer (some ⟨w.heap.size + 5,0,none⟩)],.string x,
  undef,undef,undef,undef,undef,undef,undef,undef,undef,undef,undef,undef,undef,undef,undef,undef,undef,undef,undef,undef,undef,undef,undef,undef,undef,undef,undef,undef,undef,undef,undef,undef],defers:=[]}
theorem Zmy (s:ByteArray) (w:World) (hs:s.size≤2000000):Calls Tryz.prog 148 #[.string s] w (Zoh s w):=by
 obtain⟨i0,hi0,hz0,hz1,hz2⟩:=info_parts Zik;refine(callsIn_wide (n:=9)).1 ?_;refine callsIn_of_wp_marks Tryz.func148 rfl trivial ?_ rfl;simp only[Tryz.ntmps148,List.size_toArray,List.length_cons,List.length_nil,Nat.reduceAdd,Nat.reduceSub,Array.replicate_succ,Array.replicate_zero,List.push_toArray,List.append_toArray,List.nil_append,List.cons_append];gi_wp2
 refine⟨trivial,(ZhS 8 s _).mono ?_⟩;rintro e _ ⟨rfl,rfl⟩
 gi_wp2
 obtain⟨W5,hW5⟩:∃W5,Zcm s w=W5:=⟨_,rfl⟩
 obtain⟨q,b1,b2,b3,hsz⟩:=ZkI s w;simp only[World.size_alloc,Nat.add_assoc,Nat.reduceAdd];rw[show((((((w.alloc (.cells #[.slice none 0 0] 162)).alloc (.cells #[.int .i64 0] 50)).alloc (.cells #[.slice none 0 0] 162)).alloc (.cells #[.string s] 9)).alloc (.cells #[.string ⟨#[47]⟩] 9)).alloc (.cells #[.int .i64 0] 3))=W5 from hW5];rw[hW5] at q b1 b2 b3 hsz;clear hW5
 refine ZdV rfl (by omega) (gf:=231) (lb:= #[.pointer (some ⟨w.heap.size + 4,0,none⟩),.pointer (some ⟨w.heap.size + 3,0,none⟩),.pointer (some ⟨w.heap.size + 5,0,none⟩)]) rfl trivial (enters_of Tryz.func231 (by kernel_rfl) rfl)
  (encs:=fun x:ByteArray=> #[.string x]) (Bs:=w.heap.size + 3) (Kp:=keep3 (w.heap.size + 3) (w.heap.size + 4) (w.heap.size + 5)) (S:=fun xs=>xs.map bl=Zah (bl s)) (Sp:=fun pre=>pre.map bl <+:Zah (bl s)) (N:=2000001)
  (fun l J Jx W hW hJ hY h0=>ZkL _ (by omega) l _ _ _ (by omega) (by omega) s hs J Jx W hJ hY ((hW.block _ b1.lt).trans b1) ((hW.block _ b2.lt).trans b2) ((hW.block _ b3.lt).trans b3) h0)
  (by omega) (fun h k b hb=>(k b hb).trans (h b hb)) (fun W l o' hl b hb=>World.putObj_heap_other (by omega)) (fun _=>rfl)
  (WI w w.heap.size) (WIx w w.heap.size) (wi_own _ _ _ (by omega)) (ZoL _ _ _ (by omega)) ⟨_,[],q.pick pR,rfl,by simp⟩ (WAct s w) ?assign ?body ?done ?stop
 case assign=>
  intro l x W K hK;gi_wp2
  exact hK
 case body=>
  rintro l pre x W ⟨v,ws,hA,hwk,hle⟩ hlen;have h0:=hA.pick (K:=[Part.cells (w.heap.size + 2) [v] 162,rowS v ws,Part.cells w.heap.size [.slice none 0 0] 162,Part.cells (w.heap.size + 1) [.int .i64 0] 50,Part.hole (w.heap.size + 3),Part.hole (w.heap.size + 4),Part.hole (w.heap.size + 5)]) pR;have h1:At [] w ([Part.cells (w.heap.size + 2) [v] 162,rowS v ws,Part.cells w.heap.size [.slice none 0 0] 162,Part.cells (w.heap.size + 1) [.int .i64 0] 50]++[Part.hole (w.heap.size + 3),Part.hole (w.heap.size + 4),Part.hole (w.heap.size + 5)]) W:=h0
  have hcl:∀A ∈ [Part.cells (w.heap.size + 2) [v] 162,rowS v ws,Part.cells w.heap.size [.slice none 0 0] 162,Part.cells (w.heap.size + 1) [.int .i64 0] 50],A.Cl:=by
   intro A hA;simp only[List.mem_cons,List.not_mem_nil,or_false] at hA;rcases hA with rfl|rfl|rfl|rfl;all_goals first|exact Part.cl_cells _ _ _|exact Part.cl_row _ _ _ _ _
  have hfin:=fun(B:Nat) (K':List Part) (W':World) (t:At _ W K' W')=>Zob (B:=B) h1 hcl t;have hA2:=At.start h1.sep.apart2.1;have hsn:=fun x=>Hd (Zks (x:=x) hwk);clear hA h0 h1 hcl hwk hsz q b1 b2 b3;have hA:=hA2;clear hA2;obtain⟨hA,hF⟩:=fZ hA;unfold WAct;by_cases e0:bl x=[]∨bl x=[46]
  · have hk:stepW (ws.map bl) (bl x)=some (ws.map bl):=by rcases e0 with e|e<;>rw[e]<;>first|exact ZiN|exact ZiO
    have hk':=Hd hk;clear hk;rcases e0 with e0|e0
    · obtain rfl:x=⟨#[]⟩:=Zb3 e0;gi_wp2
      obtain⟨k1,k2,k3⟩:=hfin _ _ _ hA;simp only[List.cons_append,List.nil_append] at k3;exact⟨k1,k2,v,ws,k3.pick pR,by rw[(hsn _).out,hk'.out],by simp;omega⟩
    obtain rfl:x=⟨#[46]⟩:=Zb3 e0;gi_wp2
    obtain⟨k1,k2,k3⟩:=hfin _ _ _ hA;simp only[List.cons_append,List.nil_append] at k3;exact⟨k1,k2,v,ws,k3.pick pR,by rw[(hsn _).out,hk'.out],by simp;omega⟩
  by_cases e1:bl x=[46,46]
  · obtain rfl:x=⟨#[46,46]⟩:=Zb3 e1;clear e0;obtain⟨ax,cap,rfl,hax,hcap,_⟩:=hA.row_form (v:=v) (xs:=flatS ws) sR;by_cases e2:ws=[]
    · subst e2
      gi_wp2_with (refine ZaY (by exact fun _=>trivial) rfl rfl rfl (by(try simp only[Act.eval,eV])<;>exact rfl) (by exact rfl) hA sR (by kernel_rfl) rfl (by first|decide|(simp;done)|omega) ?_;intro w1 hB;replace hA:=hB;clear hF hB;obtain⟨hA,hF⟩:=fZ hA)
      obtain⟨k1,k2,k3⟩:=hfin _ _ _ hA;simp only[List.cons_append,List.nil_append] at k3;exact⟨k1,rfl,k3.pick pR,by rw[(hsn _).out];exact ZfX⟩
    have hl:0 < ws.length:=List.length_pos_iff.2 e2;have hl1:((ws.length:Int)==0)=false:=by simpa using e2
    have hl2:=Hd (show((ws.length:Int) - 1)=((ws.length - 1:Nat):Int) by omega);have e2':=Hd e2;clear e2
    gi_wp2_with (first|(refine ZaY (by exact fun _=>trivial) rfl rfl rfl (by(try simp only[Act.eval,eV])<;>exact rfl) (by exact rfl) hA sR (by kernel_rfl) rfl (by first|decide|(simp;done)|omega) ?_;intro w1 hB;replace hA:=hB;clear hF hB;obtain⟨hA,hF⟩:=fZ hA)|(refine Zec (k:=ws.length - 1) (by exact fun _=>trivial) rfl rfl Tryz.underlying162 hi0 hz1 (by(try simp only[Act.eval,eV])<;>exact rfl) (by exact congrArg (Value.int .i64) hl2.out) hA sR (by omega) ?_;intro v1 hB;obtain⟨ax3,n3,cap3,hv3,hn3⟩:=hB.row_hid .here;subst hv3;replace hA:=hB;clear hF hB;obtain⟨hA,hF⟩:=fZ hA))
    have e3:(flatS ws).take ((ws.length - 1) * 1)=flatS ws.dropLast:=by
     unfold flatS;rw[Zbj ZdW,List.dropLast_eq_take]
    have e4:ws.length - 1=ws.dropLast.length:=by simp
    rw[e3] at hA;have hA2:At _ W _ w1:=hA;rw[e4] at hA2;obtain⟨k1,k2,k3⟩:=hfin _ _ _ hA2;simp only[List.cons_append,List.nil_append] at k3;exact⟨k1,k2,_,ws.dropLast,k3.pick pZ,by rw[(hsn _).out];exact(ZkG (by simpa using e2'.out)).trans (by rw[List.map_dropLast]),by simp;omega⟩
  have n0:x.toList.isEmpty=false:=by
   rw[Lib.toList_data];cases q:x.data.toList
   · exact absurd (Or.inl q) e0
   rfl
  have n1:(x.toList==[46])=false:=by rw[Lib.toList_data];simpa using fun q=>e0 (Or.inr q)
  have n2:(x.toList==[46,46])=false:=by rw[Lib.toList_data];simpa using e1
  have hne:bl x≠[]:=fun q=>e0 (Or.inl q);cases hp:partB (bl x)
  · have hk:=Hd (ZkH (acc:=ws.map bl) hne (fun q=>e0 (Or.inr q)) e1 hp);clear e0 e1 hne;obtain⟨ax,cap,rfl,hax,hcap,_⟩:=hA.row_form (v:=v) (xs:=flatS ws) sR;gi_wp2_with fail
    refine⟨trivial,(CallsIn.inRound l (callsIn_wide.2 (Zi4 x W))).mono ?_⟩;rw[show partB x.data.toList=false from hp];rintro e w1 ⟨rfl,hT⟩;replace hA:=hA.ext hT;clear hF hT;obtain⟨hA,hF⟩:=fZ hA
    gi_wp2_with (refine ZaY (by exact fun _=>trivial) rfl rfl rfl (by(try simp only[Act.eval,eV])<;>exact rfl) (by exact rfl) hA sR (by kernel_rfl) rfl (by first|decide|(simp;done)|omega) ?_;intro w1 hB;replace hA:=hB;clear hF hB;obtain⟨hA,hF⟩:=fZ hA)
    obtain⟨k1,k2,k3⟩:=hfin _ _ _ hA;simp only[List.cons_append,List.nil_append] at k3;exact⟨k1,rfl,k3.pick pR,by rw[(hsn _).out];exact hk.out⟩
  have hk:=Hd (Zem (acc:=ws.map bl) hp);clear e0 e1 hne;obtain⟨ax,kn,cap,hv0,hkn⟩:=hA.row_hid (v:=v) (xs:=flatS ws) sR;subst hv0;gi_wp2_with fail
  refine⟨trivial,(CallsIn.inRound l (callsIn_wide.2 (Zi4 x W))).mono ?_⟩;rw[show partB x.data.toList=true from hp];rintro e w1 ⟨rfl,hT⟩;replace hA:=hA.ext hT;clear hF hT;obtain⟨hA,hF⟩:=fZ hA
  gi_wp2_with (first|(refine ZaY (by exact fun _=>trivial) rfl rfl rfl (by(try simp only[Act.eval,eV])<;>exact rfl) (by exact rfl) hA sR (by kernel_rfl) rfl (by first|decide|(simp;done)|omega) ?_;intro w1 hB;replace hA:=hB;clear hF hB;obtain⟨hA,hF⟩:=fZ hA;try go_frame)|(refine Zeb (e:=9) (vs:=strC x) (by exact fun _=>trivial) rfl rfl (by(try simp only[Act.eval,eV])<;>exact rfl) (fun _=>by kernel_rfl) hA ?_;intro b2 w1 hB hb2;replace hA:=hB;clear hF hB;obtain⟨hA,hF⟩:=fZ hA;try go_frame)|(refine Zc1 (e:=9) (size:=1) (v:=.slice ax kn cap) (xs:=flatS ws) (m0:=ws.length) (m:=1) (news:=strC x) (by exact fun _=>trivial) rfl _ _ 162 rfl Tryz.underlying162 hi0 hz0 hz1 hz2 rfl (by omega) hA sR (by(try simp only[Act.eval,eV])<;>exact rfl) (by(try simp only[Act.eval,eV])<;>exact rfl) rfl (hA.cells_reads sR _ _) (ZfW x) (by unfold maxLen;omega) (by omega) ?_;intro v1 w1 hB;obtain⟨ax3,n3,cap3,hv3,hn3⟩:=hB.row_hid .here;subst hv3;replace hA:=hB;clear hF hB;obtain⟨hA,hF⟩:=fZ hA;try go_frame))
  rw[show flatS ws++strC x=flatS (ws++[x]) by simp[flatS,List.flatMap_append],show ws.length + 1=(ws++[x]).length by simp] at hA;obtain⟨k1,k2,k3⟩:=hfin _ _ _ hA;simp only[List.cons_append,List.nil_append] at k3;exact⟨k1,k2,_,ws++[x],k3.pick pZ,by rw[(hsn _).out];exact hk.out.trans (by simp),by simp;omega⟩
 case done=>
  rintro D xs W hD hS ⟨v,ws,hA,hwk,hle⟩ hK;rw[hS] at hwk;obtain⟨ax,kn,cap,hv0,hkn⟩:=hA.row_hid (v:=v) (xs:=flatS ws) sR;subst hv0;have hwk':=Hd hwk;have hSl:xs.length=(Zah (bl s)).length:=by rw[←hS];simp
  have hS':=Hd hSl;have hK':=Hd hK;clear hS hwk hSl hK
  have hcl:∀A ∈ [Part.hole (w.heap.size + 3),Part.cells (w.heap.size + 2) [.slice ax kn cap] 162,rowS (.slice ax kn cap) ws,Part.cells w.heap.size [.slice none 0 0] 162,Part.cells (w.heap.size + 1) [.int .i64 0] 50,Part.hole (w.heap.size + 4),Part.hole (w.heap.size + 5)],A.Cl:=by
   intro A hA;simp only[List.mem_cons,List.not_mem_nil,or_false] at hA;rcases hA with rfl|rfl|rfl|rfl|rfl|rfl|rfl;all_goals first|exact Part.cl_hole _|exact Part.cl_cells _ _ _|exact Part.cl_row _ _ _ _ _
  have hcl2:∀A ∈ [Part.cells (w.heap.size + 1) [.int .i64 0] 50,Part.cells w.heap.size [.slice ax kn cap] 162,Part.hole (w.heap.size + 3),Part.cells (w.heap.size + 2) [.slice ax kn cap] 162,rowS (.slice ax kn cap) ws,Part.hole (w.heap.size + 4),Part.hole (w.heap.size + 5)],A.Cl:=by
   intro A hA;simp only[List.mem_cons,List.not_mem_nil,or_false] at hA;rcases hA with rfl|rfl|rfl|rfl|rfl|rfl|rfl;all_goals first|exact Part.cl_hole _|exact Part.cl_cells _ _ _|exact Part.cl_row _ _ _ _ _
  have hbk:=fun(L':List Part) (W':World) (t:At _ W L' W')=>(⟨hA.trans t,(t.keepsFrom hA.sep hcl 0).same D _ (Nat.zero_le _) hK'.out rfl⟩:At [] w L' W'∧W'.heap[D]? =some (.deferred (some [])))
  have hA2:=At.start hA.sep;clear hA hcl;have hA:=hA2;clear hA2;obtain⟨hA,hF⟩:=fZ hA
  gi_wp2_with (refine ZaY (by exact fun _=>trivial) rfl rfl rfl (by(try simp only[Act.eval,eV])<;>exact rfl) (by exact rfl) hA sR (by kernel_rfl) rfl (by first|decide|(simp;done)|omega) ?_;intro w1 hB;replace hA:=hB;clear hF hB;obtain⟨hA,hF⟩:=fZ hA;try go_frame)
  obtain⟨g1,g2⟩:=hbk _ _ hA;have g3:=g1.ownB (Bs:=w.heap.size + 3) sR hcl2 (B:=W5.heap.size) (by omega) (grownBy_putObj' w1 D (.deferred none)) (fun r e=>by cases e;exact .inr ⟨hD,_,g2,rfl⟩);have hF3:=g3.facts;(try simp only[Zfz,Zhr,ZeO,Zhp,Zfy,Zhq,Zhs,Zfx,Zdh,and_true,true_and] at hF3)
  clear hF hA hbk hcl2 g1;refine⟨by simp,.inl ⟨_,_,rfl,run_takeDeferred g2,?_⟩⟩;refine⟨.tuple #[.slice ax kn cap,.int .i64 0],by simp[results,Tryz.results148,go_sem,hF3],?_⟩;have hl:=Za1 (bl s);have hl2:=hS'.out;have hl3:(bl s).length=s.size:=by simp
  exact⟨_,ws,by rw[hwk'.out];rfl,g3.pick pR,.inl hwk'.out,by omega⟩
 case stop=>
  rintro D c pre W hD hS ⟨rfl,hA,hwk⟩ hK
  have hnone:walkL [] (Zah (bl s))=none:=by
   obtain⟨r,hr⟩:=hS;rw[←hr,ZiH,hwk];rfl
  have hn':=Hd hnone;clear hS hwk hnone
  have hcl:∀A ∈ [Part.hole (w.heap.size + 3),Part.cells w.heap.size [.slice none 0 0] 162,Part.cells (w.heap.size + 1) [.int .i64 30] 50],A.Cl:=by
   intro A hA;simp only[List.mem_cons,List.not_mem_nil,or_false] at hA;rcases hA with rfl|rfl|rfl;all_goals first|exact Part.cl_hole _|exact Part.cl_cells _ _ _
  have g3:=hA.ownB (Bs:=w.heap.size + 3) sR hcl (B:=W5.heap.size) (by omega) (grownBy_putObj' W D (.deferred none)) (fun r e=>by cases e;exact .inr ⟨hD,_,hK,rfl⟩);have hF3:=g3.facts;(try simp only[Zfz,Zhr,ZeO,Zhp,Zfy,Zhq,Zhs,Zfx,Zdh,and_true,true_and] at hF3)
  have g4:=g3.row_nil 9 1;clear hA hcl;gi_wp2
  refine⟨by simp,.inl ⟨_,_,rfl,run_takeDeferred hK,?_⟩⟩;refine⟨.tuple #[.slice none 0 0,.int .i64 30],by simp[results,Tryz.results148,go_sem,hF3],?_⟩;exact⟨_,[],by rw[hn'.out];rfl,g4.pick pZ,.inr ⟨hn'.out,rfl⟩,by simp⟩
end Path
end
section
namespace Path
open Go.RowKit
theorem ZfQ:∀{l acc a:List Bs},walkL acc l=some a→∀q ∈ a,q ∈ acc∨q ∈ l
 |[],acc,a,h,q,hq=>by simp[walkL] at h;subst h;exact .inl hq
 |p::r,acc,a,h,q,hq=>by
  rw[walkL] at h
  cases hs:stepW acc p with
  |none=>simp[hs] at h
  |some b=>
   simp only[hs] at h;rcases ZfQ h q hq with h1|h1
   · unfold stepW at hs;split at hs
     · cases hs;exact .inl h1
     split at hs
     · split at hs
       · cases hs
       cases hs;exact .inl (List.dropLast_subset _ h1)
     split at hs
     · cases hs;rcases List.mem_append.1 h1 with h1|h1
       · exact .inl h1
       rw[List.mem_singleton.1 h1];exact .inr (by simp)
     cases hs
   exact .inr (by simp[h1])
theorem ZbU:∀(s:Bs),∀q ∈ Zah s,q.length≤s.length
 |[],q,hq=>by simp[Zah] at hq;subst hq;simp
 |c::r,q,hq=>by
  have ih:=ZbU r;rw[ZaK] at hq;split at hq
  · rcases List.mem_cons.1 hq with rfl|hq
    · simp
    have:=ih q hq;simp;omega
  cases hs:Zah r with
  |nil=>exact absurd hs (Zbg r)
  |cons a b=>
   rw[hs] at hq ih;simp only[List.headD_cons,List.tail_cons] at hq;rcases List.mem_cons.1 hq with rfl|hq
   · have:=ih a (by simp);simp;omega
   have:=ih q (by simp[hq]);simp;omega
theorem Zjc:∀(l:List Bs) (m:Nat),(∀q ∈ l,q.length≤m)→(joinS l).length≤l.length * (m + 1)
 |[],m,_=>by simp[joinS,Lib.join]
 |[p],m,h=>by rw[join_one];have:=h p (by simp);simp;omega
 |p::q::r,m,h=>by
  rw[ZbK _ _ (by simp)];have ih:=Zjc (q::r) m (fun x hx=>h x (by simp[hx]));have:=h p (by simp);simp only[List.length_append,List.length_cons] at ih ⊢;have e:(r.length + 1 + 1) * (m + 1)=(r.length + 1) * (m + 1) + (m + 1):=by rw[Nat.add_mul (r.length + 1)];omega
  omega
theorem Zgl {s:Bs} {l:List Bs} (h:walkL [] (Zah s)=some l):(joinS l).length≤l.length * (s.length + 1):=
 Zjc l s.length (fun q hq=>by
  rcases ZfQ h q hq with h1|h1
  · simp at h1
  exact ZbU s q h1)
theorem ZcF {c:List Value} {ws:List ByteArray} (ht:c.take (ws.length * 1)=flatS ws) {j:Nat} {x:ByteArray} (hx:ws[j]? =some x):c[j]? =some (.string x):=by
 have:=Zae ZdW (enc:=strC) ht hx 0 (by omega)
 simpa [strC] using this
def Zol (s:ByteArray) (w:World) (e:Ending) (w':World):Prop:=
 ∃q:ByteArray,e=.returned (.tuple #[.string q,.int .i64 (normL (bl s)).2])∧bl q=(normL (bl s)).1∧Ext w w'
theorem ZjV (s:ByteArray) (w:World) (hs:s.size≤2000000):Calls Tryz.prog 109 #[.string s] w (Zol s w):=by
 have hA:=At.start (w0:=w) (L0:=[]) trivial;have hF:=hA.facts;go_enter Tryz.func109,Tryz.ntmps109;go_wp2_with fail;refine(Zmy s w hs).mono ?_;rintro e w1 ⟨v,ws,rfl,hT,hres,hlen⟩;replace hA:=hA.call0 hT;clear hF hT;simp only[List.append_nil] at hA;obtain⟨ax,cap,hv,hax0,hcap0,_⟩:=hA.row_form (v:=v) (n:=ws.length) (xs:=flatS ws) sR;subst hv;have hcap:=Hd hcap0;clear hax0 hcap0
 have hn:normL (bl s)=(match walkL [] (Zah (bl s)) with
  |none=>([],30)
  |some l=>if l=[] then([],13) else if 8 < l.length then([],31) else if 64 < (joinS l).length then([],11) else(joinS l,0)):=rfl
 rcases hres with hre|⟨hre,hw0⟩
 · rw[hre] at hn;simp only at hn;have hjl:=Zgl hre;rw[hre];simp only[ZbF];simp only[List.length_map] at hjl hn;by_cases e1:ws=[]
   · subst e1;simp only[List.map_nil,if_pos] at hn;have hn':=Hd hn;clear hn hre hjl hlen hcap;obtain⟨hA,hF⟩:=fZ hA;go_wp2_with fail;go_ret2;exact⟨⟨#[]⟩,by rw[hn'.out];rfl,by rw[hn'.out],hA.toExt⟩
   rw[if_neg (by simpa using e1)] at hn;have hl0:((ws.length:Int)==0)=false:=by simpa using e1
   by_cases e2:8 < ws.length
   · rw[if_pos e2] at hn;have hn':=Hd hn;clear hn hre hjl hlen hcap e1;obtain⟨hA,hF⟩:=fZ hA;go_wp2_with fail;go_ret2;exact⟨⟨#[]⟩,by rw[hn'.out];rfl,by rw[hn'.out],hA.toExt⟩
   rw[if_neg e2] at hn;have hl1:0 < ws.length:=List.length_pos_iff.2 e1;obtain⟨g,c,hax,_,hcm,hcl,hct,hB⟩:=hA.row_open (ax:=ax) (cap:=cap) (n:=ws.length) (xs:=flatS ws) sR hl1;subst hax
   have hj:(Lib.join (ws.map (·.data.toList)) [47]).length≤140737488355328:=by
    have h1:(joinS (ws.map bl)).length≤ws.length * (s.size + 1):=by simpa using hjl
    have h2:ws.length * (s.size + 1)≤8 * 2000001:=Nat.mul_le_mul (by omega) (by omega);have h3:(Lib.join (ws.map (·.data.toList)) [47]).length=(joinS (ws.map bl)).length:=rfl;omega
   have hcl':g < w1.heap.size:=(hB.get (A:=Part.cells g c 9) sR:Zaa w1 g c _).lt
   have hjoin:=Tryz.strings_Join g 0 cap ws ⟨#[47]⟩ w1 (fun j x hx=>by
    rw[Nat.zero_add]
    exact((hB.get (A:=Part.cells g c 9) sR:Zaa w1 g c _).cell j).trans (ZcF hct hx)) hcl' (by omega) hcap.out hj
   clear hA;have hA:=hB;have hext:Ext w w1:=hA.toExt;clear hB hre hlen e1;have hn':=Hd hn;have hct':=Hd hct;have hcl2:=Hd hcl;clear hn hct hcl hjl hj;go_wp2_with fail;refine hjoin.mono ?_;clear hjoin;rintro e w2 ⟨rfl,hb⟩;have hext2:=hext.trans hb;clear hb hext hA
   obtain⟨jn,hjn⟩:∃q:ByteArray,(⟨(Lib.join (ws.map (·.data.toList)) [47]).toArray⟩:ByteArray)=q:=⟨_,rfl⟩
   have hjb:joinS (ws.map bl)=bl jn:=by rw[←hjn];rfl
   have hjs:(joinS (ws.map bl)).length=jn.size:=by rw[hjb];simp
   have hjb':=Hd hjb;have hn2:=hn'.out;rw[hjs] at hn2;rw[hjn];clear hjn hjb hjs hn' hct' hcl2;by_cases e3:64 < jn.size
   · rw[if_pos e3] at hn2;have hn3:=Hd hn2;clear hn2;go_wp2_with fail;go_ret2;exact⟨⟨#[]⟩,by rw[hn3.out];rfl,by rw[hn3.out],hext2⟩
   rw[if_neg e3] at hn2;have hn3:=Hd hn2;clear hn2;go_wp2_with fail;go_ret2;exact⟨jn,by rw[hn3.out];rfl,by rw[hn3.out];exact hjb'.out.symm,hext2⟩
 rw[hre] at hn;simp only at hn;subst hw0;rw[hre];simp only[ZbF];have hn':=Hd hn;clear hn hre hlen hcap;obtain⟨hA,hF⟩:=fZ hA;go_wp2_with fail;go_ret2;exact⟨⟨#[]⟩,by rw[hn'.out];rfl,by rw[hn'.out],hA.toExt⟩
end Path
end
section
namespace Path
open Go.RowKit
theorem eqB (s q:ByteArray):(s.toList==q.toList)=decide (bl s=bl q):=by
 rw[Lib.toList_data,Lib.toList_data];cases h:(s.data.toList==q.data.toList)
 · symm;simpa using h
 symm;simpa using h
theorem right_any (s:ByteArray) (w:World) (hs:s.size≤2000000):Calls Tryz.prog 70 #[.string s] w fun e w'=>e=.returned (.bool (Zaf (bl s)))∧Ext w w':=by
 have hr:=Zfj (bl s);go_enter Tryz.func70,Tryz.ntmps70;go_wp2_with fail;refine(ZjV s w hs).mono ?_;rintro e w1 ⟨q,rfl,hq,hx⟩;rw[←hq] at hr;have heq:=eqB s q
 obtain⟨n2,hn2⟩:∃n,(normL (bl s)).2=n:=⟨_,rfl⟩
 rw[hn2] at hr ⊢;clear hn2 hq;by_cases h0:n2=0
 · subst h0;by_cases h1:bl s=bl q
   · have hb:Zaf (bl s)=true:=hr.1 ⟨rfl,h1.symm⟩;rw[decide_eq_true h1] at heq;have hb':=Hd hb;clear hb hr h1;go_wp2_with fail;go_ret;exact⟨by rw[hb'.out];rfl,hx⟩
   have hb:Zaf (bl s)=false:=by
    cases hb:Zaf (bl s)
    · rfl
    exact absurd (hr.2 hb).2.symm h1
   rw[decide_eq_false h1] at heq;have hb':=Hd hb;clear hb hr h1;go_wp2_with fail;go_ret;exact⟨by rw[hb'.out];rfl,hx⟩
 have hb:Zaf (bl s)=false:=by
  cases hb:Zaf (bl s)
  · rfl
  exact absurd (hr.2 hb).1 h0
 have hb':=Hd hb;have h0':(n2==0)=false:=by simpa using h0
 clear hb hr h0 heq;go_wp2_with fail;go_ret;exact⟨by rw[hb'.out];rfl,hx⟩
theorem ZbB {s:ByteArray} {b:Bool} (w:World) (hs:s.size≤2000000) (hb:Zaf (bl s)=b):Calls Tryz.prog 70 #[.string s] w fun e w'=>e=.returned (.bool b)∧Ext w w':=hb ▸ right_any s w hs
theorem pre_is (q p:ByteArray) (w:World):Calls Tryz.prog 178 #[.string q,.string p] w fun e w'=>e=.returned (.bool ((bl p).isPrefixOf (bl q)))∧w=w':=
 (Tryz.strings_HasPrefix q p w).mono fun _ _ ⟨he,hw⟩=>⟨he,hw.symm⟩
theorem Ze2 (p q:ByteArray) (w:World) (hp:p.size≤2000000) (hq:q.size≤2000000):Calls Tryz.prog 150 #[.string p,.string q] w fun e w'=>e=.returned (.bool (Zan (bl p) (bl q)))∧Ext w w':=by
 have heq:=eqB p q;cases h1:Zaf (bl p)
 · have hb:=Hd (show Zan (bl p) (bl q)=false by simp[Zan,h1]);clear heq;go_enter Tryz.func150,Tryz.ntmps150;go_wp2_with fail;refine(ZbB w hp h1).mono ?_;rintro e w1 ⟨rfl,hx⟩;go_wp2_with fail;go_ret;exact⟨by rw[hb.out];rfl,hx⟩
 cases h2:Zaf (bl q)
 · have hb:=Hd (show Zan (bl p) (bl q)=false by simp[Zan,h1,h2]);clear heq;go_enter Tryz.func150,Tryz.ntmps150;go_wp2_with fail;refine(ZbB w hp h1).mono ?_;rintro e w1 ⟨rfl,hx⟩;go_wp2_with fail;refine(ZbB w1 hq h2).mono ?_;rintro e w2 ⟨rfl,hx2⟩;go_wp2_with fail;go_ret;exact⟨by rw[hb.out];rfl,hx.trans hx2⟩
 by_cases h3:bl p=bl q
 · have hb:=Hd (show Zan (bl p) (bl q)=true by simp[Zan,h1,h2,h3]);rw[decide_eq_true h3] at heq;clear h3;go_enter Tryz.func150,Tryz.ntmps150;go_wp2_with fail;refine(ZbB w hp h1).mono ?_;rintro e w1 ⟨rfl,hx⟩;go_wp2_with fail;refine(ZbB w1 hq h2).mono ?_;rintro e w2 ⟨rfl,hx2⟩;go_wp2_with fail;go_ret;exact⟨by rw[hb.out];rfl,hx.trans hx2⟩
 have hb:=Hd (show Zan (bl p) (bl q)=(bl p++[47]).isPrefixOf (bl q) by simp[Zan,h1,h2,h3]);rw[decide_eq_false h3] at heq;clear h3;go_enter Tryz.func150,Tryz.ntmps150;go_wp2_with fail;refine(ZbB w hp h1).mono ?_;rintro e w1 ⟨rfl,hx⟩;go_wp2_with fail;refine(ZbB w1 hq h2).mono ?_;rintro e w2 ⟨rfl,hx2⟩;go_wp2_with fail;refine(pre_is _ _ _).mono ?_;rintro e _ ⟨rfl,rfl⟩;have hpa:bl (p++⟨#[47]⟩)=bl p++[47]:=by simp[bl]
 rw[hpa,←hb.out];clear hpa
 obtain⟨bb,hbb⟩:∃b,Zan (bl p) (bl q)=b:=⟨_,rfl⟩
 rw[hbb];have hbb':=Hd hbb;clear hb hbb;cases bb
 all_goals
  go_wp2_with fail;go_ret;exact⟨by rw[hbb'.out];rfl,hx.trans hx2⟩
theorem Zey (p q:ByteArray) (w:World) (hp:p.size≤2000000) (hq:q.size≤2000000):Calls Tryz.prog 172 #[.string p,.string q] w fun e w'=>e=.returned (.bool (overB (bl p) (bl q)))∧Ext w w':=by
 have h1:=Ze2 p q w hp hq;have h2:=fun w=>Ze2 q p w hq hp;have ho:overB (bl p) (bl q)=(Zan (bl p) (bl q) || Zan (bl q) (bl p)):=rfl;rw[ho];clear ho;generalize Zan (bl p) (bl q)=b1 at *
 generalize Zan (bl q) (bl p)=b2 at *
 cases b1
 · go_enter Tryz.func172,Tryz.ntmps172;go_wp2_with fail;refine h1.mono ?_;clear h1;rintro e w1 ⟨rfl,hx⟩;go_wp2_with fail;refine(h2 w1).mono ?_;clear h2;rintro e w2 ⟨rfl,hx2⟩;cases b2
   all_goals
    go_wp2_with fail;go_ret;exact⟨rfl,hx.trans hx2⟩
 go_enter Tryz.func172,Tryz.ntmps172;go_wp2_with fail;refine h1.mono ?_;clear h1;rintro e w1 ⟨rfl,hx⟩;go_wp2_with fail;go_ret;exact⟨rfl,hx⟩
end Path
end
section
namespace Lock
open Go.RowKit
open Go.Maps (Keyed)
open Path (bl Zaf overB)
structure Ent where
 path:ByteArray
 num:Int
 foot:ByteArray
 mode:Int
 n:Int
 stamp:Int
deriving DecidableEq
def keyV (p:ByteArray) (n:Int) (f:ByteArray):Value:=.agg #[.string p,.int .u64 n,.string f]
def Ent.key (e:Ent):Value:=keyV e.path e.num e.foot
def Ent.cells (e:Ent):List Value:=[.string e.path,.int .u64 e.num,.string e.foot,.int .i64 e.mode,.int .u64 e.n,.int .i64 e.stamp]
def Ent.val (e:Ent):Value:=.agg #[.string e.path,.int .u64 e.num,.string e.foot,.int .i64 e.mode,.int .u64 e.n,.int .i64 e.stamp]
def ent (e:Ent):Value × Value:=(e.key,e.val)
def ents (l:List Ent):List (Value × Value):=l.map ent
def ctrE (c:ByteArray × Int):Value × Value:=(.string c.1,.int .u64 c.2)
def ctrs (l:List (ByteArray × Int)):List (Value × Value):=l.map ctrE
abbrev headC (p m c:Nat) (first:Int):Part:=Part.cells p [.int .u64 first,.map (some m),.map (some c)] 113
abbrev mapC (m:Nat) (es:List (Value × Value)):Part:=Part.map Tryz.prog 110 m es
abbrev ctrC (c:Nat) (cs:List (Value × Value)):Part:=Part.map Tryz.prog 9 c cs
structure Bk where
 p:Nat
 m:Nat
 c:Nat
 first:Int
 es:List Ent
 cs:List (ByteArray × Int)
def BookP (b:Bk):Part:=Part.all [headC b.p b.m b.c b.first,mapC b.m (ents b.es),ctrC b.c (ctrs b.cs)]
theorem eqv0 (b:Bk) (F:List Part):Eqv (BookP b::F) (headC b.p b.m b.c b.first::mapC b.m (ents b.es)::ctrC b.c (ctrs b.cs)::F):=Eqv.all [headC b.p b.m b.c b.first,mapC b.m (ents b.es),ctrC b.c (ctrs b.cs)] F
theorem begin0 {w:World} {b:Bk} (h:Sep [BookP b] w):At [BookP b] w [headC b.p b.m b.c b.first,mapC b.m (ents b.es),ctrC b.c (ctrs b.cs)] w:=(At.start h).to (eqv0 b [])
theorem open0 {L0 L F:List Part} {w0 w:World} {b:Bk} (h:At L0 w0 L w) (q:Sel (BookP b) L F):At L0 w0 (headC b.p b.m b.c b.first::mapC b.m (ents b.es)::ctrC b.c (ctrs b.cs)::F) w:=(h.take q).to (eqv0 b F)
theorem fold0 {L0 L F G H:List Part} {w0 w:World} (b:Bk) (h:At L0 w0 L w) (s1:Sel (headC b.p b.m b.c b.first) L F) (s2:Sel (mapC b.m (ents b.es)) F G) (s3:Sel (ctrC b.c (ctrs b.cs)) G H):At L0 w0 (BookP b::H) w:=
 (h.perm (s1.perm.trans ((s2.perm.trans (s3.perm.cons _)).cons _))).to (eqv0 b H).symm
theorem close0 {L0 L F G H:List Part} {w0 w:World} (b:Bk) (h:At L0 w0 L w) (s1:Sel (headC b.p b.m b.c b.first) L F) (s2:Sel (mapC b.m (ents b.es)) F G) (s3:Sel (ctrC b.c (ctrs b.cs)) G H):At L0 w0 [BookP b] w:=(fold0 b h s1 s2 s3).only1 .here
theorem laidOut:laidOutB Tryz.prog=true:=by kernel_rfl
theorem wideP:(match Tryz.prog.underlying 110 with|some (.array _ _)|some (.struct _)=>true|_=>false)=true:=by kernel_rfl
theorem rowP:(110:TypeId) < Tryz.prog.types.size:=of_decide_eq_true (by kernel_rfl)
theorem lawP:Keyed Tryz.prog 110:=Keyed.of_law (deep_law_laid laidOut (m:=3) (by omega) rowP (by kernel_rfl) wideP)
theorem lawT:Keyed Tryz.prog 9:=Go.Maps.string_keyed Tryz.underlying9
theorem Znz:Tryz.prog.keyType 110=true:=by kernel_rfl
theorem ZoH:Tryz.prog.cellsOf 110=3:=by kernel_rfl
theorem cellsS:Tryz.prog.cellsOf 39=2:=by kernel_rfl
theorem cellsU:Tryz.prog.cellsOf 22=1:=by kernel_rfl
theorem cellsStr:Tryz.prog.cellsOf 9=1:=by kernel_rfl
theorem Zpp (c0 c1 c2:Value):(Value.agg #[c0,c1,c2]).formed Tryz.prog 110=true:=by simp[Value.formed,Tryz.underlying110,ZoH]
def big64:Int:=18446744073709551616
theorem keyP {p:ByteArray} {n:Int} {f:ByteArray} (hp:p.size≤maxLen) (h0:0≤n) (h1:n < big64) (hf:f.size≤maxLen):∃l,keyOf Tryz.prog 110 (keyV p n f)=some l:=by
 have hw:(Lit.int .u64 n).wf=true:=by simp[Lit.wf,IntKind.min,IntKind.max,IntKind.signed,IntKind.bits];unfold big64 at h1;omega
 obtain⟨d,hd⟩:∃d,Tryz.prog.types.size=d + 2:=⟨Tryz.prog.types.size - 2,by have:2≤Tryz.prog.types.size:=of_decide_eq_true (by kernel_rfl);omega⟩
 have hl:Tryz.prog.keyLits (Tryz.prog.types.size + 1) 110 [.string p,.int .u64 n,.string f]=some [.string p.data.toList,.int .u64 n,.string f.data.toList]:=by
  rw[hd];simp[Program.keyLits,Tryz.underlying110,Tryz.underlying39,Tryz.underlying22,Tryz.underlying9,ZoH,cellsS,cellsU,cellsStr,hw,hf,hp];rw[if_pos (by decide)];rfl
 exact⟨.string (keyBytes [.string p.data.toList,.int .u64 n,.string f.data.toList]),by
  unfold keyOf;rw[Tryz.underlying110];simp only[Znz,keyV,Zpp,Bool.and_self,if_true];rw[show(Value.agg #[.string p,.int .u64 n,.string f]).cells.toList=[.string p,.int .u64 n,.string f] from rfl,hl]
  rfl⟩
theorem keyT {p:ByteArray} (hp:p.size≤maxLen):∃l,keyOf Tryz.prog 9 (.string p)=some l:=⟨_,WideMaps.keyOf_string_mk Tryz.underlying9 hp⟩
def Ent.is (e:Ent) (p:ByteArray) (n:Int) (f:ByteArray):Bool:=decide (e.path=p∧e.num=n∧e.foot=f)
def find (es:List Ent) (p:ByteArray) (n:Int) (f:ByteArray):Option Ent:=es.find? (·.is p n f)
theorem find_split {es:List Ent} {p:ByteArray} {n:Int} {f:ByteArray} {e:Ent} (h:find es p n f=some e):∃l1 l2,es=l1++e::l2∧e.path=p∧e.num=n∧e.foot=f∧∀x ∈ l1,x.is p n f=false:=by
 obtain⟨h1,l1,l2,h2,h3⟩:=List.find?_eq_some_iff_append.1 h;have h4:e.path=p∧e.num=n∧e.foot=f:=by simpa [Ent.is] using h1
 exact⟨l1,l2,h2,h4.1,h4.2.1,h4.2.2,fun x hx=>by simpa using h3 x hx⟩
theorem find_none {es:List Ent} {p:ByteArray} {n:Int} {f:ByteArray} (h:find es p n f=none):∀q ∈ ents es,q.1≠keyV p n f:=by
 intro q hq;obtain⟨e,he,rfl⟩:=List.mem_map.1 hq;have h1:¬e.is p n f=true:=List.find?_eq_none.1 h e he;intro q2;apply h1;simp[ent,Ent.key,keyV] at q2;simp[Ent.is,q2]
theorem find_mem {es:List Ent} {p:ByteArray} {n:Int} {f:ByteArray} {e:Ent} (h:find es p n f=some e):(keyV p n f,e.val) ∈ ents es:=by
 obtain⟨l1,l2,rfl,rfl,rfl,rfl,_⟩:=find_split h;simp[ents,ent,Ent.key]
def ctr (cs:List (ByteArray × Int)) (p:ByteArray):Option Int:=(cs.find? (·.1=p)).map (·.2)
def counter (first:Int) (cs:List (ByteArray × Int)) (p:ByteArray):Int:=(ctr cs p).getD first
theorem Zgz {cs:List (ByteArray × Int)} {p:ByteArray} (h:ctr cs p=none):∀q ∈ ctrs cs,q.1≠.string p:=by
 intro q hq;obtain⟨s,hs,rfl⟩:=List.mem_map.1 hq;unfold ctr at h;simp at h
 intro e;simp[ctrE] at e;exact h s.1 s.2 hs e
theorem Zl0 {cs:List (ByteArray × Int)} {p:ByteArray} {n:Int} (h:ctr cs p=some n):(.string p,.int .u64 n) ∈ ctrs cs:=by
 unfold ctr at h;simp only[Option.map_eq_some_iff] at h;obtain⟨q,h1,h2⟩:=h;have h3:=List.find?_some h1;have h4:=List.mem_of_find?_eq_some h1;refine List.mem_map.2 ⟨q,h4,?_⟩;simp at h3
 simp[ctrE,h3,h2]
def wayB (a b:Ent):Bool:=(decide (a.mode=2) || decide (b.mode=2))&&overB (bl a.path) (bl b.path)
end Lock
end
section
namespace Lock
open Go.RowKit
open Go.Maps (Keyed)
open Path (bl Zaf overB)
def NewPost (first:Int) (w:World) (e:Ending) (w':World):Prop:=∃b:Bk,e=.returned (.pointer (some ⟨b.p,0,none⟩))∧b.first=first∧b.es=[]∧b.cs=[]∧At [] w [BookP b] w'
theorem new_any (w:World) (first:Int):Calls Tryz.prog 23 #[.int .u64 first] w (NewPost first w):=by
 have hA:At [] w [] w:=At.start (L0:=[]) trivial;have hF:=hA.facts;go_enter Tryz.func23,Tryz.ntmps23
 go_wp2_with (first|((with_reducible refine gbx ?_);refine wCy hA ?_;clear hF hA;intro b1 w1 hA hb1 hF)|(refine Za8 Tryz.prog 110 rfl rfl hA ?_;intro b1 w1 hB hb1;replace hA:=hB;clear hF hB;obtain⟨hA,hF⟩:=fY hA;refine Za8 Tryz.prog 9 rfl rfl hA ?_;intro b2 w1 hB hb2;replace hA:=hB;clear hF hB;obtain⟨hA,hF⟩:=fY hA))
 go_ret;exact⟨⟨_,_,_,first,[],[]⟩,rfl,rfl,rfl,rfl,close0 ⟨_,_,_,first,[],[]⟩ hA sR sZ sZ⟩
theorem Zhy {w:World} {b:Bk} (h:Sep [BookP b] w) {p:ByteArray} (hp:p.size≤maxLen) (hn:ctr b.cs p=none):
 Calls Tryz.prog 181 #[.pointer (some ⟨b.p,0,none⟩),.string p] w fun e w'=>e=.returned (.int .u64 b.first)∧At [BookP b] w [BookP b] w':=by
 obtain⟨kl,hk⟩:=keyT hp;have hmiss:=Hd (Zgz hn);have hA:=begin0 h;have hF:=hA.facts;clear h hn;obtain⟨hA,hF⟩:=fY hA;go_enter Tryz.func181,Tryz.ntmps181
 go_wp2_with (refine ZbE rfl rfl rfl (by(try simp only[Act.eval,eV])<;>exact rfl) hA (k:=9) (es:=ctrs b.cs) sR lawT Tryz.underlying111 hk hmiss.out (z:=.int .u64 0) (fun _=>by kernel_rfl) ?_)
 go_ret;exact⟨rfl,close0 b hA sR sR sR⟩
theorem Zhx {w:World} {b:Bk} (h:Sep [BookP b] w) {p:ByteArray} (hp:p.size≤maxLen) {n:Int} (hn:ctr b.cs p=some n):
 Calls Tryz.prog 181 #[.pointer (some ⟨b.p,0,none⟩),.string p] w fun e w'=>e=.returned (.int .u64 n)∧At [BookP b] w [BookP b] w':=by
 obtain⟨kl,hk⟩:=keyT hp;have hmem:=Hd (Zl0 hn);have hA:=begin0 h;have hF:=hA.facts;clear h hn;obtain⟨hA,hF⟩:=fY hA;go_enter Tryz.func181,Tryz.ntmps181
 go_wp2_with (refine ZbD rfl rfl rfl (by(try simp only[Act.eval,eV])<;>exact rfl) hA (k:=9) (es:=ctrs b.cs) sR lawT Tryz.underlying111 hk hmem.out ?_)
 go_ret;exact⟨rfl,close0 b hA sR sR sR⟩
theorem ZeS {w:World} {b:Bk} (h:Sep [BookP b] w) {p:ByteArray} (hp:p.size≤maxLen):
 Calls Tryz.prog 181 #[.pointer (some ⟨b.p,0,none⟩),.string p] w fun e w'=>e=.returned (.int .u64 (counter b.first b.cs p))∧At [BookP b] w [BookP b] w':=by
 cases hn:ctr b.cs p with
 |none=>have:=Zhy h hp hn;unfold counter;rw[hn];exact this
 |some n=>have:=Zhx h hp hn;unfold counter;rw[hn];exact this
def Zbh (p:ByteArray) (mode:Int):Bool:=Zaf (bl p)&&(decide (mode=1) || decide (mode=2))
theorem right_any (p:ByteArray) (mode:Int) (w:World) (hp:p.size≤1000000):Calls Tryz.prog 179 #[.string p,.int .i64 mode] w fun e w'=>e=.returned (.bool (Zbh p mode))∧Ext w w':=by
 have hr:=Path.right_any p w (by omega);unfold Zbh;generalize Zaf (bl p)=rb at *
 go_enter Tryz.func179,Tryz.ntmps179;go_wp2_with fail;refine hr.mono ?_;clear hr;rintro e w1 ⟨rfl,hx⟩;by_cases h1:mode=1
 · subst h1;cases rb
   all_goals
    go_wp2_with fail;go_ret;exact⟨rfl,hx⟩
 have e1:(mode==1)=false:=by simpa using h1
 by_cases h2:mode=2
 · subst h2;cases rb
   all_goals
    go_wp2_with fail;go_ret;exact⟨rfl,hx⟩
 have e2:(mode==2)=false:=by simpa using h2
 have d1:=decide_eq_false h1;have d2:=decide_eq_false h2;clear h1 h2;cases rb
 all_goals
  go_wp2_with fail;go_ret;exact⟨by simp[d1,d2],hx⟩
theorem ZoM (x y:Ent) (w:World) (hx:x.path.size≤1000000) (hy:y.path.size≤1000000):Calls Tryz.prog 147 #[x.val,y.val] w fun e w'=>e=.returned (.bool (wayB x y))∧Ext w w':=by
 have ho:=fun w=>Path.Zey x.path y.path w (by omega) (by omega);unfold wayB;generalize overB (bl x.path) (bl y.path)=ob at *
 have hA:At [] w [] w:=At.start (L0:=[]) trivial;have hF:=hA.facts;obtain⟨p1,n1,f1,m1,k1,s1⟩:=x;obtain⟨p2,n2,f2,m2,k2,s2⟩:=y;simp only[Ent.val] at *
 by_cases h1:m1=2
 · subst h1;go_enter Tryz.func147,Tryz.ntmps147
   go_wp2_with ((with_reducible refine gbx ?_);refine wCy hA ?_;clear hF hA;intro b1 w1 hA hb1 hF)
   refine(ho _).mono ?_;clear ho;rintro e w2 ⟨rfl,hx2⟩;cases ob
   all_goals
    go_wp2_with fail;go_ret;exact⟨rfl,hA.toExt.trans hx2⟩
 have e1:(m1==2)=false:=by simpa using h1
 have d1:=Hd (decide_eq_false h1);clear h1;by_cases h2:m2=2
 · subst h2;go_enter Tryz.func147,Tryz.ntmps147
   go_wp2_with ((with_reducible refine gbx ?_);refine wCy hA ?_;clear hF hA;intro b1 w1 hA hb1 hF)
   refine(ho _).mono ?_;clear ho;rintro e w2 ⟨rfl,hx2⟩;cases ob
   all_goals
    go_wp2_with fail;go_ret;exact⟨by rw[d1.out];rfl,hA.toExt.trans hx2⟩
 have e2:(m2==2)=false:=by simpa using h2
 have d2:=Hd (decide_eq_false h2);clear h2 ho;go_enter Tryz.func147,Tryz.ntmps147
 go_wp2_with ((with_reducible refine gbx ?_);refine wCy hA ?_;clear hF hA;intro b1 w1 hA hb1 hF)
 go_ret;exact⟨by rw[d1.out,d2.out];rfl,hA.toExt⟩
end Lock
end
section
namespace Lock
open Go.RowKit
open Go.Maps (Keyed)
open Path (bl Zaf overB)
def nullE:Ent:=⟨.empty,0,.empty,0,0,0⟩
theorem Zpr {w:World} {b:Bk} (h:Sep [BookP b] w) {p:ByteArray} {n:Int} {f:ByteArray} (hp:p.size≤maxLen) (h0:0≤n) (h1:n < big64) (hf:f.size≤maxLen) (hn:find b.es p n f=none):
 Calls Tryz.prog 106 #[.pointer (some ⟨b.p,0,none⟩),.string p,.agg #[.int .u64 n,.string f]] w fun e w'=>e=.returned (.tuple #[nullE.val,.bool false])∧At [BookP b] w [BookP b] w':=by
 obtain⟨kl,hk⟩:=keyP hp h0 h1 hf;have hmiss:=Hd (find_none hn);have hA:=begin0 h;have hF:=hA.facts;clear h hn;obtain⟨hA,hF⟩:=fY hA;unfold keyV at *
 go_enter Tryz.func106,Tryz.ntmps106
 go_wp2_with (first|((with_reducible refine gbx ?_);refine wCy hA ?_;clear hF hA;intro b1 w1 hA hb1 hF)|((with_reducible refine gal ?_);refine g5 hA ?_;clear hF hA;intro b1 w1 hA hb1 hF))
 have hB:=hA.alloc [.string ⟨#[]⟩,.int .u64 0,.string ⟨#[]⟩,.int .i64 0,.int .u64 0,.int .i64 0] 61
 have hl0:(Instr.lookup 108 (.map (some b.m)) (.agg #[.string p,.int .u64 n,.string f]) true).run Tryz.prog w1.drew=.ok (.tuple #[nullE.val,.bool false]) w1.drew:=
  MapAt.look_none (hA.drew.get (A:=mapC b.m (ents b.es)) sR) lawP Tryz.underlying108 hk hmiss.out (by kernel_rfl) true
 have hl1:(Instr.lookup 108 (.map (some b.m)) (.agg #[.string p,.int .u64 n,.string f]) true).run Tryz.prog (w1.alloc (.cells #[.string ⟨#[]⟩,.int .u64 0,.string ⟨#[]⟩,.int .i64 0,.int .u64 0,.int .i64 0] 61)).drew=.ok (.tuple #[nullE.val,.bool false]) (w1.alloc (.cells #[.string ⟨#[]⟩,.int .u64 0,.string ⟨#[]⟩,.int .i64 0,.int .u64 0,.int .i64 0] 61)).drew:=
  MapAt.look_none (hB.drew.get (A:=mapC b.m (ents b.es)) sR) lawP Tryz.underlying108 hk hmiss.out (by kernel_rfl) true
 unfold nullE Ent.val at hl0 hl1;clear hB;go_region
 all_goals
  have hB:At [BookP b] w _ (w1.alloc (.cells #[.string .empty,.int .u64 0,.string .empty,.int .i64 0,.int .u64 0,.int .i64 0] 61)).drew:=(hA.alloc [.string .empty,.int .u64 0,.string .empty,.int .i64 0,.int .u64 0,.int .i64 0] 61).drew;clear hF hA hl0 hl1;generalize (w1.alloc (.cells #[.string .empty,.int .u64 0,.string .empty,.int .i64 0,.int .u64 0,.int .i64 0] 61)).drew=w2 at *
  have hA:=hB;clear hB;obtain⟨hA,hF⟩:=fY hA
  go_wp2_with ((with_reducible refine gst ?_);refine wTy hA ?_;clear hF hA;intro w1 hA hF)
  refine bodyPost_ret (v:=.tuple #[nullE.val,.bool false]) (by simp[results,Tryz.results106,go_sem,hF,nullE,Ent.val]) rfl ⟨rfl,?_⟩;exact close0 b hA sR sR sR
theorem ZnN {w:World} {b:Bk} (h:Sep [BookP b] w) {p:ByteArray} {n:Int} {f:ByteArray} (hp:p.size≤maxLen) (h0:0≤n) (h1:n < big64) (hf:f.size≤maxLen) {x:Ent} (hn:find b.es p n f=some x):
 Calls Tryz.prog 106 #[.pointer (some ⟨b.p,0,none⟩),.string p,.agg #[.int .u64 n,.string f]] w fun e w'=>e=.returned (.tuple #[x.val,.bool true])∧At [BookP b] w [BookP b] w':=by
 obtain⟨kl,hk⟩:=keyP hp h0 h1 hf;have hmem:=Hd (find_mem hn);have hA:=begin0 h;have hF:=hA.facts;clear h hn;obtain⟨hA,hF⟩:=fY hA;unfold keyV Ent.val at *
 go_enter Tryz.func106,Tryz.ntmps106
 go_wp2_with (first|((with_reducible refine gbx ?_);refine wCy hA ?_;clear hF hA;intro b1 w1 hA hb1 hF)|((with_reducible refine gal ?_);refine g5 hA ?_;clear hF hA;intro b1 w1 hA hb1 hF))
 (have hl0:(Instr.lookup 108 (.map (some b.m)) (.agg #[.string p,.int .u64 n,.string f]) true).run Tryz.prog w1.drew=.ok (.tuple #[.agg #[.string x.path,.int .u64 x.num,.string x.foot,.int .i64 x.mode,.int .u64 x.n,.int .i64 x.stamp],.bool true]) w1.drew:=MapAt.look_some (hA.drew.get (A:=mapC b.m (ents b.es)) sR) lawP Tryz.underlying108 hk hmem.out true);(have hl1:(Instr.lookup 108 (.map (some b.m)) (.agg #[.string p,.int .u64 n,.string f]) true).run Tryz.prog (w1.alloc (.cells #[.string ⟨#[]⟩,.int .u64 0,.string ⟨#[]⟩,.int .i64 0,.int .u64 0,.int .i64 0] 61)).drew=.ok (.tuple #[.agg #[.string x.path,.int .u64 x.num,.string x.foot,.int .i64 x.mode,.int .u64 x.n,.int .i64 x.stamp],.bool true]) (w1.alloc (.cells #[.string ⟨#[]⟩,.int .u64 0,.string ⟨#[]⟩,.int .i64 0,.int .u64 0,.int .i64 0] 61)).drew:=MapAt.look_some ((hA.alloc [.string ⟨#[]⟩,.int .u64 0,.string ⟨#[]⟩,.int .i64 0,.int .u64 0,.int .i64 0] 61).drew.get (A:=mapC b.m (ents b.es)) sR) lawP Tryz.underlying108 hk hmem.out true);go_region;all_goals((have hB:At [BookP b] w _ (w1.alloc (.cells #[.string x.path,.int .u64 x.num,.string x.foot,.int .i64 x.mode,.int .u64 x.n,.int .i64 x.stamp] 61)).drew:=(hA.alloc [.string x.path,.int .u64 x.num,.string x.foot,.int .i64 x.mode,.int .u64 x.n,.int .i64 x.stamp] 61).drew);(clear hF hA hl0 hl1);(generalize (w1.alloc (.cells #[.string x.path,.int .u64 x.num,.string x.foot,.int .i64 x.mode,.int .u64 x.n,.int .i64 x.stamp] 61)).drew=w2 at *);(have hA:=hB);(clear hB);obtain⟨hA,hF⟩:=fY hA)
 all_goals
  go_wp2_with ((with_reducible refine gst ?_);refine wTy hA ?_;clear hF hA;intro w1 hA hF)
  refine bodyPost_ret (v:=.tuple #[.agg #[.string x.path,.int .u64 x.num,.string x.foot,.int .i64 x.mode,.int .u64 x.n,.int .i64 x.stamp],.bool true]) (by simp[results,Tryz.results106,go_sem,hF]) rfl ⟨rfl,?_⟩;exact close0 b hA sR sR sR
end Lock
end
section
namespace Lock
open Go.RowKit
open Go.Maps (Keyed)
open Path (bl Zaf overB)
def unE:Value × Value→Ent
 |(_,.agg #[.string p,.int _ n,.string f,.int _ m,.int _ k,.int _ s])=>⟨p,n,f,m,k,s⟩
 |_=>nullE
theorem ZhN (l:List Ent):(ents l).map unE=l:=by
 unfold ents;rw[List.map_map];conv=>rhs;rw[←List.map_id l]
 rfl
theorem ents_perm {l r:List Ent} (h:(ents l).Perm (ents r)):l.Perm r:=by
 have:=h.map unE
 rwa [ZhN,ZhN] at this
theorem ents_snoc (ds:List Ent) (s:Ent):ents ds++[ent s]=ents (ds++[s]):=by simp[ents]
theorem Zpt {e:Ent} {l:List Ent} (h:ent e ∈ ents l):e ∈ l:=by
 have:=List.mem_map_of_mem (f:=unE) h
 rwa [ZhN] at this
def maxS (l:List Ent) (p:ByteArray):Int:=l.foldl (fun m e=>if overB (bl e.path) (bl p) then max m e.stamp else m) 0
theorem Zg7 (l:List Ent) (e:Ent) (p:ByteArray):maxS (l++[e]) p=if overB (bl e.path) (bl p) then max (maxS l p) e.stamp else maxS l p:=by simp[maxS,List.foldl_append]
theorem Zg8 {l r:List Ent} (h:l.Perm r) (p:ByteArray):maxS l p=maxS r p:=by
 unfold maxS;refine h.foldl_eq' (fun x _ y _ z=> ?_) 0;split<;>split<;>omega
theorem Zdu {l:List Ent} {p:ByteArray} {B:Int} (hB:0≤B) (h:∀e ∈ l,e.stamp≤B):0≤maxS l p∧maxS l p≤B:=by
 have:∀(l:List Ent) (m:Int),(∀e ∈ l,e.stamp≤B)→0≤m→m≤B→0≤l.foldl (fun m e=>if overB (bl e.path) (bl p) then max m e.stamp else m) m∧l.foldl (fun m e=>if overB (bl e.path) (bl p) then max m e.stamp else m) m≤B:=by
  intro l
  induction l with
  |nil=>intro m _ h1 h2;exact⟨h1,h2⟩
  |cons e l ih=>
   intro m hl h1 h2;have:=hl e (by simp);rw[List.foldl_cons];refine ih _ (fun x hx=>hl x (by simp[hx])) ?_ ?_<;>split<;>omega
 exact this l 0 h (Int.le_refl 0) hB
def ZaG (l:List Ent) (e:Ent):Bool:=l.all (fun x=> !(decide (x.stamp < e.stamp)&&wayB x e))
theorem ZeV {l r:List Ent} (h:l.Perm r) (e:Ent):ZaG l e=ZaG r e:=h.all_eq
def StRel (b:Bk) (r:Nat) (p:ByteArray) (w:World) (k:Nat) (v:Value) (wr:World):Prop:=
 ∃ds:List Ent,At [BookP b] w [Part.iter Tryz.prog 110 r b.m (ents b.es) (ents ds),headC b.p b.m b.c b.first,ctrC b.c (ctrs b.cs)] wr∧(∀s ∈ ds,s ∈ b.es)∧v=.int .i64 (maxS ds p)∧ds.length + k=b.es.length
theorem ZgP {w:World} {b:Bk} (h:Sep [BookP b] w) (p:ByteArray) (hp:p.size≤1000000) (hok:∀x ∈ b.es,x.path.size≤1000000∧x.stamp≤1000000000):
 Calls Tryz.prog 180 #[.pointer (some ⟨b.p,0,none⟩),.string p] w fun e w'=>e=.returned (.int .i64 (maxS b.es p + 1))∧At [BookP b] w [BookP b] w':=by
 have hA:=begin0 h;obtain⟨hA,hF⟩:=fY hA;clear h;go_enter Tryz.func180,Tryz.ntmps180
 go_wp2_with (refine ZaX rfl rfl rfl hA sR Tryz.underlying108 ?_;intro r w1 hB hr;replace hA:=hB;clear hF hB;obtain⟨hA,hF⟩:=fY hA)
 go_frame;go_loopg [5] b.es.length (StRel b r p w)
 case atStart=>exact⟨[],hA,nofun,by simp[maxS],by simp⟩
 case round=>
  obtain⟨ds,hA2,hds,rfl,hk⟩:=hrel;clear hF hA;have hA:=hA2;clear hA2;obtain⟨hA,hF⟩:=fY hA;go_step
  go_step
  refine Zba rfl rfl rfl hA sR (fun hp=> ?_) (fun q w1 hq hd hB=> ?_)
  · have hc:=Hd (Zg8 (ents_perm hp) p);have hb:=Zdu (p:=p) (B:=1000000000) (by omega) (fun e he=>(hok e (hds e he)).2);have hM:=At.ranged hA sR;clear hp;go_wp2_with fail;go_ret;exact⟨by rw[hc.out];rfl,close0 b hM sR sR sR⟩
  obtain⟨s,hs,rfl⟩:=List.mem_map.1 hq;have hI:Zat Tryz.prog 110 w1 r b.m (ents b.es) (ents ds++[ent s]):=hB.get (A:=Part.iter _ _ r b.m (ents b.es) (ents ds++[ent s])) sR;have hen:=hI.entry;have hlen:(ds++[s]).length≤b.es.length:=by have:=hI.len;simpa [ents] using this
  have hsub:∀x ∈ ds++[s],x ∈ b.es:=fun x hx=>by
   rcases List.mem_append.1 hx with hx|hx
   · exact hds x hx
   have:x=s:=by simpa using hx
   rw[this];exact hs
  rw[ents_snoc] at hB;have hb:=Zdu (p:=p) (B:=1000000000) (by omega) (fun e he=>(hok e (hds e he)).2);obtain⟨hs1,hs2⟩:=hok s hs;clear hF hA;have hA:=hB;have hk':=Hd hk;have hsub':=Hd hsub;have hsn:=Zg7 ds s p;have ho:=fun w=>Path.Zey s.path p w (by omega) (by omega);simp only[List.length_append,List.length_cons,List.length_nil,Nat.zero_add] at hlen;clear hI hB hk hsub hds hq hd hs;obtain⟨hA,hF⟩:=fY hA;simp only[ent,Ent.key,Ent.val,keyV] at hen;generalize overB (bl s.path) (bl p)=ob at *
  generalize maxS ds p=mx at *
  have hsn':=Hd hsn;clear hsn
  go_wp2_with (first|((with_reducible refine gst ?_);refine wTy hA ?_;clear hF hA;intro w1 hA hF)|((with_reducible refine gal ?_);refine g5 hA ?_;clear hF hA;intro b1 w1 hA hb1 hF))
  refine(ho _).mono ?_;clear ho;rintro e w2 ⟨rfl,hx⟩;replace hA:=hA.ext hx;clear hF hx;obtain⟨hA,hF⟩:=fY hA;cases ob
  all_goals
   go_wp2_with fail;go_roundg (gk - 1);case measure=>have:=hk'.out;omega
   case rel=>exact⟨ds++[s],hA.only3 sR sR sR,hsub'.out,by rw[hsn'.out];rfl,by have:=hk'.out;simp;omega⟩
end Lock
end
section
namespace Lock
open Go.RowKit
open Go.Maps (Keyed)
open Path (bl Zaf overB)
theorem Zkf {l:List Ent} {x e:Ent} (h:x ∈ l) (h1:x.stamp < e.stamp) (h2:wayB x e=true):ZaG l e=false:=by
 unfold ZaG;rw[List.all_eq_false];exact⟨x,h,by simp[h1,h2]⟩
theorem Zit (l:List Ent) (x e:Ent):ZaG (l++[x]) e=(ZaG l e&& !(decide (x.stamp < e.stamp)&&wayB x e)):=by simp[ZaG]
def ClRel (b:Bk) (r bE:Nat) (e:Ent) (w:World) (k:Nat) (wr:World):Prop:=
 ∃ds:List Ent,At [BookP b] w [Part.iter Tryz.prog 110 r b.m (ents b.es) (ents ds),headC b.p b.m b.c b.first,ctrC b.c (ctrs b.cs),Part.cells bE [.string e.path,.int .u64 e.num,.string e.foot,.int .i64 e.mode,.int .u64 e.n,.int .i64 e.stamp] 61] wr∧(∀s ∈ ds,s ∈ b.es)∧ZaG ds e=true∧ds.length + k=b.es.length
theorem ZeU {w:World} {b:Bk} (h:Sep [BookP b] w) (e:Ent) (he:e.path.size≤1000000) (hok:∀x ∈ b.es,x.path.size≤1000000):
 Calls Tryz.prog 107 #[.pointer (some ⟨b.p,0,none⟩),.agg #[.string e.path,.int .u64 e.num,.string e.foot,.int .i64 e.mode,.int .u64 e.n,.int .i64 e.stamp]] w fun o w'=>o=.returned (.bool (ZaG b.es e))∧At [BookP b] w [BookP b] w':=by
 have hA:=begin0 h;obtain⟨hA,hF⟩:=fY hA;clear h;go_enter Tryz.func107,Tryz.ntmps107
 go_wp2_with (first|((with_reducible refine gbx ?_);refine wCy (E:=61) hA ?_;clear hF hA;intro bE w1 hA hbE hF)|(refine ZaX rfl rfl rfl hA sR Tryz.underlying108 ?_;intro r w1 hB hr;replace hA:=hB;clear hF hB;obtain⟨hA,hF⟩:=fY hA))
 go_frame;go_loopg [] b.es.length (ClRel b r bE e w)
 case atStart=>exact⟨[],hA.pick pZ,nofun,rfl,by simp⟩
 case round=>
  obtain⟨ds,hA2,hds,hcl,hk⟩:=hrel;clear hF hA;have hA:=hA2;clear hA2;obtain⟨hA,hF⟩:=fY hA;go_step
  go_step
  refine Zba rfl rfl rfl hA sR (fun hp=> ?_) (fun q w1 hq hd hB=> ?_)
  · have hc:=Hd ((ZeV (ents_perm hp) e).trans hcl);have hM:=At.ranged hA sR;clear hp hcl;go_wp2_with fail;go_ret;exact⟨by rw[hc.out];rfl,close0 b hM sR sR sR⟩
  obtain⟨s,hs,rfl⟩:=List.mem_map.1 hq;have hI:Zat Tryz.prog 110 w1 r b.m (ents b.es) (ents ds++[ent s]):=hB.get (A:=Part.iter _ _ r b.m (ents b.es) (ents ds++[ent s])) sR;have hen:=hI.entry;have hlen:(ds++[s]).length≤b.es.length:=by have:=hI.len;simpa [ents] using this
  have hsub:∀x ∈ ds++[s],x ∈ b.es:=fun x hx=>by
   rcases List.mem_append.1 hx with hx|hx
   · exact hds x hx
   have:x=s:=by simpa using hx
   rw[this];exact hs
  rw[ents_snoc] at hB;have hs1:=hok s hs;clear hF hA;have hA:=hB;have hk':=Hd hk;have hsub':=Hd hsub;have hsn:=Hd (Zit ds s e);have hcl':=Hd hcl;have hbad:=Hd (fun h1 h2=>Zkf (e:=e) hs h1 h2);have ho:=fun w=>ZoM s e w hs1 he;simp only[List.length_append,List.length_cons,List.length_nil,Nat.zero_add] at hlen;clear hI hB hk hsub hds hq hd hs hcl;obtain⟨hA,hF⟩:=fY hA;simp only[ent,Ent.key,Ent.val,keyV] at hen ho;by_cases hlt:s.stamp < e.stamp
  · have hlt':=Hd hlt
    obtain⟨wb,hwb⟩:∃wb,wayB s e=wb:=⟨_,rfl⟩
    rw[hwb] at ho;have hwb':=Hd hwb;clear hwb
    go_wp2_with (first|((with_reducible refine gst ?_);refine wTy hA ?_;clear hF hA;intro w1 hA hF)|((with_reducible refine gal ?_);refine g5 hA ?_;clear hF hA;intro b1 w1 hA hb1 hF))
    refine(ho _).mono ?_;clear ho;rintro o w2 ⟨rfl,hx⟩;replace hA:=hA.ext hx;clear hF hx;obtain⟨hA,hF⟩:=fY hA;cases wb
    · go_wp2_with fail;go_roundg (gk - 1);case measure=>have:=hk'.out;omega
      case rel=>exact⟨ds++[s],hA.pick pR,hsub'.out,by rw[hsn.out,hcl'.out,hwb'.out];simp,by have:=hk'.out;simp;omega⟩
    have hM:=At.ranged hA sR;have hc:=Hd (hbad.out hlt'.out hwb'.out);go_wp2_with fail;go_ret;exact⟨by rw[hc.out];rfl,close0 b hM sR sR sR⟩
  have hlt':=Hd hlt
  go_wp2_with (first|((with_reducible refine gst ?_);refine wTy hA ?_;clear hF hA;intro w1 hA hF)|((with_reducible refine gal ?_);refine g5 hA ?_;clear hF hA;intro b1 w1 hA hb1 hF))
  go_roundg (gk - 1);case measure=>have:=hk'.out;omega
  case rel=>exact⟨ds++[s],hA.pick pR,hsub'.out,by rw[hsn.out,hcl'.out,decide_eq_false (show ¬s.stamp < e.stamp by have:=hlt'.out;omega)];simp,by have:=hk'.out;simp;omega⟩
end Lock
end
section
namespace Lock
open Go.RowKit
open Go.Maps (Keyed)
open Path (bl Zaf overB)
theorem same_ba (f g:ByteArray):(f.toList==g.toList)=decide (f=g):=by
 rw[Path.eqB];by_cases h:f=g
 · subst h;simp
 rw[decide_eq_false h,decide_eq_false];intro e;apply h;unfold bl at e;have:f.data=g.data:=by rw[←Array.toList_inj];exact e
 cases f;cases g;simp_all
theorem sameS (a c:Int) (f g:ByteArray) (w:World):(Op.equalIn 10000 39 (.agg #[.int .u64 a,.string f]) (.agg #[.int .u64 c,.string g])).run Tryz.prog w=.ok (decide (a=c∧f=g)) w:=by
 rw[run_equalIn_agg _ 9999 _ _ _ (by kernel_rfl) (by kernel_rfl)];simp[go_sem,Op.eqFields,same_ba];by_cases h1:a=c<;>by_cases h2:f=g<;>simp[h1,h2]
@[local go_sem] theorem ZoA (op:BinOp) (x y:Operand) (a c:Int) (f g:ByteArray) (w:World):(eqGuard op 39 x y (.agg #[.int .u64 a,.string f]) (.agg #[.int .u64 c,.string g])).run Tryz.prog w=.ok () w:=run_eqGuard_agg _ _ _ _ _ _ _ (by kernel_rfl)
@[local go_sem] theorem eqlS (a c:Int) (f g:ByteArray) (w:World):(binOp .eql 39 (.agg #[.int .u64 a,.string f]) (.agg #[.int .u64 c,.string g])).run Tryz.prog w=.ok (.bool (decide (a=c∧f=g))) w:=by
 rw[run_eql_struct,sameS];rfl
theorem sameE (x y:Ent) (w:World):(Op.equalIn 10000 61 x.val y.val).run Tryz.prog w=.ok (decide (x=y)) w:=by
 unfold Ent.val;rw[run_equalIn_agg _ 9999 _ _ _ (by kernel_rfl) (by kernel_rfl)];obtain⟨p1,n1,f1,m1,k1,s1⟩:=x;obtain⟨p2,n2,f2,m2,k2,s2⟩:=y;simp[go_sem,Op.eqFields,same_ba];by_cases h1:p1=p2<;>by_cases h2:n1=n2<;>by_cases h3:f1=f2<;>by_cases h4:m1=m2<;>by_cases h5:k1=k2<;>by_cases h6:s1=s2<;>simp[h1,h2,h3,h4,h5,h6]
@[local go_sem] theorem Zjf (op:BinOp) (x y:Operand) (c1 c2 c3 c4 c5 c6 d1 d2 d3 d4 d5 d6:Value) (w:World):(eqGuard op 61 x y (.agg #[c1,c2,c3,c4,c5,c6]) (.agg #[d1,d2,d3,d4,d5,d6])).run Tryz.prog w=.ok () w:=run_eqGuard_agg _ _ _ _ _ _ _ (by kernel_rfl)
theorem eqlE (x y:Ent) (w:World):(binOp .eql 61 x.val y.val).run Tryz.prog w=.ok (.bool (decide (x=y))) w:=by
 have:=sameE x y w
 unfold Ent.val at *
 rw[run_eql_struct,this];rfl
end Lock
end
section
namespace Lock
open Go.RowKit
open Go.Maps (Keyed)
open Path (bl Zaf overB)
attribute [-go_sem] run_eql_struct run_neq_struct run_eqGuard_agg
attribute [local go_sem] ZoA eqlS
abbrev boxS (b:Nat) (n:Int) (f:ByteArray):Part:=.cells b [.int .u64 n,.string f] 39
def Ent.of (e:Ent) (n:Int) (f:ByteArray):Bool:=decide (e.num=n∧e.foot=f)
def heldN (l:List Ent) (n:Int) (f:ByteArray):Nat:=(l.filter (·.of n f)).length
theorem Zfu (l:List Ent) (e:Ent) (n:Int) (f:ByteArray):heldN (l++[e]) n f=heldN l n f + if e.of n f then 1 else 0:=by
 unfold heldN;rw[List.filter_append];cases h:e.of n f<;>simp[List.filter_cons,h]
theorem Zj3 {l r:List Ent} (h:l.Perm r) (n:Int) (f:ByteArray):heldN l n f=heldN r n f:=(h.filter _).length_eq
theorem Zd3 (l:List Ent) (n:Int) (f:ByteArray):heldN l n f≤l.length:=List.length_filter_le _ _
theorem Zlz {w:World} {bS:Nat} {n k:Int} {f p g:ByteArray} (h:Sep [boxS bS n f] w) {c:Bool} (hc:decide (k=n∧g=f)=c):
 Calls Tryz.prog 205 #[.agg #[.string p,.int .u64 k,.string g],.pointer (some ⟨bS,0,none⟩)] w fun e w'=>e=.returned (.bool c)∧At [boxS bS n f] w [boxS bS n f] w':=by
 have hA:=At.start h;obtain⟨hA,hF⟩:=fY hA;clear h;have hc':=Hd hc;clear hc;go_enter Tryz.func205,Tryz.ntmps205
 go_wp2_with ((with_reducible refine gbx ?_);refine wCy hA ?_;clear hF hA;intro b1 w1 hA hb1 hF)
 go_ret;exact⟨by rw[←hc'.out,Bool.decide_and];rfl,hA.only1 sR⟩
def CtRel (L0:List Part) (m r bS:Nat) (n:Int) (f:ByteArray) (es:List Ent) (w:World) (k:Nat) (v:Value) (wr:World):Prop:=
 ∃ds:List Ent,At L0 w [Part.iter Tryz.prog 110 r m (ents es) (ents ds),boxS bS n f] wr∧(∀s ∈ ds,s ∈ es)∧v=.int .i64 (heldN ds n f)∧ds.length + k=es.length
theorem count_any {w:World} {m bS:Nat} {n:Int} {f:ByteArray} {es:List Ent} (h:Sep [mapC m (ents es),boxS bS n f] w) (hl:es.length≤1000000000):
 Calls Tryz.prog 204 #[.map (some m),.func (.func 205) #[] #[.pointer (some ⟨bS,0,none⟩)]] w fun e w'=>e=.returned (.int .i64 (heldN es n f))∧At [mapC m (ents es),boxS bS n f] w [mapC m (ents es),boxS bS n f] w':=by
 have hA:=At.start h;obtain⟨hA,hF⟩:=fY hA;clear h;go_enter Tryz.func204,Tryz.ntmps204
 go_wp2_with (refine ZaX rfl rfl rfl hA sR Tryz.underlying108 ?_;intro r w1 hB hr;replace hA:=hB;clear hF hB;obtain⟨hA,hF⟩:=fY hA)
 (try go_frame);go_loopg [5] es.length (CtRel [mapC m (ents es),boxS bS n f] m r bS n f es w)
 case atStart=>exact⟨[],hA,nofun,by simp[heldN],by simp⟩
 case round=>
  obtain⟨ds,hA2,hds,rfl,hk⟩:=hrel;clear hF hA;have hA:=hA2;clear hA2;obtain⟨hA,hF⟩:=fY hA;go_step
  go_step
  refine Zba rfl rfl rfl hA sR (fun hp=> ?_) (fun q w1 hq hd hB=> ?_)
  · have hc:=Hd (Zj3 (ents_perm hp) n f);have hM:=At.ranged hA sR;clear hp;go_wp2_with fail;go_ret;exact⟨by rw[hc.out];rfl,hM.only2 sR sR⟩
  obtain⟨s,hs,rfl⟩:=List.mem_map.1 hq;have hI:Zat Tryz.prog 110 w1 r m (ents es) (ents ds++[ent s]):=hB.get (A:=Part.iter _ _ r m (ents es) (ents ds++[ent s])) sR;have hen:=hI.entry;have hlen:(ds++[s]).length≤es.length:=by have:=hI.len;simpa [ents] using this
  have hsub:∀x ∈ ds++[s],x ∈ es:=fun x hx=>by
   rcases List.mem_append.1 hx with hx|hx
   · exact hds x hx
   have:x=s:=by simpa using hx
   rw[this];exact hs
  rw[ents_snoc] at hB;clear hF hA;have hA:=hB;have hk':=Hd hk;have hsub':=Hd hsub;have hsn:=Hd (Zfu ds s n f);have hcl:=Zd3 ds n f;simp only[List.length_append,List.length_cons,List.length_nil,Nat.zero_add] at hlen;clear hI hB hk hsub hds hq hd hs;obtain⟨hA,hF⟩:=fY hA;simp only[ent,Ent.key,Ent.val,keyV] at hen
  obtain⟨c,hc⟩:∃c,s.of n f=c:=⟨_,rfl⟩
  have hc':=Hd hc
  go_wp2_with (first|((with_reducible refine gst ?_);refine wTy hA ?_;clear hF hA;intro w1 hA hF)|((with_reducible refine gal ?_);refine wGy 110 [.string .empty,.int .u64 0,.string .empty] hA ?_;clear hF hA;intro b1 w1 hA hb1 hF))
  refine(Zlz (hA.sep1 (A:=boxS bS n f) sR) hc).mono ?_;clear hc;rintro e w2 ⟨rfl,hT⟩;replace hA:=hA.call1 (A:=boxS bS n f) sR hT;clear hF hT;obtain⟨hA,hF⟩:=fY hA;cases c
  all_goals
   go_wp2_with fail;go_roundg (gk - 1);case measure=>have:=hk'.out;omega
   case rel=>exact⟨ds++[s],hA.only2 sR sR,hsub'.out,by rw[hsn.out,hc'.out];simp,by have:=hk'.out;simp;omega⟩
theorem ZnF {w:World} {b:Bk} (h:Sep [BookP b] w) (n:Int) (f:ByteArray) (hl:b.es.length≤1000000000):
 Calls Tryz.prog 182 #[.pointer (some ⟨b.p,0,none⟩),.agg #[.int .u64 n,.string f]] w fun e w'=>e=.returned (.int .i64 (heldN b.es n f))∧At [BookP b] w [BookP b] w':=by
 have hA:=begin0 h;obtain⟨hA,hF⟩:=fY hA;clear h;go_enter Tryz.func182,Tryz.ntmps182
 go_wp2_with ((with_reducible refine gbx ?_);refine wCy (E:=39) hA ?_;clear hF hA;intro bS w1 hA hbS hF)
 refine(count_any (hA.sep2 (A:=mapC b.m (ents b.es)) (B:=boxS bS n f) sR sR) hl).mono ?_;rintro e w2 ⟨rfl,hT⟩;replace hA:=hA.call2 (A:=mapC b.m (ents b.es)) (B:=boxS bS n f) sR sR hT;clear hF hT;obtain⟨hA,hF⟩:=fY hA;go_wp2_with fail;go_ret;exact⟨rfl,close0 b hA sR sR sR⟩
end Lock
end
section
namespace Lock
open Path (bl Zaf overB)
def putC:List (ByteArray × Int)→ByteArray→Int→List (ByteArray × Int)
 |[],p,n=>[(p,n)]
 |c::cs,p,n=>if c.1=p then(p,n)::cs else c::putC cs p n
theorem Zda:∀{cs:List (ByteArray × Int)} {p:ByteArray} {n:Int},ctr cs p=none→putC cs p n=cs++[(p,n)]
 |[],p,n,_=>rfl
 |c::cs,p,n,h=>by
  unfold ctr at h;by_cases hc:c.1=p
  · simp[List.find?_cons,hc] at h
  have h2:ctr cs p=none:=by unfold ctr;simpa [List.find?_cons,hc] using h
  simp[putC,hc,Zda h2]
theorem ZdZ {l2:List (ByteArray × Int)} {p:ByteArray} {u n:Int}:∀{l1:List (ByteArray × Int)},(∀c ∈ l1,c.1≠p)→putC (l1++(p,u)::l2) p n=l1++(p,n)::l2
 |[],_=>by simp[putC]
 |c::l1,h=>by
  have:=ZdZ (l1:=l1) (n:=n) (u:=u) (l2:=l2) (fun x hx=>h x (by simp[hx]));simp[putC,h c (by simp),this]
theorem ZeR {cs:List (ByteArray × Int)} {p:ByteArray} {u:Int} (h:ctr cs p=some u):∃l1 l2,cs=l1++(p,u)::l2∧∀c ∈ l1,c.1≠p:=by
 unfold ctr at h;simp only[Option.map_eq_some_iff] at h;obtain⟨q,h1,rfl⟩:=h;obtain⟨h1,l1,l2,h2,h3⟩:=List.find?_eq_some_iff_append.1 h1;have h4:q.1=p:=by simpa using h1
 subst h4;exact⟨l1,l2,h2,fun c hc=>by simpa using h3 c hc⟩
theorem ZlZ (cs:List (ByteArray × Int)) (p q:ByteArray) (n:Int):ctr (putC cs p n) q=if p=q then some n else ctr cs q:=by
 induction cs with
 |nil=>by_cases h:p=q<;>simp[putC,ctr,h]
 |cons c cs ih=>
  unfold ctr at ih ⊢;by_cases hc:c.1=p
  · by_cases h:p=q
    · simp[putC,hc,List.find?_cons,h]
    have h2:¬c.1=q:=fun e=>h (hc.symm.trans e);simp[putC,hc,List.find?_cons,h]
  by_cases h2:c.1=q
  · have h:¬p=q:=fun e=>hc (h2.trans e.symm);have hq:¬q=p:=fun e=>h e.symm;simp[putC,hc,List.find?_cons,h,hq,h2]
  simp[putC,hc,List.find?_cons,h2,ih]
theorem Znb (cs:List (ByteArray × Int)) (p:ByteArray) (n:Int):(putC cs p n).length≤cs.length + 1:=by
 induction cs with
 |nil=>simp[putC]
 |cons c cs ih=>unfold putC;split<;>simp<;>omega
theorem Zd0 {cs:List (ByteArray × Int)} {p:ByteArray} {n:Int} {c:ByteArray × Int} (h:c ∈ putC cs p n):c=(p,n)∨c ∈ cs:=by
 induction cs with
 |nil=>simp[putC] at h;exact .inl h
 |cons d cs ih=>
  unfold putC at h;split at h
  · rcases List.mem_cons.1 h with h|h
    · exact .inl h
    exact .inr (by simp[h])
  rcases List.mem_cons.1 h with h|h
  · exact .inr (by simp[h])
  rcases ih h with q|q
  · exact .inl q
  exact .inr (by simp[q])
structure S3 where
 first:Int
 es:List Ent
 cs:List (ByteArray × Int)
def lastN:Int:=9223372036854775807
def S3.may (s:S3) (p:ByteArray) (n:Int) (f:ByteArray) (mode:Int):Int:=
 if Zbh p mode=false then 10 else if(find s.es p n f).isSome=true then 15 else if 64≤heldN s.es n f then 14 else if lastN≤counter s.first s.cs p then 53 else 0
def S3.newE (s:S3) (p:ByteArray) (n:Int) (f:ByteArray) (mode:Int):Ent:=⟨p,n,f,mode,counter s.first s.cs p + 1,maxS s.es p + 1⟩
def S3.added (s:S3) (p:ByteArray) (n:Int) (f:ByteArray) (mode:Int):S3:=⟨s.first,s.es++[s.newE p n f mode],putC s.cs p (counter s.first s.cs p + 1)⟩
def S3.add (s:S3) (p:ByteArray) (n:Int) (f:ByteArray) (mode:Int):S3:=if s.may p n f mode=0 then s.added p n f mode else s
def S3.addE (s:S3) (p:ByteArray) (n:Int) (f:ByteArray) (mode:Int):Ent:=if s.may p n f mode=0 then s.newE p n f mode else nullE
def S3.remove (s:S3) (p:ByteArray) (n:Int) (f:ByteArray):S3:=⟨s.first,s.es.filter (fun e=> !e.is p n f),s.cs⟩
def S3.dropAll (s:S3) (n:Int) (f:ByteArray):S3:=⟨s.first,s.es.filter (fun e=> !e.of n f),s.cs⟩
structure Op where
 kind:Int
 mode:Int
 path:ByteArray
 num:Int
 foot:ByteArray
def S3.step (s:S3) (o:Op):S3:=
 if o.kind=1 then s.add o.path o.num o.foot o.mode else if o.kind=2 then s.remove o.path o.num o.foot else if o.kind=3 then s.dropAll o.num o.foot else s
structure Op.ok (o:Op):Prop where
 path:o.path.size≤100
 num0:0≤o.num
 num1:o.num < big64
 foot:o.foot.size≤maxLen
structure Inv (s:S3) (k:Nat):Prop where
 len:s.es.length≤k
 clen:s.cs.length≤k
 keys:s.es.Pairwise (fun a b=>¬(a.path=b.path∧a.num=b.num∧a.foot=b.foot))
 ckeys:s.cs.Pairwise (fun a b=>a.1≠b.1)
 right:∀e ∈ s.es,Zaf (bl e.path)=true
 mode:∀e ∈ s.es,e.mode=1∨e.mode=2
 path:∀e ∈ s.es,e.path.size≤100
 num0:∀e ∈ s.es,0≤e.num
 num1:∀e ∈ s.es,e.num < big64
 foot:∀e ∈ s.es,e.foot.size≤maxLen
 stamp0:∀e ∈ s.es,1≤e.stamp
 stamp1:∀e ∈ s.es,e.stamp≤k
 n0:∀e ∈ s.es,0≤e.n
 n1:∀e ∈ s.es,e.n≤lastN
 order:s.es.Pairwise (fun a b=>overB (bl a.path) (bl b.path)=true→a.stamp < b.stamp)
 nums:s.es.Pairwise (fun a b=>a.path=b.path→a.n < b.n)
 ctrs:∀e ∈ s.es,e.n≤counter s.first s.cs e.path
 first0:0≤s.first
 first1:s.first < big64
 cpath:∀c ∈ s.cs,c.1.size≤100
 c0:∀c ∈ s.cs,s.first < c.2
 c1:∀c ∈ s.cs,c.2≤lastN
 cright:∀c ∈ s.cs,Zaf (bl c.1)=true
theorem Zpj {first:Int} (h0:0≤first) (h1:first < big64):Inv ⟨first,[],[]⟩ 0 where
 len:=by simp
 clen:=by simp
 keys:=.nil
 ckeys:=.nil
 right:=nofun
 mode:=nofun
 path:=nofun
 num0:=nofun
 num1:=nofun
 foot:=nofun
 stamp0:=nofun
 stamp1:=nofun
 n0:=nofun
 n1:=nofun
 order:=.nil
 nums:=.nil
 ctrs:=nofun
 first0:=h0
 first1:=h1
 cpath:=nofun
 c0:=nofun
 c1:=nofun
 cright:=nofun
theorem Inv.mono {s:S3} {k j:Nat} (h:Inv s k) (hj:k≤j):Inv s j:=
 {h with len:=by have:=h.len;omega,clen:=by have:=h.clen;omega,stamp1:=fun e he=>by have:=h.stamp1 e he;omega}
theorem Inv.sub {s:S3} {k:Nat} (h:Inv s k) {l:List Ent} (hl:l.Sublist s.es):Inv ⟨s.first,l,s.cs⟩ k:=
 {len:=Nat.le_trans hl.length_le h.len,clen:=h.clen,keys:=h.keys.sublist hl,ckeys:=h.ckeys,right:=fun e he=>h.right e (hl.subset he),mode:=fun e he=>h.mode e (hl.subset he),
  path:=fun e he=>h.path e (hl.subset he),num0:=fun e he=>h.num0 e (hl.subset he),num1:=fun e he=>h.num1 e (hl.subset he),foot:=fun e he=>h.foot e (hl.subset he),
  stamp0:=fun e he=>h.stamp0 e (hl.subset he),stamp1:=fun e he=>h.stamp1 e (hl.subset he),n0:=fun e he=>h.n0 e (hl.subset he),n1:=fun e he=>h.n1 e (hl.subset he),
  order:=h.order.sublist hl,nums:=h.nums.sublist hl,ctrs:=fun e he=>h.ctrs e (hl.subset he),first0:=h.first0,first1:=h.first1,cpath:=h.cpath,c0:=h.c0,c1:=h.c1,cright:=h.cright}
theorem Zdg {es:List Ent} {p:ByteArray} {n:Int} {f:ByteArray}:find es p n f=none↔∀e ∈ es,¬(e.path=p∧e.num=n∧e.foot=f):=by
 unfold find;rw[List.find?_eq_none];simp[Ent.is]
theorem Zic {l:List Ent} {p:ByteArray} {e:Ent} (he:e ∈ l) (h:overB (bl e.path) (bl p)=true):e.stamp≤maxS l p:=by
 have key:∀(l:List Ent) (m:Int),m≤l.foldl (fun m e=>if overB (bl e.path) (bl p) then max m e.stamp else m) m:=by
  intro l
  induction l with
  |nil=>intro m;exact Int.le_refl _
  |cons x l ih=>
   intro m;rw[List.foldl_cons];refine Int.le_trans ?_ (ih _);split<;>omega
 obtain⟨l1,l2,rfl⟩:=List.append_of_mem he;unfold maxS;rw[List.foldl_append,List.foldl_cons,if_pos h];exact Int.le_trans (by omega) (key l2 _)
theorem ZeA {s:S3} {p:ByteArray} {n:Int} {f:ByteArray} {mode:Int} (h:s.may p n f mode=0):Zbh p mode=true∧find s.es p n f=none∧heldN s.es n f < 64∧counter s.first s.cs p < lastN:=by
 unfold S3.may at h;split at h
 · omega
 rename_i h1;split at h
 · omega
 rename_i h2;split at h
 · omega
 rename_i h3;split at h
 · omega
 rename_i h4;exact⟨by simpa using h1,by simpa using h2,by omega,by omega⟩
theorem ZdM {p:ByteArray} {mode:Int} (h:Zbh p mode=true):Zaf (bl p)=true∧(mode=1∨mode=2):=by
 unfold Zbh at h;simpa using h
theorem ZcH {s:S3} {k:Nat} (h:Inv s k) (p:ByteArray):s.first≤counter s.first s.cs p:=by
 unfold counter
 cases hc:ctr s.cs p with
 |none=>simp
 |some u=>
  obtain⟨l1,l2,e,_⟩:=ZeR hc;have:=h.c0 (p,u) (by rw[e];simp);simp at this ⊢;omega
theorem Zls {s:S3} {k:Nat} (h:Inv s k) {p:ByteArray} {n:Int} {f:ByteArray} {mode:Int} (hm:s.may p n f mode=0) (hp:p.size≤100) (h0:0≤n) (h1:n < big64) (hf:f.size≤maxLen):Inv (s.added p n f mode) (k + 1):=by
 obtain⟨hr,hn,hh,hc⟩:=ZeA hm;obtain⟨hr,hmo⟩:=ZdM hr;rw[Zdg] at hn;have hms:=Zdu (l:=s.es) (p:=p) (B:=k) (by omega) h.stamp1;have hcg:=ZcH h p;have hf0:=h.first0
 have mem:∀{P:Ent→Prop},(∀e ∈ s.es,P e)→P (s.newE p n f mode)→∀e ∈ s.es++[s.newE p n f mode],P e:=fun h1 h2 e he=>by
  rcases List.mem_append.1 he with he|he
  · exact h1 e he
  rw[List.mem_singleton.1 he];exact h2
 have pw:∀{R:Ent→Ent→Prop},s.es.Pairwise R→(∀e ∈ s.es,R e (s.newE p n f mode))→(s.es++[s.newE p n f mode]).Pairwise R:=fun h1 h2=>
  List.pairwise_append.2 ⟨h1,List.pairwise_singleton _ _,fun a ha b hb=>by rw[List.mem_singleton.1 hb];exact h2 a ha⟩
 have cc:∀q,counter s.first (putC s.cs p (counter s.first s.cs p + 1)) q=if p=q then counter s.first s.cs p + 1 else counter s.first s.cs q:=fun q=>by
  unfold counter;rw[ZlZ];split<;>simp
 have ck:(putC s.cs p (counter s.first s.cs p + 1)).Pairwise (fun a b=>a.1≠b.1):=by
  cases hq:ctr s.cs p with
  |none=>
   rw[Zda hq];refine List.pairwise_append.2 ⟨h.ckeys,List.pairwise_singleton _ _,fun a ha b hb=> ?_⟩;rw[List.mem_singleton.1 hb];intro e;have:=Zgz hq (ctrE a) (List.mem_map.2 ⟨a,ha,rfl⟩);exact this (by simp[ctrE,e])
  |some u=>
   obtain⟨l1,l2,e,hl⟩:=ZeR hq;have hk:=h.ckeys;rw[e] at hk ⊢;rw[ZdZ hl];rw[List.pairwise_append] at hk ⊢;refine⟨hk.1,?_,fun a ha b hb=> ?_⟩
   · have:=List.pairwise_cons.1 hk.2.1
     exact List.pairwise_cons.2 ⟨this.1,this.2⟩
   rcases List.mem_cons.1 hb with rfl|hb
   · exact hl a ha
   exact hk.2.2 a ha b (by simp[hb])
 constructor
 case len=>simp[S3.added];exact h.len
 case clen=>exact Nat.le_trans (Znb _ _ _) (by have:=h.clen;omega)
 case keys=>exact pw h.keys (fun e he=>hn e he)
 case ckeys=>exact ck
 case right=>exact mem h.right hr
 case mode=>exact mem h.mode hmo
 case path=>exact mem h.path hp
 case num0=>exact mem h.num0 h0
 case num1=>exact mem h.num1 h1
 case foot=>exact mem h.foot hf
 case stamp0=>exact mem h.stamp0 (by simp only[S3.newE];omega)
 case stamp1=>exact mem (fun e he=>by have:=h.stamp1 e he;omega) (by simp only[S3.newE];omega)
 case n0=>exact mem h.n0 (by simp only[S3.newE];omega)
 case n1=>exact mem h.n1 (by simp only[S3.newE];omega)
 case order=>exact pw h.order (fun e he ho=>by have:e.stamp≤maxS s.es p:=Zic he ho;simp only[S3.newE];omega)
 case nums=>exact pw h.nums (fun e he ho=>by have:=h.ctrs e he;simp only[S3.newE] at ho ⊢;rw[ho] at this;omega)
 case ctrs=>
  refine mem (fun e he=> ?_) ?_
  · have:=h.ctrs e he
    simp only[S3.added];rw[cc];split
    · rename_i hq;subst hq;omega
    exact this
  simp only[S3.added,S3.newE];rw[cc,if_pos rfl];exact Int.le_refl _
 case first0=>exact h.first0
 case first1=>exact h.first1
 case cpath=>
  intro c hc;rcases Zd0 hc with rfl|hc
  · exact hp
  exact h.cpath c hc
 case c0=>
  intro c hc;rcases Zd0 hc with rfl|hc
  · simp only[S3.added];omega
  exact h.c0 c hc
 case c1=>
  intro c hc;rcases Zd0 hc with rfl|hc
  · simp only;omega
  exact h.c1 c hc
 case cright=>
  intro c hc;rcases Zd0 hc with rfl|hc
  · exact hr
  exact h.cright c hc
theorem Zgm {s:S3} {k:Nat} (h:Inv s k) {o:Op} (ho:o.ok):Inv (s.step o) (k + 1):=by
 unfold S3.step;split
 · unfold S3.add;split
   · rename_i hm;exact Zls h hm ho.path ho.num0 ho.num1 ho.foot
   exact h.mono (by omega)
 split
 · exact(h.sub List.filter_sublist).mono (by omega)
 split
 · exact(h.sub List.filter_sublist).mono (by omega)
 exact h.mono (by omega)
def Zbi (l:List Ent) (k:Nat):Bool:=match l[k]? with
 |some e=>(l.take k).all (fun x=> !wayB x e)
 |none=>false
theorem ZfP {a b:Ent} (h:wayB a b=true):overB (bl a.path) (bl b.path)=true:=by
 unfold wayB at h;simp at h
 exact h.2
theorem ZcX {l:List Ent} (ho:l.Pairwise (fun a b=>overB (bl a.path) (bl b.path)=true→a.stamp < b.stamp)) {k:Nat} {e:Ent} (hk:l[k]? =some e):ZaG l e=Zbi l k:=by
 obtain⟨hk1,hk2⟩:=List.getElem?_eq_some_iff.1 hk;unfold Zbi;rw[hk]
 have hl:l=l.take k++e::l.drop (k + 1):=by
  rw[←hk2,List.getElem_cons_drop hk1,List.take_append_drop]
 have ho':=ho;rw[hl,List.pairwise_append] at ho';have h3:=List.pairwise_cons.1 ho'.2.1;show ZaG l e=(l.take k).all (fun x=> !wayB x e);conv=>lhs;rw[hl]
 unfold ZaG;rw[List.all_append,List.all_cons]
 have e1:(l.take k).all (fun x=> !(decide (x.stamp < e.stamp)&&wayB x e))=(l.take k).all (fun x=> !wayB x e):=by
  rw[Bool.eq_iff_iff,List.all_eq_true,List.all_eq_true];refine forall_congr' fun x=>forall_congr' fun hx=> ?_
  cases hw:wayB x e with
  |false=>simp
  |true=>simp[ho'.2.2 x hx e (by simp) (ZfP hw)]
 have e2:(l.drop (k + 1)).all (fun x=> !(decide (x.stamp < e.stamp)&&wayB x e))=true:=by
  rw[List.all_eq_true];intro x hx
  cases hw:wayB x e with
  |false=>simp
  |true=>
   have:=h3.1 x hx (by rw[Path.Zg4];exact ZfP hw)
   simp;omega
 rw[e1,e2];simp
def ZaJ (l:List Ent) (p:ByteArray) (mode:Int):Bool:=l.all (fun x=> !wayB x ⟨p,0,.empty,mode,0,0⟩)&&Zbh p mode
theorem Zis (l:List Ent) (p:ByteArray) (mode:Int):ZaG l ⟨p,0,.empty,mode,0,maxS l p + 1⟩=l.all (fun x=> !wayB x ⟨p,0,.empty,mode,0,0⟩):=by
 unfold ZaG;rw[Bool.eq_iff_iff,List.all_eq_true,List.all_eq_true];refine forall_congr' fun x=>forall_congr' fun hx=> ?_;have e:wayB x ⟨p,0,.empty,mode,0,maxS l p + 1⟩=wayB x ⟨p,0,.empty,mode,0,0⟩:=rfl;rw[e]
 cases hw:wayB x ⟨p,0,.empty,mode,0,0⟩ with
 |false=>simp
 |true=>
  have h:x.stamp≤maxS l p:=Zic hx (ZfP hw);have:x.stamp < maxS l p + 1:=by omega
  simp[this]
def Zi3 (l:List Ent) (p:ByteArray) (n:Int) (f:ByteArray):Option Nat:=l.findIdx? (·.is p n f)
def Zcy (l:List Ent) (p:ByteArray) (n:Int):Bool:=match l.findIdx? (fun e=>decide (e.path=p∧e.n=n)) with
 |some k=>Zbi l k
 |none=>false
theorem Zno {l:List Ent} (h:l.Pairwise (fun a b=>a.path=b.path→a.n < b.n)) {i j:Nat} {a b:Ent} (hi:l[i]? =some a) (hj:l[j]? =some b) (hp:a.path=b.path) (hn:a.n=b.n):i=j:=by
 obtain⟨hi1,hi2⟩:=List.getElem?_eq_some_iff.1 hi;obtain⟨hj1,hj2⟩:=List.getElem?_eq_some_iff.1 hj;have hp':=List.pairwise_iff_getElem.1 h;rcases Nat.lt_trichotomy i j with q|q|q
 · have:=hp' i j hi1 hj1 q (by rw[hi2,hj2,hp])
   rw[hi2,hj2] at this;omega
 · exact q
 have:=hp' j i hj1 hi1 q (by rw[hi2,hj2,hp])
 rw[hi2,hj2] at this;omega
theorem Zkh {l:List Ent} (h:l.Pairwise (fun a b=>a.path=b.path→a.n < b.n)) {k:Nat} {e:Ent} (hk:l[k]? =some e):Zcy l e.path e.n=Zbi l k:=by
 unfold Zcy
 cases hf:l.findIdx? (fun x=>decide (x.path=e.path∧x.n=e.n)) with
 |none=>
  have:=List.findIdx?_eq_none_iff.1 hf e (List.mem_of_getElem? hk)
  simp at this
 |some j=>
  obtain⟨hj,h2,_⟩:=List.findIdx?_eq_some_iff_getElem.1 hf;simp at h2
  rw[Zno h (List.getElem?_eq_getElem hj) hk h2.1 h2.2]
end Lock
end
section
namespace Lock
open Go.RowKit
open Go.Maps (Keyed)
open Path (bl Zaf overB)
def Bk.st (b:Bk):S3:=⟨b.first,b.es,b.cs⟩
theorem through1 {L0 L F:List Part} {A:Part} {w0 w:World} {P:Program} {f:FuncId} {args:Array Value} {v:Value} (h:At L0 w0 L w) (s:Sel A L F) (hc:Sep [A] w→Calls P f args w fun e w'=>e=.returned v∧At [A] w [A] w'):
 Calls P f args w fun e w'=>e=.returned v∧At L0 w0 L w':=
 (hc (h.sep1 s)).mono fun e w' ⟨he,t⟩=>⟨he,((h.call1 s t).perm s.perm.symm)⟩
theorem through0 {L0 L:List Part} {w0 w:World} {P:Program} {f:FuncId} {args:Array Value} {v:Value} (h:At L0 w0 L w) (hc:Calls P f args w fun e w'=>e=.returned v∧Ext w w'):
 Calls P f args w fun e w'=>e=.returned v∧At L0 w0 L w':=hc.mono fun e w' ⟨he,t⟩=>⟨he,h.ext t⟩
section
variable {w:World} {b:Bk} {p f:ByteArray} {n mode:Int}
theorem Znu {has:Bool} (hh:(find b.es p n f).isSome=has):b.st.may p n f mode=if Zbh p mode=false then 10 else if has=true then 15 else if 64≤heldN b.es n f then 14 else if lastN≤counter b.first b.cs p then 53 else 0:=by
 subst hh;rfl
theorem may_any (h:Sep [BookP b] w) (hp:p.size≤1000000) (h0:0≤n) (h1:n < big64) (hf:f.size≤maxLen) (hl:b.es.length≤1000000000) (hc:∀q,0≤counter b.first b.cs q):
 Calls Tryz.prog 153 #[.pointer (some ⟨b.p,0,none⟩),.string p,.agg #[.int .u64 n,.string f],.int .i64 mode] w fun e w'=>e=.returned (.int .i64 (b.st.may p n f mode))∧At [BookP b] w [BookP b] w':=by
 obtain⟨kl,hk⟩:=keyP (p:=p) (by unfold maxLen;omega) h0 h1 hf;have hA:=begin0 h;have hF:=hA.facts;have hr:=right_any p mode;have hcode:=fun has=>Znu (b:=b) (p:=p) (f:=f) (n:=n) (mode:=mode) (has:=has)
 obtain⟨r,hrr⟩:∃r,Zbh p mode=r:=⟨_,rfl⟩
 rw[hrr] at hcode hr;unfold keyV at *
 cases hfi:find b.es p n f with
 |none=>
  have hmiss:=Hd (find_none hfi);have hcode':=Hd (hcode false (by rw[hfi];rfl));clear h hfi hcode hrr;obtain⟨hA,hF⟩:=fY hA;go_enter Tryz.func153,Tryz.ntmps153
  go_wp2_with ((with_reducible refine gbx ?_);refine wCy (E:=39) hA ?_;clear hF hA;intro bS w1 hA hbS hF)
  (refine Zau (a1:= ?a1_q1) (v:= ?v_q1) 11 9 61 _ (.agg #[.string .empty,.int .u64 0,.string .empty,.int .i64 0,.int .u64 0,.int .i64 0]) [.string .empty,.int .u64 0,.string .empty,.int .i64 0,.int .u64 0,.int .i64 0] ([.string .empty,.int .u64 0,.string .empty,.int .i64 0,.int .u64 0,.int .i64 0]) (by kernel_rfl) (by kernel_rfl) rfl rfl ?hyd_q1 (by kernel_rfl) rfl hA ?h1_q1 ?hd_q1 ?hy_q1 ?hu_q1 ?hsz_q1 ?hus_q1 ?hl_q1 ?h2_q1);(case h1_q1=>(intro R wR hR;(try clear hF);(simp only[List.take_succ_cons,List.take_zero,List.drop_succ_cons,List.drop_zero]);(have hn1:=Cl.none hR);(have hn2:=Cl.none2 hR);(repeat(first|go_big_quiet_skip|(go_big_quiet_want;(first|(refine qM 39 2 ?_;go_frame;go_big_quiet_on)|((refine ZbR rfl rfl (by(try simp only[Act.eval,eV])<;>exact rfl) (k:=110) (es:=ents b.es) sR lawP Tryz.underlying108 hk hmiss.out (z:=nullE.val) (fun _=>by kernel_rfl) ?_);go_frame;go_big_quiet_on)|(refine qL ?_;go_frame;go_big_quiet_on)|(go_big_quiet_op;(first|go_big_quiet_on))))));(refine wpQuiet_nil ?_);exact rfl));(case hyd_q1=>rfl);(case hd_q1=>(first|decide|simp));(case hy_q1=>((try simp only[Act.eval,Array.getD_eq_getD_getElem?,List.getElem?_toArray,List.getElem?_cons_succ,List.getElem?_cons_zero,Option.getD_some]);exact rfl));(case hu_q1=>exact rfl);(case hsz_q1=>kernel_rfl);(case hus_q1=>rfl);(case hl_q1=>rfl);(intro b1 w1 hB hb1;replace hA:=hB;clear hF hB;(simp only[List.drop_succ_cons,List.drop_zero]);obtain⟨hA,hF⟩:=fY hA;(try go_frame))
  replace hA:=fold0 b hA sR sR sR;clear hF;obtain⟨hA,hF⟩:=fY hA;go_wp2_with fail;refine(hr w1 hp).mono ?_;clear hr;rintro e w2 ⟨rfl,hx⟩;replace hA:=hA.ext hx;clear hF hx;obtain⟨hA,hF⟩:=fY hA;cases r
  · go_wp2_with fail;go_ret;exact⟨by rw[hcode'.out];rfl,hA.only1 sR⟩
  go_wp2_with fail;refine(ZnF (hA.sep1 (A:=BookP b) sR) n f hl).mono ?_;have hq0:heldN b.es n f≤1000000000:=by have:=Zd3 b.es n f;omega
  generalize heldN b.es n f=q at *
  rintro e w1 ⟨rfl,hT⟩;replace hA:=hA.call1 sR hT;clear hF hT;obtain⟨hA,hF⟩:=fY hA;by_cases hq:64≤q
  · have hq':(64:Int)≤(q:Int):=by omega
    have hq2:=Hd hq;clear hq;go_wp2_with fail;go_ret;exact⟨by rw[hcode'.out];simp[hq2.out],hA.only1 sR⟩
  have hq':¬(64:Int)≤(q:Int):=by omega
  have hcode2:b.st.may p n f mode=if lastN≤counter b.first b.cs p then 53 else 0:=by rw[hcode'.out,if_neg (by simp),if_neg (by simp),if_neg hq]
  have hcode3:=Hd hcode2;clear hq hcode2 hcode';go_wp2_with fail;refine(ZeS (hA.sep1 (A:=BookP b) sR) (p:=p) (by unfold maxLen;omega)).mono ?_;have hc0:=hc p;generalize counter b.first b.cs p=cc at *
  rintro e w1 ⟨rfl,hT⟩;replace hA:=hA.call1 sR hT;clear hF hT;obtain⟨hA,hF⟩:=fY hA;by_cases hq3:9223372036854775807≤cc
  · have hcode4:=Hd (hcode3.out.trans (if_pos hq3));go_wp2_with fail;go_ret;exact⟨by rw[hcode4.out];rfl,hA.only1 sR⟩
  have hcode4:=Hd (hcode3.out.trans (if_neg hq3));go_wp2_with fail;go_ret;exact⟨by rw[hcode4.out];rfl,hA.only1 sR⟩
 |some x=>
  have hmem:=Hd (find_mem hfi);have hcode':=Hd (hcode true (by rw[hfi];rfl));clear h hfi hcode hrr;obtain⟨hA,hF⟩:=fY hA;unfold Ent.val keyV at hmem;go_enter Tryz.func153,Tryz.ntmps153
  go_wp2_with ((with_reducible refine gbx ?_);refine wCy (E:=39) hA ?_;clear hF hA;intro bS w1 hA hbS hF)
  (refine Zau (a1:= ?a1_q2) (v:= ?v_q2) 11 9 61 _ (.agg #[.string .empty,.int .u64 0,.string .empty,.int .i64 0,.int .u64 0,.int .i64 0]) [.string .empty,.int .u64 0,.string .empty,.int .i64 0,.int .u64 0,.int .i64 0] ([.string x.path,.int .u64 x.num,.string x.foot,.int .i64 x.mode,.int .u64 x.n,.int .i64 x.stamp]) (by kernel_rfl) (by kernel_rfl) rfl rfl ?hyd_q2 (by kernel_rfl) rfl hA ?h1_q2 ?hd_q2 ?hy_q2 ?hu_q2 ?hsz_q2 ?hus_q2 ?hl_q2 ?h2_q2);(case h1_q2=>(intro R wR hR;(try clear hF);(simp only[List.take_succ_cons,List.take_zero,List.drop_succ_cons,List.drop_zero]);(have hn1:=Cl.none hR);(have hn2:=Cl.none2 hR);(repeat(first|go_big_quiet_skip|(go_big_quiet_want;(first|(refine qM 39 2 ?_;go_frame;go_big_quiet_on)|((refine ZbQ rfl rfl (by(try simp only[Act.eval,eV])<;>exact rfl) (k:=110) (es:=ents b.es) sR lawP Tryz.underlying108 hk hmem.out ?_);go_frame;go_big_quiet_on)|(refine qL ?_;go_frame;go_big_quiet_on)|(go_big_quiet_op;(first|go_big_quiet_on))))));(refine wpQuiet_nil ?_);exact rfl));(case hyd_q2=>rfl);(case hd_q2=>(first|decide|simp));(case hy_q2=>((try simp only[Act.eval,Array.getD_eq_getD_getElem?,List.getElem?_toArray,List.getElem?_cons_succ,List.getElem?_cons_zero,Option.getD_some]);exact rfl));(case hu_q2=>exact rfl);(case hsz_q2=>kernel_rfl);(case hus_q2=>rfl);(case hl_q2=>rfl);(intro b1 w1 hB hb1;replace hA:=hB;clear hF hB;(simp only[List.drop_succ_cons,List.drop_zero]);obtain⟨hA,hF⟩:=fY hA;(try go_frame))
  replace hA:=fold0 b hA sR sR sR;clear hF;obtain⟨hA,hF⟩:=fY hA;go_wp2_with fail;refine(hr w1 hp).mono ?_;clear hr;rintro e w2 ⟨rfl,hx⟩;replace hA:=hA.ext hx;clear hF hx;obtain⟨hA,hF⟩:=fY hA;cases r
  all_goals
   go_wp2_with fail;go_ret;exact⟨by rw[hcode'.out];rfl,hA.only1 sR⟩
end
end Lock
end
end Go.Proofs.YtknoefbcmomalabGreatDoor
