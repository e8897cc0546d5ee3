/- TabO, joined. -/
import Derived.Test.YtkdjkngfnapjcaaGreatDoorQ23
import Derived.Deep.Slices
import Derived.DataReads
import Derived.OpenShut
import Derived.Lib.SmallJoins
set_option linter.unusedSimpArgs false
set_option linter.unusedVariables false
set_option maxRecDepth 100000
set_option maxHeartbeats 16000000
namespace Go.Proofs.YtkdjkngfnapjcaaGreatDoor
section
namespace Tab
open Go.RowKit Go.Joins Go.ChangeShapes Go.WideShapes
open Cmd (Cm)
theorem Zc2 {α:Type} (l:List α) (a s:Nat) {t:Nat} (h:a + s=t):l.drop a=(l.drop a).take s++l.drop t:=by
 subst h
 conv=>lhs;rw[←List.take_append_drop s (l.drop a)]
 rw[List.drop_drop]
theorem ZkQ {α:Type} (l:List α) {n:Nat} (h:l.length=n):l.drop n=[]:=List.drop_eq_nil_of_le (by omega)
theorem old_cell {W w:World} (h:(Part.old W).holds w) {b off:Nat} {u:Value} (hc:W.cell? ⟨b,off,none⟩=some u):w.cell? ⟨b,off,none⟩=some u:=by
 have hb:b < W.heap.size:=by
  rcases Nat.lt_or_ge b W.heap.size with q|q
  · exact q
  simp[World.cell?,Array.getElem?_eq_none q] at hc
 have:=h b hb;rw[←hc];simp[World.cell?,this]
theorem ZnS {α:Type} {enc:α→List Value} {size:Nat} (hs:∀x,(enc x).length=size) (h0:0 < size) {l:List α} {j:Nat} {u:Value} (h:(l.flatMap enc)[j]? =some u):∃x,l[j / size]? =some x∧(enc x)[j % size]? =some u:=by
 have hlt:=(List.getElem?_eq_some_iff.1 h).1;rw[Zbi enc size hs] at hlt;have hq:j / size < l.length:=(Nat.div_lt_iff_lt_mul h0).2 hlt;refine⟨l[j / size],List.getElem?_eq_getElem hq,?_⟩;rw[←Zb1 enc size hs l (j / size) _ (List.getElem?_eq_getElem hq) (j % size) (Nat.mod_lt _ h0),Nat.div_add_mod'];exact h
theorem Zka {α:Type} {enc:α→List Value} {size:Nat} (hs:∀x,(enc x).length=size) (h0:0 < size) {W:World} {b off cap:Nat} {l:List α}
 (h:∀j x,l[j]? =some x→∀t u,(enc x)[t]? =some u→W.cell? ⟨b,off + j * size + t,none⟩=some u):∀w,(Part.old W).holds w→Reads w (.slice (some ⟨b,off,none⟩) l.length cap) l.length (l.flatMap enc):=by
 intro w hw;refine⟨_,cap,rfl,(fun q=>by cases q),fun j u hj=>⟨b,off,rfl,?_⟩⟩;obtain⟨x,hx,hu⟩:=ZnS hs h0 hj;have:=h _ x hx _ u hu;rw[Nat.add_assoc,Nat.div_add_mod'] at this;exact old_cell hw this
theorem Zkb {α:Type} (enc:α→List Value) (W:World):∀w,(Part.old W).holds w→Reads w (.slice none 0 0) ([]:List α).length (([]:List α).flatMap enc):=fun w _=>⟨none,0,rfl,fun _=>rfl,fun j u hj=>by simp at hj⟩
section
variable {H:Type} {enc:TypeId × Value→H} {W:World} {base:Nat} {spare:Nat→Bool} {held:Bool} {fuel:Nat}
theorem wf64 {n:Int} (h:(Lit.int .u64 n).wf=true):0≤n∧n < Lease.big64:=by
 simp[Lit.wf,IntKind.min,IntKind.max,IntKind.signed,IntKind.bits] at h;unfold Lease.big64
 omega
theorem Zkk {cs:List Value} {y:DataW H × List MemPlace} (h:DataW.trod enc Tryz.prog W base spare held fuel 25 cs=some y):∃n f,cs=[.int .u64 n,.string f]∧(0≤n∧n < Lease.big64)∧f.size≤maxLen:=by
 obtain⟨xs,n,_,rfl,hl,hxl,hf⟩:=DataW.trod_struct Tryz.underlying25 h;have hn:cs.length=2:=hl.trans (by kernel_rfl);have hx:xs.length=2:=hxl
 have hc_string:Tryz.prog.cellsOf 9=1:=by kernel_rfl
 have hc_uint64:Tryz.prog.cellsOf 23=1:=by kernel_rfl
 match xs,hx with
 |[y0,y1],_=>
  have f0:DataW.trod enc Tryz.prog W base spare held n 23 ((cs.drop 0).take (Tryz.prog.cellsOf 23))=some y0:=hf 0 _ rfl;rw[hc_uint64] at f0;have f1:DataW.trod enc Tryz.prog W base spare held n 9 ((cs.drop 1).take (Tryz.prog.cellsOf 9))=some y1:=hf 1 _ rfl;rw[hc_string] at f1;obtain⟨k0,e0,_,w0⟩:=DataW.trod_int Tryz.underlying23 f0;obtain⟨k1,e1,_,w1⟩:=DataW.trod_string Tryz.underlying9 f1;have hcs:cs.drop 0=(cs.drop 0).take 1++((cs.drop 1).take 1++[]):=(Zc2 cs 0 1 (t:=1) rfl).trans (congrArg (_++ ·) ((Zc2 cs 1 1 (t:=2) rfl).trans (congrArg (_++ ·) (ZkQ cs hn))));rw[e0,e1] at hcs;exact⟨k0,k1,hcs,wf64 w0,w1⟩
theorem Zl0 {cs:List Value} {y:DataW H × List MemPlace} (h:DataW.trod enc Tryz.prog W base spare held fuel 27 cs=some y):∃c:Cm,cs=c.cells∧CmV c:=by
 obtain⟨xs,n,_,rfl,hl,hxl,hf⟩:=DataW.trod_struct Tryz.underlying27 h;have hn:cs.length=8:=hl.trans (by kernel_rfl);have hx:xs.length=7:=hxl
 have hc_int:Tryz.prog.cellsOf 3=1:=by kernel_rfl
 have hc_moothillcmdSession:Tryz.prog.cellsOf 25=2:=by kernel_rfl
 have hc_string:Tryz.prog.cellsOf 9=1:=by kernel_rfl
 have hc_uint64:Tryz.prog.cellsOf 23=1:=by kernel_rfl
 match xs,hx with
 |[y0,y1,y2,y3,y4,y5,y6],_=>
  have f0:DataW.trod enc Tryz.prog W base spare held n 3 ((cs.drop 0).take (Tryz.prog.cellsOf 3))=some y0:=hf 0 _ rfl;rw[hc_int] at f0;have f1:DataW.trod enc Tryz.prog W base spare held n 25 ((cs.drop 1).take (Tryz.prog.cellsOf 25))=some y1:=hf 1 _ rfl;rw[hc_moothillcmdSession] at f1;have f2:DataW.trod enc Tryz.prog W base spare held n 23 ((cs.drop 3).take (Tryz.prog.cellsOf 23))=some y2:=hf 2 _ rfl;rw[hc_uint64] at f2;have f3:DataW.trod enc Tryz.prog W base spare held n 9 ((cs.drop 4).take (Tryz.prog.cellsOf 9))=some y3:=hf 3 _ rfl;rw[hc_string] at f3;have f4:DataW.trod enc Tryz.prog W base spare held n 3 ((cs.drop 5).take (Tryz.prog.cellsOf 3))=some y4:=hf 4 _ rfl;rw[hc_int] at f4;have f5:DataW.trod enc Tryz.prog W base spare held n 23 ((cs.drop 6).take (Tryz.prog.cellsOf 23))=some y5:=hf 5 _ rfl;rw[hc_uint64] at f5;have f6:DataW.trod enc Tryz.prog W base spare held n 3 ((cs.drop 7).take (Tryz.prog.cellsOf 3))=some y6:=hf 6 _ rfl;rw[hc_int] at f6;obtain⟨k0,e0,_,_⟩:=DataW.trod_int Tryz.underlying3 f0;obtain⟨k1,k2,e1,w1,v1⟩:=Zkk f1;obtain⟨k3,e2,_,w2⟩:=DataW.trod_int Tryz.underlying23 f2;obtain⟨k4,e3,_,w3⟩:=DataW.trod_string Tryz.underlying9 f3;obtain⟨k5,e4,_,_⟩:=DataW.trod_int Tryz.underlying3 f4;obtain⟨k6,e5,_,w5⟩:=DataW.trod_int Tryz.underlying23 f5;obtain⟨k7,e6,_,_⟩:=DataW.trod_int Tryz.underlying3 f6;have hcs:cs.drop 0=(cs.drop 0).take 1++((cs.drop 1).take 2++((cs.drop 3).take 1++((cs.drop 4).take 1++((cs.drop 5).take 1++((cs.drop 6).take 1++((cs.drop 7).take 1++[])))))):=(Zc2 cs 0 1 (t:=1) rfl).trans (congrArg (_++ ·) ((Zc2 cs 1 2 (t:=3) rfl).trans (congrArg (_++ ·) ((Zc2 cs 3 1 (t:=4) rfl).trans (congrArg (_++ ·) ((Zc2 cs 4 1 (t:=5) rfl).trans (congrArg (_++ ·) ((Zc2 cs 5 1 (t:=6) rfl).trans (congrArg (_++ ·) ((Zc2 cs 6 1 (t:=7) rfl).trans (congrArg (_++ ·) ((Zc2 cs 7 1 (t:=8) rfl).trans (congrArg (_++ ·) (ZkQ cs hn))))))))))))));rw[e0,e1,e2,e3,e4,e5,e6] at hcs;exact⟨⟨k0,k1,k2,k3,k4,k5,k6,k7⟩,hcs,w1,v1,w3,wf64 w2,(wf64 w5).1⟩
theorem open_cmds {v:Value} {y:DataW H × List MemPlace} (hsp:∀b,spare b=true) (h:DataW.trod enc Tryz.prog W base spare held fuel 73 [v]=some y):∃(l:List Cm) (ax:Option Addr) (cap:Nat),v=.slice ax l.length cap∧l.length≤cap∧cap≤maxLen∧ZeA (Part.old W) v l∧∀c ∈ l,CmV c:=by
 rcases Go.Deep.open_slice Tryz.underlying73 h with⟨hcs,_⟩|⟨a,len,cap,m,n,D,Pl,hcs,_,hl,hm,hmm,_,hel⟩
 · simp at hcs
   subst hcs;exact⟨[],none,0,rfl,by simp,by simp[maxLen],Zkb Cm.cells W,nofun⟩
 simp at hcs
 subst hcs
 have hco:Tryz.prog.cellsOf 27=8:=by kernel_rfl
 rw[hco] at hel
 have hall:∀i,i < len→∃c:Cm,W.cells? base (a.add (i * 8)) 8=some c.cells∧CmV c:=fun i hi=>by
  obtain⟨cs',h1,h2⟩:=hel i (by rw[hmm,hsp,if_pos rfl];omega);obtain⟨o,rfl,h3⟩:=Zl0 h2;exact⟨o,h1,h3⟩
 obtain⟨f,hf⟩:=@Go.Deep.choose_lt Cm ⟨⟨0,0,.empty,0,.empty,0,0,0⟩⟩ len _ hall
 have hlen:((List.range len).map f).length=len:=by simp
 have hget:∀j x,((List.range len).map f)[j]? =some x→j < len∧x=f j:=fun j x hx=>by
  have hj:=(List.getElem?_eq_some_iff.1 hx).1;rw[hlen] at hj;rw[List.getElem?_map,List.getElem?_range hj] at hx;exact⟨hj,(Option.some.inj hx).symm⟩
 have hmem:∀c ∈ (List.range len).map f,CmV c:=fun c hc=>by
  obtain⟨j,hj,rfl⟩:=List.mem_map.1 hc;exact(hf j (List.mem_range.1 hj)).2
 rcases Nat.eq_zero_or_pos len with rfl|hpos
 · refine⟨[],some a,cap,rfl,by simp,hm,fun w hw=>⟨_,cap,rfl,(fun _=>rfl),fun j u hj=>by simp at hj⟩,nofun⟩
 have hz:=(World.cells?_some (hf 0 hpos).1).2.2 0 (by omega)
 obtain⟨b,off,sp⟩:=a
 have hsn:sp=none:=by
  have:=congrArg Addr.spot (Zgn hz)
  simpa [Addr.add] using this
 subst hsn;refine⟨(List.range len).map f,some ⟨b,off,none⟩,cap,by rw[hlen],by rw[hlen];exact hl,hm,?_,hmem⟩
 have hr:=Zka (enc:=Cm.cells) (size:=8) (fun _=>rfl) (by omega) (W:=W) (b:=b) (off:=off) (cap:=cap) (l:=(List.range len).map f) fun j x hx t u hu=>by
  obtain⟨hj,rfl⟩:=hget j x hx;have ht:t < 8:=(List.getElem?_eq_some_iff.1 hu).1;have h6:=(World.cells?_some (hf j hj).1).2.2 t ht;rw[Addr.add_lit,Addr.add_lit,hu] at h6;exact h6
 rw[hlen] at hr;intro w hw;rw[hlen];exact hr w hw
variable {d:DataW H} {ps:List MemPlace} {r:Reach} {b0:Nat}
end
end Tab
end
end Go.Proofs.YtkdjkngfnapjcaaGreatDoor
