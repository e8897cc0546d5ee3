import Derived.Test.YtknoefbcmomalabGreatDoorP13
set_option linter.unusedSimpArgs false
set_option linter.unusedVariables false
set_option maxRecDepth 100000
set_option maxHeartbeats 16000000
namespace Go.Proofs.YtknoefbcmomalabGreatDoor
section
namespace Txt
open Go.RowKit Go.Shelf Go.Sort
open Go.Maps (Keyed)
open _root_.Go.Proofs.YtknoefbcmomalabGreatDoor.Mark (ZbY Zct Za6)
open Path (bl Zaf Zah cmpL cmpP)
def ltP (x y:ByteArray):Prop:=cmpL (Zah (bl x)) (Zah (bl y)) < 0
instance (x y:ByteArray):Decidable (ltP x y):=by unfold ltP;infer_instance
def cmpPP (x y:ByteArray):Int:=cmpP (bl x) (bl y)
theorem bl_inj {a b:ByteArray} (h:bl a=bl b):a=b:=by
 unfold bl at h;have:a.data=b.data:=by rw[←Array.toList_inj];exact h
 cases a;cases b;simp_all
theorem Zir {x y:ByteArray} (hx:Zaf (bl x)=true) (hy:Zaf (bl y)=true):cmpPP x y=cmpL (Zah (bl x)) (Zah (bl y)):=by simp[cmpPP,cmpP,hx,hy]
theorem Zdv (x:ByteArray):¬ltP x x:=by unfold ltP;rw[Path.ZeW];omega
theorem Zcr {x y z:ByteArray} (h1:ltP x y) (h2:ltP y z):ltP x z:=Path.ZgA h1 h2
theorem Zgi (x y:ByteArray):ltP x y∨x=y∨ltP y x:=by
 unfold ltP;have h:=Path.Ziu (Zah (bl x)) (Zah (bl y));by_cases h0:cmpL (Zah (bl x)) (Zah (bl y))=0
 · exact .inr (.inl (bl_inj (Path.ZcB (Path.cl_eq h0))))
 by_cases h1:cmpL (Zah (bl x)) (Zah (bl y)) < 0
 · exact .inl h1
 exact .inr (.inr (by omega))
abbrev TxtI (es:List ByteArray):={e:ByteArray // e ∈ es}
def cmpI (es:List ByteArray) (x y:TxtI es):Int:=cmpPP x.1 y.1
def encI (es:List ByteArray) (x:TxtI es):Value:=.string x.1
section
variable {es:List ByteArray} (H:∀e ∈ es,Zaf (bl e)=true)
include H
theorem cmpI_lt (x y:TxtI es):ltOf (cmpI es) x y=decide (ltP x.1 y.1):=by unfold ltOf cmpI;rw[Zir (H _ x.2) (H _ y.2)];rfl
theorem totI (x y:TxtI es) (h1:ltOf (cmpI es) x y=false) (h2:ltOf (cmpI es) y x=false):x=y:=by
 rw[cmpI_lt H] at *
 rcases Zgi x.1 y.1 with q|q|q
 · exact absurd q (of_decide_eq_false h1)
 · exact Subtype.ext q
 exact absurd q (of_decide_eq_false h2)
theorem swoI:SWO (ltOf (cmpI es)) where
 irrefl x:=by rw[cmpI_lt H];exact decide_eq_false (Zdv _)
 trans x y z h1 h2:=by rw[cmpI_lt H] at *;exact decide_eq_true (Zcr (of_decide_eq_true h1) (of_decide_eq_true h2))
 ntrans x y z h1 h2:=by
  rw[cmpI_lt H] at *
  refine decide_eq_false fun h=> ?_;have n1:=of_decide_eq_false h1;have n2:=of_decide_eq_false h2;rcases Zgi x.1 y.1 with q|q|q
  · exact n1 q
  · rw[q] at h;exact n2 h
  exact n2 (Zcr q h)
end
def sortI {es:List ByteArray} (l:List (TxtI es)):List (TxtI es):=l.mergeSort fun x y=> !ltOf (cmpI es) y x
theorem sortI_len {es:List ByteArray} (l:List (TxtI es)):(sortI l).length=l.length:=List.length_mergeSort l
theorem sortI_perm {es:List ByteArray} (l:List (TxtI es)):(sortI l).Perm l:=List.mergeSort_perm l _
theorem sortI_lt {es:List ByteArray} (H:∀e ∈ es,Zaf (bl e)=true) (l:List (TxtI es)) (hn:l.Nodup):((sortI l).map (·.1)).Pairwise ltP:=by
 have h2:(sortI l).Nodup:=(sortI_perm l).nodup_iff.2 hn
 have h3:(sortI l).Pairwise (fun a b=>(!ltOf (cmpI es) b a)=true):=by
  refine List.pairwise_mergeSort ?_ ?_ l
  · intro a b c h1 h2;rw[cmpI_lt H] at *
    simp only[Bool.not_eq_true',decide_eq_false_iff_not] at *
    intro h;rcases Zgi b.1 a.1 with q|q|q
    · exact h1 q
    · rw[←q] at h;exact h2 h
    exact h2 (Zcr h q)
  intro a b;rw[cmpI_lt H,cmpI_lt H];simp only[Bool.or_eq_true,Bool.not_eq_true',decide_eq_false_iff_not];by_cases h:ltP b.1 a.1
  · right
    intro h';exact Zdv _ (Zcr h h')
  exact .inl h
 rw[List.pairwise_map];refine(h3.and h2).imp ?_;rintro a b ⟨h,hne⟩;rw[cmpI_lt H] at h;simp only[Bool.not_eq_true',decide_eq_false_iff_not] at h;rcases Zgi a.1 b.1 with q|q|q
 · exact q
 · exact absurd (Subtype.ext q) hne
 exact absurd q h
def toI {es:List ByteArray}:(l:List ByteArray)→(∀x ∈ l,x ∈ es)→List (TxtI es)
 |[],_=>[]
 |x::l,h=>⟨x,h x (by simp)⟩::toI l (fun y hy=>h y (by simp[hy]))
theorem toI_map {es:List ByteArray}:∀(l:List ByteArray) (h:∀x ∈ l,x ∈ es),(toI l h).map (·.1)=l
 |[],_=>rfl
 |x::l,h=>by rw[toI,List.map_cons,toI_map l]
theorem encI_flat {es:List ByteArray} (l:List (TxtI es)):l.map (encI es)=(l.map (·.1)).flatMap seL:=by
 induction l with
 |nil=>rfl
 |cons x l ih=>rw[List.map_cons,List.map_cons,List.flatMap_cons,ih];rfl
section
variable {α:Type} [Inhabited α]
theorem Zhl {enc:α→Value} {w:World} {g n:Nat} {os:Array Obj} {cur:Array Value} {e:TypeId} {fr:Nat × Nat} (F:Array α) (hb:w.heap[g]? =some (.cells cur e fr)):
 (sortWorld enc w g 0 n F os).heap[g]? =some (.cells (putCells enc 0 F cur) e fr):=by
 have hg:g < w.heap.size:=(Array.getElem?_eq_some_iff.1 hb).1;unfold sortWorld;rw[heap_grow_old _ _ (by simpa using hg)];simp[putRow,mapBlock,Sort.ahead,Array.getElem?_modify,hb,onCells]
theorem ZeI {enc:α→Value} {w:World} {g n:Nat} {os:Array Obj} (F:Array α):w.grownBy (sortWorld enc w g 0 n F os) (some g):=by
 unfold sortWorld;refine⟨rfl,rfl,rfl,by simp,fun k hk hne=> ?_⟩;rw[heap_grow_old _ _ (by simpa using hk)];have:g≠k:=fun e=>hne (by rw[e])
 simp[putRow,mapBlock,Sort.ahead,Array.getElem?_modify,this]
theorem ZkB {enc:α→Value} (cur:Array Value) (l:List α) (h:l.length≤cur.size):(putCells enc 0 l.toArray cur).toList.take l.length=l.map enc:=by
 apply List.ext_getElem?;intro j;by_cases hj:j < l.length
 · rw[List.getElem?_take_of_lt hj,Array.getElem?_toList,List.getElem?_map];simp[putCells,hj,show j < cur.size by omega]
 rw[List.getElem?_take_eq_none (by omega),List.getElem?_eq_none (by simp;omega)]
theorem Zh5 (enc:α→Value) {w:World} {base g cap n:Nat} {e:TypeId} {os:Array Obj} {cur:Array Value} {ts:List α} (hbase:base≤g) (hb:w.heap[g]? =some (.cells cur e (0,0)))
 (h1:ts.length≤cap) (h2:cap≤maxLen) (h3:cur.size=cap * 1):
 (sortWorld enc w g 0 n ts.toArray os).ownsRow base e 1 (.slice (some ⟨g,0,none⟩) ts.length cap) ts.length (ts.map enc):=by
 refine⟨by simp,.inr ⟨g,cap,_,rfl,hbase,Zhl ts.toArray hb,h1,h2,by simp[putCells,h3],?_⟩⟩;rw[Nat.mul_one];exact ZkB cur ts (by omega)
theorem Zlx (enc:α→Value) {w:World} {g:Nat} {cur:Array Value} {e:TypeId} {ts:List α} (hb:w.heap[g]? =some (.cells cur e (0,0))) (ht:cur.toList.take (ts.length * 1)=ts.map enc):Holds enc w g 0 ts.toArray:=by
 intro j hj;have hj':j < ts.length:=by simpa using hj
 refine⟨?_,by simp[World.frozen?,hb]⟩
 have h1:(cur.toList.take (ts.length * 1))[j]? =(ts.map enc)[j]? :=by rw[ht]
 rw[List.getElem?_take_of_lt (by omega),Array.getElem?_toList,List.getElem?_map,List.getElem?_eq_getElem hj'] at h1;simp only[World.cell?,hb,Nat.zero_add];simp only[Option.isSome_none,Bool.false_eq_true,if_false];rw[h1,getElem!_pos _ j hj];simp
end
theorem encI_one {es:List ByteArray}:OneCell (encI es):=fun x=>rfl
theorem cmpLaysI {es:List ByteArray} [Inhabited (TxtI es)] (hs:∀e ∈ es,e.size≤1000) (blk off size:Nat) (w:World):CmpLays1 Tryz.prog 50 #[] (encI es) (cmpI es) blk off size w:=
 fun _ _ _ _ x y=>Path.ZfC (Path.ZdS x.1 y.1 _ (hs _ x.2) (hs _ y.2))
theorem collect_in (F:Fence) (n:Nat) (hF:F.fn 127) (hF2:F.fn 161) (hro:F.round=none) (hn:4≤n) (gf:Nat) (lb:Array Value) (hFg:F.fn gf) (eg:∀args w,(callFunc gf args).run Tryz.prog w=.ok (.enter gf args) w)
 (S Sp:List (ByteArray)→Prop) (N:Nat) (hN:N≤100000000) (w:World) (hseq:SeqStopsK F (n - 1 - 1) Tryz.prog gf lb (fun x:ByteArray=> #[seV x]) KeepsWalks S Sp N w):
 CallsIn F n Tryz.prog 127 #[.func (.func gf) #[] lb] w fun e w'=>∃(v:Value) (ss:List (ByteArray)),e=.returned v∧S ss∧w'.ownsRow w.heap.size 9 1 v ss.length (ss.flatMap seL)∧(v=.slice none 0 0↔ss=[])∧Below w.heap.size w w':=by
 have h1:1≤n:=by omega
 refine callsIn_of_wp Tryz.func127 rfl hF ?_ hro;simp only[Tryz.ntmps127,List.size_toArray,List.length_cons,List.length_nil,Nat.reduceAdd,Nat.reduceSub,Array.replicate_succ,Array.replicate_zero,List.push_toArray,List.append_toArray,List.nil_append,List.cons_append]
 gi_wp2_with (gi_at_call 161;refine(appendSeq_in F (n - 1) hF2 hro (by omega) gf lb hFg eg S Sp N hN _ hseq).mono ?_;rintro e W ⟨v,ss,rfl,hS,hrow,hnil,hb⟩)
 go_ret;exact⟨v,ss,rfl,hS,hrow,hnil,hb⟩
theorem collect_keys (Bm b:Nat) (es:List (Value × Value)) (ks:List (ByteArray)) (hes:es.map (·.1)=ks.map seV) (w:World) (hBm:Bm < w.heap.size) (hm:w.cell? ⟨Bm,0,none⟩=some (.map (some b))) (hM:MapAt Tryz.prog 9 w b es) (hN:ks.length≤100000000):
 Calls Tryz.prog 127 #[.func (.func 129) #[] #[.pointer (some ⟨Bm,0,none⟩)]] w fun e w'=>∃(v:Value) (ss:List (ByteArray)),e=.returned v∧ss.Perm ks∧w'.ownsRow w.heap.size 9 1 v ss.length (ss.flatMap seL)∧(v=.slice none 0 0↔ss=[])∧Below w.heap.size w w':=
 callsIn_wide.1 (collect_in Fence.wide 5 trivial trivial rfl (by omega) _ _ trivial (enters_of Tryz.func129 (by kernel_rfl) rfl) _ _ ks.length hN w
  (keys_stops Fence.wide _ trivial rfl (by omega) Bm b es ks hes w hBm hm hM))
theorem sorted_any (Bm b:Nat) (es:List (Value × Value)) (ks:List ByteArray) (hes:es.map (·.1)=ks.map seV) (hnd:ks.Nodup) (w:World) (hBm:Bm < w.heap.size) (hm:w.cell? ⟨Bm,0,none⟩=some (.map (some b))) (hM:MapAt Tryz.prog 9 w b es) (hN:ks.length≤100000000) (hr:∀k ∈ ks,Zaf (bl k)=true) (hs:∀k ∈ ks,k.size≤1000):
 Calls Tryz.prog 86 #[.func (.func 129) #[] #[.pointer (some ⟨Bm,0,none⟩)],.func (.func 50) #[] #[]] w fun e w'=>
  ∃(v:Value) (l:List ByteArray),e=.returned v∧l.Perm ks∧l.Pairwise ltP∧w'.ownsRow w.heap.size 9 1 v l.length (l.flatMap seL)∧Below w.heap.size w w':=by
 have hC:=collect_keys Bm b es ks hes w hBm hm hM hN;clear hes hM hm;go_enter Tryz.func86,Tryz.ntmps86;go_wp2_with fail;refine hC.mono ?_;rintro e w1 ⟨v,ss,rfl,hp,hrow,hnil,hb⟩;rcases hrow.2 with⟨rfl,hz⟩|⟨gb,cap,cur,rfl,hbase,hgb,r1,r2,r3,r4⟩
 · have hss:ss=[]:=List.eq_nil_of_length_eq_zero hz;subst hss;have hS:Calls Tryz.prog 128 #[.slice none 0 0,.func (.func 50) #[] #[]] w1 fun e w'=>e=.returned (.tuple #[])∧w'=w1:=AnyF.slices_SortFunc_none {Tryz.sort128 with} none 0 _ w1;go_wp2_with fail;refine hS.mono ?_;rintro e _ ⟨rfl,rfl⟩;go_wp2_with fail;go_ret;exact⟨_,[],rfl,hp,.nil,hrow,hb⟩
 have hsub:∀x ∈ ss,x ∈ ks:=fun x hx=>hp.mem_iff.1 hx;have htm:=toI_map ss hsub
 obtain⟨ti,hti⟩:∃ti,toI ss hsub=ti:=⟨_,rfl⟩
 rw[hti] at htm;have htl:ti.length=ss.length:=by rw[←htm];simp
 have hflat:ti.map (encI ks)=ss.flatMap seL:=by rw[encI_flat,htm]
 have htn:ti.Nodup:=by
  have:(ti.map (·.1)).Nodup:=by rw[htm];exact hp.nodup_iff.2 hnd
  exact(List.pairwise_map.1 this).imp (fun q e=>q (by rw[e]))
 have hne:ss≠[]:=fun e=>by have:=hnil.2 e;cases this
 have hpos:0 < ss.length:=List.length_pos_iff.2 hne;have hll:=hp.length_eq
 haveI:Inhabited (TxtI ks):=⟨⟨ss[0]'hpos,hsub _ (List.getElem_mem _)⟩⟩
 have hH:Holds (encI ks) w1 gb 0 ti.toArray:=Zlx (encI ks) hgb (by rw[htl,hflat];exact r4);have hgl:gb < w1.heap.size:=(Array.getElem?_eq_some_iff.1 hgb).1;have hsz:ti.toArray.size < 4611686018427387904:=by simp;omega
 have hS:Calls Tryz.prog 128 #[.slice (some ⟨gb,0,none⟩) ti.length cap,.func (.func 50) #[] #[]] w1 fun e w'=>e=.returned (.tuple #[])∧∃n os,w'=sortWorld (encI ks) w1 gb 0 n (sortI ti).toArray os:=
  Any.slices_SortFunc_total Tryz.sort128 (encI ks) encI_one (cmpI ks) (swoI hr) 50 #[] gb 0 cap ti.toArray w1 (enters_of Tryz.func50 (by kernel_rfl) rfl) (cmpLaysI hs _ _ _ _) hH hgl hsz (totI hr)
 rw[htl] at hS;have htl':=Hd htl;clear hll htl;go_wp2_with fail;refine hS.mono ?_;rintro e _ ⟨rfl,nn,os,rfl⟩;go_wp2_with fail;go_ret;have hown:=Zh5 (encI ks) (w:=w1) (base:=w.heap.size) (cap:=cap) (n:=nn) (os:=os) (ts:=sortI ti) hbase hgb (by rw[sortI_len,htl'.out];exact r1) r2 r3;have hlt:=sortI_lt hr ti htn
 have hlp:((sortI ti).map (fun x:TxtI ks=>x.1)).Perm ss:=by
  have:=(sortI_perm ti).map (fun x:TxtI ks=>x.1)
  rwa [htm] at this
 rw[encI_flat,sortI_len,htl'.out,←hlp.length_eq] at hown;generalize (sortI ti).map (fun x:TxtI ks=>x.1)=l at *
 refine⟨_,l,?_,hlp.trans hp,hlt,hown,hb.grown (ZeI _) hb.size (fun j hj=>by cases hj;exact hbase)⟩;rw[hlp.length_eq]
 rfl
end Txt
end
section
namespace Lock
open Go.RowKit Go.Shelf
open _root_.Go.Proofs.YtknoefbcmomalabGreatDoor.Wire
open _root_.Go.Proofs.YtknoefbcmomalabGreatDoor.Txt (ltP)
open Path (bl Zaf)
attribute [-go_sem] run_eql_struct run_neq_struct run_eqGuard_agg
theorem ZaE.r {w w':World} {b:Nat} {u:Value} {l m:List Int} {e:Ending} (h:ZaE w b u l m e w'):∃x,e=.returned x∧(x=.pointer (some ⟨b,0,none⟩)∧∃u',At [outC b u,rowY u l] w [outC b u',rowY u' (l++m)] w'):=by
 obtain⟨u',rfl,hT⟩:=h;exact⟨_,rfl,rfl,u',hT⟩
def withC (cs:List (ByteArray × Int)) (p:ByteArray):ByteArray × Int:=(p,(ctr cs p).getD 0)
theorem ZdB:∀{cs:List (ByteArray × Int)},cs.Pairwise (fun a b=>a.1≠b.1)→∀{c:ByteArray × Int},c ∈ cs→ctr cs c.1=some c.2
 |d::cs,hk,c,hc=>by
  have h1:=List.pairwise_cons.1 hk;unfold ctr;rw[List.find?_cons];rcases List.mem_cons.1 hc with rfl|hc
  · simp
  have hne:d.1≠c.1:=h1.1 c hc;have:=ZdB h1.2 hc;unfold ctr at this
  simpa [hne] using this
theorem ZjD {cs:List (ByteArray × Int)} (hk:cs.Pairwise (fun a b=>a.1≠b.1)) {l:List ByteArray} (h:l.Perm (cs.map (·.1))):(l.map (withC cs)).Perm cs:=by
 have h1:=h.map (withC cs)
 have e:(cs.map (·.1)).map (withC cs)=cs:=by
  rw[List.map_map];conv=>rhs;rw[←List.map_id cs]
  refine List.map_congr_left fun c hc=> ?_;show(c.1,(ctr cs c.1).getD 0)=c;rw[ZdB hk hc]
  rfl
 rw[e] at h1;exact h1
def ltC (x y:ByteArray × Int):Prop:=ltP x.1 y.1
def Zmo (w:World) (a:Pl) (s:S3) (b:Nat) (u00:Value) (l00:List Int) (e:Ending) (w':World):Prop:=
 ∃(l:List Ent) (m:List (ByteArray × Int)) (u:Value),e=.returned (.tuple #[])∧l.Perm s.es∧l.Pairwise ltE∧m.Perm s.cs∧m.Pairwise ltC∧At [bookS a s,outC b u00,rowY u00 l00] w [bookS a s,outC b u,rowY u (l00++encB l m)] w'
def PuRel (w:World) (a:Pl) (s:S3) (b:Nat) (u0:Value) (l0:List Int) (vl:Value) (L:List Ent) (k:Nat) (x:Value) (wr:World):Prop:=
 ∃(i:Nat) (u:Value) (l:List Int),x=.int .i64 i∧i + k=L.length∧l=l0++Zap L.length++(L.take i).flatMap encE∧l.length≤l0.length + 10 + i * 2100000∧At [bookS a s,outC b u0,rowY u0 l0] w [rowL vl L,bookS a s,outC b u,rowY u l] wr
def PvRel (w:World) (a:Pl) (s:S3) (b N:Nat) (u0:Value) (l0:List Int) (l7:List Int) (vm:Value) (M:List ByteArray) (k:Nat) (x:Value) (wr:World):Prop:=
 ∃(i:Nat) (u:Value) (l:List Int),x=.int .i64 i∧i + k=M.length∧l=l7++Zap M.length++((M.map (withC s.cs)).take i).flatMap encC∧l.length≤l7.length + 10 + i * 200∧At [bookS a s,outC b u0,rowY u0 l0] w [Part.row 9 1 vm M.length (M.flatMap Txt.seL),headC a.p a.m a.c s.first,mapC a.m (ents s.es),ctrC a.c (ctrs s.cs),outC b u,rowY u l] wr
theorem seL_len (x:ByteArray):(Txt.seL x).length=1:=rfl
structure Wk (s:S3):Prop where
 so:Sortable s.es
 el:s.es.length≤1000
 cl:s.cs.length≤1000
 ok:∀e ∈ s.es,okW e
 okc:∀c ∈ s.cs,okV c
 ck:s.cs.Pairwise (fun a b=>a.1≠b.1)
 cr:∀c ∈ s.cs,Zaf (bl c.1)=true
theorem Zpe {w:World} {a:Pl} {s:S3} (h:Sep [bookS a s] w) (hW:Wk s):Calls Tryz.prog 21 #[.pointer (some ⟨a.p,0,none⟩)] w (Zms w a s):=
 Zd1 (b:=a.at s) h hW.so (by have h1:s.es.length≤1000:=hW.el;show s.es.length≤1000000;omega) (fun x hx=>by have:=(hW.ok x hx).pb;omega)
theorem Inv.wk {s:S3} {k:Nat} (h:Inv s k) (hf:Feet s) (hk:k≤1000):Wk s:=⟨h.sortable,by have:=h.len;omega,by have:=h.clen;omega,h.okW hf hk,h.okV,h.ckeys,h.cright⟩
theorem Zoy {w:World} {a:Pl} {s:S3} {b:Nat} {u00:Value} {l00:List Int} (h:Sep [bookS a s,outC b u00,rowY u00 l00] w) (hW:Wk s) (hl0:l00.length≤100000000000):
 Calls Tryz.prog 43 #[.pointer (some ⟨a.p,0,none⟩),.pointer (some ⟨b,0,none⟩)] w (Zmo w a s b u00 l00):=by
 have hm:Tryz.prog.follows .mixedOrders=true:=by kernel_rfl
 have hA:=At.start h;have hF:=hA.facts;clear h;have hI':=Hd hW;have hok:=Hd hW.ok;have hokC:=Hd hW.okc;have hel:s.es.length≤1000:=hW.el;have hcl0:s.cs.length≤1000:=hW.cl;clear hW;obtain⟨hA,hF⟩:=fZ hA;go_enter Tryz.func43,Tryz.ntmps43;go_wp2_with fail;refine(Zpe (hA.sep1 (A:=bookS a s) sR) hI'.out).mono ?_;rintro e w1 ⟨vl,L,rfl,hperm,hpw,hT⟩;have hB:=hA.call1 (A:=bookS a s) sR hT;have hLl:L.length≤1000:=by rw[hperm.length_eq];exact hel
 have hLm:=Hd (fun x=>(hperm.mem_iff (a:=x)).1);have hperm':=Hd hperm;have hpw':=Hd hpw;clear hF hA hT hperm hpw;have hA:=hB;clear hB;simp only[uA] at hA;obtain⟨lx,lcap,rfl,hlx,hlcap,_⟩:=hA.row_form (v:=vl) (n:=L.length) (xs:=L.flatMap Ent.cells) sR;have hwL:IntKind.u64.wrap (L.length:Int)=(L.length:Int):=by rw[IntKind.wrap_u64];omega
 obtain⟨hA,hF⟩:=fZ hA;go_wp2_with fail;refine(Zbq (hA.sep2 (A:=outC b u00) (B:=rowY u00 l00) sR sR) L.length (by omega) (by omega)).mono ?_;rintro e w2 ⟨u1,rfl,hT⟩;have hB:=hA.call2 (A:=outC b u00) (B:=rowY u00 l00) sR sR hT;have hsl:=Zar 9 L.length (by omega);clear hF hA hT;have hA:=hB;clear hB;simp only[uA] at hA;obtain⟨hA,hF⟩:=fZ hA;go_wp2_with fail;(try go_frame);go_loopg [19] L.length (PuRel w a s b u00 l00 (.slice lx L.length lcap) L)
 case atStart=>exact⟨0,u1,l00++Zap L.length,rfl,by simp,by simp,by rw[List.length_append];omega,hA.pick pZ⟩
 case round=>
  obtain⟨i,u0,l0,rfl,hik,hle,hll,hB⟩:=hrel;have hle':=Hd hle;clear hF hA hle hsl;have hA:=hB;clear hB;by_cases hi:i < L.length
  · have hmem:=hLm.out _ (List.getElem_mem hi);obtain⟨⟨n0,n1,k0,k1,s0⟩,hpb,hfz,hsb,hmo⟩:=hok.out _ hmem;have htk:=Hd (List.take_succ_eq_append_getElem hi);obtain⟨g,c,rfl,cp1,cm,cl,ct,hB⟩:=hA.row_open (ax:=lx) (cap:=lcap) (n:=L.length) (xs:=L.flatMap Ent.cells) sR (by omega);have hx:L[i]? =some L[i]:=List.getElem?_eq_getElem hi;have hct:=ct;(have c0:c[i * 6]? =some (.string L[i].path):=Zae Ent.cells_len hct hx 0 (by omega));(have c1:c[i * 6 + 1]? =some (.int .u64 L[i].num):=Zae Ent.cells_len hct hx 1 (by omega));(have c2:c[i * 6 + 2]? =some (.string L[i].foot):=Zae Ent.cells_len hct hx 2 (by omega));(have c3:c[i * 6 + 3]? =some (.int .i64 L[i].mode):=Zae Ent.cells_len hct hx 3 (by omega));(have c4:c[i * 6 + 4]? =some (.int .u64 L[i].n):=Zae Ent.cells_len hct hx 4 (by omega));(have c5:c[i * 6 + 5]? =some (.int .i64 L[i].stamp):=Zae Ent.cells_len hct hx 5 (by omega))
    obtain⟨x,hs⟩:∃x,L[i]=x:=⟨_,rfl⟩
    rw[hs] at htk c0 c1 c2 c3 c4 c5 n0 n1 k0 k1 s0 hpb hfz hsb hmo;clear hA hx hs hmem hct;have hA:=hB;clear hB;obtain⟨path,num,foot,mode,n,stamp⟩:=x;simp only at c0 c1 c2 c3 c4 c5 n0 n1 k0 k1 s0 hpb hfz hsb hmo
    obtain⟨num,rfl⟩:∃k:Nat,num=k:=⟨num.toNat,by omega⟩
    obtain⟨n,rfl⟩:∃k:Nat,n=k:=⟨n.toNat,by omega⟩
    obtain⟨stamp,rfl⟩:∃k:Nat,stamp=k:=⟨stamp.toNat,by omega⟩
    have hn64:num < 18446744073709551616:=by omega
    have hk64:n < 18446744073709551616:=by omega
    have hwm:IntKind.u8.wrap mode=mode:=by rcases hmo with rfl|rfl<;>rfl
    have hws:IntKind.u64.wrap (stamp:Int)=(stamp:Int):=by rw[IntKind.wrap_u64];omega
    have hft:=Zbz foot (by omega);have hpt:=Zbz path (by omega);have hib:i * 2100000≤1000 * 2100000:=Nat.mul_le_mul_right _ (by omega);clear hmo;obtain⟨hA,hF⟩:=fZ hA
    go_wp2_with (first|((with_reducible refine gal ?_);refine g12 hA ?_;clear hF hA;intro bE w1 hA hbE hF)|((with_reducible refine gst ?_);refine wTz hA ?_;clear hF hA;intro w1 hA hF))
    (try go_frame);have hAd:=hA.drew;clear hF hA;have hA:=hAd;clear hAd;refine wp_region_held (S:=fun w'=>Zaa w' bE [.string path,.int .u64 (num:Int),.string foot,.int .i64 mode,.int .u64 (n:Int),.int .i64 (stamp:Int)] 61) hm ?_;change wpAnyH _ _ _ _ _ 23 _ _ (World.drew _);generalize World.drew _=w2 at *
    have hS0:=(show Zaa _ bE [.string path,.int .u64 (num:Int),.string foot,.int .i64 mode,.int .u64 (n:Int),.int .i64 (stamp:Int)] 61 from hA.get (A:=.cells bE [.string path,.int .u64 (num:Int),.string foot,.int .i64 mode,.int .u64 (n:Int),.int .i64 (stamp:Int)] 61) sR)
    refine tZ 0 23 ((.pointer (some ⟨b,0,none⟩))) (r:=(fun w' hS=>by simp[execOp,go_sem,Act.eval,Act.put])) (s:=hS0) (h:= ?_);go_frame;refine tZ 1 24 ((.pointer (some ⟨bE,0,none⟩))) (r:=(fun w' hS=>by kernel_rfl)) (s:=hS0) (h:= ?_);go_frame;refine tZ 2 25 ((.string path)) (r:=(fun w' hS=>Zac (b:=bE) (j:=0) rfl (by exact rfl) hS (by kernel_rfl) rfl)) (s:=hS0) (h:= ?_);go_frame;refine tZ 4 27 ((.pointer (some ⟨bE,1,none⟩))) (r:=(fun w' hS=>by kernel_rfl)) (s:=hS0) (h:= ?_);go_frame;refine tZ 5 28 ((.pointer (some ⟨bE,1,none⟩))) (r:=(fun w' hS=>by kernel_rfl)) (s:=hS0) (h:= ?_);go_frame;refine tZ 6 29 ((.int .u64 (num:Int))) (r:=(fun w' hS=>Zac (b:=bE) (j:=1) rfl (by exact rfl) hS (by kernel_rfl) rfl)) (s:=hS0) (h:= ?_);go_frame;refine tZ 8 31 ((.pointer (some ⟨bE,1,none⟩))) (r:=(fun w' hS=>by kernel_rfl)) (s:=hS0) (h:= ?_);go_frame;refine tZ 9 32 ((.pointer (some ⟨bE,2,none⟩))) (r:=(fun w' hS=>by kernel_rfl)) (s:=hS0) (h:= ?_);go_frame;refine tZ 10 33 ((.string foot)) (r:=(fun w' hS=>Zac (b:=bE) (j:=2) rfl (by exact rfl) hS (by kernel_rfl) rfl)) (s:=hS0) (h:= ?_);go_frame;refine tZ 12 35 ((.pointer (some ⟨bE,3,none⟩))) (r:=(fun w' hS=>by kernel_rfl)) (s:=hS0) (h:= ?_);go_frame;refine tZ 13 36 ((.int .i64 mode)) (r:=(fun w' hS=>Zac (b:=bE) (j:=3) rfl (by exact rfl) hS (by kernel_rfl) rfl)) (s:=hS0) (h:= ?_);go_frame;refine tZ 14 37 ((.int .u8 mode)) (r:=(fun w' hS=>by simp[execOp,go_sem,Act.eval,Act.put,hwm])) (s:=hS0) (h:= ?_);go_frame;refine tZ 16 39 ((.pointer (some ⟨bE,4,none⟩))) (r:=(fun w' hS=>by kernel_rfl)) (s:=hS0) (h:= ?_);go_frame;refine tZ 17 40 ((.int .u64 (n:Int))) (r:=(fun w' hS=>Zac (b:=bE) (j:=4) rfl (by exact rfl) hS (by kernel_rfl) rfl)) (s:=hS0) (h:= ?_);go_frame;refine tZ 19 42 ((.pointer (some ⟨bE,5,none⟩))) (r:=(fun w' hS=>by kernel_rfl)) (s:=hS0) (h:= ?_);go_frame;refine tZ 20 43 ((.int .i64 (stamp:Int))) (r:=(fun w' hS=>Zac (b:=bE) (j:=5) rfl (by exact rfl) hS (by kernel_rfl) rfl)) (s:=hS0) (h:= ?_);go_frame;refine tZ 21 44 ((.int .u64 (stamp:Int))) (r:=(fun w' hS=>by simp[execOp,go_sem,Act.eval,Act.put,hws])) (s:=hS0) (h:= ?_);go_frame;clear hS0;refine Zab (i:=3) (by kernel_rfl) ?_;refine Zas (i:=3) (d:=some 26) rfl rfl rfl (fn:=82) (args:= #[(.pointer (some ⟨b,0,none⟩)),.string path]) (by simp[execOp,go_sem,Act.eval,Act.put]) ((Zgf (hA.sep2 (A:=outC b u0) (B:=rowY u0 l0) sR sR) path (by omega) (by omega)).mono (fun e w' h=>ZaE.r h)) ?_;rintro xq zq ⟨rfl,u1,hT⟩;have hB:=hA.call2 (A:=outC b u0) (B:=rowY u0 l0) sR sR hT
    obtain⟨l1,he1⟩:∃z,l0++textB path=z:=⟨_,rfl⟩
    have hl1:l1.length≤l0.length + (10 + path.size):=by have:=hpt;rw[←he1,List.length_append];omega
    rw[he1] at hB;have he1':=Hd he1;clear hA hT he1;have hA:=hB;clear hB;simp only[uA] at hA;refine⟨(show Zaa _ bE [.string path,.int .u64 (num:Int),.string foot,.int .i64 mode,.int .u64 (n:Int),.int .i64 (stamp:Int)] 61 from hA.get (A:=.cells bE [.string path,.int .u64 (num:Int),.string foot,.int .i64 mode,.int .u64 (n:Int),.int .i64 (stamp:Int)] 61) sR),?_⟩;go_frame;refine Zab (i:=7) (by kernel_rfl) ?_;refine Zas (i:=7) (d:=some 30) rfl rfl rfl (fn:=81) (args:= #[(.pointer (some ⟨b,0,none⟩)),.int .u64 (num:Int)]) (by simp[execOp,go_sem,Act.eval,Act.put]) ((Zdd (hA.sep2 (A:=outC b u1) (B:=rowY u1 l1) sR sR) num hn64 (by omega)).mono (fun e w' h=>ZaE.r h)) ?_;rintro xq zq ⟨rfl,u2,hT⟩;have hB:=hA.call2 (A:=outC b u1) (B:=rowY u1 l1) sR sR hT
    obtain⟨l2,he2⟩:∃z,l1++fixL num=z:=⟨_,rfl⟩
    have hl2:l2.length≤l1.length + 8:=by have:=(show(fixL num).length≤8 from by simp[fixL]);rw[←he2,List.length_append];omega
    rw[he2] at hB;have he2':=Hd he2;clear hA hT he2;have hA:=hB;clear hB;simp only[uA] at hA;refine⟨(show Zaa _ bE [.string path,.int .u64 (num:Int),.string foot,.int .i64 mode,.int .u64 (n:Int),.int .i64 (stamp:Int)] 61 from hA.get (A:=.cells bE [.string path,.int .u64 (num:Int),.string foot,.int .i64 mode,.int .u64 (n:Int),.int .i64 (stamp:Int)] 61) sR),?_⟩;go_frame;refine Zab (i:=11) (by kernel_rfl) ?_;refine Zas (i:=11) (d:=some 34) rfl rfl rfl (fn:=82) (args:= #[(.pointer (some ⟨b,0,none⟩)),.string foot]) (by simp[execOp,go_sem,Act.eval,Act.put]) ((Zgf (hA.sep2 (A:=outC b u2) (B:=rowY u2 l2) sR sR) foot (by omega) (by omega)).mono (fun e w' h=>ZaE.r h)) ?_;rintro xq zq ⟨rfl,u3,hT⟩;have hB:=hA.call2 (A:=outC b u2) (B:=rowY u2 l2) sR sR hT
    obtain⟨l3,he3⟩:∃z,l2++textB foot=z:=⟨_,rfl⟩
    have hl3:l3.length≤l2.length + (10 + foot.size):=by have:=hft;rw[←he3,List.length_append];omega
    rw[he3] at hB;have he3':=Hd he3;clear hA hT he3;have hA:=hB;clear hB;simp only[uA] at hA;refine⟨(show Zaa _ bE [.string path,.int .u64 (num:Int),.string foot,.int .i64 mode,.int .u64 (n:Int),.int .i64 (stamp:Int)] 61 from hA.get (A:=.cells bE [.string path,.int .u64 (num:Int),.string foot,.int .i64 mode,.int .u64 (n:Int),.int .i64 (stamp:Int)] 61) sR),?_⟩;go_frame;refine Zab (i:=15) (by kernel_rfl) ?_;refine Zas (i:=15) (d:=some 38) rfl rfl rfl (fn:=85) (args:= #[(.pointer (some ⟨b,0,none⟩)),.int .u8 mode]) (by simp[execOp,go_sem,Act.eval,Act.put]) ((Zh6 (hA.sep2 (A:=outC b u3) (B:=rowY u3 l3) sR sR) mode (by omega)).mono (fun e w' h=>ZaE.r h)) ?_;rintro xq zq ⟨rfl,u4,hT⟩;have hB:=hA.call2 (A:=outC b u3) (B:=rowY u3 l3) sR sR hT
    obtain⟨l4,he4⟩:∃z,l3++[mode]=z:=⟨_,rfl⟩
    have hl4:l4.length≤l3.length + 1:=by have:=(show([mode]:List Int).length≤1 from Nat.le_refl _);rw[←he4,List.length_append];omega
    rw[he4] at hB;have he4':=Hd he4;clear hA hT he4;have hA:=hB;clear hB;simp only[uA] at hA;refine⟨(show Zaa _ bE [.string path,.int .u64 (num:Int),.string foot,.int .i64 mode,.int .u64 (n:Int),.int .i64 (stamp:Int)] 61 from hA.get (A:=.cells bE [.string path,.int .u64 (num:Int),.string foot,.int .i64 mode,.int .u64 (n:Int),.int .i64 (stamp:Int)] 61) sR),?_⟩;go_frame;refine Zab (i:=18) (by kernel_rfl) ?_;refine Zas (i:=18) (d:=some 41) rfl rfl rfl (fn:=81) (args:= #[(.pointer (some ⟨b,0,none⟩)),.int .u64 (n:Int)]) (by simp[execOp,go_sem,Act.eval,Act.put]) ((Zdd (hA.sep2 (A:=outC b u4) (B:=rowY u4 l4) sR sR) n hk64 (by omega)).mono (fun e w' h=>ZaE.r h)) ?_;rintro xq zq ⟨rfl,u5,hT⟩;have hB:=hA.call2 (A:=outC b u4) (B:=rowY u4 l4) sR sR hT
    obtain⟨l5,he5⟩:∃z,l4++fixL n=z:=⟨_,rfl⟩
    have hl5:l5.length≤l4.length + 8:=by have:=(show(fixL n).length≤8 from by simp[fixL]);rw[←he5,List.length_append];omega
    rw[he5] at hB;have he5':=Hd he5;clear hA hT he5;have hA:=hB;clear hB;simp only[uA] at hA;refine⟨(show Zaa _ bE [.string path,.int .u64 (num:Int),.string foot,.int .i64 mode,.int .u64 (n:Int),.int .i64 (stamp:Int)] 61 from hA.get (A:=.cells bE [.string path,.int .u64 (num:Int),.string foot,.int .i64 mode,.int .u64 (n:Int),.int .i64 (stamp:Int)] 61) sR),?_⟩;go_frame;refine Zab (i:=22) (by kernel_rfl) ?_;refine Zas (i:=22) (d:=some 45) rfl rfl rfl (fn:=80) (args:= #[(.pointer (some ⟨b,0,none⟩)),.int .u64 (stamp:Int)]) (by simp[execOp,go_sem,Act.eval,Act.put]) ((Zbq (hA.sep2 (A:=outC b u5) (B:=rowY u5 l5) sR sR) stamp (by omega) (by omega)).mono (fun e w' h=>ZaE.r h)) ?_;rintro xq zq ⟨rfl,u6,hT⟩;have hB:=hA.call2 (A:=outC b u5) (B:=rowY u5 l5) sR sR hT
    obtain⟨l6,he6⟩:∃z,l5++Zap stamp=z:=⟨_,rfl⟩
    have hl6:l6.length≤l5.length + 10:=by have:=Zar 9 stamp (by omega);rw[←he6,List.length_append];omega
    rw[he6] at hB;have he6':=Hd he6;clear hA hT he6;have hA:=hB;clear hB;simp only[uA] at hA;refine⟨(show Zaa _ bE [.string path,.int .u64 (num:Int),.string foot,.int .i64 mode,.int .u64 (n:Int),.int .i64 (stamp:Int)] 61 from hA.get (A:=.cells bE [.string path,.int .u64 (num:Int),.string foot,.int .i64 mode,.int .u64 (n:Int),.int .i64 (stamp:Int)] 61) sR),?_⟩;go_frame;refine wpAnyH_done (by kernel_rfl) ?_ _;(try go_frame);obtain⟨hA,hF⟩:=fZ hA;go_wp2_with fail;go_roundg (gk - 1);case measure=>omega
    case rel=>
     have hS:=hA.row_shut (e:=61) (size:=6) (n:=L.length) (cap:=lcap) (xs:=L.flatMap Ent.cells) (g:=g) (c:=c) sR cl cp1 cm ct;refine⟨i + 1,u6,l6,by simp,by omega,?_,by omega,hS.pick pZ⟩;rw[htk.out,←he6'.out,←he5'.out,←he4'.out,←he3'.out,←he2'.out,←he1'.out,hle'.out];simp only[List.flatMap_append,List.flatMap_cons,List.flatMap_nil,List.append_nil,encE,Int.toNat_natCast,List.append_assoc]
  have hle2:=hle'.out;rw[List.take_of_length_le (by omega)] at hle2;have hle3:=Hd hle2
  have hl7:l0.length≤l00.length + 3000000000:=by
   have:i * 2100000≤1000 * 2100000:=Nat.mul_le_mul_right _ (by omega)
   omega
  clear hle2 hle' hll hik;have hB:=open0 hA (b:=a.at s) sR;simp only[Pl.at] at hB;clear hA;have hA:=hB;clear hB;obtain⟨hA,hF⟩:=fZ hA;go_wp2_with fail;refine(callsIn_wide.1 (Txt.keys_in Fence.wide 1 trivial rfl (some a.c) wr)).mono ?_;rintro e _ ⟨rfl,rfl⟩;have hB:=hA.alloc [.map (some a.c)] 111;have hnd:(s.cs.map (·.1)).Nodup:=List.pairwise_map.2 hI'.out.ck;have hkm:=Hd (show(ctrs s.cs).map (·.1)=(s.cs.map (·.1)).map Txt.seV from by simp[ctrs,ctrE,Txt.seV]);go_wp2_with fail
  refine(Txt.sorted_any wr.heap.size a.c (ctrs s.cs) (s.cs.map (·.1)) hkm.out hnd _ (by simp) ((Zaa.alloc wr [.map (some a.c)] 111).cell 0) (hB.get (A:=ctrC a.c (ctrs s.cs)) sR) (by simp;omega)
   (fun k hk=>by obtain⟨c,hc,rfl⟩:=List.mem_map.1 hk;exact hI'.out.cr c hc) (fun k hk=>by obtain⟨c,hc,rfl⟩:=List.mem_map.1 hk;have:=(hI'.out.okc c hc).pb;omega)).mono ?_
  clear hkm;rintro e w4 ⟨vm,M,rfl,hMp,hMw,hown,hbw⟩;have hC:=hB.row_new hbw hown;clear hB hown hbw hA hF;have hA:=hC;clear hC;have hMl:M.length≤1000:=by rw[hMp.length_eq,List.length_map];exact hcl0
  have hMp':=Hd hMp;have hMw':=Hd hMw;clear hMp hMw hnd;obtain⟨mx,mcap,rfl,hmx,hmcap,_⟩:=hA.row_form (v:=vm) (n:=M.length) (xs:=M.flatMap Txt.seL) sR;have hwM:IntKind.u64.wrap (M.length:Int)=(M.length:Int):=by rw[IntKind.wrap_u64];omega
  obtain⟨hA,hF⟩:=fZ hA;go_wp2_with fail;refine(Zbq (hA.sep2 (A:=outC b u0) (B:=rowY u0 l0) sR sR) M.length (by omega) (by omega)).mono ?_;rintro e w5 ⟨u9,rfl,hT⟩;have hB:=hA.call2 (A:=outC b u0) (B:=rowY u0 l0) sR sR hT;have hsl:=Zar 9 M.length (by omega);clear hF hA hT;have hA:=hB;clear hB;simp only[uA] at hA;obtain⟨hA,hF⟩:=fZ hA;go_wp2_with fail;(try go_frame);go_loopg [60] M.length (PvRel w a s b 0 u00 l00 l0 (.slice mx M.length mcap) M)
  case atStart=>exact⟨0,u9,l0++Zap M.length,rfl,by simp,by simp,by rw[List.length_append];omega,hA.pick pZ⟩
  case round=>
   obtain⟨j,u20,l20,rfl,hjk,hje,hjl,hB⟩:=hrel;have hje':=Hd hje;clear hF hA hje hsl;have hA:=hB;clear hB;by_cases hj:j < M.length
   · have hjm:j < (M.map (withC s.cs)).length:=by rw[List.length_map];exact hj
     have hpm:M[j] ∈ s.cs.map (·.1):=hMp'.out.mem_iff.1 (List.getElem_mem hj);obtain⟨q,hq,hqp⟩:=List.mem_map.1 hpm;have hcq:=ZdB hI'.out.ck hq;have hoq:=hokC.out q hq;obtain⟨⟨q0,q1⟩,qp⟩:=hoq;have hgj:(M.map (withC s.cs))[j]=(M[j],q.2):=by rw[List.getElem_map];unfold withC;rw[←hqp,hcq];rfl
     obtain⟨p,n⟩:=q;simp only at hqp hcq q0 q1 qp hgj;obtain⟨g,c,rfl,cp1,cm,cl,ct,hB⟩:=hA.row_open (ax:=mx) (cap:=mcap) (n:=M.length) (xs:=M.flatMap Txt.seL) sR (by omega);have c0:c[j]? =some (.string M[j]):=by have:=Zae seL_len ct (List.getElem?_eq_getElem hj) 0 (by omega);simpa [Txt.seL] using this
     rw[←hqp] at c0 hgj
     obtain⟨n,rfl⟩:∃k:Nat,n=k:=⟨n.toNat,by omega⟩
     have hn64:n < 18446744073709551616:=by omega
     have hmem':=Hd (Zl0 hcq);have htj:=Hd (show(M.map (withC s.cs)).take (j + 1)=(M.map (withC s.cs)).take j++[(p,(n:Int))] from by rw[List.take_succ_eq_append_getElem hjm,hgj]);obtain⟨kl,hkl⟩:=keyT (p:=p) (by unfold maxLen;omega);have hpt:=Zbz p (by omega);have hjb:j * 200≤1000 * 200:=Nat.mul_le_mul_right _ (by omega);clear hA hq hqp hcq hgj hpm q0 q1 hjm;have hA:=hB;clear hB;obtain⟨hA,hF⟩:=fZ hA;go_wp2_with fail;(try go_frame);have hAd:=hA.drew;clear hF hA;have hA:=hAd;clear hAd;refine wp_region_held (S:=fun w'=>Zaa w' a.p [.int .u64 s.first,.map (some a.m),.map (some a.c)] 113∧MapAt Tryz.prog 9 w' a.c (ctrs s.cs)) hm ?_;change wpAnyH _ _ _ _ _ 10 _ _ (World.drew _);generalize World.drew _=w2 at *
     have hS0:=(show Zaa _ a.p [.int .u64 s.first,.map (some a.m),.map (some a.c)] 113∧MapAt Tryz.prog 9 _ a.c (ctrs s.cs) from⟨hA.get (A:=headC a.p a.m a.c s.first) sR,hA.get (A:=ctrC a.c (ctrs s.cs)) sR⟩)
     refine tZ 0 64 ((.pointer (some ⟨b,0,none⟩))) (r:=(fun w' hS=>by simp[execOp,go_sem,Act.eval,Act.put])) (s:=hS0) (h:= ?_);go_frame;refine tZ 1 65 ((.string p)) (r:=(fun w' hS=>by simp[execOp,go_sem,Act.eval,Act.put])) (s:=hS0) (h:= ?_);go_frame;refine tZ 3 67 ((.pointer (some ⟨a.p,0,none⟩))) (r:=(fun w' hS=>by simp[execOp,go_sem,Act.eval,Act.put])) (s:=hS0) (h:= ?_);go_frame;refine tZ 4 68 ((.pointer (some ⟨a.p,0,none⟩))) (r:=(fun w' hS=>by kernel_rfl)) (s:=hS0) (h:= ?_);go_frame;refine tZ 5 69 ((.pointer (some ⟨a.p,2,none⟩))) (r:=(fun w' hS=>by kernel_rfl)) (s:=hS0) (h:= ?_);go_frame;refine tZ 6 70 ((.map (some a.c))) (r:=(fun w' hS=>Zac (b:=a.p) (j:=2) rfl (by exact rfl) hS.1 (by kernel_rfl) rfl)) (s:=hS0) (h:= ?_);go_frame;refine tZ 7 71 ((.string p)) (r:=(fun w' hS=>by simp[execOp,go_sem,Act.eval,Act.put])) (s:=hS0) (h:= ?_);go_frame;refine tZ 8 72 ((.int .u64 (n:Int))) (r:=(fun w' hS=>by have q:=MapAt.look_some hS.2 lawT Tryz.underlying111 hkl hmem'.out false;simp only[Bool.false_eq_true,if_false] at q;simp[execOp,go_sem,Act.eval,Act.put,q,Result.andThen])) (s:=hS0) (h:= ?_);go_frame;clear hS0;refine Zab (i:=2) (by kernel_rfl) ?_;refine Zas (i:=2) (d:=some 66) rfl rfl rfl (fn:=82) (args:= #[(.pointer (some ⟨b,0,none⟩)),.string p]) (by simp[execOp,go_sem,Act.eval,Act.put]) ((Zgf (hA.sep2 (A:=outC b u20) (B:=rowY u20 l20) sR sR) p (by omega) (by omega)).mono (fun e w' h=>ZaE.r h)) ?_;rintro xq zq ⟨rfl,u21,hT⟩;have hB:=hA.call2 (A:=outC b u20) (B:=rowY u20 l20) sR sR hT
     obtain⟨l21,he21⟩:∃z,l20++textB p=z:=⟨_,rfl⟩
     have hl21:l21.length≤l20.length + (10 + p.size):=by have:=hpt;rw[←he21,List.length_append];omega
     rw[he21] at hB;have he21':=Hd he21;clear hA hT he21;have hA:=hB;clear hB;simp only[uA] at hA;refine⟨(show Zaa _ a.p [.int .u64 s.first,.map (some a.m),.map (some a.c)] 113∧MapAt Tryz.prog 9 _ a.c (ctrs s.cs) from⟨hA.get (A:=headC a.p a.m a.c s.first) sR,hA.get (A:=ctrC a.c (ctrs s.cs)) sR⟩),?_⟩;go_frame;refine Zab (i:=9) (by kernel_rfl) ?_;refine Zas (i:=9) (d:=some 73) rfl rfl rfl (fn:=81) (args:= #[(.pointer (some ⟨b,0,none⟩)),.int .u64 (n:Int)]) (by simp[execOp,go_sem,Act.eval,Act.put]) ((Zdd (hA.sep2 (A:=outC b u21) (B:=rowY u21 l21) sR sR) n hn64 (by omega)).mono (fun e w' h=>ZaE.r h)) ?_;rintro xq zq ⟨rfl,u22,hT⟩;have hB:=hA.call2 (A:=outC b u21) (B:=rowY u21 l21) sR sR hT
     obtain⟨l22,he22⟩:∃z,l21++fixL n=z:=⟨_,rfl⟩
     have hl22:l22.length≤l21.length + 8:=by have:=(show(fixL n).length≤8 from by simp[fixL]);rw[←he22,List.length_append];omega
     rw[he22] at hB;have he22':=Hd he22;clear hA hT he22;have hA:=hB;clear hB;simp only[uA] at hA;refine⟨(show Zaa _ a.p [.int .u64 s.first,.map (some a.m),.map (some a.c)] 113∧MapAt Tryz.prog 9 _ a.c (ctrs s.cs) from⟨hA.get (A:=headC a.p a.m a.c s.first) sR,hA.get (A:=ctrC a.c (ctrs s.cs)) sR⟩),?_⟩;go_frame;refine wpAnyH_done (by kernel_rfl) ?_ _;(try go_frame);obtain⟨hA,hF⟩:=fZ hA;go_wp2_with fail;go_roundg (gk - 1);case measure=>omega
     case rel=>
      have hS:=hA.row_shut (e:=9) (size:=1) (n:=M.length) (cap:=mcap) (xs:=M.flatMap Txt.seL) (g:=g) (c:=c) sR cl cp1 cm ct;refine⟨j + 1,u22,l22,by simp,by omega,?_,by omega,hS.pick pZ⟩;rw[htj.out,←he22'.out,←he21'.out,hje'.out];simp only[List.flatMap_append,List.flatMap_cons,List.flatMap_nil,List.append_nil,encC,Int.toNat_natCast,List.append_assoc]
   have hje2:=hje'.out;rw[List.take_of_length_le (by rw[List.length_map];omega)] at hje2;obtain⟨hA,hF⟩:=fZ hA;go_wp2_with fail;first|go_ret|go_end0
   refine⟨L,M.map (withC s.cs),u20,rfl,hperm'.out,hpw'.out,ZjD hI'.out.ck hMp'.out,List.pairwise_map.2 hMw'.out,?_⟩;have hE:=fold0 (a.at s) hA sZ sZ sZ;have hE2:=hE.pick (K:=[bookS a s,outC b u20,rowY u20 l20]) pZ;rw[hje2,hle3.out] at hE2
   have e:l00++Zap L.length++L.flatMap encE++Zap M.length++(M.map (withC s.cs)).flatMap encC=l00++encB L (M.map (withC s.cs)):=by
    unfold encB;rw[List.length_map];simp only[List.append_assoc]
   rw[e] at hE2;exact hE2
theorem put_any {w:World} {a:Pl} {s:S3} {kI b:Nat} {u00:Value} {l00:List Int} (h:Sep [bookS a s,outC b u00,rowY u00 l00] w) (hI:Inv s kI) (hFt:Feet s) (hkI:kI≤1000) (hl0:l00.length≤100000000000):
 Calls Tryz.prog 43 #[.pointer (some ⟨a.p,0,none⟩),.pointer (some ⟨b,0,none⟩)] w (Zmo w a s b u00 l00):=Zoy h (hI.wk hFt hkI) hl0
end Lock
end
section
namespace Tab
open Go.RowKit
open Path (bl Zaf overB Zan)
open Lease (Ses Ans fresh ZaN)
open Lock (S3 Ent)
open Cmd (Cm Zaq)
attribute [-go_sem] run_eql_struct run_neq_struct run_eqGuard_agg
open Lease (SR Rel encL)
open Lock (encB ltE ltC)
open Wire (rowY)
theorem ZeK {α:Type} {f:α→List Int} {P:α→Prop} {k:Nat} (hf:∀a,P a→(f a).length≤k):∀l:List α,(∀a ∈ l,P a)→(l.flatMap f).length≤l.length * k
 |[],_=>by simp
 |x::l,h=>by
  have q1:=hf x (h x (by simp));have q2:=ZeK hf l (fun a ha=>h a (by simp[ha]));rw[List.flatMap_cons,List.length_append,List.length_cons,Nat.add_mul];omega
theorem ZnY {a:Lease.AR} (h:0≤a.r∧a.r < Lease.big64):(Lease.encA a).length≤29:=by
 have q1:=Wire.Zar 9 a.r.toNat (by unfold Lease.big64 at h;omega);have q2:=Wire.Zar 9 (Lease.wrN a.e) (by unfold Lease.wrN;omega);have q3:(Wire.fixL a.n.toNat).length=8:=by simp[Wire.fixL]
 have q4:(Lease.bB a.g).length=1:=rfl;unfold Lease.encA;simp only[List.length_append];omega
structure SrOk (s:SR):Prop where
 foot:s.foot.size≤2000000
 dl:s.dl≤2199023255552
 ttl:s.ttl≤2199023255552
 tl:s.told.length≤256
 bd:∀x ∈ s.told,0≤x.r∧x.r < Lease.big64
theorem ZnW {s:SR} (h:SrOk s):(Lease.encS s).length≤2100000:=by
 have q1:(Wire.fixL s.num.toNat).length=8:=by simp[Wire.fixL]
 have q2:=Lease.ZgL s.foot (by have:=h.foot;omega);have q3:(Lease.bB s.op).length=1:=rfl;have q4:(Lease.bB s.dead).length=1:=rfl;have q5:=Wire.Zar 9 s.dl.toNat (by have:=h.dl;omega);have q6:=Wire.Zar 9 s.ttl.toNat (by have:=h.ttl;omega);have q7:=Wire.Zar 9 s.told.length (by have:=h.tl;omega);have q8:=ZeK (f:=Lease.encA) (P:=fun a=>0≤a.r∧a.r < Lease.big64) (k:=29) (fun a ha=>ZnY ha) s.told h.bd;have q9:=h.foot;have q10:=h.tl;unfold Lease.encS;simp only[List.length_append];omega
theorem ZnX {L:List SR} (h:∀a ∈ L,SrOk a) (hl:L.length≤1000):(encL L).length≤3000000000:=by
 have q1:=Wire.Zar 9 L.length (by omega);have q2:=ZeK (f:=Lease.encS) (P:=SrOk) (k:=2100000) (fun a ha=>ZnW ha) L h;unfold Lease.encL;rw[List.length_append];omega
theorem sr_ok {S:List Ses} {L:List SR} {m:Nat} (h:Rel S L) (hi:SInv S m):∀a ∈ L,SrOk a:=fun a ha=>by
 have hb:=(Rel.bounds h hi).1 a ha;obtain⟨s,hs,hk⟩:=List.mem_map.1 (h.keys.mem_iff.2 (List.mem_map.2 ⟨a,ha,rfl⟩));have e:=h.each s hs a ha hk;exact⟨hb.2.2,e.db.2,e.tb.2,e.told.len,e.told.bd⟩
theorem encE_len {e:Ent} (hp:e.path.size≤100) (hf:e.foot.size≤2000000) (hs:e.stamp≤1000):(Lock.encE e).length≤2100000:=by
 have q1:=Lock.Zbz e.path (by omega);have q2:=Lock.Zbz e.foot (by omega);have q3:(Wire.fixL e.num.toNat).length=8:=by simp[Wire.fixL]
 have q4:(Wire.fixL e.n.toNat).length=8:=by simp[Wire.fixL]
 have q5:=Wire.Zar 9 e.stamp.toNat (by omega);unfold Lock.encE;simp only[List.length_append,List.length_cons,List.length_nil];omega
theorem encC_len {c:ByteArray × Int} (hp:c.1.size≤100):(Lock.encC c).length≤200:=by
 have q1:=Lock.Zbz c.1 (by omega);have q3:(Wire.fixL c.2.toNat).length=8:=by simp[Wire.fixL]
 unfold Lock.encC;simp only[List.length_append];omega
theorem encB_len {T:TS} {k:Nat} (hi:Lock.Inv T.L k) (hf:Lock.Feet T.L) (hk:k≤1000) {es:List Ent} {cs:List (ByteArray × Int)} (h1:es.Perm T.L.es) (h2:cs.Perm T.L.cs):(encB es cs).length≤3000000000:=by
 have l1:es.length≤1000:=by rw[h1.length_eq];have:=hi.len;omega
 have l2:cs.length≤1000:=by rw[h2.length_eq];have:=hi.clen;omega
 have q1:=Wire.Zar 9 es.length (by omega);have q2:=ZeK (f:=Lock.encE) (P:=fun e=>e ∈ T.L.es) (k:=2100000) (fun a ha=>encE_len (hi.path a ha) (hf a ha) (by have:=hi.stamp1 a ha;omega)) es (fun a ha=>h1.mem_iff.1 ha);have q3:=Wire.Zar 9 cs.length (by omega);have q4:=ZeK (f:=Lock.encC) (P:=fun c=>c ∈ T.L.cs) (k:=200) (fun a ha=>encC_len (hi.cpath a ha)) cs (fun a ha=>h2.mem_iff.1 ha);unfold Lock.encB;simp only[List.length_append];omega
theorem ZhT {l r:List (ByteArray × Int)} (h1:l.Pairwise ltC) (h2:r.Pairwise ltC) (hp:l.Perm r):l=r:=
 hp.eq_of_pairwise (le:=ltC) (fun a b _ _ h3 h4=>absurd (Txt.Zcr h3 h4) (Txt.Zdv _)) h1 h2
def ZgC (T:TS) (L:List SR) (l:List Int):Prop:=∃(es:List Ent) (cs:List (ByteArray × Int)),(es.Perm T.L.es∧es.Pairwise ltE∧cs.Perm T.L.cs∧cs.Pairwise ltC)∧l=encL L++encB es cs
theorem Zkl {T T':TS} (h:LEq T.L T'.L) {L:List SR} {l l':List Int} (h1:ZgC T L l) (h2:ZgC T' L l'):l=l':=by
 obtain⟨es,cs,⟨a1,a2,a3,a4⟩,rfl⟩:=h1;obtain⟨fs,ds,⟨b1,b2,b3,b4⟩,rfl⟩:=h2;rw[Lock.ZjJ a2 b2 (a1.trans (h.es.trans b1.symm)),ZhT a4 b4 (a3.trans (h.cs.trans b3.symm))]
def ZoK (w:World) (t p m:Nat) (ss:List Ses) (b:Lock.Bk) (T:TS) (L:List SR) (e:Ending) (w':World):Prop:=
 ∃(v:Value) (l:List Int),e=.returned v∧ZgC T L l∧l.length≤100000000000∧At [TabP t p m ss b] w [rowY v l,TabP t p m ss b] w'
structure WkT (ss:List Ses) (b:Lock.Bk) (L:List SR):Prop where
 rel:Rel ss L
 bd:∀a ∈ L,0≤a.num∧a.num < Lease.big64∧a.foot.size≤2000000
 len:L.length≤100000
 el:(encL L).length≤3000000000
 wk:Lock.Wk b.st
 eb:∀(es:List Ent) (cs:List (ByteArray × Int)),es.Perm b.st.es→cs.Perm b.st.cs→(encB es cs).length≤3000000000
theorem Zn9 {w:World} {t p m:Nat} {ss:List Ses} {b:Lock.Bk} (h:Sep [TabP t p m ss b] w) {L:List SR} (hW:WkT ss b L):
 Calls Tryz.prog 18 #[.pointer (some ⟨t,0,none⟩)] w (ZoK w t p m ss b ⟨ss,b.st⟩ L):=by
 have hbs:(⟨b.p,b.m,b.c⟩:Lock.Pl).at b.st=b:=rfl;have hb':=Hd hW.bd;have hLn':=Hd hW.len;have hLl':=Hd hW.el;have hRs':=Hd hW.rel;have hwk':=Hd hW.wk;have hB0':=Hd hW.eb;clear hW hbs;have hA:=Zbf h;clear h;obtain⟨hA,hF⟩:=fZ hA;go_enter Tryz.func18,Tryz.ntmps18
 go_wp2_with ((with_reducible refine gbx ?_);refine wHz 102 [.slice none 0 0] hA ?_;clear hF hA;intro b5 w1 hA hb5 hF)
 have hC:=Wire.Zf1 hA;refine(Lease.put_any (hC.sep3 (A:=Lease.BookP p m ss) (B:=Wire.outC b5 (.slice none 0 0)) (C:=rowY (.slice none 0 0) []) sZ sZ sZ) hRs'.out hb'.out hLn'.out (by simp)).mono ?_;rintro e w1 ⟨rfl,u1,hT⟩;replace hA:=hC.call3 (A:=Lease.BookP p m ss) (B:=Wire.outC b5 (.slice none 0 0)) (C:=rowY (.slice none 0 0) []) sZ sZ sZ hT;clear hT hC hF;obtain⟨hA,hF⟩:=fZ hA;go_wp2_with fail;refine(Lock.Zoy (a:=⟨b.p,b.m,b.c⟩) (s:=b.st) (hA.sep3 (A:=Lock.BookP b) (B:=Wire.outC b5 u1) (C:=rowY u1 (encL L)) sZ sZ sZ) hwk'.out (by have:=hLl'.out;omega)).mono ?_;rintro e w1 ⟨es,cs,u2,rfl,p1,p2,p3,p4,hT⟩;replace hA:=hA.call3 (A:=Lock.BookP b) (B:=Wire.outC b5 u1) (C:=rowY u1 (encL L)) sZ sZ sZ hT;clear hT hF;obtain⟨hA,hF⟩:=fZ hA
 have hll:(encL L++encB es cs).length≤100000000000:=by
  have h1:=hB0'.out es cs p1 p3;have h2:=hLl'.out;rw[List.length_append];omega
 have hbo:ZgC ⟨ss,b.st⟩ L (encL L++encB es cs):=⟨es,cs,⟨p1,p2,p3,p4⟩,rfl⟩
 have hll':=Hd hll;have hbo':=Hd hbo;clear hll hbo p1 p2 p3 p4;generalize encL L++encB es cs=l at *
 go_wp2_with fail;refine(Wire.Zni (hA.sep2 (A:=Wire.outC b5 u2) (B:=rowY u2 l) sZ sZ) (by have:=hll'.out;omega)).mono ?_;rintro e w1 ⟨v,rfl,hT⟩;replace hA:=hA.call2 (A:=Wire.outC b5 u2) (B:=rowY u2 l) sZ sZ hT;clear hT hF;obtain⟨hA,hF⟩:=fZ hA;go_wp2_with fail;go_ret;exact⟨v,l,rfl,hbo'.out,hll'.out,(Zcl (ss:=ss) (b:=b) hA sZ sZ sZ).pick pZ⟩
theorem wkT_of {ss:List Ses} {b:Lock.Bk} {T:TS} (hR:TRel ss b T) {L:List SR} (hL:Rel T.S L) {k:Nat} (hi:TInv T k) (hf:Lock.Feet T.L) (hk:k≤400):WkT ss b L where
 rel:=Rel.zs (by rw[hR.S];exact hL)
 bd:=(Rel.bounds hL hi.s).1
 len:=by have:=(Rel.bounds hL hi.s).2;omega
 el:=ZnX (sr_ok hL hi.s) (by have:=(Rel.bounds hL hi.s).2;omega)
 wk:=by rw[hR.L];exact hi.lock.wk hf (by omega)
 eb:=fun es cs h1 h2=>encB_len (T:=T) hi.lock hf (by omega) (es:=es) (cs:=cs) (by rw[←hR.L];exact h1) (by rw[←hR.L];exact h2)
theorem Zl8 {w:World} {t p m:Nat} {ss:List Ses} {b:Lock.Bk} (h:Sep [TabP t p m ss b] w) {T:TS} (hR:TRel ss b T) {L:List SR} (hL:Rel T.S L) {k:Nat} (hi:TInv T k) (hf:Lock.Feet T.L) (hk:k≤400):
 Calls Tryz.prog 18 #[.pointer (some ⟨t,0,none⟩)] w (ZoK w t p m ss b T L):=(Zn9 h (wkT_of hR hL hi hf hk)).mono fun e w' ⟨v,l,e1,⟨es,cs,⟨p1,p2,p3,p4⟩,e2⟩,e3,hT⟩=>⟨v,l,e1,⟨es,cs,⟨by rw[←hR.L];exact p1,p2,by rw[←hR.L];exact p3,p4⟩,e2⟩,e3,hT⟩
end Tab
end
section
namespace Tab
open Go.RowKit
open Path (bl Zaf overB Zan)
open Lease (Ses Ans fresh ZaN SR AR arP rowR poolP Rel RelS findR okA)
open Lock (S3 Ent rowE rowC)
open Cmd (Cm Zaq)
attribute [-go_sem] run_eql_struct run_neq_struct run_eqGuard_agg
theorem Zps {t:TS} (h:Ab t):∀e ∈ t.L.es,e.foot.size≤2000000:=fun e he=>by
 have h1:=h e he;rw[Path.ZdT] at h1;simp only[Bool.and_eq_true] at h1;have h2:=h1.1.1;unfold Path.Zaf at h2;simp only[Bool.and_eq_true,decide_eq_true_eq] at h2;have h3:(bl e.foot).length=e.foot.size:=by unfold Path.bl;exact Array.length_toList
 omega
theorem TPost.q {P:Program} {f:FuncId} {args:Array Value} {t p m:Nat} {ss:List Ses} {b:Lock.Bk} {w:World} {T:TS} {x1 x2:Int} {x3:Bool} (h:Calls P f args w (TPost t p m ss b w T ⟨x1,x2,x3⟩)):Calls P f args w fun e w'=>∃u,e=.returned u∧∃(ss':List Ses) (b':Lock.Bk),u=.agg #[.int .i64 x1,.int .u64 x2,.bool x3]∧TRel ss' b' T∧At [TabP t p m ss b] w [TabP t p m ss' b'] w':=
 h.mono fun e w' ⟨ss',b',he,hR,hT⟩=>⟨_,he,ss',b',rfl,hR,hT⟩
theorem Zns {R:Part} {w:World} (h:Sep [R] w) (first:Int):Calls Tryz.prog 7 #[.int .u64 first] w fun e w'=>e=.returned (.agg #[.slice none 0 0,.int .u64 first,.slice none 0 0,.slice none 0 0])∧At [R] w [R] w':=by
 have hA:=At.start h;clear h;obtain⟨hA,hF⟩:=fZ hA;go_enter Tryz.func7,Tryz.ntmps7
 go_wp2_with (first|(((with_reducible refine galD 2 ?_);refine g3 hA ?_;clear hF hA;intro bT w1 hA hbT hF))|(((with_reducible refine galD 3 ?_);refine g3 hA ?_;clear hF hA;intro bU w1 hA hbU hF))|((with_reducible refine gst ?_);refine wTz hA ?_;clear hF hA;intro w1 hA hF))
 refine bodyPost_ret (v:=.agg #[.slice none 0 0,.int .u64 first,.slice none 0 0,.slice none 0 0]) (by simp[results,Tryz.results7,go_sem,hF]) rfl ⟨rfl,hA.pick pZ⟩
def nilV:Value:=.slice none 0 0
def D0:DS:=⟨nilV,[],[(nilV,[])],nilV,[(nilV,[])],nilV,[(nilV,[])]⟩
theorem d0_in (first:Int):DIn ⟨[],⟨first,[],[]⟩⟩ D0:=
 ⟨⟨Lease.Rel.nil,nofun,List.mem_singleton.2 rfl,nofun⟩,List.mem_singleton.2 rfl,List.mem_singleton.2 rfl⟩
theorem d0_at {L0 L:List Part} {w0 w:World} (h:At L0 w0 L w):At L0 w0 (D0.parts++L) w:=by
 have h1:=(Lock.ZiW h).to (Eqv.all [rowC (.slice none 0 0) []] L).symm;have h2:=(Lock.ZbA h1).to (Eqv.all [rowE (.slice none 0 0) []] _).symm;have h3:=(Lease.Zf0 h2).to (Eqv.all [Lease.rowA (.slice none 0 0) []] _).symm;exact Lease.Zc6 h3
theorem Zo6 {T0:TS} {k:Nat} (h0:Good T0 k) (hs:SAll T0.S) {l:List Cm} (hok:∀c ∈ l,CmIn c):Good (playT T0 l) (k + l.length)∧SAll (playT T0 l).S:=
 ⟨h0.play fun x hx=>(hok x hx).ok,Znd (fun x hx=>⟨(hok x hx).ok,(hok x hx).r0,(hok x hx).r1⟩) h0 hs⟩
theorem ZjS (T0:TS):∀l:List Cm,(playT T0 l).L.first=T0.L.first:=fun l=>by
 refine ZmI (P:=fun l=>(playT T0 l).L.first=T0.L.first) rfl (fun l x h=> ?_) l;rw[Zdr,ZiB,h]
theorem ok_ar {T:TS} {k:Nat} (hi:Lock.Inv T.L k) (hs:SAll T.S) (c:Cm):okA (arA c.req (doT T c).2):=⟨(ZlS hi hs c).1.e,(ZlS hi hs c).1.n⟩
theorem ZbV {L0 L F:List Part} {w0 w:World} {E:TypeId} {size n:Nat} {v:Value} {xs:List Value} (h:At L0 w0 L w) (s:Sel (Part.row E size v n xs) L F):∃ax cap,v=.slice ax n cap:=by
 obtain⟨ax,cap,e,_⟩:=h.row_form s;exact⟨ax,cap,e⟩
section
variable {w:World} {t p m:Nat} {ss:List Ses} {b:Lock.Bk} (h:Sep [TabP t p m ss b] w)
include h
end
theorem Zjk {es:List Ent} (hk:es.Pairwise (fun a b=>¬(a.path=b.path∧a.num=b.num∧a.foot=b.foot))) {e:Ent} (he:e ∈ es):Lock.find es e.path e.num e.foot=some e:=by
 unfold Lock.find
 induction es with
 |nil=>cases he
 |cons x es ih=>
  rw[List.pairwise_cons] at hk;rw[List.find?_cons];rcases List.mem_cons.1 he with rfl|he
  · have:e.is e.path e.num e.foot=true:=by simp[Lock.Ent.is]
    rw[this]
  have:x.is e.path e.num e.foot=false:=by
   have:=hk.1 e he;simp[Lock.Ent.is];intro q1 q2 q3;exact this ⟨q1,q2,q3⟩
  rw[this];exact ih hk.2 he
end Tab
end
section
namespace Tab
open Go.RowKit
open Lease (Ses Ans fresh ZaN)
open Lock (S3 Ent rowL CloE keepE ZhB ZfB Zgx ZjA)
attribute [-go_sem] run_eql_struct run_neq_struct run_eqGuard_agg
abbrev boxR (b3:Nat) (v:Value):Part:=Part.cells b3 [v] 53
def WthP (b3:Nat) (v:Value) (m:List Ent):Part:=Part.all [boxR b3 v,rowL v m]
theorem ZfG (b3:Nat) (v:Value) (m:List Ent) (F:List Part):Eqv (WthP b3 v m::F) (boxR b3 v::rowL v m::F):=Eqv.all [boxR b3 v,rowL v m] F
theorem cloW {b3:Nat} {v:Value} {m l:List Ent} (hm:m.length≤1000000):CloE 66 b3 (WthP b3 v m) l (fun e=>decide (e ∈ m)):=by
 intro w1 h x hx;have hA:=(At.start h).to (ZfG b3 v m []);clear h hx;have hc:=fun(w1:World) (q:Sep [rowL v m] w1)=>ZhB q x hm;show Calls _ _ _ _ (fun e w'=>e=.returned (.bool (decide (x ∈ m)))∧_);generalize decide (x ∈ m)=d at *
 obtain⟨ax,cap,rfl,_,_,_⟩:=hA.row_form (v:=v) (xs:=m.flatMap Ent.cells) sZ;obtain⟨p1,n1,f1,m1,k1,s1⟩:=x;simp only[Ent.val] at *
 obtain⟨hA,hF⟩:=fZ hA;go_enter Tryz.func66,Tryz.ntmps66
 go_wp2_with ((with_reducible refine gbx ?_);refine wHz 61 [.string p1,.int .u64 n1,.string f1,.int .i64 m1,.int .u64 k1,.int .i64 s1] hA ?_;clear hF hA;intro b4 w1 hA hb4 hF)
 refine(hc _ (hA.sep1 (A:=rowL (.slice ax m.length cap) m) sZ)).mono ?_;rintro e w2 ⟨rfl,hT⟩;replace hA:=hA.call1 (A:=rowL (.slice ax m.length cap) m) sZ hT;clear hF hT;simp only[uA] at hA;obtain⟨hA,hF⟩:=fZ hA;go_wp2_with fail;go_ret;exact⟨rfl,(hA.pick (K:=[boxR b3 (.slice ax m.length cap),rowL (.slice ax m.length cap) m]) pZ).to (ZfG b3 _ m []).symm⟩
theorem Zeh {w:World} {v1 v2:Value} {l m:List Ent} (h:Sep [rowL v1 l,rowL v2 m] w) (hl:l.length≤1000000) (hm:m.length≤1000000):
 Calls Tryz.prog 33 #[v1,v2] w fun e w'=>∃v',e=.returned v'∧At [rowL v1 l,rowL v2 m] w [rowL v' (l.filter (fun e=> !decide (e ∈ m))),rowL v1 l,rowL v2 m] w':=by
 have hA:=At.start h;clear h;obtain⟨ax,acap,rfl,_,_,_⟩:=hA.row_form (v:=v1) (xs:=l.flatMap Ent.cells) sZ;obtain⟨bx,bcap,rfl,_,_,_⟩:=hA.row_form (v:=v2) (xs:=m.flatMap Ent.cells) sZ;obtain⟨hA,hF⟩:=fZ hA;go_enter Tryz.func33,Tryz.ntmps33
 go_wp2_with ((with_reducible refine gbx ?_);refine wX 53 (.slice bx m.length bcap) [.slice bx m.length bcap] hA ?_;clear hF hA;intro b3 w1 hA hb3;obtain⟨hA,hF⟩:=fZ hA)
 refine(ZfB (hA.sep1 (A:=rowL (.slice ax l.length acap) l) sZ) hl).mono ?_;rintro e w2 ⟨v',rfl,hT⟩;have hB:=hA.call1 (A:=rowL (.slice ax l.length acap) l) sZ hT;clear hF hA hT;have hA:=(hB.pick (K:=[boxR b3 (.slice bx m.length bcap),rowL (.slice bx m.length bcap) m,rowL v' l,rowL (.slice ax l.length acap) l]) pZ).to (ZfG b3 _ m _).symm;clear hB;obtain⟨hA,hF⟩:=fZ hA;go_wp2_with fail;refine(Zgx (hA.sep2 (A:=rowL v' l) (B:=WthP b3 (.slice bx m.length bcap) m) sZ sZ) (enters_of Tryz.func66 (by kernel_rfl) rfl) (cloW hm) hl).mono ?_;rintro e w3 ⟨v3,rfl,hT⟩;have hB:=hA.call2 (A:=rowL v' l) (B:=WthP b3 (.slice bx m.length bcap) m) sZ sZ hT;clear hF hA hT;simp only[uA] at hB;have hA:=(hB.pick (K:=[WthP b3 (.slice bx m.length bcap) m,rowL v3 (keepE (fun e=>decide (e ∈ m)) l),rowL (.slice ax l.length acap) l]) pZ).to (ZfG b3 _ m _);clear hB;obtain⟨hA,hF⟩:=fZ hA;go_wp2_with fail;go_ret;exact⟨v3,rfl,hA.pick pZ⟩
abbrev boxT (b1 t:Nat):Part:=Part.cells b1 [.pointer (some ⟨t,0,none⟩)] 26
def GraP (b1 t p m:Nat) (ss:List Ses) (b:Lock.Bk):Part:=Part.all [boxT b1 t,TabP t p m ss b]
theorem Zgq (b1 t p m:Nat) (ss:List Ses) (b:Lock.Bk) (F:List Part):Eqv (GraP b1 t p m ss b::F) (boxT b1 t::TabP t p m ss b::F):=Eqv.all [boxT b1 t,TabP t p m ss b] F
theorem Zgp (b1 t p m:Nat) (ss:List Ses) (b:Lock.Bk) (F:List Part):Eqv (boxT b1 t::TabP t p m ss b::F) (boxT b1 t::headT t p b.p::Lease.BookP p m ss::Lock.BookP b::F):=(Zek t p m ss b F).cons _
theorem cloG {b1 t p m:Nat} {ss:List Ses} {b:Lock.Bk} {k:Nat} (hi:Lock.Inv b.st k) {l:List Ent} (hl:∀e ∈ l,e.path.size≤1000∧0≤e.num∧e.num < Lock.big64∧e.foot.size≤maxLen):CloE 63 b1 (GraP b1 t p m ss b) l (fun e=> !Lock.grantedB b.es e):=by
 intro w1 h x hx;have hA:=((At.start h).to (Zgq b1 t p m ss b [])).to (Zgp b1 t p m ss b []);have hxl:=hl x hx;clear h hx hl;have hc:=fun(w1:World) (q:Sep [Lock.BookP b] w1)=>Lock.Zil q (e:=x) (Nat.le_trans hxl.1 (by omega)) hxl.2.1 hxl.2.2.1 hxl.2.2.2 (fun x hx=>Nat.le_trans (hi.path x hx) (by omega));show Calls _ _ _ _ (fun e w'=>e=.returned (.bool (!Lock.grantedB b.es x))∧_);generalize Lock.grantedB b.es x=d at *
 have hi':=Hd hi;obtain⟨p1,n1,f1,m1,k1,s1⟩:=x;simp only[Ent.val] at *
 have hc':=Hd hc;clear hc hxl hi;obtain⟨hA,hF⟩:=fZ hA;go_enter Tryz.func63,Tryz.ntmps63
 go_wp2_with ((with_reducible refine gbx ?_);refine wHz 61 [.string p1,.int .u64 n1,.string f1,.int .i64 m1,.int .u64 k1,.int .i64 s1] hA ?_;clear hF hA;intro b4 w1 hA hb4 hF)
 (try go_frame);(refine cA hA ?_);(have hn1:=Cl.none hA);(have hn2:=Cl.none2 hA);(repeat(first|go_big_quiet_skip|(go_big_quiet_want;(first|(refine qM 61 6 ?_;go_frame;go_big_quiet_on)|(refine qL ?_;go_frame;go_big_quiet_on)|(go_big_quiet_op;(first|go_big_quiet_on|((apply Exists.intro);(refine⟨fun w1 hw=> ?_,?_⟩);(focus((have hw:=Cl.out hw);(exact Lock.through1 hw (A:=Lock.BookP b) sZ (hc'.out _))));(go_big_quiet_on))))))))
 (refine wpQuiet_nil ?_);(intro w1 hB);(clear hF hA hn1 hn2);(have hA:=Cl.out hB);(clear hB);obtain⟨hA,hF⟩:=fZ hA
 go_wp2_with fail;go_ret;exact⟨rfl,((hA.pick (K:=[boxT b1 t,headT t p b.p,Lease.BookP p m ss,Lock.BookP b]) pZ).to (Zgp b1 t p m ss b []).symm).to (Zgq b1 t p m ss b []).symm⟩
theorem ZdJ {w:World} {t p m:Nat} {ss:List Ses} {b:Lock.Bk} {k:Nat} (h:Sep [TabP t p m ss b] w) (hi:Lock.Inv b.st k) (hk:k≤1000000) (hf:∀e ∈ b.es,e.path.size≤1000∧0≤e.num∧e.num < Lock.big64∧e.foot.size≤maxLen):
 Calls Tryz.prog 32 #[.pointer (some ⟨t,0,none⟩)] w fun e w'=>∃v l,e=.returned v∧l.Perm (b.es.filter (Lock.grantedB b.es))∧l.Pairwise Lock.ltE∧At [TabP t p m ss b] w [rowL v l,TabP t p m ss b] w':=by
 have hA:=Zbf h;clear h;have hi':=Hd hi;have hf':=Hd hf;clear hi hf;obtain⟨hA,hF⟩:=fZ hA;go_enter Tryz.func32,Tryz.ntmps32
 go_wp2_with ((with_reducible refine gbx ?_);refine wX 26 (.pointer (some ⟨t,0,none⟩)) [.pointer (some ⟨t,0,none⟩)] hA ?_;clear hF hA;intro b1 w1 hA hb1;obtain⟨hA,hF⟩:=fZ hA)
 refine(Lock.Zd1 (hA.sep1 (A:=Lock.BookP b) sZ) hi'.out.sortable (Nat.le_trans hi'.out.len hk) (fun x hx=>Nat.le_trans (hi'.out.path x hx) (by omega))).mono ?_;rintro e w1 ⟨v,l,rfl,hp,hs,hT⟩;have hB:=hA.call1 (A:=Lock.BookP b) sZ hT;have hp':=Hd hp;have hs':=Hd hs;clear hF hA hT hp hs
 have hA:=(((hB.pick (K:=[boxT b1 t,headT t p b.p,Lease.BookP p m ss,Lock.BookP b,rowL v l]) pZ).to (Zgp b1 t p m ss b [rowL v l]).symm).to (Zgq b1 t p m ss b [rowL v l]).symm)
 clear hB;obtain⟨hA,hF⟩:=fZ hA;go_wp2_with fail;refine(Zgx (hA.sep2 (A:=rowL v l) (B:=GraP b1 t p m ss b) sZ sZ) (enters_of Tryz.func63 (by kernel_rfl) rfl) (cloG hi'.out (fun e he=>hf'.out e (hp'.out.mem_iff.1 he))) (by rw[hp'.out.length_eq];exact Nat.le_trans hi'.out.len hk)).mono ?_;rintro e w3 ⟨v3,rfl,hT⟩;have hB:=hA.call2 (A:=rowL v l) (B:=GraP b1 t p m ss b) sZ sZ hT;clear hF hA hT;simp only[uA] at hB;have hA:=(hB.pick (K:=[GraP b1 t p m ss b,rowL v3 (keepE (fun e=> !Lock.grantedB b.es e) l)]) pZ).to (Zgq b1 t p m ss b _);clear hB;obtain⟨hA,hF⟩:=fZ hA;go_wp2_with fail;go_ret;have hkf:keepE (fun e=> !Lock.grantedB b.es e) l=l.filter (Lock.grantedB b.es):=by unfold keepE;simp
 rw[hkf] at hA;exact⟨v3,_,rfl,hp'.out.filter _,hs'.out.filter _,hA.pick pZ⟩
end Tab
end
section
namespace Tab
open Go.RowKit
open Lease (Ses Ans fresh ZaN)
open Lock (S3 Ent rowL grantedB)
open Cmd (Cm)
attribute [-go_sem] run_eql_struct run_neq_struct run_eqGuard_agg
theorem ZaV {L0 L F:List Part} {w0 w:World} {t p m:Nat} {ss:List Ses} {b:Lock.Bk} (h:At L0 w0 L w) (s:Sel (TabP t p m ss b) L F):Zaa w t [.pointer (some ⟨p,0,none⟩),.pointer (some ⟨b.p,0,none⟩)] 80:=(Zbn h s).get .here
def grA (l:List Ent):List Ent:=l.filter (grantedB l)
def lessE (l m:List Ent):List Ent:=l.filter (fun e=> !decide (e ∈ m))
theorem Zhc {l l' m m':List Ent} (h:l.Perm l') (k:m.Perm m'):(lessE l m).Perm (lessE l' m'):=by
 unfold lessE;have e:(fun e=> !decide (e ∈ m))=fun e=> !decide (e ∈ m'):=funext fun x=>by rw[decide_eq_decide.2 k.mem_iff]
 rw[e];exact h.filter _
theorem Zoz {s:S3} {k:Nat} (hi:Lock.Inv s k):∀e ∈ s.es,e.path.size≤1000∧0≤e.num∧e.num < Lock.big64∧e.foot.size≤maxLen:=fun e he=>⟨Nat.le_trans (hi.path e he) (by omega),hi.num0 e he,hi.num1 e he,hi.foot e he⟩
def Zmw (t p m:Nat) (ss:List Ses) (b:Lock.Bk) (w:World) (T T':TS) (a:Ans) (e:Ending) (w':World):Prop:=
 ∃ss' b' vg vd lg ld,e=.returned (.agg #[.int .i64 a.e,.int .u64 a.n,.bool a.g,vg,vd])∧TRel ss' b' T'∧lg.Perm (lessE (grA T'.L.es) (grA T.L.es))∧ld.Perm (lessE T.L.es T'.L.es)∧At [TabP t p m ss b] w [rowL vg lg,rowL vd ld,TabP t p m ss' b'] w'
set_option maxRecDepth 1000000 in
theorem Zkk {w:World} {t p m:Nat} {ss:List Ses} {b:Lock.Bk} (h:Sep [TabP t p m ss b] w) (kind num:Int) (foot:ByteArray) (req:Int) (path:ByteArray) (mode n time:Int) {T:TS} (hR:TRel ss b T) {k:Nat} (hI:TInv T k) (hk:k≤1000) (hc:CmOk ⟨kind,num,foot,req,path,mode,n,time⟩) (hq0:0≤req) (hq1:req < Lease.big64) (hn0:0≤n):
 Calls Tryz.prog 11 #[.pointer (some ⟨t,0,none⟩),.agg #[.int .i64 kind,.int .u64 num,.string foot,.int .u64 req,.string path,.int .i64 mode,.int .u64 n,.int .i64 time]] w (Zmw t p m ss b w T (Zax T ⟨kind,num,foot,req,path,mode,n,time⟩).1 (Zax T ⟨kind,num,foot,req,path,mode,n,time⟩).2):=by
 have hm:Tryz.prog.follows .mixedOrders=true:=by kernel_rfl
 have hli:Lock.Inv b.st k:=by rw[hR.L];exact hI.lock
 have hI2:=ZeZ hI hc;have hap:=fun(w1:World) (q:Sep [TabP t p m ss b] w1)=>Ze0 q kind num foot req path mode n time hR hI (by omega) hc hq0 hq1 hn0;have hes:b.es=T.L.es:=by rw[←hR.L];rfl
 generalize (Zax T ⟨kind,num,foot,req,path,mode,n,time⟩).1=T2 at *
 generalize (Zax T ⟨kind,num,foot,req,path,mode,n,time⟩).2=ans at *
 obtain⟨ae,an,ag⟩:=ans;have hli':=Hd hli;have hI2':=Hd hI2;have hap':=Hd hap;have hes':=Hd hes;clear hli hI2 hap hes hR hI hc hq0 hq1 hn0;have hA:=At.start h;clear h;obtain⟨hA,hF⟩:=fZ hA;go_enter Tryz.func11,Tryz.ntmps11
 go_wp2_with (first|((with_reducible refine gbx ?_);refine wHz 41 [.int .i64 kind,.int .u64 num,.string foot,.int .u64 req,.string path,.int .i64 mode,.int .u64 n,.int .i64 time] hA ?_;clear hF hA;intro b3 w1 hA hb3 hF)|((with_reducible refine gal ?_);refine wGz 55 [.int .i64 0,.int .u64 0,.bool false,.slice none 0 0,.slice none 0 0] hA ?_;clear hF hA;intro b4 w1 hA hb4 hF))
 replace hA:=hA.drew;refine wp_region_held (S:=fun w'=>Zaa w' t (k2 p b.p) 80) hm ?_;change wpAnyH _ _ _ _ _ 9 _ _ (World.drew _);generalize World.drew _=wd at *
 have hS0:=(ZaV hA (b:=b) (ss:=ss) sZ:(fun w'=>Zaa w' t (k2 p b.p) 80) wd)
 refine tP 0 8 (.pointer (some ⟨t,0,none⟩)) (s:=hS0) (h:= ?_);(try go_frame);refine tP 2 10 (.pointer (some ⟨t,0,none⟩)) (s:=hS0) (h:= ?_);(try go_frame);refine tP 3 11 (.pointer (some ⟨t,0,none⟩)) (s:=hS0) (h:= ?_);(try go_frame);refine tP 4 12 (.pointer (some ⟨t,1,none⟩)) (s:=hS0) (h:= ?_);(try go_frame);refine tZ 5 13 (.pointer (some ⟨b.p,0,none⟩)) (r:=(fun w' hS=>Zac (ty:=73) (b:=t) (j:=1) rfl (by exact rfl) hS (by kernel_rfl) rfl)) (s:=hS0) (h:= ?_);(try go_frame);clear hS0;refine Zab (i:=1) (by kernel_rfl) ?_;refine cY 1 9 32 (fun u w'=>∃l,l.Perm (grA b.es)∧At [TabP t p m ss b] _ [rowL u l,TabP t p m ss b] w') ((ZdJ (hA.sep1 (A:=TabP t p m ss b) sZ) hli'.out (by omega) (Zoz hli'.out)).mono fun e w' ⟨v,l,he,hp,_,hT⟩=>⟨v,he,l,hp,hT⟩) ?_;rintro u9 wn9 ⟨l1,hp1,hT⟩;have hB:=hA.call1 (A:=TabP t p m ss b) sZ hT;clear hT hA;(try simp only[uA] at hB);have hA:=hB;clear hB;have hp1':=Hd hp1;clear hp1;refine⟨(ZaV hA (b:=b) (ss:=ss) sZ:(fun w'=>Zaa w' t [.pointer (some ⟨p,0,none⟩),.pointer (some ⟨b.p,0,none⟩)] 80) _),?_⟩
 have hS0:=(ZaV hA (b:=b) (ss:=ss) sZ:(fun w'=>Zaa w' t (k2 p b.p) 80) _)
 (try go_frame);clear hS0;refine Zab (i:=6) (by kernel_rfl) ?_;refine cY 6 14 21 (fun u w'=>∃l,l.Perm b.es∧At [TabP t p m ss b] _ [rowL u l,TabP t p m ss b] w') ((ZgK (hA.sep1 (A:=TabP t p m ss b) sZ) hli'.out (by omega)).mono fun e w' ⟨v,l,he,hp,hT⟩=>⟨v,he,l,hp,hT⟩) ?_;rintro u14 wn14 ⟨l2,hp2,hT⟩;have hB:=hA.call1 (A:=TabP t p m ss b) sZ hT;clear hT hA;(try simp only[uA] at hB);have hA:=hB;clear hB;have hp2':=Hd hp2;clear hp2;refine⟨(ZaV hA (b:=b) (ss:=ss) sZ:(fun w'=>Zaa w' t [.pointer (some ⟨p,0,none⟩),.pointer (some ⟨b.p,0,none⟩)] 80) _),?_⟩
 have hS0:=(ZaV hA (b:=b) (ss:=ss) sZ:(fun w'=>Zaa w' t (k2 p b.p) 80) _)
 (try go_frame);refine tP 7 5 (u9) (s:=hS0) (h:= ?_);(try go_frame);refine tP 8 6 (u14) (s:=hS0) (h:= ?_);(try go_frame);refine wpAnyH_done (by kernel_rfl) ?_ _;(try go_frame);clear hS0;obtain⟨hA,hF⟩:=fZ hA;go_wp2_with fail;refine(hap'.out _ (hA.sep1 (A:=TabP t p m ss b) sZ)).mono ?_;rintro e w2 ⟨ss2,b2,rfl,hR2,hT⟩;have hB:=hA.call1 (A:=TabP t p m ss b) sZ hT;clear hT;have hli2:Lock.Inv b2.st (k + 1):=by rw[hR2.L];exact hI2'.out.lock
 have hes2:b2.es=T2.L.es:=by rw[←hR2.L];rfl
 have hli2':=Hd hli2;have hes2':=Hd hes2;have hR2':=Hd hR2;clear hF hA hli2 hes2 hR2 hap';have hA:=hB;clear hB;obtain⟨hA,hF⟩:=fZ hA
 go_wp2_with (first|((with_reducible refine gal ?_);refine wGz 52 [.int .i64 0,.int .u64 0,.bool false] hA ?_;clear hF hA;intro b7 w1 hA hb7 hF)|((with_reducible refine gst ?_);refine wTz hA ?_;clear hF hA;intro w1 hA hF))
 have hl1:l1.length≤1000000:=by
  have h1:=hp1'.out.length_eq;have h2:(grA b.es).length≤b.es.length:=List.length_filter_le _ _;have h3:b.es.length≤k:=hli'.out.len;omega
 have hl2:l2.length≤1000000:=by
  have h1:=hp2'.out.length_eq;have h3:b.es.length≤k:=hli'.out.len;omega
 replace hA:=hA.drew;refine wp_region_held (S:=fun w'=>Zaa w' t [.pointer (some ⟨p,0,none⟩),.pointer (some ⟨b2.p,0,none⟩)] 80∧Zaa w' b7 [.int .i64 ae,.int .u64 an,.bool ag] 52) hm ?_;change wpAnyH _ _ _ _ _ 14 _ _ (World.drew _);generalize World.drew _=wd at *
 have hS0:=(⟨ZaV hA (b:=b2) (ss:=ss2) sZ,hA.get (A:=Part.cells b7 [.int .i64 ae,.int .u64 an,.bool ag] 52) sZ⟩:(fun w'=>Zaa w' t [.pointer (some ⟨p,0,none⟩),.pointer (some ⟨b2.p,0,none⟩)] 80∧Zaa w' b7 [.int .i64 ae,.int .u64 an,.bool ag] 52) wd)
 refine tZ 0 18 (.agg #[.int .i64 ae,.int .u64 an,.bool ag]) (r:=(fun w' hS=>Zag (ty:=52) (n:=3) (b:=b7) (j:=0) rfl (by exact rfl) hS.2 (by kernel_rfl) (by kernel_rfl) rfl rfl)) (s:=hS0) (h:= ?_);(try go_frame);refine tP 1 19 (.pointer (some ⟨t,0,none⟩)) (s:=hS0) (h:= ?_);(try go_frame);refine tP 3 21 (u9) (s:=hS0) (h:= ?_);(try go_frame);refine tP 5 23 (u14) (s:=hS0) (h:= ?_);(try go_frame);refine tP 6 24 (.pointer (some ⟨t,0,none⟩)) (s:=hS0) (h:= ?_);(try go_frame);refine tP 7 25 (.pointer (some ⟨t,0,none⟩)) (s:=hS0) (h:= ?_);(try go_frame);refine tP 8 26 (.pointer (some ⟨t,1,none⟩)) (s:=hS0) (h:= ?_);(try go_frame);refine tZ 9 27 (.pointer (some ⟨b2.p,0,none⟩)) (r:=(fun w' hS=>Zac (ty:=73) (b:=t) (j:=1) rfl (by exact rfl) hS.1 (by kernel_rfl) rfl)) (s:=hS0) (h:= ?_);(try go_frame);clear hS0;refine Zab (i:=2) (by kernel_rfl) ?_;refine cY 2 20 32 (fun u w'=>∃l,l.Perm (grA b2.es)∧At [TabP t p m ss2 b2] _ [rowL u l,TabP t p m ss2 b2] w') ((ZdJ (hA.sep1 (A:=TabP t p m ss2 b2) sZ) hli2'.out (by omega) (Zoz hli2'.out)).mono fun e w' ⟨v,l,he,hp,_,hT⟩=>⟨v,he,l,hp,hT⟩) ?_;rintro u20 wn20 ⟨l3,hp3,hT⟩;have hB:=hA.call1 (A:=TabP t p m ss2 b2) sZ hT;clear hT hA;(try simp only[uA] at hB);have hA:=hB;clear hB
 have hl3:l3.length≤1000000:=by
  have h1:=hp3.length_eq;have h2:(grA b2.es).length≤b2.es.length:=List.length_filter_le _ _;have h3:b2.es.length≤k + 1:=hli2'.out.len;omega
 have hp3':=Hd hp3;clear hp3;refine⟨(⟨ZaV hA (b:=b2) (ss:=ss2) sZ,hA.get (A:=Part.cells b7 [.int .i64 ae,.int .u64 an,.bool ag] 52) sZ⟩:(fun w'=>Zaa w' t [.pointer (some ⟨p,0,none⟩),.pointer (some ⟨b2.p,0,none⟩)] 80∧Zaa w' b7 [.int .i64 ae,.int .u64 an,.bool ag] 52) _),?_⟩
 have hS0:=(⟨ZaV hA (b:=b2) (ss:=ss2) sZ,hA.get (A:=Part.cells b7 [.int .i64 ae,.int .u64 an,.bool ag] 52) sZ⟩:(fun w'=>Zaa w' t [.pointer (some ⟨p,0,none⟩),.pointer (some ⟨b2.p,0,none⟩)] 80∧Zaa w' b7 [.int .i64 ae,.int .u64 an,.bool ag] 52) _)
 (try go_frame);clear hS0;refine Zab (i:=4) (by kernel_rfl) ?_;refine cY 4 22 33 (fun u w'=>∃(_:Unit),At [rowL u20 l3,rowL u9 l1] _ [rowL u (lessE l3 l1),rowL u20 l3,rowL u9 l1] w') ((Zeh (hA.sep2 (A:=rowL u20 l3) (B:=rowL u9 l1) sZ sZ) hl3 hl1).mono fun e w' ⟨v,he,hT⟩=>⟨v,he,(),hT⟩) ?_;rintro u22 wn22 ⟨_,hT⟩;have hB:=hA.call2 (A:=rowL u20 l3) (B:=rowL u9 l1) sZ sZ hT;clear hT hA;(try simp only[uA] at hB);have hA:=hB;clear hB;refine⟨(⟨ZaV hA (b:=b2) (ss:=ss2) sZ,hA.get (A:=Part.cells b7 [.int .i64 ae,.int .u64 an,.bool ag] 52) sZ⟩:(fun w'=>Zaa w' t [.pointer (some ⟨p,0,none⟩),.pointer (some ⟨b2.p,0,none⟩)] 80∧Zaa w' b7 [.int .i64 ae,.int .u64 an,.bool ag] 52) _),?_⟩
 have hS0:=(⟨ZaV hA (b:=b2) (ss:=ss2) sZ,hA.get (A:=Part.cells b7 [.int .i64 ae,.int .u64 an,.bool ag] 52) sZ⟩:(fun w'=>Zaa w' t [.pointer (some ⟨p,0,none⟩),.pointer (some ⟨b2.p,0,none⟩)] 80∧Zaa w' b7 [.int .i64 ae,.int .u64 an,.bool ag] 52) _)
 (try go_frame);clear hS0;refine Zab (i:=10) (by kernel_rfl) ?_;refine cY 10 28 21 (fun u w'=>∃l,l.Perm b2.es∧At [TabP t p m ss2 b2] _ [rowL u l,TabP t p m ss2 b2] w') ((ZgK (hA.sep1 (A:=TabP t p m ss2 b2) sZ) hli2'.out (by omega)).mono fun e w' ⟨v,l,he,hp,hT⟩=>⟨v,he,l,hp,hT⟩) ?_;rintro u28 wn28 ⟨l4,hp4,hT⟩;have hB:=hA.call1 (A:=TabP t p m ss2 b2) sZ hT;clear hT hA;(try simp only[uA] at hB);have hA:=hB;clear hB
 have hl4:l4.length≤1000000:=by
  have h1:=hp4.length_eq;have h3:b2.es.length≤k + 1:=hli2'.out.len;omega
 have hp4':=Hd hp4;clear hp4;refine⟨(⟨ZaV hA (b:=b2) (ss:=ss2) sZ,hA.get (A:=Part.cells b7 [.int .i64 ae,.int .u64 an,.bool ag] 52) sZ⟩:(fun w'=>Zaa w' t [.pointer (some ⟨p,0,none⟩),.pointer (some ⟨b2.p,0,none⟩)] 80∧Zaa w' b7 [.int .i64 ae,.int .u64 an,.bool ag] 52) _),?_⟩
 have hS0:=(⟨ZaV hA (b:=b2) (ss:=ss2) sZ,hA.get (A:=Part.cells b7 [.int .i64 ae,.int .u64 an,.bool ag] 52) sZ⟩:(fun w'=>Zaa w' t [.pointer (some ⟨p,0,none⟩),.pointer (some ⟨b2.p,0,none⟩)] 80∧Zaa w' b7 [.int .i64 ae,.int .u64 an,.bool ag] 52) _)
 (try go_frame);clear hS0;refine Zab (i:=11) (by kernel_rfl) ?_;refine cY 11 29 33 (fun u w'=>∃(_:Unit),At [rowL u14 l2,rowL u28 l4] _ [rowL u (lessE l2 l4),rowL u14 l2,rowL u28 l4] w') ((Zeh (hA.sep2 (A:=rowL u14 l2) (B:=rowL u28 l4) sZ sZ) hl2 hl4).mono fun e w' ⟨v,he,hT⟩=>⟨v,he,(),hT⟩) ?_;rintro u29 wn29 ⟨_,hT⟩;have hB:=hA.call2 (A:=rowL u14 l2) (B:=rowL u28 l4) sZ sZ hT;clear hT hA;(try simp only[uA] at hB);have hA:=hB;clear hB;refine⟨(⟨ZaV hA (b:=b2) (ss:=ss2) sZ,hA.get (A:=Part.cells b7 [.int .i64 ae,.int .u64 an,.bool ag] 52) sZ⟩:(fun w'=>Zaa w' t [.pointer (some ⟨p,0,none⟩),.pointer (some ⟨b2.p,0,none⟩)] 80∧Zaa w' b7 [.int .i64 ae,.int .u64 an,.bool ag] 52) _),?_⟩
 have hS0:=(⟨ZaV hA (b:=b2) (ss:=ss2) sZ,hA.get (A:=Part.cells b7 [.int .i64 ae,.int .u64 an,.bool ag] 52) sZ⟩:(fun w'=>Zaa w' t [.pointer (some ⟨p,0,none⟩),.pointer (some ⟨b2.p,0,none⟩)] 80∧Zaa w' b7 [.int .i64 ae,.int .u64 an,.bool ag] 52) _)
 (try go_frame);obtain⟨gx,gc,hgq,_,_,_⟩:=hA.row_form (v:=u22) (n:=(lessE l3 l1).length) (xs:=(lessE l3 l1).flatMap Ent.cells) sZ;obtain⟨dx,dc,hdq,_,_,_⟩:=hA.row_form (v:=u29) (n:=(lessE l2 l4).length) (xs:=(lessE l2 l4).flatMap Ent.cells) sZ;subst hgq hdq;refine tP 12 30 (.agg #[.int .i64 ae,.int .u64 an,.bool ag,.slice gx (lessE l3 l1).length gc,.slice dx (lessE l2 l4).length dc]) (s:=hS0) (h:= ?_);(try go_frame);clear hS0;refine Zab (i:=13) (by kernel_rfl) ?_;refine stZ 13 b4 0 [.int .i64 ae,.int .u64 an,.bool ag,.slice gx (lessE l3 l1).length gc,.slice dx (lessE l2 l4).length dc] hA ?_;intro w9 hB;clear hA;have hA:=hB;clear hB;simp only[setL] at hA;refine⟨(⟨ZaV hA (b:=b2) (ss:=ss2) sZ,hA.get (A:=Part.cells b7 [.int .i64 ae,.int .u64 an,.bool ag] 52) sZ⟩:(fun w'=>Zaa w' t [.pointer (some ⟨p,0,none⟩),.pointer (some ⟨b2.p,0,none⟩)] 80∧Zaa w' b7 [.int .i64 ae,.int .u64 an,.bool ag] 52) _),?_⟩
 have hS0:=(⟨ZaV hA (b:=b2) (ss:=ss2) sZ,hA.get (A:=Part.cells b7 [.int .i64 ae,.int .u64 an,.bool ag] 52) sZ⟩:(fun w'=>Zaa w' t [.pointer (some ⟨p,0,none⟩),.pointer (some ⟨b2.p,0,none⟩)] 80∧Zaa w' b7 [.int .i64 ae,.int .u64 an,.bool ag] 52) _)
 (try go_frame);refine wpAnyH_done (by kernel_rfl) ?_ _;(try go_frame);clear hS0;obtain⟨hA,hF⟩:=fZ hA;go_wp2_with fail;refine bodyPost_ret (v:=.agg #[.int .i64 ae,.int .u64 an,.bool ag,.slice gx (lessE l3 l1).length gc,.slice dx (lessE l2 l4).length dc]) (by simp[results,Tryz.results11,go_sem,hF]) rfl ?_;have q1:(grA b.es).Perm (grA T.L.es):=by rw[hes'.out]
 have q2:(grA b2.es).Perm (grA T2.L.es):=by rw[hes2'.out]
 exact⟨ss2,b2,_,_,_,_,rfl,hR2'.out,Zhc (hp3'.out.trans q2) (hp1'.out.trans q1),Zhc (hes'.out ▸ hp2'.out) (hes2'.out ▸ hp4'.out),hA.pick pZ⟩
end Tab
end
section
namespace Tab
open Go.RowKit
open Lock (S3 Ent rowL rowE flatE grantedB Zbi infoE ZbA Zbt)
attribute [-go_sem] run_eql_struct run_neq_struct run_eqGuard_agg
attribute [local go_sem] Lock.Zjf Lock.eqlE6
theorem ZnG (op:BinOp) (x y:Operand) (c1 c2 c3 c4 c5 c6 d1 d2 d3 d4 d5 d6:Value) (w:World):(eqGuard op 64 x y (.agg #[c1,c2,c3,c4,c5,c6]) (.agg #[d1,d2,d3,d4,d5,d6])).run Tryz.prog w=.ok () w:=run_eqGuard_agg _ _ _ _ _ _ _ (by kernel_rfl)
theorem ZoT (x y:Ent) (w:World):(Op.equalIn 10000 64 x.val y.val).run Tryz.prog w=.ok (decide (x=y)) w:=by
 unfold Ent.val;rw[run_equalIn_agg _ 9999 _ _ _ (by kernel_rfl) (by kernel_rfl)];obtain⟨p1,n1,f1,m1,k1,s1⟩:=x;obtain⟨p2,n2,f2,m2,k2,s2⟩:=y;simp[go_sem,Op.eqFields,Lock.same_ba];by_cases h1:p1=p2<;>by_cases h2:n1=n2<;>by_cases h3:f1=f2<;>by_cases h4:m1=m2<;>by_cases h5:k1=k2<;>by_cases h6:s1=s2<;>simp[h1,h2,h3,h4,h5,h6]
theorem ZoC (p1 f1 p2 f2:ByteArray) (n1 m1 k1 s1 n2 m2 k2 s2:Int) (w:World):(binOp .eql 64 (.agg #[.string p1,.int .u64 n1,.string f1,.int .i64 m1,.int .u64 k1,.int .i64 s1]) (.agg #[.string p2,.int .u64 n2,.string f2,.int .i64 m2,.int .u64 k2,.int .i64 s2])).run Tryz.prog w=.ok (.bool (decide ((⟨p1,n1,f1,m1,k1,s1⟩:Ent)=⟨p2,n2,f2,m2,k2,s2⟩))) w:=by
 have:=ZoT ⟨p1,n1,f1,m1,k1,s1⟩ ⟨p2,n2,f2,m2,k2,s2⟩ w
 unfold Ent.val at *
 rw[run_eql_struct,this];rfl
attribute [local go_sem] ZnG ZoC
def RdE (R:Part) (v:Value) (l:List Ent):Prop:=∀w,R.holds w→Reads w v l.length (l.flatMap Ent.cells)
theorem RdE.form {R:Part} {v:Value} {l:List Ent} (hr:RdE R v l) {w:World} (h:Sep [R] w):∃ax cap,v=.slice ax l.length cap:=by
 obtain⟨ax,c,e,_⟩:=hr w h.1;exact⟨ax,c,e⟩
theorem RdE.at {R:Part} {ax:Option Addr} {cap i:Nat} {l:List Ent} (hr:RdE R (.slice ax l.length cap) l) {w:World} (h:R.holds w) (hi:i < l.length):
 ∃b off,ax=some ⟨b,off,none⟩∧∀w',R.holds w'→∀(k:Nat) u,l[i].cells[k]? =some u→w'.cell? ⟨b,off + i * 6 + k,none⟩=some u:=by
 have hx:=List.getElem?_eq_getElem hi
 have go:∀w',R.holds w'→∃b off,ax=some ⟨b,off,none⟩∧∀(k:Nat) u,l[i].cells[k]? =some u→w'.cell? ⟨b,off + i * 6 + k,none⟩=some u:=by
  intro w' h';obtain⟨ax',c,e,_,hq⟩:=hr w' h';cases e;have hat:=Zcc Ent.cells 6 (fun _=>rfl) l i _ hx;obtain⟨b,off,e2,_⟩:=hq (i * 6) (.string l[i].path) (by have:=hat 0 (by omega);simpa [Ent.cells] using this);refine⟨b,off,e2,fun k u hk=> ?_⟩;have hk6:k < 6:=(List.getElem?_eq_some_iff.1 hk).1;obtain⟨b',off',e3,hc⟩:=hq (i * 6 + k) u (by rw[hat k hk6];exact hk);rw[e2] at e3;cases e3;rw[Nat.add_assoc];exact hc
 obtain⟨b,off,e,_⟩:=go w h;refine⟨b,off,e,fun w' h'=> ?_⟩;obtain⟨b',off',e',hc⟩:=go w' h';rw[e] at e';cases e';exact hc
def AmRel (w:World) (R:Part) (l:List Ent) (x:Ent) (b3:Nat) (k:Nat) (u:Value) (wr:World):Prop:=
 ∃i:Nat,u=.int .i64 i∧i + k=l.length∧x ∉ l.take i∧At [R] w [Part.cells b3 x.cells 64,R] wr
theorem Ze1 {w:World} {R:Part} {v:Value} {l:List Ent} (h:Sep [R] w) (hr:RdE R v l) (x:Ent) (hmax:l.length≤1000000):
 Calls Tryz.prog 15 #[v,x.val] w fun e w'=>e=.returned (.bool (decide (x ∈ l)))∧At [R] w [R] w':=by
 obtain⟨ax,cap,rfl⟩:=hr.form h;have hr':=Hd hr;have hA:=At.start h;clear h hr;have hnox:=Hd (show x ∉ l.take 0 by simp);obtain⟨p1,n1,f1,m1,k1,s1⟩:=x;simp only[Ent.val];obtain⟨hA,hF⟩:=fZ hA;go_enter Tryz.func15,Tryz.ntmps15
 go_wp2_with ((with_reducible refine gbx ?_);refine wHz 64 [.string p1,.int .u64 n1,.string f1,.int .i64 m1,.int .u64 k1,.int .i64 s1] hA ?_;clear hF hA;intro b3 w1 hA hb3 hF)
 (try go_frame);go_loopg [9] l.length (AmRel w R l ⟨p1,n1,f1,m1,k1,s1⟩ b3)
 case atStart=>exact⟨0,rfl,by simp,hnox.out,hA⟩
 case round=>
  obtain⟨i,rfl,hik,hno,hB⟩:=hrel;have hno':=Hd hno;clear hF hA hno;have hA:=hB;clear hB;simp only[Ent.cells] at hA;by_cases hi:i < l.length
  · obtain⟨bk,off,rfl,hel⟩:=hr'.out.at (hA.get (A:=R) sZ) hi;have hx:l[i]? =some l[i]:=List.getElem?_eq_getElem hi;have htk:l.take (i + 1)=l.take i++[l[i]]:=List.take_succ_eq_append_getElem hi;generalize hy:l[i]=y at *
    obtain⟨p0,n0,f0,m0,k0,s0⟩:=y;have hel':=Hd (show ∀w',R.holds w'→∀(k:Nat) u,([.string p0,.int .u64 n0,.string f0,.int .i64 m0,.int .u64 k0,.int .i64 s0]:List Value)[k]? =some u→w'.cell? ⟨bk,off + i * 6 + k,none⟩=some u from hel)
    obtain⟨d,hd⟩:∃d,decide ((⟨p0,n0,f0,m0,k0,s0⟩:Ent)=⟨p1,n1,f1,m1,k1,s1⟩)=d:=⟨_,rfl⟩
    have heq:∀w,(binOp .eql 64 (.agg #[.string p0,.int .u64 n0,.string f0,.int .i64 m0,.int .u64 k0,.int .i64 s0]) (.agg #[.string p1,.int .u64 n1,.string f1,.int .i64 m1,.int .u64 k1,.int .i64 s1])).run Tryz.prog w=.ok (.bool d) w:=fun w=>by rw[ZoC,hd]
    have hd':=Hd hd;have hx':=Hd hx;have htk':=Hd htk;clear hx htk hy hd hel;obtain⟨hA,hF⟩:=fZ hA;cases d
    · go_wp2_with (first|((with_reducible refine gal ?_);refine g6 hA ?_;clear hF hA;intro b6 w1 hA hb6 hF)|((with_reducible show wpList _ _ _ ({dst:=some 12,op:=Op.load _ _,type:=_,pos:=_,after:=_,guard:=_}::_) _ _);refine Zai (vs:=[.string p0,.int .u64 n0,.string f0,.int .i64 m0,.int .u64 k0,.int .i64 s0]) rfl rfl (by(try simp only[Act.eval,eV])<;>exact rfl) (hel'.out _ (hA.get (A:=R) sZ)) (by kernel_rfl) (by kernel_rfl) ?_)|((with_reducible refine gst ?_);refine wTz hA ?_;clear hF hA;intro w1 hA hF))
      go_roundg (gk - 1);case measure=>omega
      case rel=>
       refine⟨i + 1,by simp,by omega,?_,hA.pick pZ⟩;rw[htk'.out];intro hm
       rcases List.mem_append.1 hm with hm|hm
       · exact hno'.out hm
       exact of_decide_eq_false hd'.out (List.mem_singleton.1 hm).symm
    go_wp2_with (first|((with_reducible refine gal ?_);refine g6 hA ?_;clear hF hA;intro b6 w1 hA hb6 hF)|((with_reducible show wpList _ _ _ ({dst:=some 12,op:=Op.load _ _,type:=_,pos:=_,after:=_,guard:=_}::_) _ _);refine Zai (vs:=[.string p0,.int .u64 n0,.string f0,.int .i64 m0,.int .u64 k0,.int .i64 s0]) rfl rfl (by(try simp only[Act.eval,eV])<;>exact rfl) (hel'.out _ (hA.get (A:=R) sZ)) (by kernel_rfl) (by kernel_rfl) ?_)|((with_reducible refine gst ?_);refine wTz hA ?_;clear hF hA;intro w1 hA hF))
    go_ret;have e0:=of_decide_eq_true hd'.out;have hx0:=hx'.out;rw[e0] at hx0;exact⟨by rw[decide_eq_true (List.mem_of_getElem? hx0)];rfl,hA.pick pZ⟩
  have hF:=hA.facts;obtain⟨hA,hF⟩:=fZ hA;go_wp2_with fail;go_ret;have hno2:=hno'.out;rw[List.take_of_length_le (by omega)] at hno2;exact⟨by rw[decide_eq_false hno2];rfl,hA.pick pZ⟩
theorem Zhu (x:Ent) (w:World):Calls Tryz.prog 16 #[x.val] w fun e w'=>e=.returned x.val∧Ext w w':=by
 have hA:At [] w [] w:=At.start (L0:=[]) trivial;have hF:=hA.facts;obtain⟨p1,n1,f1,m1,k1,s1⟩:=x;simp only[Ent.val];obtain⟨hA,hF⟩:=fZ hA;go_enter Tryz.func16,Tryz.ntmps16
 go_wp2_with (first|((with_reducible refine gbx ?_);refine wHz 61 [.string p1,.int .u64 n1,.string f1,.int .i64 m1,.int .u64 k1,.int .i64 s1] hA ?_;clear hF hA;intro b1 w1 hA hb1 hF)|((with_reducible refine gal ?_);refine g6 hA ?_;clear hF hA;intro b2 w1 hA hb2 hF)|((with_reducible refine gst ?_);refine wTz hA ?_;clear hF hA;intro w1 hA hF))
 exact bodyPost_ret (v:=.agg #[.string p1,.int .u64 n1,.string f1,.int .i64 m1,.int .u64 k1,.int .i64 s1]) (by simp[results,Tryz.results16,go_sem,hF]) rfl ⟨rfl,hA.toExt⟩
theorem Zh8 (p n f m k s) (w:World):(Instr.buildSlice 31 1 #[(0,.agg #[.string p,.int .u64 n,.string f,.int .i64 m,.int .u64 k,.int .i64 s])]).run Tryz.prog w=.ok (.slice (some ⟨w.heap.size,0,none⟩) 1 1) (w.alloc (.cells (Ent.cells ⟨p,n,f,m,k,s⟩).toArray 64)):=by kernel_rfl
theorem ZjZ {l m:List Ent} {i:Nat} (hi:i < l.length):lessE (l.take (i + 1)) m=lessE (l.take i) m++if l[i] ∈ m then[] else[l[i]]:=by
 unfold lessE;rw[List.take_succ_eq_append_getElem hi,List.filter_append];by_cases h:l[i] ∈ m<;>simp[h]
theorem Zln (l m:List Ent) (i:Nat):(lessE (l.take i) m).length≤l.length:=Nat.le_trans (List.length_filter_le _ _) (by rw[List.length_take];omega)
def LsRel (w:World) (R:Part) (l m:List Ent) (k:Nat) (u5 u10:Value) (wr:World):Prop:=
 ∃i:Nat,u10=.int .i64 i∧i + k=l.length∧At [R] w [rowE u5 (lessE (l.take i) m),R] wr
theorem less_any {w:World} {R:Part} {v1 v2:Value} {l m:List Ent} (h:Sep [R] w) (hr:RdE R v1 l) (hr2:RdE R v2 m) (hl:l.length≤1000000) (hm:m.length≤1000000):
 Calls Tryz.prog 14 #[v1,v2] w fun e w'=>∃v',e=.returned v'∧At [R] w [rowE v' (lessE l m),R] w':=by
 obtain⟨i0,hi0,hz0,hz1,hz2⟩:=info_parts infoE;obtain⟨ax,cap,rfl⟩:=hr.form h;obtain⟨bx,bcap,rfl⟩:=hr2.form h;have hr':=Hd hr;have hr2':=Hd hr2;have hA:=ZbA (At.start h);clear h hr hr2;obtain⟨hA,hF⟩:=fZ hA;go_enter Tryz.func14,Tryz.ntmps14;go_wp2_with fail;(try go_frame);go_loopg [5,10] l.length (LsRel w R l m)
 case atStart=>exact⟨0,rfl,by simp,by rw[show lessE (l.take 0) m=[] by simp[lessE]];exact hA.pick pZ⟩
 case round=>
  obtain⟨i,rfl,hik,hB⟩:=hrel;replace hA:=hB;clear hF hB;have hlen:=Zln l m i;by_cases hi:i < l.length
  · obtain⟨bk,off,rfl,hel⟩:=hr'.out.at (hA.get (A:=R) sZ) hi;have hst:=ZjZ (m:=m) hi;generalize l[i]=y at *
    have ham:=fun(w1:World) (q:Sep [R] w1)=>Ze1 q hr2'.out y hm;by_cases hd:y ∈ m
    · rw[if_pos hd,List.append_nil] at hst;rw[decide_eq_true hd] at ham;obtain⟨p0,n0,f0,m0,k0,s0⟩:=y;simp only[Ent.val] at ham;have hel':=Hd (show ∀w',R.holds w'→∀(k:Nat) u,([.string p0,.int .u64 n0,.string f0,.int .i64 m0,.int .u64 k0,.int .i64 s0]:List Value)[k]? =some u→w'.cell? ⟨bk,off + i * 6 + k,none⟩=some u from hel);have hst':=Hd hst;have ham':=Hd ham;clear hst hd ham hel;obtain⟨hA,hF⟩:=fZ hA
      go_wp2_with (first|((with_reducible refine gal ?_);refine g6 hA ?_;clear hF hA;intro b7 w1 hA hb7 hF)|((with_reducible show wpList _ _ _ ({dst:=some 13,op:=Op.load _ _,type:=_,pos:=_,after:=_,guard:=_}::_) _ _);refine Zai (vs:=[.string p0,.int .u64 n0,.string f0,.int .i64 m0,.int .u64 k0,.int .i64 s0]) rfl rfl (by(try simp only[Act.eval,eV])<;>exact rfl) (hel'.out _ (hA.get (A:=R) sZ)) (by kernel_rfl) (by kernel_rfl) ?_)|((with_reducible refine gst ?_);refine wTz hA ?_;clear hF hA;intro w1 hA hF))
      refine(ham'.out _ (hA.sep1 (A:=R) sZ)).mono ?_;rintro e w3 ⟨rfl,hT⟩;replace hA:=hA.call1 (A:=R) sZ hT;clear hF hT ham';obtain⟨hA,hF⟩:=fZ hA;go_wp2_with fail;go_roundg (gk - 1);case measure=>omega
      case rel=>exact⟨i + 1,by simp,by omega,by rw[hst'.out];exact hA.pick pZ⟩
    rw[if_neg hd] at hst;rw[decide_eq_false hd] at ham;obtain⟨p0,n0,f0,m0,k0,s0⟩:=y;simp only[Ent.val] at ham;have hel':=Hd (show ∀w',R.holds w'→∀(k:Nat) u,([.string p0,.int .u64 n0,.string f0,.int .i64 m0,.int .u64 k0,.int .i64 s0]:List Value)[k]? =some u→w'.cell? ⟨bk,off + i * 6 + k,none⟩=some u from hel);have hst':=Hd hst;have ham':=Hd ham;clear hst hd ham hel;generalize lessE (l.take i) m=D at *
    obtain⟨hA,hF⟩:=fZ hA
    go_wp2_with (first|((with_reducible refine gal ?_);refine g6 hA ?_;clear hF hA;intro b7 w1 hA hb7 hF)|((with_reducible show wpList _ _ _ ({dst:=some 13,op:=Op.load _ _,type:=_,pos:=_,after:=_,guard:=_}::_) _ _);refine Zai (vs:=[.string p0,.int .u64 n0,.string f0,.int .i64 m0,.int .u64 k0,.int .i64 s0]) rfl rfl (by(try simp only[Act.eval,eV])<;>exact rfl) (hel'.out _ (hA.get (A:=R) sZ)) (by kernel_rfl) (by kernel_rfl) ?_)|((with_reducible refine gst ?_);refine wTz hA ?_;clear hF hA;intro w1 hA hF))
    refine(ham'.out _ (hA.sep1 (A:=R) sZ)).mono ?_;rintro e w3 ⟨rfl,hT⟩;replace hA:=hA.call1 (A:=R) sZ hT;clear hF hT ham';obtain⟨hA,hF⟩:=fZ hA
    go_wp2_with (first
     |((with_reducible show wpList _ _ _ ({dst:=_,op:=Op.buildSlice _ _ _,type:=_,pos:=_,after:=_,guard:=_}::_) _ _);refine Zao (e:=64) (vs:=Ent.cells ⟨p0,n0,f0,m0,k0,s0⟩) rfl rfl (by(try simp only[Act.eval,eV])<;>exact rfl) (fun _=>Zh8 p0 n0 f0 m0 k0 s0 _) hA ?_;intro b2 w1 hB hb2;replace hA:=hB;clear hF hB;obtain⟨hA,hF⟩:=fZ hA)
     |((with_reducible show wpList _ _ _ ({dst:=_,op:=Op.call {callee:=Callee.builtin Builtin.append,args:=_,argTypes:=_},type:=_,pos:=_,after:=_,guard:=_}::_) _ _);refine Zad (e:=64) (size:=6) (v:=u5) (xs:=flatE D) (n:=D.length) (m:=1) (news:=Ent.cells ⟨p0,n0,f0,m0,k0,s0⟩) rfl _ _ 31 rfl Tryz.underlying31 hi0 hz0 hz1 hz2 rfl (by omega) hA sZ (by(try simp only[Act.eval,eV])<;>exact rfl) (by(try simp only[Act.eval,eV])<;>exact rfl) rfl (hA.cells_reads sZ _ _) (Ent.one _) (by unfold maxLen;omega) (by omega) ?_;intro v2 w1 hB;rw[Zbt] at hB;replace hA:=hB;clear hF hB;obtain⟨hA,hF⟩:=fZ hA)
     |((with_reducible refine gst ?_);refine wTz hA ?_;clear hF hA;intro w1 hA hF)|((with_reducible refine gbx ?_);refine wCz hA ?_;clear hF hA;intro b1 w1 hA hb1 hF))
    go_roundg (gk - 1);case measure=>omega
    case rel=>exact⟨i + 1,by simp,by omega,by rw[hst'.out];exact hA.pick pZ⟩
  have eL:l.take i=l:=List.take_of_length_le (by omega);rw[eL] at hA;obtain⟨hA,hF⟩:=fZ hA;go_wp2_with fail;go_ret;exact⟨_,rfl,hA.pick pZ⟩
end Tab
end
section
namespace Tab
open Go.RowKit
open Lock (S3 Ent rowL rowE flatE grantedB Zbi infoE ZbA Zbt Zcu)
attribute [-go_sem] run_eql_struct run_neq_struct run_eqGuard_agg
attribute [local go_sem] Lock.Zjf Lock.eqlE6
theorem ZcW (v:Value) (l:List Ent):RdE (rowE v l) v l:=fun w h=>Zdc h
theorem Zk5 (v:Value) (l:List Ent):RdE (rowL v l) v l:=fun w h=>Zdc h
theorem ZlJ {f:Ent→Bool} {l:List Ent} {i:Nat} (hi:i < l.length):(l.take (i + 1)).filter f=(l.take i).filter f++if f l[i]=true then[l[i]] else[]:=by
 rw[List.take_succ_eq_append_getElem hi,List.filter_append];by_cases h:f l[i]=true<;>simp[h]
theorem ZnP (f:Ent→Bool) (l:List Ent) (i:Nat):((l.take i).filter f).length≤l.length:=Nat.le_trans (List.length_filter_le _ _) (by rw[List.length_take];omega)
def GtRel (w:World) (vE:Value) (L:List Ent) (b1:Nat) (c:List Value) (k:Nat) (u3 u10:Value) (wr:World):Prop:=
 ∃i:Nat,u10=.int .i64 i∧i + k=L.length∧At [rowE vE L] w [rowE u3 ((L.take i).filter (grantedB L)),Part.cells b1 c 36,rowE vE L] wr
theorem Zj4 {w:World} {vS vE vC:Value} {L:List Ent} (h:Sep [rowE vE L] w) (first:Int) (hS:∃ax k cap,vS=.slice ax k cap) (hC:∃ax k cap,vC=.slice ax k cap) (hg:∀i (hi:i < L.length),Zbi L i=grantedB L L[i]) (hmax:L.length≤1000000) (hsz:∀x ∈ L,x.path.size≤1000):
 Calls Tryz.prog 8 #[.agg #[vS,.int .u64 first,vE,vC]] w fun e w'=>∃v',e=.returned v'∧At [rowE vE L] w [rowE v' (grA L),rowE vE L] w':=by
 obtain⟨i0,hi0,hz0,hz1,hz2⟩:=info_parts infoE;obtain⟨sx,sn,sc,rfl⟩:=hS;obtain⟨cx,cn,cc,rfl⟩:=hC;obtain⟨ax,cap,rfl⟩:=(ZcW vE L).form h;have hA:=ZbA (At.start h);clear h;have hg':=Hd hg;clear hg;obtain⟨hA,hF⟩:=fZ hA;go_enter Tryz.func8,Tryz.ntmps8
 go_wp2_with ((with_reducible refine gbx ?_);refine wHz 36 [.slice sx sn sc,.int .u64 first,.slice ax L.length cap,.slice cx cn cc] hA ?_;clear hF hA;intro b1 w1 hA hb1 hF)
 (try go_frame);go_loopg [3,10] L.length (GtRel w (.slice ax L.length cap) L b1 [.slice sx sn sc,.int .u64 first,.slice ax L.length cap,.slice cx cn cc])
 case atStart=>exact⟨0,rfl,by simp,by rw[show(L.take 0).filter (grantedB L)=[] by simp];exact hA.pick pZ⟩
 case round=>
  obtain⟨i,rfl,hik,hB⟩:=hrel;replace hA:=hB;clear hF hB;have hlen:=ZnP (grantedB L) L i;by_cases hi:i < L.length
  · obtain⟨bk,off,rfl,hel⟩:=(ZcW (.slice ax L.length cap) L).at (hA.get (A:=rowE (.slice ax L.length cap) L) sZ) hi;have hst:=ZlJ (f:=grantedB L) hi;have hgr:=fun(w1:World) (q:Sep [rowE (.slice (some ⟨bk,off,none⟩) L.length cap) L] w1)=>Zcu q first (.slice cx cn cc) ⟨_,_,_,rfl⟩ i hi hmax hsz
    rw[hg'.out i hi] at hgr;generalize (L.take i).filter (grantedB L)=D at *
    generalize grantedB L L[i]=d at *
    generalize L[i]=y at *
    obtain⟨p0,n0,f0,m0,k0,s0⟩:=y;have hel':=Hd (show ∀w',(rowE (.slice (some ⟨bk,off,none⟩) L.length cap) L).holds w'→∀(k:Nat) u,([.string p0,.int .u64 n0,.string f0,.int .i64 m0,.int .u64 k0,.int .i64 s0]:List Value)[k]? =some u→w'.cell? ⟨bk,off + i * 6 + k,none⟩=some u from hel);have hst':=Hd hst;have hgr':=Hd hgr;clear hst hgr hel;obtain⟨hA,hF⟩:=fZ hA;cases d
    · go_wp2_with (first|((with_reducible refine gal ?_);refine g6 hA ?_;clear hF hA;intro b7 w1 hA hb7 hF)|((with_reducible show wpList _ _ _ ({dst:=some 14,op:=Op.load _ _,type:=_,pos:=_,after:=_,guard:=_}::_) _ _);refine Zai (vs:=[.string p0,.int .u64 n0,.string f0,.int .i64 m0,.int .u64 k0,.int .i64 s0]) rfl rfl (by(try simp only[Act.eval,eV])<;>exact rfl) (hel'.out _ (hA.get (A:=rowE (.slice (some ⟨bk,off,none⟩) L.length cap) L) sZ)) (by kernel_rfl) (by kernel_rfl) ?_)|((with_reducible refine gst ?_);refine wTz hA ?_;clear hF hA;intro w1 hA hF))
      refine(hgr'.out _ (hA.sep1 (A:=rowE (.slice (some ⟨bk,off,none⟩) L.length cap) L) sZ)).mono ?_;rintro e w3 ⟨rfl,hT⟩;replace hA:=hA.call1 (A:=rowE (.slice (some ⟨bk,off,none⟩) L.length cap) L) sZ hT;clear hF hT hgr';obtain⟨hA,hF⟩:=fZ hA;go_wp2_with fail;go_roundg (gk - 1);case measure=>omega
      case rel=>exact⟨i + 1,by simp,by omega,by rw[hst'.out,if_neg (by decide),List.append_nil];exact hA.pick pZ⟩
    go_wp2_with (first|((with_reducible refine gal ?_);refine g6 hA ?_;clear hF hA;intro b7 w1 hA hb7 hF)|((with_reducible show wpList _ _ _ ({dst:=some 14,op:=Op.load _ _,type:=_,pos:=_,after:=_,guard:=_}::_) _ _);refine Zai (vs:=[.string p0,.int .u64 n0,.string f0,.int .i64 m0,.int .u64 k0,.int .i64 s0]) rfl rfl (by(try simp only[Act.eval,eV])<;>exact rfl) (hel'.out _ (hA.get (A:=rowE (.slice (some ⟨bk,off,none⟩) L.length cap) L) sZ)) (by kernel_rfl) (by kernel_rfl) ?_)|((with_reducible refine gst ?_);refine wTz hA ?_;clear hF hA;intro w1 hA hF))
    refine(hgr'.out _ (hA.sep1 (A:=rowE (.slice (some ⟨bk,off,none⟩) L.length cap) L) sZ)).mono ?_;rintro e w3 ⟨rfl,hT⟩;replace hA:=hA.call1 (A:=rowE (.slice (some ⟨bk,off,none⟩) L.length cap) L) sZ hT;clear hF hT hgr';obtain⟨hA,hF⟩:=fZ hA
    go_wp2_with (first
     |((with_reducible show wpList _ _ _ ({dst:=_,op:=Op.buildSlice _ _ _,type:=_,pos:=_,after:=_,guard:=_}::_) _ _);refine Zao (e:=64) (vs:=Ent.cells ⟨p0,n0,f0,m0,k0,s0⟩) rfl rfl (by(try simp only[Act.eval,eV])<;>exact rfl) (fun _=>Zh8 p0 n0 f0 m0 k0 s0 _) hA ?_;intro b2 w1 hB hb2;replace hA:=hB;clear hF hB;obtain⟨hA,hF⟩:=fZ hA)
     |((with_reducible show wpList _ _ _ ({dst:=_,op:=Op.call {callee:=Callee.builtin Builtin.append,args:=_,argTypes:=_},type:=_,pos:=_,after:=_,guard:=_}::_) _ _);refine Zad (e:=64) (size:=6) (v:=u3) (xs:=flatE D) (n:=D.length) (m:=1) (news:=Ent.cells ⟨p0,n0,f0,m0,k0,s0⟩) rfl _ _ 31 rfl Tryz.underlying31 hi0 hz0 hz1 hz2 rfl (by omega) hA sZ (by(try simp only[Act.eval,eV])<;>exact rfl) (by(try simp only[Act.eval,eV])<;>exact rfl) rfl (hA.cells_reads sZ _ _) (Ent.one _) (by unfold maxLen;omega) (by omega) ?_;intro v2 w1 hB;rw[Zbt] at hB;replace hA:=hB;clear hF hB;obtain⟨hA,hF⟩:=fZ hA)
     |((with_reducible refine gst ?_);refine wTz hA ?_;clear hF hA;intro w1 hA hF)|((with_reducible refine gbx ?_);refine wCz hA ?_;clear hF hA;intro b1 w1 hA hb1 hF))
    go_roundg (gk - 1);case measure=>omega
    case rel=>exact⟨i + 1,by simp,by omega,by rw[hst'.out,if_pos (by decide)];exact hA.pick pZ⟩
  have eL:L.take i=L:=List.take_of_length_le (by omega);rw[eL] at hA;obtain⟨hA,hF⟩:=fZ hA;go_wp2_with fail;go_ret;exact⟨_,rfl,hA.pick pZ⟩
section
variable {P:Program} {ops:Array Oper} {o:Oper} {a:Act} {L0 L F:List Part} {w0 w:World} {K:Act→Prop}
theorem Zf8 {ty:TypeId} {x:Operand} {b j:Nat} {vs:List Value} (hop:o.op=.load ty x) (hx:a.eval x=.pointer (some ⟨b,j,none⟩)) (hc:∀w',At L0 w0 L w'→∀(k:Nat) u,vs[k]? =some u→w'.cell? ⟨b,j + k,none⟩=some u)
 (hu:(P.underlying ty).map (·.isRow)=some true) (hi:(P.info? ty).map (·.size)=some vs.length) (hK:K (a.put o.dst (.agg vs.toArray))):o.quiet P a (Cl L0 w0 L) K:=Zc9 _ (fun w' hw=>by
 obtain⟨d,hu,hd⟩:=Option.map_eq_some_iff.1 hu
 simp[execOp,hop,hx,run_loadAt_mid w' b j ty vs d (hc w' hw) hu hd hi,Result.andThen]) hK
end
def JuRel (w:World) (R:Part) (l:List Ent) (k:Nat) (u:Value) (wr:World):Prop:=
 ∃i:Nat,u=.int .i64 i∧i + k=l.length∧At [R] w [R] wr
theorem ZnB {w:World} {R:Part} {v1 v2:Value} {l m:List Ent} (h:Sep [R] w) (hr:RdE R v1 l) (hr2:RdE R v2 m) (hp:l.Perm m) (hnd:l.Nodup) (hmax:m.length≤1000000):
 Calls Tryz.prog 13 #[v1,v2] w fun e w'=>e=.returned (.bool true)∧At [R] w [R] w':=by
 obtain⟨ax,cap,rfl⟩:=hr.form h;obtain⟨bx,bcap,rfl⟩:=hr2.form h;have hr':=Hd hr;have hr2':=Hd hr2;have hp':=Hd hp;have hlm':=Hd hp.length_eq;have hlmax:l.length≤1000000:=by rw[hp.length_eq];exact hmax
 have hnd':=Hd hnd;have hA:=At.start h;clear h hr hr2 hp hnd;obtain⟨hA,hF⟩:=fZ hA;go_enter Tryz.func13,Tryz.ntmps13;go_wp2_with fail;(try go_frame);go_loopg [9] l.length (JuRel w R l)
 case atStart=>exact⟨0,rfl,by simp,hA⟩
 case round=>
  obtain⟨i,rfl,hik,hB⟩:=hrel;clear hF hA;have hA:=hB;clear hB;by_cases hi:i < l.length
  · obtain⟨bk,off,rfl,hel⟩:=hr'.out.at (hA.get (A:=R) sZ) hi;have hin:l[i] ∈ m:=hp'.out.mem_iff.1 (List.getElem_mem hi);have ham:=fun(w1:World) (q:Sep [R] w1)=>Ze1 q hr2'.out l[i] hmax;have hen:=fun(w1:World)=>Zhu l[i] w1;rw[decide_eq_true hin] at ham;rcases Nat.eq_zero_or_pos i with hz|hz
    · subst hz;have hg0:(decide ((0:Int) < 0))=false:=by decide
      generalize l[0]=y at *
      obtain⟨p0,n0,f0,m0,k0,s0⟩:=y;simp only[Ent.val] at ham hen;have hel':=Hd (show ∀w',R.holds w'→∀(k:Nat) u,([.string p0,.int .u64 n0,.string f0,.int .i64 m0,.int .u64 k0,.int .i64 s0]:List Value)[k]? =some u→w'.cell? ⟨bk,off + 0 * 6 + k,none⟩=some u from hel);have ham':=Hd ham;have hen':=Hd hen;clear ham hen hel hin;obtain⟨hA,hF⟩:=fZ hA
      go_wp2_with (first|((with_reducible refine gal ?_);refine g12 hA ?_;clear hF hA;intro b6 w1 hA hb6 hF)|((with_reducible show wpList _ _ _ ({dst:=some 13,op:=Op.load _ _,type:=_,pos:=_,after:=_,guard:=_}::_) _ _);refine Zai (vs:=[.string p0,.int .u64 n0,.string f0,.int .i64 m0,.int .u64 k0,.int .i64 s0]) rfl rfl (by(try simp only[Act.eval,eV])<;>exact rfl) (hel'.out _ (hA.get (A:=R) sZ)) (by kernel_rfl) (by kernel_rfl) ?_)|((with_reducible refine gst ?_);refine wTz hA ?_;clear hF hA;intro w1 hA hF))
      (try go_frame);(refine cA hA ?_);(have hn1:=Cl.none hA);(have hn2:=Cl.none2 hA);(repeat(first|go_big_quiet_skip|(go_big_quiet_want;(first|(refine qM 61 6 ?_;go_frame;go_big_quiet_on)|(refine qL ?_;go_frame;go_big_quiet_on)|(go_big_quiet_op;(first|go_big_quiet_on|((apply Exists.intro);(refine⟨fun w1 hw=> ?_,?_⟩);(focus((have hw:=Cl.out hw);(first|exact Lock.through0 hw (hen'.out _)|exact Lock.through1 hw (A:=R) sZ (ham'.out _))));(go_big_quiet_on))))))))
      (refine wpQuiet_nil ?_);(intro w1 hB);(clear hF hA hn1 hn2);(have hA:=Cl.out hB);(clear hB);obtain⟨hA,hF⟩:=fZ hA
      go_wp2_with fail;go_roundg (gk - 1);case measure=>omega
      case rel=>exact⟨1,by simp,by omega,hA.pick pZ⟩
    have hi1:i - 1 < l.length:=by omega
    obtain⟨bk',off',e',hel2⟩:=hr'.out.at (hA.get (A:=R) sZ) hi1;cases e'
    have hne:l[i - 1]≠l[i]:=fun q=>by
     have:=(List.getElem_inj hnd'.out).1 q
     omega
    generalize l[i - 1]=z at *
    generalize l[i]=y at *
    obtain⟨p0,n0,f0,m0,k0,s0⟩:=y;obtain⟨p1,n1,f1,m1,k1,s1⟩:=z;simp only[Ent.val] at ham hen;have heq:∀w,(binOp .eql 61 (.agg #[.string p1,.int .u64 n1,.string f1,.int .i64 m1,.int .u64 k1,.int .i64 s1]) (.agg #[.string p0,.int .u64 n0,.string f0,.int .i64 m0,.int .u64 k0,.int .i64 s0])).run Tryz.prog w=.ok (.bool false) w:=fun w=>by rw[Lock.eqlE6,decide_eq_false hne]
    have hel':=Hd (show ∀w',R.holds w'→∀(k:Nat) u,([.string p0,.int .u64 n0,.string f0,.int .i64 m0,.int .u64 k0,.int .i64 s0]:List Value)[k]? =some u→w'.cell? ⟨bk,off + i * 6 + k,none⟩=some u from hel);have hel2':=Hd (show ∀w',R.holds w'→∀(k:Nat) u,([.string p1,.int .u64 n1,.string f1,.int .i64 m1,.int .u64 k1,.int .i64 s1]:List Value)[k]? =some u→w'.cell? ⟨bk,off + (i - 1) * 6 + k,none⟩=some u from hel2);have ham':=Hd ham;have hen':=Hd hen
    obtain⟨j,rfl⟩:∃j,i=j + 1:=⟨i - 1,by omega⟩
    simp only[Nat.add_sub_cancel] at hel2' hi1;have hsub:(((j + 1:Nat):Int) - 1)=(j:Int):=by omega
    clear ham hen hel hel2 hin hne;obtain⟨hA,hF⟩:=fZ hA
    go_wp2_with (first|((with_reducible refine gal ?_);refine g12 hA ?_;clear hF hA;intro b6 w1 hA hb6 hF)|((with_reducible show wpList _ _ _ ({dst:=some 13,op:=Op.load _ _,type:=_,pos:=_,after:=_,guard:=_}::_) _ _);refine Zai (vs:=[.string p0,.int .u64 n0,.string f0,.int .i64 m0,.int .u64 k0,.int .i64 s0]) rfl rfl (by(try simp only[Act.eval,eV])<;>exact rfl) (hel'.out _ (hA.get (A:=R) sZ)) (by kernel_rfl) (by kernel_rfl) ?_)|((with_reducible refine gst ?_);refine wTz hA ?_;clear hF hA;intro w1 hA hF))
    (try go_frame);(refine cA hA ?_);(have hn1:=Cl.none hA);(have hn2:=Cl.none2 hA);(repeat(first|go_big_quiet_skip|(go_big_quiet_want;(first|(refine qM 61 6 ?_;go_frame;go_big_quiet_on)|((((with_reducible show Oper.quiet _ {dst:=some 27,op:=Op.load _ _,type:=_,pos:=_,after:=_,guard:=_} _ _ _);refine Zf8 (b:=bk) (j:=off + j * 6) (vs:=[.string p1,.int .u64 n1,.string f1,.int .i64 m1,.int .u64 k1,.int .i64 s1]) rfl rfl (fun w' hw k u hk=>hel2'.out w' (hw.get (A:=R) sZ) k u hk) (by kernel_rfl) (by kernel_rfl) ?_));go_frame;go_big_quiet_on)|(refine qL ?_;go_frame;go_big_quiet_on)|(go_big_quiet_op;(first|go_big_quiet_on|((apply Exists.intro);(refine⟨fun w1 hw=> ?_,?_⟩);(focus((have hw:=Cl.out hw);(first|exact Lock.through0 hw (hen'.out _)|exact Lock.through1 hw (A:=R) sZ (ham'.out _))));(go_big_quiet_on))))))))
    (refine wpQuiet_nil ?_);(intro w1 hB);(clear hF hA hn1 hn2);(have hA:=Cl.out hB);(clear hB);obtain⟨hA,hF⟩:=fZ hA
    go_wp2_with fail;go_roundg (gk - 1);case measure=>omega
    case rel=>exact⟨j + 1 + 1,by simp,by omega,hA.pick pZ⟩
  have hle:((l.length:Int)==(m.length:Int))=true:=by simp[hlm'.out]
  obtain⟨hA,hF⟩:=fZ hA;go_wp2_with fail;go_ret;exact⟨rfl,hA.pick pZ⟩
end Tab
end
end Go.Proofs.YtknoefbcmomalabGreatDoor
