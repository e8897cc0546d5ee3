import Derived.Test.YtknoefbcmomalaaGreatDoorP20
set_option linter.unusedSimpArgs false
set_option linter.unusedVariables false
set_option maxRecDepth 100000
set_option maxHeartbeats 16000000
section
namespace Go
open _root_.Go.Proofs.YtknoefbcmomalaaGreatDoor
open Go.RowKit
section
variable {P:Program} {ops:Array Oper} {rest:List Oper} {o:Oper} {a:Act} {Q:Exit→Act→World→Prop} {L0 L:List Part} {w0 w:World} {e:TypeId}
theorem Ze6 {t:TypeId} {n size:Nat} {args:Array (Nat × Operand)} {avs:Array (Nat × Value)} (hg:o.guard=none) (hop:o.op=.buildSlice t n args) (hx:args.map (fun p=>(p.1,a.eval p.2))=avs) {vs:List Value}
 (hrun:∀w,(Instr.buildSlice t n avs).run P w=.ok (.slice (some ⟨w.heap.size,0,none⟩) n n) (w.alloc (.cells vs.toArray e))) (hl:vs.length=n * size) (hn:n≤maxLen)
 (h:At L0 w0 L w)
 (hK:∀v w',At L0 w0 (Part.row e size v n vs::L) w'→(∃b,v=.slice (some ⟨b,0,none⟩) n n)→wpList P ops Q rest (a.put o.dst v) w'):wpList P ops Q (o::rest) a w:=by
 refine Zal hg ?_ (hK (.slice (some ⟨w.heap.size,0,none⟩) n n) (w.alloc (.cells vs.toArray e)) ((h.alloc vs e).row_shut .here hl (Nat.le_refl _) hn (by rw[←hl,List.take_length])) ⟨_,rfl⟩);simp[execOp,hop,hx,hrun,Result.andThen]
end
end Go
namespace Go.Proofs.YtknoefbcmomalaaGreatDoor.Tab
open Go.RowKit
open Path (bl Zaf overB Zan)
open Lease (Ses Ans fresh ZaE)
open Lock (S3 Ent)
open Cmd (Cm Zao)
attribute [-go_sem] run_eql_struct run_neq_struct run_eqGuard_agg
abbrev rowCm (v:Value) (l:List Cm):Part:=Part.row 43 8 v l.length (l.flatMap Cm.cells)
theorem ZjU (v:Value) (l:List Cm):Ze1 (rowCm v l) v l:=fun w h=>ZbF h
def ftA:ByteArray:=⟨#[97]⟩
def pA:ByteArray:=⟨#[97,47,98]⟩
def lA:List Cm:=[⟨1,1,ftA,1,⟨#[]⟩,0,5,0⟩,⟨4,1,ftA,2,pA,2,0,0⟩,⟨4,1,ftA,2,pA,2,0,0⟩]
theorem lA_in:∀c ∈ lA,CmIn c:=by
 intro c hc;simp only[lA,List.mem_cons,List.not_mem_nil,or_false] at hc;rcases hc with rfl|rfl|rfl<;>exact⟨⟨by simp[Lease.big64],by decide,by decide⟩,by simp,by simp[Lease.big64],by simp⟩
theorem ZnY:toldT ⟨[],⟨0,[],[]⟩⟩ lA=[⟨0,0,false⟩,⟨0,1,true⟩,⟨0,1,true⟩]:=by kernel_rfl
theorem lA_one:(playT ⟨[],⟨0,[],[]⟩⟩ lA).L.es.length=1:=by kernel_rfl
theorem Zjn (w:World):Calls Tryz.prog 4 #[] w fun e w'=>e=.returned (.bool true)∧Ext w w':=by
 have hm:Tryz.prog.follows .mixedOrders=true:=by kernel_rfl
 have hA:At [] w [] w:=At.start (L0:=[]) trivial;obtain⟨hA,hF⟩:=fZ hA;go_enter Tryz.func4,Tryz.ntmps4
 go_wp2_with (first|((with_reducible refine gal ?_);refine wGz 25 [.int .u64 0,.string .empty] hA ?_;clear hF hA;intro b1 w1 hA hb1 hF)|((with_reducible refine gal ?_);refine g12 hA ?_;clear hF hA;intro b2 w1 hA hb2 hF)|((with_reducible show wpList _ _ _ ({dst:=_,op:=Op.load 25 _,type:=_,pos:=_,after:=_,guard:=_}::_) _ _);refine Zad (vs:=[.int .u64 1,.string ftA]) rfl rfl (by(try simp only[Act.eval,eV])<;>exact rfl) (fun k u hk=>by rw[Nat.zero_add];exact((hA.get (A:=Part.cells b1 [.int .u64 1,.string ftA] 25) sZ:Zaa _ _ _ _).cell k).trans hk) (by kernel_rfl) (by kernel_rfl) ?_)|((with_reducible show wpList _ _ _ ({dst:=_,op:=Op.load 43 _,type:=_,pos:=_,after:=_,guard:=_}::_) _ _);refine Zad (vs:=[.int .i64 4,.int .u64 1,.string ftA,.int .u64 2,.string pA,.int .i64 2,.int .u64 0,.int .i64 0]) rfl rfl (by(try simp only[Act.eval,eV])<;>exact rfl) (fun k u hk=>by rw[Nat.zero_add];exact((hA.get (A:=Part.cells b2 [.int .i64 4,.int .u64 1,.string ftA,.int .u64 2,.string pA,.int .i64 2,.int .u64 0,.int .i64 0] 43) sZ:Zaa _ _ _ _).cell k).trans hk) (by kernel_rfl) (by kernel_rfl) ?_)|((with_reducible show wpList _ _ _ ({dst:=_,op:=Op.buildSlice _ _ _,type:=_,pos:=_,after:=_,guard:=_}::_) _ _);refine Ze6 (e:=43) (size:=8) (vs:=lA.flatMap Cm.cells) rfl rfl (by(try simp only[Act.eval,eV])<;>exact rfl) (fun _=>by kernel_rfl) (by kernel_rfl) (by unfold maxLen;omega) hA ?_;intro v13 w1 hB hb13;replace hA:=hB;clear hF hB;obtain⟨hA,hF⟩:=fZ hA)|((with_reducible refine gst ?_);refine wTz hA ?_;clear hF hA;intro w1 hA hF))
 refine(Zh7 (hA.sep1 (A:=rowCm v13 lA) sZ) (first:=0) (by omega) (by unfold Lock.big64;omega) (ZjU v13 lA) (by decide) lA_in).mono ?_;rintro e w1 ⟨t,p,m,ss,b,av,rfl,hR,hT⟩;replace hA:=hA.call1 (A:=rowCm v13 lA) sZ hT;clear hT hF;(try simp only[uA] at hA);rw[ZnY] at hA;obtain⟨hA,hF⟩:=fZ hA;go_wp2_with fail;obtain⟨ax,cap,rfl,_,_,_⟩:=hA.row_form (e:=65) (size:=3) .here;obtain⟨g,c,rfl,_,_,_,hct,hB⟩:=hA.row_open .here (by decide)
 obtain⟨r,rfl⟩:∃r,c=([.int .i64 0,.int .u64 0,.bool false,.int .i64 0,.int .u64 1,.bool true,.int .i64 0,.int .u64 1,.bool true]:List Value)++r:=⟨c.drop 9,by rw[show([.int .i64 0,.int .u64 0,.bool false,.int .i64 0,.int .u64 1,.bool true,.int .i64 0,.int .u64 1,.bool true]:List Value)=c.take 9 from hct.symm];exact(List.take_append_drop _ _).symm⟩
 clear hF hA hct;have hA:=hB;clear hB;have hti:TInv (playT ⟨[],⟨0,[],[]⟩⟩ lA) (0 + lA.length):=Zh6 (fun x hx=>(lA_in x hx).ok) (Zhq (by omega) (by unfold Lock.big64;omega));have hli:Lock.Inv b.st 3:=by rw[hR.L];exact hti.lock
 have hlen:b.es.length=1:=by have:=lA_one;rw[←hR.L] at this;exact this
 have hls:=fun(w1:World) (q:Sep [Lock.BookP b] w1)=>Lock.ZdD q hli.sortable (by omega) (fun x hx=>Nat.le_trans (hli.path x hx) (by omega));have hll:=Hd hlen;clear hlen hti hli hR;replace hA:=hA.drew;refine wp_region_held (S:=fun w'=>Zaa w' g (([.int .i64 0,.int .u64 0,.bool false,.int .i64 0,.int .u64 1,.bool true,.int .i64 0,.int .u64 1,.bool true]:List Value)++r) 65) hm ?_;change wpAnyH _ _ _ _ _ 27 _ _ (World.drew _);generalize World.drew _=wd at *
 have hS0:=(hA.get (A:=Part.cells g (([.int .i64 0,.int .u64 0,.bool false,.int .i64 0,.int .u64 1,.bool true,.int .i64 0,.int .u64 1,.bool true]:List Value)++r) 65) sZ:(fun w'=>Zaa w' g (([.int .i64 0,.int .u64 0,.bool false,.int .i64 0,.int .u64 1,.bool true,.int .i64 0,.int .u64 1,.bool true]:List Value)++r) 65) wd)
 refine tP 0 17 (.slice (some ⟨g,0,none⟩) 3 cap) (s:=hS0) (h:= ?_);(try go_frame);refine tP 1 18 (.int .i64 3) (s:=hS0) (h:= ?_);(try go_frame);refine tP 2 19 (.bool true) (s:=hS0) (h:= ?_);(try go_frame);refine tP 3 20 (.bool true) (s:=hS0) (h:= ?_);(try go_frame);refine tP 4 21 (.slice (some ⟨g,0,none⟩) 3 cap) (s:=hS0) (h:= ?_);(try go_frame);refine tP 5 22 (.pointer (some ⟨g,3,none⟩)) (s:=hS0) (h:= ?_);(try go_frame);refine tZ 6 23 (.agg #[.int .i64 0,.int .u64 1,.bool true]) (r:=(fun w' hS=>Zah (ty:=65) (n:=3) (b:=g) (j:=3) rfl (by exact rfl) hS (by kernel_rfl) (by kernel_rfl) rfl rfl)) (s:=hS0) (h:= ?_);(try go_frame);refine tP 7 24 (.agg #[.int .i64 0,.int .u64 1,.bool true]) (s:=hS0) (h:= ?_);(try go_frame);refine tP 8 25 (.bool true) (s:=hS0) (h:= ?_);(try go_frame);refine tP 9 26 (.bool true) (s:=hS0) (h:= ?_);(try go_frame);refine tP 10 27 (.bool true) (s:=hS0) (h:= ?_);(try go_frame);refine tP 11 28 (.slice (some ⟨g,0,none⟩) 3 cap) (s:=hS0) (h:= ?_);(try go_frame);refine tP 12 29 (.pointer (some ⟨g,6,none⟩)) (s:=hS0) (h:= ?_);(try go_frame);refine tZ 13 30 (.agg #[.int .i64 0,.int .u64 1,.bool true]) (r:=(fun w' hS=>Zah (ty:=65) (n:=3) (b:=g) (j:=6) rfl (by exact rfl) hS (by kernel_rfl) (by kernel_rfl) rfl rfl)) (s:=hS0) (h:= ?_);(try go_frame);refine tP 14 31 (.slice (some ⟨g,0,none⟩) 3 cap) (s:=hS0) (h:= ?_);(try go_frame);refine tP 15 32 (.pointer (some ⟨g,3,none⟩)) (s:=hS0) (h:= ?_);(try go_frame);refine tZ 16 33 (.agg #[.int .i64 0,.int .u64 1,.bool true]) (r:=(fun w' hS=>Zah (ty:=65) (n:=3) (b:=g) (j:=3) rfl (by exact rfl) hS (by kernel_rfl) (by kernel_rfl) rfl rfl)) (s:=hS0) (h:= ?_);(try go_frame);refine tP 17 34 (.bool true) (s:=hS0) (h:= ?_);(try go_frame);refine tP 18 35 (.bool true) (s:=hS0) (h:= ?_);(try go_frame);refine tP 19 36 (.bool true) (s:=hS0) (h:= ?_);(try go_frame);refine tP 20 37 (.pointer (some ⟨t,0,none⟩)) (s:=hS0) (h:= ?_);(try go_frame);refine Zab (i:=21) (by kernel_rfl) ?_;refine cY 21 38 19 (fun u w'=>u=.pointer (some ⟨b.p,0,none⟩)∧At [TabP t p m ss b] _ [TabP t p m ss b] w') ((Zgw (hA.sep1 (A:=TabP t p m ss b) sZ)).mono fun e w' ⟨he,hT⟩=>⟨_,he,rfl,hT⟩) ?_;rintro u w3 ⟨rfl,hT⟩;have hB:=hA.call1 (A:=TabP t p m ss b) sZ hT;clear hT hA;simp only[uA] at hB;have hA:=Zbr hB sZ;clear hB;refine⟨hA.get (A:=Part.cells g (([.int .i64 0,.int .u64 0,.bool false,.int .i64 0,.int .u64 1,.bool true,.int .i64 0,.int .u64 1,.bool true]:List Value)++r) 65) sZ,?_⟩;clear hS0;(try go_frame);refine Zab (i:=22) (by kernel_rfl) ?_
 refine Zd3 (i:=22) (d:=some 39) (R:=fun u w'=>∃cp:Option Addr × Nat,u=.slice cp.1 1 cp.2∧∃l,At [Lock.BookP b] _ [Lock.rowL (.slice cp.1 1 cp.2) l,Lock.BookP b] w') rfl rfl (by kernel_rfl) (fn:=20) (args:= #[.pointer (some ⟨b.p,0,none⟩)]) (by simp[execOp,go_sem,Act.eval,Act.put]) ((hls _ (hA.sep1 (A:=Lock.BookP b) sZ)).mono fun e w' ⟨v,l,he,hp,_,hT⟩=>by
  obtain⟨ax2,cap2,rfl,_,_,_⟩:=hT.row_form (e:=55) (size:=6) .here;have h1:l.length=1:=hp.length_eq.trans hll.out
  exact⟨_,he,(ax2,cap2),by rw[h1],l,by rw[h1] at hT;exact hT⟩) ?_
 rintro u w4 ⟨⟨ax2,cap2⟩,rfl,l2,hT⟩;have hB:=hA.call1 (A:=Lock.BookP b) sZ hT;clear hT hA;simp only[uA] at hB;have hA:=hB;clear hB
 have hS0:=(hA.get (A:=Part.cells g (([.int .i64 0,.int .u64 0,.bool false,.int .i64 0,.int .u64 1,.bool true,.int .i64 0,.int .u64 1,.bool true]:List Value)++r) 65) sZ:(fun w'=>Zaa w' g (([.int .i64 0,.int .u64 0,.bool false,.int .i64 0,.int .u64 1,.bool true,.int .i64 0,.int .u64 1,.bool true]:List Value)++r) 65) w4)
 refine⟨hS0,?_⟩
 (try go_frame);refine tP 23 40 (.int .i64 1) (s:=hS0) (h:= ?_);(try go_frame);refine tP 24 41 (.bool true) (s:=hS0) (h:= ?_);(try go_frame);refine tP 25 42 (.bool true) (s:=hS0) (h:= ?_);(try go_frame);refine tP 26 0 (.bool true) (s:=hS0) (h:= ?_);(try go_frame);refine wpAnyH_done (by kernel_rfl) ?_ _;(try go_frame);clear hS0;obtain⟨hA,hF⟩:=fZ hA;go_wp2_with fail;go_ret;exact⟨rfl,hA.toExt⟩
end Go.Proofs.YtknoefbcmomalaaGreatDoor.Tab
end
namespace Go.Proofs.YtknoefbcmomalaaGreatDoor
section
namespace Tab
open Go.RowKit
open Path (bl Zaf overB Zan)
open Lease (Ses Ans fresh ZaE)
open Lock (S3 Ent)
open Cmd (Cm Zao)
attribute [-go_sem] run_eql_struct run_neq_struct run_eqGuard_agg
theorem Zc7 {w w':World} {L F:List Part} (h:At [Part.old w] w L w') (s:Sel (Part.old w) L F):Below w.heap.size w w':=by
 have ho:(Part.old w).holds w':=h.get s;exact⟨h.exc.os,h.exc.tape,h.exc.output,h.exc.size,fun b hb=>ho b hb⟩
structure CmV (c:Cm):Prop where
 num:0≤c.num∧c.num < Lease.big64
 foot:c.foot.size≤maxLen
 path:c.path.size≤maxLen
 req:0≤c.req∧c.req < Lease.big64
 n0:0≤c.n
theorem Zfq {l:List Cm} {k:Nat} (h:ZcS l k=true) (hv:∀c ∈ l,CmV c):l.length≤k∧∀c ∈ l,CmIn c:=by
 unfold ZcS at h;rw[Bool.and_eq_true,List.all_eq_true,decide_eq_true_eq] at h;refine⟨by omega,fun c hc=> ?_⟩;have h1:=h.1 c hc;simp only[okS,Bool.and_eq_true,Bool.not_eq_true',decide_eq_false_iff_not] at h1;exact⟨⟨(hv c hc).num,by omega,by omega⟩,(hv c hc).req.1,(hv c hc).req.2,(hv c hc).n0⟩
theorem row_at {α:Type} {enc:α→List Value} {size:Nat} (hs:∀x,(enc x).length=size) (h0:0 < size) {E:TypeId} {v:Value} {l:List α} {w:World} (h:(Part.row E size v l.length (l.flatMap enc)).holds w) {i:Nat} {x:α} (hx:l[i]? =some x):
 ∃b0 o0 cap,v=.slice (some ⟨b0,o0,none⟩) l.length cap∧∀(k:Nat) u,(enc x)[k]? =some u→w.cell? ⟨b0,o0 + i * size + k,none⟩=some u:=by
 obtain⟨ax,c,e,_,hr⟩:=ZbF h
 have hf:∀k,k < size→∀u,(enc x)[k]? =some u→∃b off,ax=some ⟨b,off,none⟩∧w.cell? ⟨b,off + (i * size + k),none⟩=some u:=fun k hk u hu=>by
  have:=Zbs enc size hs l i x hx k hk;rw[hu] at this;exact hr (i * size + k) u this
 have hlt:∀{k:Nat} {u},(enc x)[k]? =some u→k < size:=fun hu=>by
  have:=(List.getElem?_eq_some_iff.1 hu).1
  rwa [hs] at this
 obtain⟨u0,hu0⟩:∃u,(enc x)[0]? =some u:=⟨_,List.getElem?_eq_getElem (by rw[hs];exact h0)⟩
 obtain⟨b,off,e2,_⟩:=hf 0 h0 u0 hu0;subst e2;refine⟨b,off,c,e,fun k u hu=> ?_⟩;obtain⟨b',off',e3,hc⟩:=hf k (hlt hu) u hu;cases e3;rw[Nat.add_assoc];exact hc
end Tab
end
section
namespace Tab
open Lease (Ses Ans fresh)
open Lock (S3 Ent)
open Cmd (Cm Zao)
theorem ZfG {g:Ses→Ses} {n:Int} {f:ByteArray} (hg:∀s,keyE (g s)=keyE s):∀S:List Ses,lookA (updA g n f S) n f=g (lookA S n f)
 |[]=>by
  have h:(g (fresh n f 0 0)).is n f=true:=is_key.2 (by rw[hg];rfl);simp[lookA,updA,Lease.find,h]
 |s::S=>by
  unfold updA
  cases hq:s.is n f with
  |true=>
   have h:(g s).is n f=true:=is_key.2 (by rw[hg];exact is_key.1 hq);simp[lookA,Lease.find,hq,h]
  |false=>
   have ih:=ZfG (n:=n) (f:=f) hg S;simp only[Bool.false_eq_true,if_false];unfold lookA Lease.find at *
   rw[List.find?_cons,List.find?_cons,hq];exact ih
end Tab
end
section
namespace Tab
open Go.RowKit
open Path (bl Zaf overB Zan)
open Lease (Ses Ans fresh ZaE)
open Lock (S3 Ent)
open Cmd (Cm Zao)
attribute [-go_sem] run_eql_struct run_neq_struct run_eqGuard_agg
section
variable {w:World} {t p m:Nat} {ss:List Ses} {b:Lock.Bk} (h:Sep [TabP t p m ss b] w)
include h
end
end Tab
end
section
namespace Tab
open Path (bl Zaf overB Zan)
open Lease (Ses Ans fresh)
open Lock (S3 Ent)
open Cmd (Cm Zao)
def pathK (c:Cm):Prop:=4≤c.kind∧c.kind≤7
theorem Zid {c:Cm} (h:Zao c=true) (h0:c.kind≠0):Zaf (bl c.foot)=true∧((pathK c∧Zaf (bl c.path)=true∧Cmd.keyC c=some (c.path,c.num))∨(¬pathK c∧Cmd.keyC c=some (c.foot,c.num))):=by
 have h':=h;unfold Zao at h;unfold Cmd.keyC Cmd.footC;rw[h'];unfold Cmd.hasOf at h ⊢;unfold pathK;by_cases q1:c.kind=1
 · simp[q1,Cmd.Zbc] at h ⊢;exact h.1.1.1.2
 by_cases q2:c.kind=2
 · simp[q2,Cmd.Zbc] at h ⊢;exact h.1.1.2
 by_cases q3:c.kind=3
 · simp[q3,Cmd.Zbc] at h ⊢;exact h.1.1.2
 by_cases q4:c.kind=4
 · simp[q4,Cmd.Zbc] at h ⊢;exact⟨h.1.1.1.1.2,h.1.1.2⟩
 by_cases q5:c.kind=5
 · simp[q5,Cmd.Zbc] at h ⊢;exact⟨h.1.1.1.1.2,h.1.1.2⟩
 by_cases q6:c.kind=6
 · simp[q6,Cmd.Zbc] at h ⊢;exact⟨h.1.1.1.2,h.1.2⟩
 by_cases q7:c.kind=7
 · simp[q7,Cmd.Zbc] at h ⊢;exact⟨h.1.1.1.1.2,h.1.1.2⟩
 by_cases q8:c.kind=8
 · simp[q8,Cmd.Zbc] at h ⊢;exact h.1.2
 simp[h0,q1,q2,q3,q4,q5,q6,q7,q8] at h
def Znk (a b:Cm):Bool:=match Cmd.keyC a,Cmd.keyC b with
 |some x,some y=>(x.2==y.2) || overB (bl x.1) (bl y.1)
 |_,_=>false
structure Live (c:Cm):Prop where
 right:Zao c=true
 kind:c.kind≠0
theorem Zjc {c:Cm} (h:¬Live c) (t:TS):Zav t c=(t,ans0):=by
 unfold Zav;rw[if_pos];by_cases h0:c.kind=0
 · exact .inr h0
 cases hr:Zao c with
 |false=>exact .inl rfl
 |true=>exact absurd ⟨hr,h0⟩ h
def keyF (c:Cm):ByteArray:=if 4≤c.kind∧c.kind≤7 then c.path else c.foot
theorem Live.key {c:Cm} (h:Live c):Cmd.keyC c=some (keyF c,c.num)∧Zaf (bl (keyF c))=true:=by
 obtain⟨h1,h2⟩:=Zid h.right h.kind;unfold keyF;rcases h2 with⟨q,q1,q2⟩|⟨q,q1⟩
 · rw[if_pos (show 4≤c.kind∧c.kind≤7 from q)];exact⟨q2,q1⟩
 rw[if_neg (show ¬(4≤c.kind∧c.kind≤7) from q)];exact⟨q1,h1⟩
theorem Live.apart {a b:Cm} (ha:Live a) (hb:Live b) (hc:Znk a b=false):a.num≠b.num∧overB (bl (keyF a)) (bl (keyF b))=false:=by
 unfold Znk at hc;rw[ha.key.1,hb.key.1] at hc;simp only[Bool.or_eq_false_iff,beq_eq_false_iff_ne] at hc;exact hc
theorem Zkq {c:Cm} (h:pathK c):keyF c=c.path:=if_pos h
structure Loc (c:Cm) (t t':TS):Prop where
 look:lookA t.S c.num c.foot=lookA t'.S c.num c.foot
 cnt:c.kind=1→Lease.cnt t.S c.foot=Lease.cnt t'.S c.foot
 lock:pathK c→LocL t.L t'.L c.path c.num c.foot
theorem LocL.refl (l:S3) (p:ByteArray) (n:Int) (f:ByteArray):LocL l l p n f:=⟨rfl,.refl _,.refl _,rfl⟩
theorem Loc.refl (c:Cm) (t:TS):Loc c t t:=⟨rfl,fun _=>rfl,fun _=>LocL.refl _ _ _ _⟩
def LE.of (c:Cm):LE→Prop
 |.nop=>True
 |.add e=>pathK c∧e.path=c.path∧e.num=c.num∧e.foot=c.foot∧Zan (bl c.foot) (bl c.path)=true
 |.rem p n f=>pathK c∧p=c.path∧n=c.num∧f=c.foot
 |.drop n f=>¬pathK c∧n=c.num∧f=c.foot
def GOk (c:Cm) (g:Option (Ses→Ses)):Prop:=∀g',g=some g'→KeyG g'∧(pathK c→∀s,(g' s).op=s.op)
def runE (t:TS) (c:Cm) (g:Option (Ses→Ses)) (e:LE):TS:=⟨updO g c.num c.foot t.S,e.run t.L⟩
theorem Zgv {g:Option (Ses→Ses)} {n:Int} {f:ByteArray} (hg:∀g',g=some g'→KeyG g') (S:List Ses):lookA (updO g n f S) n f=(g.getD id) (lookA S n f):=by
 cases g with
 |none=>rfl
 |some g=>exact ZfG (hg g rfl) S
theorem Zlw {c:Cm} {a:Ans} {g:Option (Ses→Ses)} (hg:GOk c g) (s:Ses):∃g2,GOk c g2∧∀(S:List Ses) (L:S3),lookA S c.num c.foot=s→tellT ⟨updO g c.num c.foot S,L⟩ c a=⟨updO g2 c.num c.foot S,L⟩:=by
 by_cases hq:Lease.tellE ((g.getD id) s) c.req=0
 · refine⟨some (fun s=>((g.getD id) s).tell c.req a),?_,fun S L hs=> ?_⟩
   · intro g' e;cases e
     cases g with
     |none=>exact⟨fun s=>rfl,fun _ s=>rfl⟩
     |some g=>exact⟨fun s=>(hg g rfl).1 s,fun h s=>(hg g rfl).2 h s⟩
   unfold tellT opT;simp only;rw[Zgv (fun g' e=>(hg g' e).1),hs,if_pos hq]
   cases g with
   |none=>rfl
   |some g=>
    show TS.mk (updA _ _ _ (updA g _ _ S)) L=_;rw[Zjs (hg g rfl).1];rfl
 refine⟨g,hg,fun S L hs=> ?_⟩
 unfold tellT opT;simp only;rw[Zgv (fun g' e=>(hg g' e).1),hs,if_neg hq]
theorem Zkb (t:TS) (c:Cm) (g:Ses→Ses) (e:Int):opT t c g e=runE t c (if e=0 then some g else none) .nop:=by
 unfold opT;split<;>rfl
theorem Zip (t:TS) (c:Cm) (e:Int):endT t c e=runE t c (if e=0 then some Ses.ended else none) (if e=0 then .drop c.num c.foot else .nop):=by
 unfold endT;split<;>rfl
theorem ZbP (c:Cm):GOk c none:=nofun
theorem Zik {c:Cm} {g:Ses→Ses} (e:Int) (h1:KeyG g) (h2:pathK c→∀s,(g s).op=s.op):GOk c (if e=0 then some g else none):=by
 intro g' q;split at q
 · cases q;exact⟨h1,h2⟩
 cases q
theorem do_eff {t:TS} {k:Nat} {c:Cm} (hi:Lock.Inv t.L k) (hc:Live c) (h8:c.kind≠8):∃(g:Option (Ses→Ses)) (e:LE) (a:Ans),GOk c g∧e.of c∧∀(t':TS) (k':Nat),Lock.Inv t'.L k'→Loc c t t'→doT t' c=(runE t' c g e,a):=by
 unfold doT;by_cases q1:c.kind=1
 · refine⟨if Lease.openE (lookA t.S c.num c.foot) (Lease.cnt t.S c.foot)=0 then some (fun s=>s.opened c.n c.time) else none,.nop,ansE (Lease.openE (lookA t.S c.num c.foot) (Lease.cnt t.S c.foot)),Zik (Lease.openE (lookA t.S c.num c.foot) (Lease.cnt t.S c.foot)) (g:=fun s=>s.opened c.n c.time) (fun s=>rfl) (fun h=>by unfold pathK at h;omega),trivial,fun t' k' _ hl=> ?_⟩
   rw[if_pos q1,←hl.look,←hl.cnt q1,Zkb]
 by_cases q2:c.kind=2
 · refine⟨if(if(lookA t.S c.num c.foot).op then(0:Int) else 50)=0 then some Ses.ended else none,(if(if(lookA t.S c.num c.foot).op then(0:Int) else 50)=0 then .drop c.num c.foot else .nop),ansE (if(lookA t.S c.num c.foot).op then 0 else 50),Zik (if(lookA t.S c.num c.foot).op then 0 else 50) (g:=Ses.ended) (fun s=>rfl) (fun h=>by unfold pathK at h;omega),?_,fun t' k' _ hl=> ?_⟩
   · split
     · exact⟨by unfold pathK;omega,rfl,rfl⟩
     trivial
   rw[if_neg q1,if_pos q2,←hl.look,Zip]
 by_cases q3:c.kind=3
 · refine⟨if(if(lookA t.S c.num c.foot).op then(0:Int) else 50)=0 then some (fun s=>s.kept c.time) else none,.nop,ansE (if(lookA t.S c.num c.foot).op then 0 else 50),Zik (if(lookA t.S c.num c.foot).op then 0 else 50) (g:=fun s=>s.kept c.time) (fun s=>rfl) (fun h=>by unfold pathK at h;omega),trivial,fun t' k' _ hl=> ?_⟩
   rw[if_neg q1,if_neg q2,if_pos q3,←hl.look,Zkb]
 have hk:pathK c:=by
  obtain⟨_,h2⟩:=Zid hc.right hc.kind;rcases h2 with⟨q,_⟩|⟨q,_⟩
  · exact q
  exfalso
  have:=hc.right;unfold Zao Cmd.hasOf at this;unfold pathK at q;have h0:=hc.kind;rw[if_neg h0,if_neg q1,if_neg q2,if_neg q3,if_neg (by omega),if_neg (by omega),if_neg (by omega),if_neg (by omega),if_neg h8] at this;cases this
 have hp:Zaf (bl c.path)=true:=by
  have:=hc.key.2
  rwa [Zkq hk] at this
 have hmay:∀{t':TS},Loc c t t'→mayT t' c=mayT t c:=fun hl=>by unfold mayT;rw[hl.look]
 by_cases hm:mayT t c=0
 case neg=>
  refine⟨none,.nop,ansE (mayT t c),ZbP c,trivial,fun t' k' _ hl=> ?_⟩;rw[if_neg q1,if_neg q2,if_neg q3];unfold ZaX;rw[hmay hl,if_pos hm]
  rfl
 have hab:Zan (bl c.foot) (bl c.path)=true:=by
  unfold mayT at hm;split at hm
  · omega
  split at hm
  · omega
  rename_i h;simpa using h
 have hadd:∃(e:LE) (a:Ans),e.of c∧∀(t':TS),Loc c t t'→addT t' c=(runE t' c none e,a):=by
  by_cases hy:t.L.may c.path c.num c.foot c.mode=0
  · refine⟨.add (t.L.newE c.path c.num c.foot c.mode),⟨0,(t.L.newE c.path c.num c.foot c.mode).n,Lock.ZaC t.L.es c.path c.mode⟩,⟨hk,rfl,rfl,rfl,hab⟩,fun t' hl=> ?_⟩
    have h1:=hl.lock hk;unfold addT S3.add;rw[←h1.may,if_pos hy,if_pos hy,←h1.newE,←h1.could];unfold S3.added runE LE.run;rw[←h1.newE,←h1.ctr];rfl
  refine⟨.nop,ansE (t.L.may c.path c.num c.foot c.mode),trivial,fun t' hl=> ?_⟩
  have h1:=hl.lock hk;unfold addT S3.add;rw[←h1.may,if_neg hy,if_neg hy];rfl
 obtain⟨ea,aa,hea,hadd⟩:=hadd;by_cases q4:c.kind=4
 · refine⟨none,ea,aa,ZbP c,hea,fun t' k' _ hl=> ?_⟩
   rw[if_neg q1,if_neg q2,if_neg q3];unfold ZaX;rw[hmay hl,hm,if_neg (by simp),if_pos q4,hadd t' hl]
 by_cases q5:c.kind=5
 · by_cases hcd:Lock.ZaC t.L.es c.path c.mode=true
   · refine⟨none,ea,aa,ZbP c,hea,fun t' k' _ hl=> ?_⟩
     rw[if_neg q1,if_neg q2,if_neg q3];unfold ZaX tryT;rw[hmay hl,hm,if_neg (by simp),if_neg q4,if_pos q5,←(hl.lock hk).could,if_pos hcd,hadd t' hl]
   refine⟨none,.nop,if t.L.may c.path c.num c.foot c.mode=0 then ansE 51 else ansE (t.L.may c.path c.num c.foot c.mode),ZbP c,trivial,fun t' k' _ hl=> ?_⟩
   rw[if_neg q1,if_neg q2,if_neg q3];unfold ZaX tryT;rw[hmay hl,hm,if_neg (by simp),if_neg q4,if_pos q5,←(hl.lock hk).could,if_neg hcd,←(hl.lock hk).may];show _=(t',if t.L.may c.path c.num c.foot c.mode=0 then ansE 51 else ansE (t.L.may c.path c.num c.foot c.mode));split<;>rfl
 by_cases q6:c.kind=6
 · refine⟨none,.rem c.path c.num c.foot,ansE (if(Lock.find t.L.es c.path c.num c.foot).isSome then 0 else 52),ZbP c,⟨hk,rfl,rfl,rfl⟩,fun t' k' _ hl=> ?_⟩
   rw[if_neg q1,if_neg q2,if_neg q3];unfold ZaX;rw[hmay hl,hm,if_neg (by simp),if_neg q4,if_neg q5,if_pos q6,←(hl.lock hk).find];rfl
 refine⟨none,.nop,ansE (if Zbm t.L.es c.path c.n then 0 else 52),ZbP c,trivial,fun t' k' hi' hl=> ?_⟩
 rw[if_neg q1,if_neg q2,if_neg q3];unfold ZaX;rw[hmay hl,hm,if_neg (by simp),if_neg q4,if_neg q5,if_neg q6,←(hl.lock hk).check hp];rfl
theorem eff {t:TS} {k:Nat} {c:Cm} (hi:Lock.Inv t.L k) (hc:Live c):∃(g:Option (Ses→Ses)) (e:LE) (a:Ans),GOk c g∧e.of c∧∀(t':TS) (k':Nat),Lock.Inv t'.L k'→Loc c t t'→Zav t' c=(runE t' c g e,a):=by
 have h1:¬(Zao c=false∨c.kind=0):=by
  rw[hc.right];exact fun h=>h.elim (fun q=>by cases q) hc.kind
 unfold Zav;by_cases q8:c.kind=8
 · refine⟨if Lease.expB (lookA t.S c.num c.foot) c.time=0 then some Ses.ended else none,(if Lease.expB (lookA t.S c.num c.foot) c.time=0 then .drop c.num c.foot else .nop),ansE (Lease.expB (lookA t.S c.num c.foot) c.time),Zik (Lease.expB (lookA t.S c.num c.foot) c.time) (g:=Ses.ended) (fun s=>rfl) (fun h=>by unfold pathK at h;omega),?_,fun t' k' _ hl=> ?_⟩
   · split
     · exact⟨by unfold pathK;omega,rfl,rfl⟩
     trivial
   rw[if_neg h1,if_pos q8,←hl.look,Zip]
 cases hs:Lease.said (lookA t.S c.num c.foot).told c.req with
 |some a=>
  refine⟨none,.nop,a,ZbP c,trivial,fun t' k' _ hl=> ?_⟩;rw[if_neg h1,if_neg q8,←hl.look,hs]
  rfl
 |none=>
  by_cases hf:256≤(lookA t.S c.num c.foot).told.length
  · refine⟨none,.nop,ansE 14,ZbP c,trivial,fun t' k' _ hl=> ?_⟩
    rw[if_neg h1,if_neg q8,←hl.look,hs];simp only;rw[if_pos hf];rfl
  obtain⟨g,e,a,hg,he,hd⟩:=do_eff hi hc q8;obtain⟨g2,hg2,ht⟩:=Zlw (a:=a) hg (lookA t.S c.num c.foot);refine⟨g2,e,a,hg2,he,fun t' k' hi' hl=> ?_⟩;rw[if_neg h1,if_neg q8,←hl.look,hs];simp only;rw[if_neg hf,hd t' k' hi' hl];show(tellT ⟨updO g c.num c.foot t'.S,e.run t'.L⟩ c a,a)=_;rw[ht t'.S _ hl.look.symm];rfl
def Ab (t:TS):Prop:=∀e ∈ t.L.es,Zan (bl e.foot) (bl e.path)=true
structure Good (t:TS) (k:Nat):Prop where
 inv:TInv t k
 ab:Ab t
theorem Good.apply {t:TS} {k:Nat} {c:Cm} (h:Good t k) (hc:CmOk c):Good (Zav t c).1 (k + 1):=by
 refine⟨ZgV h.inv hc,?_⟩
 by_cases hl:Live c
 · obtain⟨g,e,a,_,he,hr⟩:=eff h.inv.lock hl;rw[hr t k h.inv.lock (Loc.refl c t)];intro x hx
   cases e with
   |nop=>exact h.ab x hx
   |add e=>
    obtain⟨k1,k2,k3,k4,k5⟩:=he;rcases List.mem_append.1 hx with hx|hx
    · exact h.ab x hx
    rw[List.mem_singleton.1 hx,k2,k4];exact k5
   |rem p n f=>exact h.ab x (List.mem_filter.1 hx).1
   |drop n f=>exact h.ab x (List.mem_filter.1 hx).1
 rw[Zjc hl];exact h.ab
theorem Good.play {l:List Cm} (hl:∀c ∈ l,CmOk c):∀{t:TS} {k:Nat},Good t k→Good (playT t l) (k + l.length):=by
 induction l with
 |nil=>exact fun h=>h
 |cons c l ih=>
  intro t k h;have h1:=ih (fun x hx=>hl x (by simp[hx])) (h.apply (hl c (by simp)));have e:k + 1 + l.length=k + (c::l).length:=by simp only[List.length_cons];omega
  rw[←e];exact h1
theorem Zmu {first:Int} (h0:0≤first) (h1:first < Lease.big64):Good ⟨[],⟨first,[],[]⟩⟩ 0:=⟨Zhq h0 h1,nofun⟩
end Tab
end
section
namespace Tab
open Path (bl Zaf overB Zan)
open Lease (Ses Ans fresh AR SR Rel RelS RelT)
open Lock (S3 Ent)
open Cmd (Cm Zao)
structure AnsOk (a:Ans):Prop where
 e: -9223372036854775808≤a.e∧a.e≤9223372036854775807
 n:0≤a.n∧a.n < Lease.big64
structure SesOk (s:Ses):Prop where
 nd:(s.told.map (·.1)).Nodup
 len:s.told.length≤256
 told:∀x ∈ s.told,(0≤x.1∧x.1 < Lease.big64)∧AnsOk x.2
 ttl:0≤s.ttl∧s.ttl≤2199023255552
 dl:0≤s.dl∧s.dl≤2199023255552
theorem ZkW (t:Int):0≤Lease.cutI t∧Lease.cutI t≤2199023255552:=by
 unfold Lease.cutI;split
 · omega
 split<;>omega
theorem Zmv (n:Int) (f:ByteArray) (b t:Nat):SesOk (fresh n f b t):=⟨by simp[fresh],by simp[fresh],by simp[fresh],by simp[fresh],by simp[fresh]⟩
theorem Zj6 {s:Ses} (h:SesOk s) (ttl time:Int):SesOk (s.opened ttl time):=⟨h.nd,h.len,h.told,ZkW _,by unfold Lease.Ses.opened Lease.endI;exact ZkW _⟩
theorem ZmH {s:Ses} (h:SesOk s):SesOk s.ended:=⟨h.nd,h.len,h.told,by simp[Lease.Ses.ended],by simp[Lease.Ses.ended]⟩
theorem Zn1 {s:Ses} (h:SesOk s) (time:Int):SesOk (s.kept time):=⟨h.nd,h.len,h.told,h.ttl,by
 unfold Lease.Ses.kept Lease.endI;simp only;split
 · exact ZkW _
 exact h.dl⟩
theorem said_none {l:List (Int × Ans)} {r:Int} (h:Lease.said l r=none):r ∉ l.map (·.1):=by
 intro hm;obtain⟨x,hx,rfl⟩:=List.mem_map.1 hm;unfold Lease.said at h;simp only[Option.map_eq_none_iff] at h;exact List.find?_eq_none.1 h x hx (by simp)
theorem Znt {s:Ses} (h:SesOk s) {r:Int} {a:Ans} (ht:Lease.tellE s r=0) (hr:0≤r∧r < Lease.big64) (ha:AnsOk a):SesOk (s.tell r a):=by
 unfold Lease.tellE at ht
 cases hs:Lease.said s.told r with
 |some x=>rw[hs] at ht;simp at ht
 |none=>
  rw[hs] at ht
  have hl:s.told.length < 256:=by
   rcases Nat.lt_or_ge s.told.length 256 with q|q
   · exact q
   simp[q] at ht
  refine⟨?_,?_,fun x hx=> ?_,h.ttl,h.dl⟩
  · show((s.told++[(r,a)]).map (·.1)).Nodup
    rw[List.map_append,List.map_cons,List.map_nil];refine List.nodup_append.2 ⟨h.nd,by simp,fun x hx y hy e=> ?_⟩;rw[List.mem_singleton.1 hy] at e;subst e;exact said_none hs hx
  · show(s.told++[(r,a)]).length≤256
    simp;omega
  rcases List.mem_append.1 (show x ∈ s.told++[(r,a)] from hx) with hx|hx
  · exact h.told x hx
  rw[List.mem_singleton.1 hx];exact⟨hr,ha⟩
def SAll (S:List Ses):Prop:=∀s ∈ S,SesOk s
theorem ZfH {S:List Ses} (h:SAll S) (n:Int) (f:ByteArray):SesOk (lookA S n f):=by
 unfold lookA
 cases hf:Lease.find S n f with
 |none=>exact Zmv _ _ _ _
 |some s=>unfold Lease.find at hf;exact h s (List.mem_of_find?_eq_some hf)
theorem Zkd {g:Ses→Ses} {n:Int} {f:ByteArray}:∀{S:List Ses} {x:Ses},x ∈ updA g n f S→x=g (lookA S n f)∨x ∈ S
 |[],x,h=>.inl (by simpa [updA,lookA,Lease.find] using h)
 |s::S,x,h=>by
  unfold updA at h
  cases hq:s.is n f with
  |true=>
   rw[hq,if_pos rfl] at h;rcases List.mem_cons.1 h with h|h
   · exact .inl (by simpa [lookA,Lease.find,hq] using h)
   exact .inr (by simp[h])
  |false=>
   rw[hq,if_neg (by decide)] at h;rcases List.mem_cons.1 h with rfl|h
   · exact .inr (by simp)
   rcases Zkd h with q|q
   · left
     rw[q];simp[lookA,Lease.find,hq]
   exact .inr (by simp[q])
theorem SAll.upd {S:List Ses} (h:SAll S) {g:Ses→Ses} {n:Int} {f:ByteArray} (hg:SesOk (g (lookA S n f))):SAll (updA g n f S):=fun x hx=>by
 rcases Zkd hx with rfl|q
 · exact hg
 exact h x q
theorem SAll.opT {t:TS} {c:Cm} {g:Ses→Ses} {e:Int} (h:SAll t.S) (hg:e=0→SesOk (g (lookA t.S c.num c.foot))):SAll (Tab.opT t c g e).S:=by
 unfold Tab.opT;split
 · rename_i q;exact h.upd (hg q)
 exact h
theorem SAll.endT {t:TS} {c:Cm} {e:Int} (h:SAll t.S):SAll (Tab.endT t c e).S:=by
 unfold Tab.endT;split
 · exact h.upd (ZmH (ZfH h _ _))
 exact h
theorem Zb6 {e:Int} (h:0≤e∧e≤1000):AnsOk (ansE e):=⟨by unfold ansE;simp only;omega,by unfold ansE Lease.big64;simp only;omega⟩
theorem Zgr (s:S3) (p:ByteArray) (n:Int) (f:ByteArray) (mode:Int):0≤s.may p n f mode∧s.may p n f mode≤1000:=by
 unfold S3.may;repeat' split
 all_goals omega
theorem ZiX (t:TS) (c:Cm):0≤mayT t c∧mayT t c≤1000:=by
 unfold mayT;repeat' split
 all_goals omega
theorem Zho (s:Ses) (k:Nat):0≤Lease.openE s k∧Lease.openE s k≤1000:=by
 unfold Lease.openE;repeat' split
 all_goals omega
theorem Zlf {t:TS} {k:Nat} (hi:Lock.Inv t.L k) (c:Cm):AnsOk (addT t c).2:=by
 unfold addT;simp only;split
 · rename_i hm;have h1:=(Lock.Zd4 hm).2.2.2;have h2:=Lock.Zcu hi c.path;have h3:=hi.first0;unfold S3.newE;refine⟨by simp,?_⟩;simp only;unfold Lock.lastN at h1;unfold Lease.big64;omega
 exact Zb6 (Zgr _ _ _ _ _)
theorem ZkT {t:TS} {k:Nat} (hi:Lock.Inv t.L k) (hs:SAll t.S) (c:Cm):AnsOk (doT t c).2∧SAll (doT t c).1.S:=by
 unfold doT;split
 · exact⟨Zb6 (Zho _ _),hs.opT fun _=>Zj6 (ZfH hs _ _) _ _⟩
 split
 · exact⟨Zb6 (by split<;>omega),hs.endT⟩
 split
 · exact⟨Zb6 (by split<;>omega),hs.opT fun _=>Zn1 (ZfH hs _ _) _⟩
 unfold ZaX;split
 · exact⟨Zb6 (ZiX _ _),hs⟩
 split
 · exact⟨Zlf hi c,hs⟩
 split
 · unfold tryT;split
   · exact⟨Zlf hi c,hs⟩
   split
   · exact⟨Zb6 (by omega),hs⟩
   exact⟨Zb6 (Zgr _ _ _ _ _),hs⟩
 split
 · exact⟨Zb6 (by split<;>omega),hs⟩
 exact⟨Zb6 (by split<;>omega),hs⟩
theorem Zlc {t:TS} {k:Nat} (hi:Lock.Inv t.L k) (hs:SAll t.S) (c:Cm) (hq:0≤c.req∧c.req < Lease.big64):SAll (Zav t c).1.S:=by
 unfold Zav;split
 · exact hs
 split
 · exact hs.endT
 split
 · exact hs
 split
 · exact hs
 obtain⟨h1,h2⟩:=ZkT hi hs c;unfold tellT;exact h2.opT fun e=>Znt (ZfH h2 _ _) e hq h1
theorem Zl1 {l:List Cm} (hl:∀c ∈ l,CmOk c∧0≤c.req∧c.req < Lease.big64):∀{t:TS} {k:Nat},Good t k→SAll t.S→SAll (playT t l).S:=by
 induction l with
 |nil=>exact fun _ h=>h
 |cons c l ih=>
  intro t k hg hs;have hc:=hl c (by simp);exact ih (fun x hx=>hl x (by simp[hx])) (hg.apply hc.1) (Zlc hg.inv.lock hs c hc.2)
theorem ZlD {α:Type} {P:List α→Prop} (h0:P []) (h1:∀l x,P l→P (l++[x])):∀l,P l:=fun l=>by
 rw[←List.reverse_reverse l]
 induction l.reverse with
 |nil=>exact h0
 |cons x r ih=>rw[List.reverse_cons];exact h1 _ _ ih
theorem Rel.perm {S S':List Ses} {L:List SR} (h:Rel S L) (hp:S.Perm S'):Rel S' L:=⟨(hp.map Lease.keyE).symm.trans h.keys,h.srt,fun s hs a ha e=>h.each s (hp.mem_iff.2 hs) a ha e⟩
theorem Rel.zs {ss:List Ses} {L:List SR} (h:Rel (ss.map zs) L):Rel ss L:=by
 refine⟨?_,h.srt,fun s hs a ha e=> ?_⟩
 · have:=h.keys
   rw[List.map_map] at this;exact this
 have:=h.each (Tab.zs s) (List.mem_map.2 ⟨s,hs,rfl⟩) a ha e
 exact⟨this.num,this.foot,this.op,this.dead,this.dl,this.ttl,this.told,this.tb,this.db⟩
end Tab
end
section
namespace Tab
open Go.RowKit
open Path (bl Zaf overB Zan)
open Lease (Ses Ans fresh ZaE SR AR arP rowR poolP Rel RelS findR okA)
open Lock (S3 Ent rowE rowC)
open Cmd (Cm Zao)
attribute [-go_sem] run_eql_struct run_neq_struct run_eqGuard_agg
theorem TPost.q {P:Program} {f:FuncId} {args:Array Value} {t p m:Nat} {ss:List Ses} {b:Lock.Bk} {w:World} {T:TS} {x1 x2:Int} {x3:Bool} (h:Calls P f args w (TPost t p m ss b w T ⟨x1,x2,x3⟩)):Calls P f args w fun e w'=>∃u,e=.returned u∧∃(ss':List Ses) (b':Lock.Bk),u=.agg #[.int .i64 x1,.int .u64 x2,.bool x3]∧TRel ss' b' T∧At [TabP t p m ss b] w [TabP t p m ss' b'] w':=
 h.mono fun e w' ⟨ss',b',he,hR,hT⟩=>⟨_,he,ss',b',rfl,hR,hT⟩
theorem Zmd {R:Part} {w:World} (h:Sep [R] w) (first:Int):Calls Tryz.prog 7 #[.int .u64 first] w fun e w'=>e=.returned (.agg #[.slice none 0 0,.int .u64 first,.slice none 0 0,.slice none 0 0])∧At [R] w [R] w':=by
 have hA:=At.start h;clear h;obtain⟨hA,hF⟩:=fZ hA;go_enter Tryz.func7,Tryz.ntmps7
 go_wp2_with (first|(((with_reducible refine galD 2 ?_);refine g4 hA ?_;clear hF hA;intro bT w1 hA hbT hF))|(((with_reducible refine galD 3 ?_);refine g4 hA ?_;clear hF hA;intro bU w1 hA hbU hF))|((with_reducible refine gst ?_);refine wTz hA ?_;clear hF hA;intro w1 hA hF))
 refine bodyPost_ret (v:=.agg #[.slice none 0 0,.int .u64 first,.slice none 0 0,.slice none 0 0]) (by simp[results,Tryz.results7,go_sem,hF]) rfl ⟨rfl,hA.pick pZ⟩
def nilV:Value:=.slice none 0 0
def D0:DS:=⟨nilV,[],[(nilV,[])],nilV,[(nilV,[])],nilV,[(nilV,[])]⟩
theorem d0_in (first:Int):DIn ⟨[],⟨first,[],[]⟩⟩ D0:=
 ⟨⟨Lease.Rel.nil,nofun,List.mem_singleton.2 rfl,nofun⟩,List.mem_singleton.2 rfl,List.mem_singleton.2 rfl⟩
theorem d0_at {L0 L:List Part} {w0 w:World} (h:At L0 w0 L w):At L0 w0 (D0.parts++L) w:=by
 have h1:=(Lock.Zh1 h).to (Eqv.all [rowC (.slice none 0 0) []] L).symm;have h2:=(Lock.Za7 h1).to (Eqv.all [rowE (.slice none 0 0) []] _).symm;have h3:=(Lease.Zft h2).to (Eqv.all [Lease.rowA (.slice none 0 0) []] _).symm;exact Lease.ZcV h3
theorem Zj2 {T0:TS} {k:Nat} (h0:Good T0 k) (hs:SAll T0.S) {l:List Cm} (hok:∀c ∈ l,CmIn c):Good (playT T0 l) (k + l.length)∧SAll (playT T0 l).S:=
 ⟨h0.play fun x hx=>(hok x hx).ok,Zl1 (fun x hx=>⟨(hok x hx).ok,(hok x hx).r0,(hok x hx).r1⟩) h0 hs⟩
theorem ZiT (T0:TS):∀l:List Cm,(playT T0 l).L.first=T0.L.first:=fun l=>by
 refine ZlD (P:=fun l=>(playT T0 l).L.first=T0.L.first) rfl (fun l x h=> ?_) l;rw[Zdf,ZhM,h]
theorem ok_ar {T:TS} {k:Nat} (hi:Lock.Inv T.L k) (hs:SAll T.S) (c:Cm):okA (arA c.req (doT T c).2):=⟨(ZkT hi hs c).1.e,(ZkT hi hs c).1.n⟩
theorem Zbb {L0 L F:List Part} {w0 w:World} {E:TypeId} {size n:Nat} {v:Value} {xs:List Value} (h:At L0 w0 L w) (s:Sel (Part.row E size v n xs) L F):∃ax cap,v=.slice ax n cap:=by
 obtain⟨ax,cap,e,_⟩:=h.row_form s;exact⟨ax,cap,e⟩
def AQ (first:Int) (w:World) (P0:List Part) (T:TS) (xe xn:Int) (xg:Bool) (u:Value) (w':World):Prop:=
 ∃(sx:Option Addr) (sc:Nat) (ex:Option Addr) (ec:Nat) (cx:Option Addr) (cn cc:Nat) (L:List SR) (PL:List (Value × List AR)) (QE:PE) (QC:PC) (r:Int),
  u=.tuple #[.agg #[.slice sx L.length sc,.int .u64 first,.slice ex T.L.es.length ec,.slice cx cn cc],.agg #[.int .u64 r,.int .i64 xe,.int .u64 xn,.bool xg]]∧DIn T ⟨.slice sx L.length sc,L,PL,.slice ex T.L.es.length ec,QE,.slice cx cn cc,QC⟩∧At P0 w [rowR (.slice sx L.length sc) L,poolP PL,poolE QE,poolC QC] w'
theorem Zop {first:Int} {w:World} {D:DS} {T:TS} {xe xn:Int} {xg:Bool} {f:FuncId} {args:Array Value} (h:Calls Tryz.prog f args w (APost first w D T ⟨xe,xn,xg⟩)):Calls Tryz.prog f args w fun e w'=>∃u,e=.returned u∧AQ first w D.parts T xe xn xg u w':=by
 refine h.mono ?_;rintro e w1 ⟨⟨vS,L,PL,vE,QE,vC,QC⟩,⟨r,ye,yn,yg⟩,he,ha,hD,_,hT⟩;cases ha;have hT:At D.parts w [rowR vS L,poolP PL,poolE QE,poolC QC] w1:=hT;obtain⟨_,_,⟨cx,cn,cc,z3⟩⟩:=ZbX (D:=⟨vS,L,PL,vE,QE,vC,QC⟩) hT hD;obtain⟨RE,hRE⟩:=outE hD.le;obtain⟨sx,sc,rfl⟩:=Zbb hT .here;obtain⟨ex,ec,rfl⟩:=Zbb ((hT.pick (K:=[poolE QE]) pR).to (hRE [])) .here;simp only at z3;subst z3;exact⟨_,he,sx,sc,ex,ec,cx,cn,cc,L,PL,QE,QC,r,rfl,hD,hT⟩
section
variable {w:World} {t p m:Nat} {ss:List Ses} {b:Lock.Bk} (h:Sep [TabP t p m ss b] w)
include h
end
theorem ZmA {es:List Ent} (hk:es.Pairwise (fun a b=>¬(a.path=b.path∧a.num=b.num∧a.foot=b.foot))) {e:Ent} (he:e ∈ es):Lock.find es e.path e.num e.foot=some e:=by
 unfold Lock.find
 induction es with
 |nil=>cases he
 |cons x es ih=>
  rw[List.pairwise_cons] at hk;rw[List.find?_cons];rcases List.mem_cons.1 he with rfl|he
  · have:e.is e.path e.num e.foot=true:=by simp[Lock.Ent.is]
    rw[this]
  have:x.is e.path e.num e.foot=false:=by
   have:=hk.1 e he;simp[Lock.Ent.is];intro q1 q2 q3;exact this ⟨q1,q2,q3⟩
  rw[this];exact ih hk.2 he
end Tab
end
section
namespace Tab
open Go.RowKit
open Lease (Ses Ans fresh ZaE)
open Lock (S3 Ent rowL CloE keepE ZgP ZeZ ZbQ ZdH)
attribute [-go_sem] run_eql_struct run_neq_struct run_eqGuard_agg
abbrev boxR (b3:Nat) (v:Value):Part:=Part.cells b3 [v] 52
def WthP (b3:Nat) (v:Value) (m:List Ent):Part:=Part.all [boxR b3 v,rowL v m]
theorem Ze2 (b3:Nat) (v:Value) (m:List Ent) (F:List Part):Eqv (WthP b3 v m::F) (boxR b3 v::rowL v m::F):=Eqv.all [boxR b3 v,rowL v m] F
theorem cloW {b3:Nat} {v:Value} {m l:List Ent} (hm:m.length≤1000000):CloE 72 b3 (WthP b3 v m) l (fun e=>decide (e ∈ m)):=by
 intro w1 h x hx;have hA:=(At.start h).to (Ze2 b3 v m []);clear h hx;have hc:=fun(w1:World) (q:Sep [rowL v m] w1)=>ZgP q x hm;show Calls _ _ _ _ (fun e w'=>e=.returned (.bool (decide (x ∈ m)))∧_);generalize decide (x ∈ m)=d at *
 obtain⟨ax,cap,rfl,_,_,_⟩:=hA.row_form (v:=v) (xs:=m.flatMap Ent.cells) sZ;obtain⟨p1,n1,f1,m1,k1,s1⟩:=x;simp only[Ent.val] at *
 obtain⟨hA,hF⟩:=fZ hA;go_enter Tryz.func72,Tryz.ntmps72
 go_wp2_with ((with_reducible refine gbx ?_);refine wHz 55 [.string p1,.int .u64 n1,.string f1,.int .i64 m1,.int .u64 k1,.int .i64 s1] hA ?_;clear hF hA;intro b4 w1 hA hb4 hF)
 refine(hc _ (hA.sep1 (A:=rowL (.slice ax m.length cap) m) sZ)).mono ?_;rintro e w2 ⟨rfl,hT⟩;replace hA:=hA.call1 (A:=rowL (.slice ax m.length cap) m) sZ hT;clear hF hT;simp only[uA] at hA;obtain⟨hA,hF⟩:=fZ hA;go_wp2_with fail;go_ret;exact⟨rfl,(hA.pick (K:=[boxR b3 (.slice ax m.length cap),rowL (.slice ax m.length cap) m]) pZ).to (Ze2 b3 _ m []).symm⟩
theorem Zg3 {w:World} {v1 v2:Value} {l m:List Ent} (h:Sep [rowL v1 l,rowL v2 m] w) (hl:l.length≤1000000) (hm:m.length≤1000000):
 Calls Tryz.prog 31 #[v1,v2] w fun e w'=>∃v',e=.returned v'∧At [rowL v1 l,rowL v2 m] w [rowL v' (l.filter (fun e=> !decide (e ∈ m))),rowL v1 l,rowL v2 m] w':=by
 have hA:=At.start h;clear h;obtain⟨ax,acap,rfl,_,_,_⟩:=hA.row_form (v:=v1) (xs:=l.flatMap Ent.cells) sZ;obtain⟨bx,bcap,rfl,_,_,_⟩:=hA.row_form (v:=v2) (xs:=m.flatMap Ent.cells) sZ;obtain⟨hA,hF⟩:=fZ hA;go_enter Tryz.func31,Tryz.ntmps31
 go_wp2_with ((with_reducible refine gbx ?_);refine wX 52 (.slice bx m.length bcap) [.slice bx m.length bcap] hA ?_;clear hF hA;intro b3 w1 hA hb3;obtain⟨hA,hF⟩:=fZ hA)
 refine(ZeZ (hA.sep1 (A:=rowL (.slice ax l.length acap) l) sZ) hl).mono ?_;rintro e w2 ⟨v',rfl,hT⟩;have hB:=hA.call1 (A:=rowL (.slice ax l.length acap) l) sZ hT;clear hF hA hT;have hA:=(hB.pick (K:=[boxR b3 (.slice bx m.length bcap),rowL (.slice bx m.length bcap) m,rowL v' l,rowL (.slice ax l.length acap) l]) pZ).to (Ze2 b3 _ m _).symm;clear hB;obtain⟨hA,hF⟩:=fZ hA;go_wp2_with fail;refine(ZbQ (hA.sep2 (A:=rowL v' l) (B:=WthP b3 (.slice bx m.length bcap) m) sZ sZ) (enters_of Tryz.func72 (by kernel_rfl) rfl) (cloW hm) hl).mono ?_;rintro e w3 ⟨v3,rfl,hT⟩;have hB:=hA.call2 (A:=rowL v' l) (B:=WthP b3 (.slice bx m.length bcap) m) sZ sZ hT;clear hF hA hT;simp only[uA] at hB;have hA:=(hB.pick (K:=[WthP b3 (.slice bx m.length bcap) m,rowL v3 (keepE (fun e=>decide (e ∈ m)) l),rowL (.slice ax l.length acap) l]) pZ).to (Ze2 b3 _ m _);clear hB;obtain⟨hA,hF⟩:=fZ hA;go_wp2_with fail;go_ret;exact⟨v3,rfl,hA.pick pZ⟩
abbrev boxT (b1 t:Nat):Part:=Part.cells b1 [.pointer (some ⟨t,0,none⟩)] 28
def GraP (b1 t p m:Nat) (ss:List Ses) (b:Lock.Bk):Part:=Part.all [boxT b1 t,TabP t p m ss b]
theorem ZfO (b1 t p m:Nat) (ss:List Ses) (b:Lock.Bk) (F:List Part):Eqv (GraP b1 t p m ss b::F) (boxT b1 t::TabP t p m ss b::F):=Eqv.all [boxT b1 t,TabP t p m ss b] F
theorem ZfN (b1 t p m:Nat) (ss:List Ses) (b:Lock.Bk) (F:List Part):Eqv (boxT b1 t::TabP t p m ss b::F) (boxT b1 t::headT t p b.p::Lease.BookP p m ss::Lock.BookP b::F):=(ZcG t p m ss b F).cons _
theorem cloG {b1 t p m:Nat} {ss:List Ses} {b:Lock.Bk} {k:Nat} (hi:Lock.Inv b.st k) {l:List Ent} (hl:∀e ∈ l,e.path.size≤1000∧0≤e.num∧e.num < Lock.big64∧e.foot.size≤maxLen):CloE 74 b1 (GraP b1 t p m ss b) l (fun e=> !Lock.grantedB b.es e):=by
 intro w1 h x hx;have hA:=((At.start h).to (ZfO b1 t p m ss b [])).to (ZfN b1 t p m ss b []);have hxl:=hl x hx;clear h hx hl;have hc:=fun(w1:World) (q:Sep [Lock.BookP b] w1)=>Lock.Zea q (e:=x) (Nat.le_trans hxl.1 (by omega)) hxl.2.1 hxl.2.2.1 hxl.2.2.2 (fun x hx=>Nat.le_trans (hi.path x hx) (by omega));show Calls _ _ _ _ (fun e w'=>e=.returned (.bool (!Lock.grantedB b.es x))∧_);generalize Lock.grantedB b.es x=d at *
 have hi':=Hd hi;obtain⟨p1,n1,f1,m1,k1,s1⟩:=x;simp only[Ent.val] at *
 have hc':=Hd hc;clear hc hxl hi;obtain⟨hA,hF⟩:=fZ hA;go_enter Tryz.func74,Tryz.ntmps74
 go_wp2_with ((with_reducible refine gbx ?_);refine wHz 55 [.string p1,.int .u64 n1,.string f1,.int .i64 m1,.int .u64 k1,.int .i64 s1] hA ?_;clear hF hA;intro b4 w1 hA hb4 hF)
 (try go_frame);(refine cA hA ?_);(have hn1:=Cl.none hA);(have hn2:=Cl.none2 hA);(repeat(first|go_big_quiet_skip|(go_big_quiet_want;(first|(refine qM 55 6 ?_;go_frame;go_big_quiet_on)|(refine qL ?_;go_frame;go_big_quiet_on)|(go_big_quiet_op;(first|go_big_quiet_on|((apply Exists.intro);(refine⟨fun w1 hw=> ?_,?_⟩);(focus((have hw:=Cl.out hw);(exact Lock.through1 hw (A:=Lock.BookP b) sZ (hc'.out _))));(go_big_quiet_on))))))))
 (refine wpQuiet_nil ?_);(intro w1 hB);(clear hF hA hn1 hn2);(have hA:=Cl.out hB);(clear hB);obtain⟨hA,hF⟩:=fZ hA
 go_wp2_with fail;go_ret;exact⟨rfl,((hA.pick (K:=[boxT b1 t,headT t p b.p,Lease.BookP p m ss,Lock.BookP b]) pZ).to (ZfN b1 t p m ss b []).symm).to (ZfO b1 t p m ss b []).symm⟩
theorem Zca {w:World} {t p m:Nat} {ss:List Ses} {b:Lock.Bk} {k:Nat} (h:Sep [TabP t p m ss b] w) (hi:Lock.Inv b.st k) (hk:k≤1000000) (hf:∀e ∈ b.es,e.path.size≤1000∧0≤e.num∧e.num < Lock.big64∧e.foot.size≤maxLen):
 Calls Tryz.prog 32 #[.pointer (some ⟨t,0,none⟩)] w fun e w'=>∃v l,e=.returned v∧l.Perm (b.es.filter (Lock.grantedB b.es))∧l.Pairwise Lock.ltE∧At [TabP t p m ss b] w [rowL v l,TabP t p m ss b] w':=by
 have hA:=Zbf h;clear h;have hi':=Hd hi;have hf':=Hd hf;clear hi hf;obtain⟨hA,hF⟩:=fZ hA;go_enter Tryz.func32,Tryz.ntmps32
 go_wp2_with ((with_reducible refine gbx ?_);refine wX 28 (.pointer (some ⟨t,0,none⟩)) [.pointer (some ⟨t,0,none⟩)] hA ?_;clear hF hA;intro b1 w1 hA hb1;obtain⟨hA,hF⟩:=fZ hA)
 refine(Lock.ZdD (hA.sep1 (A:=Lock.BookP b) sZ) hi'.out.sortable (Nat.le_trans hi'.out.len hk) (fun x hx=>Nat.le_trans (hi'.out.path x hx) (by omega))).mono ?_;rintro e w1 ⟨v,l,rfl,hp,hs,hT⟩;have hB:=hA.call1 (A:=Lock.BookP b) sZ hT;have hp':=Hd hp;have hs':=Hd hs;clear hF hA hT hp hs
 have hA:=(((hB.pick (K:=[boxT b1 t,headT t p b.p,Lease.BookP p m ss,Lock.BookP b,rowL v l]) pZ).to (ZfN b1 t p m ss b [rowL v l]).symm).to (ZfO b1 t p m ss b [rowL v l]).symm)
 clear hB;obtain⟨hA,hF⟩:=fZ hA;go_wp2_with fail;refine(ZbQ (hA.sep2 (A:=rowL v l) (B:=GraP b1 t p m ss b) sZ sZ) (enters_of Tryz.func74 (by kernel_rfl) rfl) (cloG hi'.out (fun e he=>hf'.out e (hp'.out.mem_iff.1 he))) (by rw[hp'.out.length_eq];exact Nat.le_trans hi'.out.len hk)).mono ?_;rintro e w3 ⟨v3,rfl,hT⟩;have hB:=hA.call2 (A:=rowL v l) (B:=GraP b1 t p m ss b) sZ sZ hT;clear hF hA hT;simp only[uA] at hB;have hA:=(hB.pick (K:=[GraP b1 t p m ss b,rowL v3 (keepE (fun e=> !Lock.grantedB b.es e) l)]) pZ).to (ZfO b1 t p m ss b _);clear hB;obtain⟨hA,hF⟩:=fZ hA;go_wp2_with fail;go_ret;have hkf:keepE (fun e=> !Lock.grantedB b.es e) l=l.filter (Lock.grantedB b.es):=by unfold keepE;simp
 rw[hkf] at hA;exact⟨v3,_,rfl,hp'.out.filter _,hs'.out.filter _,hA.pick pZ⟩
end Tab
end
section
namespace Tab
open Go.RowKit
open Lock (S3 Ent rowL rowE flatE grantedB Zbd infoE Za7 Zbh)
attribute [-go_sem] run_eql_struct run_neq_struct run_eqGuard_agg
attribute [local go_sem] Lock.Zij Lock.eqlE6
def grA (l:List Ent):List Ent:=l.filter (grantedB l)
def lessE (l m:List Ent):List Ent:=l.filter (fun e=> !decide (e ∈ m))
theorem Zkm {l l' m m':List Ent} (h:l.Perm l') (k:m.Perm m'):(lessE l m).Perm (lessE l' m'):=by
 unfold lessE;have e:(fun e=> !decide (e ∈ m))=fun e=> !decide (e ∈ m'):=funext fun x=>by rw[decide_eq_decide.2 k.mem_iff]
 rw[e];exact h.filter _
theorem inv_in {s:S3} {k:Nat} (hi:Lock.Inv s k):∀e ∈ s.es,e.path.size≤1000∧0≤e.num∧e.num < Lock.big64∧e.foot.size≤maxLen:=fun e he=>⟨Nat.le_trans (hi.path e he) (by omega),hi.num0 e he,hi.num1 e he,hi.foot e he⟩
theorem Zmr (op:BinOp) (x y:Operand) (c1 c2 c3 c4 c5 c6 d1 d2 d3 d4 d5 d6:Value) (w:World):(eqGuard op 82 x y (.agg #[c1,c2,c3,c4,c5,c6]) (.agg #[d1,d2,d3,d4,d5,d6])).run Tryz.prog w=.ok () w:=run_eqGuard_agg _ _ _ _ _ _ _ (by kernel_rfl)
theorem Zny (x y:Ent) (w:World):(Op.equalIn 10000 82 x.val y.val).run Tryz.prog w=.ok (decide (x=y)) w:=by
 unfold Ent.val;rw[run_equalIn_agg _ 9999 _ _ _ (by kernel_rfl) (by kernel_rfl)];obtain⟨p1,n1,f1,m1,k1,s1⟩:=x;obtain⟨p2,n2,f2,m2,k2,s2⟩:=y;simp[go_sem,Op.eqFields,Lock.same_ba];by_cases h1:p1=p2<;>by_cases h2:n1=n2<;>by_cases h3:f1=f2<;>by_cases h4:m1=m2<;>by_cases h5:k1=k2<;>by_cases h6:s1=s2<;>simp[h1,h2,h3,h4,h5,h6]
theorem Zng (p1 f1 p2 f2:ByteArray) (n1 m1 k1 s1 n2 m2 k2 s2:Int) (w:World):(binOp .eql 82 (.agg #[.string p1,.int .u64 n1,.string f1,.int .i64 m1,.int .u64 k1,.int .i64 s1]) (.agg #[.string p2,.int .u64 n2,.string f2,.int .i64 m2,.int .u64 k2,.int .i64 s2])).run Tryz.prog w=.ok (.bool (decide ((⟨p1,n1,f1,m1,k1,s1⟩:Ent)=⟨p2,n2,f2,m2,k2,s2⟩))) w:=by
 have:=Zny ⟨p1,n1,f1,m1,k1,s1⟩ ⟨p2,n2,f2,m2,k2,s2⟩ w
 unfold Ent.val at *
 rw[run_eql_struct,this];rfl
attribute [local go_sem] Zmr Zng
def RdE (R:Part) (v:Value) (l:List Ent):Prop:=∀w,R.holds w→Reads w v l.length (l.flatMap Ent.cells)
theorem RdE.form {R:Part} {v:Value} {l:List Ent} (hr:RdE R v l) {w:World} (h:Sep [R] w):∃ax cap,v=.slice ax l.length cap:=by
 obtain⟨ax,c,e,_⟩:=hr w h.1;exact⟨ax,c,e⟩
theorem RdE.at {R:Part} {ax:Option Addr} {cap i:Nat} {l:List Ent} (hr:RdE R (.slice ax l.length cap) l) {w:World} (h:R.holds w) (hi:i < l.length):
 ∃b off,ax=some ⟨b,off,none⟩∧∀w',R.holds w'→∀(k:Nat) u,l[i].cells[k]? =some u→w'.cell? ⟨b,off + i * 6 + k,none⟩=some u:=by
 have hx:=List.getElem?_eq_getElem hi
 have go:∀w',R.holds w'→∃b off,ax=some ⟨b,off,none⟩∧∀(k:Nat) u,l[i].cells[k]? =some u→w'.cell? ⟨b,off + i * 6 + k,none⟩=some u:=by
  intro w' h';obtain⟨ax',c,e,_,hq⟩:=hr w' h';cases e;have hat:=Zbs Ent.cells 6 (fun _=>rfl) l i _ hx;obtain⟨b,off,e2,_⟩:=hq (i * 6) (.string l[i].path) (by have:=hat 0 (by omega);simpa [Ent.cells] using this);refine⟨b,off,e2,fun k u hk=> ?_⟩;have hk6:k < 6:=(List.getElem?_eq_some_iff.1 hk).1;obtain⟨b',off',e3,hc⟩:=hq (i * 6 + k) u (by rw[hat k hk6];exact hk);rw[e2] at e3;cases e3;rw[Nat.add_assoc];exact hc
 obtain⟨b,off,e,_⟩:=go w h;refine⟨b,off,e,fun w' h'=> ?_⟩;obtain⟨b',off',e',hc⟩:=go w' h';rw[e] at e';cases e';exact hc
def AmRel (w:World) (R:Part) (l:List Ent) (x:Ent) (b3:Nat) (k:Nat) (u:Value) (wr:World):Prop:=
 ∃i:Nat,u=.int .i64 i∧i + k=l.length∧x ∉ l.take i∧At [R] w [Part.cells b3 x.cells 82,R] wr
theorem ZgY {w:World} {R:Part} {v:Value} {l:List Ent} (h:Sep [R] w) (hr:RdE R v l) (x:Ent) (hmax:l.length≤1000000):
 Calls Tryz.prog 39 #[v,x.val] w fun e w'=>e=.returned (.bool (decide (x ∈ l)))∧At [R] w [R] w':=by
 obtain⟨ax,cap,rfl⟩:=hr.form h;have hr':=Hd hr;have hA:=At.start h;clear h hr;have hnox:=Hd (show x ∉ l.take 0 by simp);obtain⟨p1,n1,f1,m1,k1,s1⟩:=x;simp only[Ent.val];obtain⟨hA,hF⟩:=fZ hA;go_enter Tryz.func39,Tryz.ntmps39
 go_wp2_with ((with_reducible refine gbx ?_);refine wHz 82 [.string p1,.int .u64 n1,.string f1,.int .i64 m1,.int .u64 k1,.int .i64 s1] hA ?_;clear hF hA;intro b3 w1 hA hb3 hF)
 (try go_frame);go_loopg [9] l.length (AmRel w R l ⟨p1,n1,f1,m1,k1,s1⟩ b3)
 case atStart=>exact⟨0,rfl,by simp,hnox.out,hA⟩
 case round=>
  obtain⟨i,rfl,hik,hno,hB⟩:=hrel;have hno':=Hd hno;clear hF hA hno;have hA:=hB;clear hB;simp only[Ent.cells] at hA;by_cases hi:i < l.length
  · obtain⟨bk,off,rfl,hel⟩:=hr'.out.at (hA.get (A:=R) sZ) hi;have hx:l[i]? =some l[i]:=List.getElem?_eq_getElem hi;have htk:l.take (i + 1)=l.take i++[l[i]]:=List.take_succ_eq_append_getElem hi;generalize hy:l[i]=y at *
    obtain⟨p0,n0,f0,m0,k0,s0⟩:=y;have hel':=Hd (show ∀w',R.holds w'→∀(k:Nat) u,([.string p0,.int .u64 n0,.string f0,.int .i64 m0,.int .u64 k0,.int .i64 s0]:List Value)[k]? =some u→w'.cell? ⟨bk,off + i * 6 + k,none⟩=some u from hel)
    obtain⟨d,hd⟩:∃d,decide ((⟨p0,n0,f0,m0,k0,s0⟩:Ent)=⟨p1,n1,f1,m1,k1,s1⟩)=d:=⟨_,rfl⟩
    have heq:∀w,(binOp .eql 82 (.agg #[.string p0,.int .u64 n0,.string f0,.int .i64 m0,.int .u64 k0,.int .i64 s0]) (.agg #[.string p1,.int .u64 n1,.string f1,.int .i64 m1,.int .u64 k1,.int .i64 s1])).run Tryz.prog w=.ok (.bool d) w:=fun w=>by rw[Zng,hd]
    have hd':=Hd hd;have hx':=Hd hx;have htk':=Hd htk;clear hx htk hy hd hel;obtain⟨hA,hF⟩:=fZ hA;cases d
    · go_wp2_with (first|((with_reducible refine gal ?_);refine g3 hA ?_;clear hF hA;intro b6 w1 hA hb6 hF)|((with_reducible show wpList _ _ _ ({dst:=some 12,op:=Op.load _ _,type:=_,pos:=_,after:=_,guard:=_}::_) _ _);refine Zad (vs:=[.string p0,.int .u64 n0,.string f0,.int .i64 m0,.int .u64 k0,.int .i64 s0]) rfl rfl (by(try simp only[Act.eval,eV])<;>exact rfl) (hel'.out _ (hA.get (A:=R) sZ)) (by kernel_rfl) (by kernel_rfl) ?_)|((with_reducible refine gst ?_);refine wTz hA ?_;clear hF hA;intro w1 hA hF))
      go_roundg (gk - 1);case measure=>omega
      case rel=>
       refine⟨i + 1,by simp,by omega,?_,hA.pick pZ⟩;rw[htk'.out];intro hm
       rcases List.mem_append.1 hm with hm|hm
       · exact hno'.out hm
       exact of_decide_eq_false hd'.out (List.mem_singleton.1 hm).symm
    go_wp2_with (first|((with_reducible refine gal ?_);refine g3 hA ?_;clear hF hA;intro b6 w1 hA hb6 hF)|((with_reducible show wpList _ _ _ ({dst:=some 12,op:=Op.load _ _,type:=_,pos:=_,after:=_,guard:=_}::_) _ _);refine Zad (vs:=[.string p0,.int .u64 n0,.string f0,.int .i64 m0,.int .u64 k0,.int .i64 s0]) rfl rfl (by(try simp only[Act.eval,eV])<;>exact rfl) (hel'.out _ (hA.get (A:=R) sZ)) (by kernel_rfl) (by kernel_rfl) ?_)|((with_reducible refine gst ?_);refine wTz hA ?_;clear hF hA;intro w1 hA hF))
    go_ret;have e0:=of_decide_eq_true hd'.out;have hx0:=hx'.out;rw[e0] at hx0;exact⟨by rw[decide_eq_true (List.mem_of_getElem? hx0)];rfl,hA.pick pZ⟩
  have hF:=hA.facts;obtain⟨hA,hF⟩:=fZ hA;go_wp2_with fail;go_ret;have hno2:=hno'.out;rw[List.take_of_length_le (by omega)] at hno2;exact⟨by rw[decide_eq_false hno2];rfl,hA.pick pZ⟩
theorem ZkN (x:Ent) (w:World):Calls Tryz.prog 40 #[x.val] w fun e w'=>e=.returned x.val∧Ext w w':=by
 have hA:At [] w [] w:=At.start (L0:=[]) trivial;have hF:=hA.facts;obtain⟨p1,n1,f1,m1,k1,s1⟩:=x;simp only[Ent.val];obtain⟨hA,hF⟩:=fZ hA;go_enter Tryz.func40,Tryz.ntmps40
 go_wp2_with (first|((with_reducible refine gbx ?_);refine wHz 55 [.string p1,.int .u64 n1,.string f1,.int .i64 m1,.int .u64 k1,.int .i64 s1] hA ?_;clear hF hA;intro b1 w1 hA hb1 hF)|((with_reducible refine gal ?_);refine g3 hA ?_;clear hF hA;intro b2 w1 hA hb2 hF)|((with_reducible refine gst ?_);refine wTz hA ?_;clear hF hA;intro w1 hA hF))
 exact bodyPost_ret (v:=.agg #[.string p1,.int .u64 n1,.string f1,.int .i64 m1,.int .u64 k1,.int .i64 s1]) (by simp[results,Tryz.results40,go_sem,hF]) rfl ⟨rfl,hA.toExt⟩
theorem ZfD (p n f m k s) (w:World):(Instr.buildSlice 35 1 #[(0,.agg #[.string p,.int .u64 n,.string f,.int .i64 m,.int .u64 k,.int .i64 s])]).run Tryz.prog w=.ok (.slice (some ⟨w.heap.size,0,none⟩) 1 1) (w.alloc (.cells (Ent.cells ⟨p,n,f,m,k,s⟩).toArray 82)):=by kernel_rfl
theorem Zi0 {l m:List Ent} {i:Nat} (hi:i < l.length):lessE (l.take (i + 1)) m=lessE (l.take i) m++if l[i] ∈ m then[] else[l[i]]:=by
 unfold lessE;rw[List.take_succ_eq_append_getElem hi,List.filter_append];by_cases h:l[i] ∈ m<;>simp[h]
theorem Zkn (l m:List Ent) (i:Nat):(lessE (l.take i) m).length≤l.length:=Nat.le_trans (List.length_filter_le _ _) (by rw[List.length_take];omega)
def LsRel (w:World) (R:Part) (l m:List Ent) (k:Nat) (u5 u10:Value) (wr:World):Prop:=
 ∃i:Nat,u10=.int .i64 i∧i + k=l.length∧At [R] w [rowE u5 (lessE (l.take i) m),R] wr
theorem Zmh {w:World} {R:Part} {v1 v2:Value} {l m:List Ent} (h:Sep [R] w) (hr:RdE R v1 l) (hr2:RdE R v2 m) (hl:l.length≤1000000) (hm:m.length≤1000000):
 Calls Tryz.prog 15 #[v1,v2] w fun e w'=>∃v',e=.returned v'∧At [R] w [rowE v' (lessE l m),R] w':=by
 obtain⟨i0,hi0,hz0,hz1,hz2⟩:=info_parts infoE;obtain⟨ax,cap,rfl⟩:=hr.form h;obtain⟨bx,bcap,rfl⟩:=hr2.form h;have hr':=Hd hr;have hr2':=Hd hr2;have hA:=Za7 (At.start h);clear h hr hr2;obtain⟨hA,hF⟩:=fZ hA;go_enter Tryz.func15,Tryz.ntmps15;go_wp2_with fail;(try go_frame);go_loopg [5,10] l.length (LsRel w R l m)
 case atStart=>exact⟨0,rfl,by simp,by rw[show lessE (l.take 0) m=[] by simp[lessE]];exact hA.pick pZ⟩
 case round=>
  obtain⟨i,rfl,hik,hB⟩:=hrel;replace hA:=hB;clear hF hB;have hlen:=Zkn l m i;by_cases hi:i < l.length
  · obtain⟨bk,off,rfl,hel⟩:=hr'.out.at (hA.get (A:=R) sZ) hi;have hst:=Zi0 (m:=m) hi;generalize l[i]=y at *
    have ham:=fun(w1:World) (q:Sep [R] w1)=>ZgY q hr2'.out y hm;by_cases hd:y ∈ m
    · rw[if_pos hd,List.append_nil] at hst;rw[decide_eq_true hd] at ham;obtain⟨p0,n0,f0,m0,k0,s0⟩:=y;simp only[Ent.val] at ham;have hel':=Hd (show ∀w',R.holds w'→∀(k:Nat) u,([.string p0,.int .u64 n0,.string f0,.int .i64 m0,.int .u64 k0,.int .i64 s0]:List Value)[k]? =some u→w'.cell? ⟨bk,off + i * 6 + k,none⟩=some u from hel);have hst':=Hd hst;have ham':=Hd ham;clear hst hd ham hel;obtain⟨hA,hF⟩:=fZ hA
      go_wp2_with (first|((with_reducible refine gal ?_);refine g3 hA ?_;clear hF hA;intro b7 w1 hA hb7 hF)|((with_reducible show wpList _ _ _ ({dst:=some 13,op:=Op.load _ _,type:=_,pos:=_,after:=_,guard:=_}::_) _ _);refine Zad (vs:=[.string p0,.int .u64 n0,.string f0,.int .i64 m0,.int .u64 k0,.int .i64 s0]) rfl rfl (by(try simp only[Act.eval,eV])<;>exact rfl) (hel'.out _ (hA.get (A:=R) sZ)) (by kernel_rfl) (by kernel_rfl) ?_)|((with_reducible refine gst ?_);refine wTz hA ?_;clear hF hA;intro w1 hA hF))
      refine(ham'.out _ (hA.sep1 (A:=R) sZ)).mono ?_;rintro e w3 ⟨rfl,hT⟩;replace hA:=hA.call1 (A:=R) sZ hT;clear hF hT ham';obtain⟨hA,hF⟩:=fZ hA;go_wp2_with fail;go_roundg (gk - 1);case measure=>omega
      case rel=>exact⟨i + 1,by simp,by omega,by rw[hst'.out];exact hA.pick pZ⟩
    rw[if_neg hd] at hst;rw[decide_eq_false hd] at ham;obtain⟨p0,n0,f0,m0,k0,s0⟩:=y;simp only[Ent.val] at ham;have hel':=Hd (show ∀w',R.holds w'→∀(k:Nat) u,([.string p0,.int .u64 n0,.string f0,.int .i64 m0,.int .u64 k0,.int .i64 s0]:List Value)[k]? =some u→w'.cell? ⟨bk,off + i * 6 + k,none⟩=some u from hel);have hst':=Hd hst;have ham':=Hd ham;clear hst hd ham hel;generalize lessE (l.take i) m=D at *
    obtain⟨hA,hF⟩:=fZ hA
    go_wp2_with (first|((with_reducible refine gal ?_);refine g3 hA ?_;clear hF hA;intro b7 w1 hA hb7 hF)|((with_reducible show wpList _ _ _ ({dst:=some 13,op:=Op.load _ _,type:=_,pos:=_,after:=_,guard:=_}::_) _ _);refine Zad (vs:=[.string p0,.int .u64 n0,.string f0,.int .i64 m0,.int .u64 k0,.int .i64 s0]) rfl rfl (by(try simp only[Act.eval,eV])<;>exact rfl) (hel'.out _ (hA.get (A:=R) sZ)) (by kernel_rfl) (by kernel_rfl) ?_)|((with_reducible refine gst ?_);refine wTz hA ?_;clear hF hA;intro w1 hA hF))
    refine(ham'.out _ (hA.sep1 (A:=R) sZ)).mono ?_;rintro e w3 ⟨rfl,hT⟩;replace hA:=hA.call1 (A:=R) sZ hT;clear hF hT ham';obtain⟨hA,hF⟩:=fZ hA
    go_wp2_with (first
     |((with_reducible show wpList _ _ _ ({dst:=_,op:=Op.buildSlice _ _ _,type:=_,pos:=_,after:=_,guard:=_}::_) _ _);refine Zap (e:=82) (vs:=Ent.cells ⟨p0,n0,f0,m0,k0,s0⟩) rfl rfl (by(try simp only[Act.eval,eV])<;>exact rfl) (fun _=>ZfD p0 n0 f0 m0 k0 s0 _) hA ?_;intro b2 w1 hB hb2;replace hA:=hB;clear hF hB;obtain⟨hA,hF⟩:=fZ hA)
     |((with_reducible show wpList _ _ _ ({dst:=_,op:=Op.call {callee:=Callee.builtin Builtin.append,args:=_,argTypes:=_},type:=_,pos:=_,after:=_,guard:=_}::_) _ _);refine Zac (e:=82) (size:=6) (v:=u5) (xs:=flatE D) (n:=D.length) (m:=1) (news:=Ent.cells ⟨p0,n0,f0,m0,k0,s0⟩) rfl _ _ 35 rfl Tryz.underlying35 hi0 hz0 hz1 hz2 rfl (by omega) hA sZ (by(try simp only[Act.eval,eV])<;>exact rfl) (by(try simp only[Act.eval,eV])<;>exact rfl) rfl (hA.cells_reads sZ _ _) (Ent.one _) (by unfold maxLen;omega) (by omega) ?_;intro v2 w1 hB;rw[Zbh] at hB;replace hA:=hB;clear hF hB;obtain⟨hA,hF⟩:=fZ hA)
     |((with_reducible refine gst ?_);refine wTz hA ?_;clear hF hA;intro w1 hA hF)|((with_reducible refine gbx ?_);refine wCz hA ?_;clear hF hA;intro b1 w1 hA hb1 hF))
    go_roundg (gk - 1);case measure=>omega
    case rel=>exact⟨i + 1,by simp,by omega,by rw[hst'.out];exact hA.pick pZ⟩
  have eL:l.take i=l:=List.take_of_length_le (by omega);rw[eL] at hA;obtain⟨hA,hF⟩:=fZ hA;go_wp2_with fail;go_ret;exact⟨_,rfl,hA.pick pZ⟩
end Tab
end
end Go.Proofs.YtknoefbcmomalaaGreatDoor
