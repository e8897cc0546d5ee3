/- TabV, TabB, TabC, joined. -/
import Derived.Test.YtkdjkngfnapjcaaGreatDoorQ18
import Derived.Test.YtkdjkngfnapjcaaGreatDoorQ9
set_option linter.unusedSimpArgs false
set_option linter.unusedVariables false
set_option maxRecDepth 100000
set_option maxHeartbeats 16000000
namespace Go.Proofs.YtkdjkngfnapjcaaGreatDoor
section
namespace Tab
open Path (bl Zad overB Zaw)
open Lease (Ses Ans fresh AR SR Rel RelS RelT)
open Lock (S3 Ent)
open Cmd (Cm ZaA)
structure AnsOk (a:Ans):Prop where
 e: -9223372036854775808≤a.e∧a.e≤9223372036854775807
 n:0≤a.n∧a.n < Lease.big64
structure SesOk (s:Ses):Prop where
 nd:(s.told.map (·.1)).Nodup
 len:s.told.length≤256
 told:∀x ∈ s.told,(0≤x.1∧x.1 < Lease.big64)∧AnsOk x.2
 ttl:0≤s.ttl∧s.ttl≤2199023255552
 dl:0≤s.dl∧s.dl≤2199023255552
theorem ZkP (t:Int):0≤Lease.cutI t∧Lease.cutI t≤2199023255552:=by
 unfold Lease.cutI
 split
 · omega
 split<;>omega
theorem Zmg (n:Int) (f:ByteArray) (b t:Nat):SesOk (fresh n f b t):=⟨by simp[fresh],by simp[fresh],by simp[fresh],by simp[fresh],by simp[fresh]⟩
theorem Zkj {s:Ses} (h:SesOk s) (ttl time:Int):SesOk (s.opened ttl time):=⟨h.nd,h.len,h.told,ZkP _,by unfold Lease.Ses.opened Lease.endI;exact ZkP _⟩
theorem Zmm {s:Ses} (h:SesOk s):SesOk s.ended:=⟨h.nd,h.len,h.told,by simp[Lease.Ses.ended],by simp[Lease.Ses.ended]⟩
theorem ZnJ {s:Ses} (h:SesOk s) (time:Int):SesOk (s.kept time):=⟨h.nd,h.len,h.told,h.ttl,by
 unfold Lease.Ses.kept Lease.endI;simp only
 split
 · exact ZkP _
 exact h.dl⟩
theorem said_none {l:List (Int × Ans)} {r:Int} (h:Lease.said l r=none):r ∉ l.map (·.1):=by
 intro hm;obtain⟨x,hx,rfl⟩:=List.mem_map.1 hm;unfold Lease.said at h;simp only[Option.map_eq_none_iff] at h;exact List.find?_eq_none.1 h x hx (by simp)
theorem Znc {s:Ses} (h:SesOk s) {r:Int} {a:Ans} (ht:Lease.tellE s r=0) (hr:0≤r∧r < Lease.big64) (ha:AnsOk a):SesOk (s.tell r a):=by
 unfold Lease.tellE at ht
 cases hs:Lease.said s.told r with
 |some x=>rw[hs] at ht;simp at ht
 |none=>
  rw[hs] at ht
  have hl:s.told.length < 256:=by
   rcases Nat.lt_or_ge s.told.length 256 with q|q
   · exact q
   simp[q] at ht
  refine⟨?_,?_,fun x hx=> ?_,h.ttl,h.dl⟩
  · show((s.told++[(r,a)]).map (·.1)).Nodup
    rw[List.map_append,List.map_cons,List.map_nil];refine List.nodup_append.2 ⟨h.nd,by simp,fun x hx y hy e=> ?_⟩;rw[List.mem_singleton.1 hy] at e;subst e;exact said_none hs hx
  · show(s.told++[(r,a)]).length≤256
    simp;omega
  rcases List.mem_append.1 (show x ∈ s.told++[(r,a)] from hx) with hx|hx
  · exact h.told x hx
  rw[List.mem_singleton.1 hx];exact⟨hr,ha⟩
def SAll (S:List Ses):Prop:=∀s ∈ S,SesOk s
theorem ZfN {S:List Ses} (h:SAll S) (n:Int) (f:ByteArray):SesOk (lookA S n f):=by
 unfold lookA
 cases hf:Lease.find S n f with
 |none=>exact Zmg _ _ _ _
 |some s=>unfold Lease.find at hf;exact h s (List.mem_of_find?_eq_some hf)
theorem ZhG {g:Ses→Ses} {n:Int} {f:ByteArray}:∀{S:List Ses} {x:Ses},x ∈ updA g n f S→x=g (lookA S n f)∨x ∈ S
 |[],x,h=>.inl (by simpa [updA,lookA,Lease.find] using h)
 |s::S,x,h=>by
  unfold updA at h
  cases hq:s.is n f with
  |true=>
   rw[hq,if_pos rfl] at h
   rcases List.mem_cons.1 h with h|h
   · exact .inl (by simpa [lookA,Lease.find,hq] using h)
   exact .inr (by simp[h])
  |false=>
   rw[hq,if_neg (by decide)] at h
   rcases List.mem_cons.1 h with rfl|h
   · exact .inr (by simp)
   rcases ZhG h with q|q
   · left
     rw[q];simp[lookA,Lease.find,hq]
   exact .inr (by simp[q])
theorem SAll.upd {S:List Ses} (h:SAll S) {g:Ses→Ses} {n:Int} {f:ByteArray} (hg:SesOk (g (lookA S n f))):SAll (updA g n f S):=fun x hx=>by
 rcases ZhG hx with rfl|q
 · exact hg
 exact h x q
theorem SAll.opT {t:TS} {c:Cm} {g:Ses→Ses} {e:Int} (h:SAll t.S) (hg:e=0→SesOk (g (lookA t.S c.num c.foot))):SAll (Tab.opT t c g e).S:=by
 unfold Tab.opT
 split
 · rename_i q
   exact h.upd (hg q)
 exact h
theorem SAll.endT {t:TS} {c:Cm} {e:Int} (h:SAll t.S):SAll (Tab.endT t c e).S:=by
 unfold Tab.endT
 split
 · exact h.upd (Zmm (ZfN h _ _))
 exact h
theorem Zb5 {e:Int} (h:0≤e∧e≤1000):AnsOk (ansE e):=⟨by unfold ansE;simp only;omega,by unfold ansE Lease.big64;simp only;omega⟩
theorem ZcT (s:S3) (p:ByteArray) (n:Int) (f:ByteArray) (mode:Int):0≤s.may p n f mode∧s.may p n f mode≤1000:=by
 unfold S3.may
 repeat' split
 all_goals omega
theorem ZeU (t:TS) (c:Cm):0≤mayT t c∧mayT t c≤1000:=by
 unfold mayT
 repeat' split
 all_goals omega
theorem Zeg (s:Ses) (k:Nat):0≤Lease.openE s k∧Lease.openE s k≤1000:=by
 unfold Lease.openE
 repeat' split
 all_goals omega
theorem Zlc {t:TS} {k:Nat} (hi:Lock.Inv t.L k) (c:Cm):AnsOk (addT t c).2:=by
 unfold addT;simp only
 split
 · rename_i hm
   have h1:=(Lock.Zei hm).2.2.2;have h2:=Lock.Zdl hi c.path;have h3:=hi.first0;unfold S3.newE;refine⟨by simp,?_⟩;simp only;unfold Lock.lastN at h1;unfold Lease.big64
   omega
 exact Zb5 (ZcT _ _ _ _ _)
theorem Zm2 {t:TS} {k:Nat} (hi:Lock.Inv t.L k) (hs:SAll t.S) (c:Cm):AnsOk (doT t c).2∧SAll (doT t c).1.S:=by
 unfold doT
 split
 · exact⟨Zb5 (Zeg _ _),hs.opT fun _=>Zkj (ZfN hs _ _) _ _⟩
 split
 · exact⟨Zb5 (by split<;>omega),hs.endT⟩
 split
 · exact⟨Zb5 (by split<;>omega),hs.opT fun _=>ZnJ (ZfN hs _ _) _⟩
 unfold ZaN
 split
 · exact⟨Zb5 (ZeU _ _),hs⟩
 split
 · exact⟨Zlc hi c,hs⟩
 split
 · unfold tryT
   split
   · exact⟨Zlc hi c,hs⟩
   split
   · exact⟨Zb5 (by omega),hs⟩
   exact⟨Zb5 (ZcT _ _ _ _ _),hs⟩
 split
 · exact⟨Zb5 (by split<;>omega),hs⟩
 exact⟨Zb5 (by split<;>omega),hs⟩
theorem Zhd {t:TS} {k:Nat} (hi:Lock.Inv t.L k) (hs:SAll t.S) (c:Cm) (hq:0≤c.req∧c.req < Lease.big64):SAll (Zat t c).1.S:=by
 unfold Zat
 split
 · exact hs
 split
 · exact hs.endT
 split
 · exact hs
 split
 · exact hs
 obtain⟨h1,h2⟩:=Zm2 hi hs c
 unfold tellT
 exact h2.opT fun e=>Znc (ZfN h2 _ _) e hq h1
theorem Zix {l:List Cm} (hl:∀c ∈ l,CmOk c∧0≤c.req∧c.req < Lease.big64):∀{t:TS} {k:Nat},Good t k→SAll t.S→SAll (playT t l).S:=by
 induction l with
 |nil=>exact fun _ h=>h
 |cons c l ih=>
  intro t k hg hs;have hc:=hl c (by simp);exact ih (fun x hx=>hl x (by simp[hx])) (hg.apply hc.1) (Zhd hg.inv.lock hs c hc.2)
theorem Zig {α:Type} {P:List α→Prop} (h0:P []) (h1:∀l x,P l→P (l++[x])):∀l,P l:=fun l=>by
 rw[←List.reverse_reverse l]
 induction l.reverse with
 |nil=>exact h0
 |cons x r ih=>rw[List.reverse_cons];exact h1 _ _ ih
theorem Zls:∀{l:List (Int × Ans)} (hn:(l.map (·.1)).Nodup) (hl:l.length≤256) (hb:∀x ∈ l,(0≤x.1∧x.1 < Lease.big64)∧AnsOk x.2),∃m,RelT l m:=by
 intro l;refine Zig (P:=fun l=>∀(hn:(l.map (·.1)).Nodup) (hl:l.length≤256) (hb:∀x ∈ l,(0≤x.1∧x.1 < Lease.big64)∧AnsOk x.2),∃m,RelT l m) ?_ ?_ l
 · exact fun _ _ _=>⟨[],RelT.nil⟩
 intro l x ih hn hl hb;rw[List.map_append,List.map_cons,List.map_nil] at hn;have hn':=List.nodup_append.1 hn;simp only[List.length_append,List.length_cons,List.length_nil] at hl;obtain⟨m,hm⟩:=ih hn'.1 (by omega) (fun y hy=>hb y (by simp[hy]));have hx:=hb x (by simp)
 have hs:Lease.said l x.1=none:=by
  cases hq:Lease.said l x.1 with
  |none=>rfl
  |some a=>
   exfalso
   unfold Lease.said at hq;obtain⟨y,hy,_⟩:=Option.map_eq_some_iff.1 hq
   have h1:y.1=x.1:=by simpa using List.find?_some hy
   exact hn'.2.2 y.1 (List.mem_map.2 ⟨y,List.mem_of_find?_eq_some hy,rfl⟩) x.1 (by simp) h1
 have hs2:Lease.saidA m x.1=none:=by
  rw[hm.said] at hs;exact Option.map_eq_none_iff.1 hs
 have h2:=hm.size;refine⟨_,RelT.tell (a:=⟨x.1,x.2.e,x.2.n,x.2.g⟩) hm hs2 (by omega) hx.1 ⟨hx.2.e,hx.2.n⟩⟩
theorem Zni {s:Ses} (h:SesOk s):∃a:SR,RelS s a:=by
 obtain⟨m,hm⟩:=Zls h.nd h.len h.told;exact⟨⟨s.num,s.foot,s.op,s.dead,s.dl,s.ttl,none,0,m⟩,rfl,rfl,rfl,rfl,rfl,rfl,hm,h.ttl,h.dl⟩
theorem Zin {S:List Ses} (hk:Kn S) (hs:SAll S):∃L,Rel S L:=by
 refine Zig (P:=fun S=>Kn S→SAll S→∃L,Rel S L) ?_ ?_ S hk hs
 · exact fun _ _=>⟨[],Rel.nil⟩
 intro S s ih hk hs;unfold Kn at hk;have hk0:=hk;rw[List.map_append,List.map_cons,List.map_nil] at hk;have hk':=List.nodup_append.1 hk;obtain⟨L,hL⟩:=ih hk'.1 (fun x hx=>hs x (by simp[hx]));obtain⟨a,ha⟩:=Zni (hs s (by simp));refine⟨_,Rel.put (ss':=S++[s]) hL ha hk0 fun x=> ?_⟩;rw[List.mem_append,List.mem_singleton]
 constructor
 · rintro(h|h)
   · exact .inr ⟨h,fun e=>hk'.2.2 (keyE x) (List.mem_map.2 ⟨x,h,rfl⟩) (keyE s) (by simp) e⟩
   exact .inl h
 rintro(h|h)
 · exact .inr h
 exact .inl h.1
theorem Rel.perm {S S':List Ses} {L:List SR} (h:Rel S L) (hp:S.Perm S'):Rel S' L:=⟨(hp.map Lease.keyE).symm.trans h.keys,h.srt,fun s hs a ha e=>h.each s (hp.mem_iff.2 hs) a ha e⟩
theorem Rel.zs {ss:List Ses} {L:List SR} (h:Rel (ss.map zs) L):Rel ss L:=by
 refine⟨?_,h.srt,fun s hs a ha e=> ?_⟩
 · have:=h.keys
   rw[List.map_map] at this;exact this
 have:=h.each (Tab.zs s) (List.mem_map.2 ⟨s,hs,rfl⟩) a ha e
 exact⟨this.num,this.foot,this.op,this.dead,this.dl,this.ttl,this.told,this.tb,this.db⟩
theorem Rel.bounds {S:List Ses} {L:List SR} {m:Nat} (h:Rel S L) (hi:SInv S m):(∀a ∈ L,0≤a.num∧a.num < Lease.big64∧a.foot.size≤2000000)∧L.length≤m:=by
 refine⟨fun a ha=> ?_,by rw[←h.len];exact hi.len⟩;obtain⟨s,hs,hk⟩:=List.mem_map.1 (h.keys.mem_iff.2 (List.mem_map.2 ⟨a,ha,rfl⟩));have e:=h.each s hs a ha hk;have h1:=hi.num s hs;have h2:=hi.foot s hs;rw[e.num] at h1;rw[e.foot] at h2;exact⟨h1.1,h1.2,by omega⟩
end Tab
end
section
namespace Tab
open Go.RowKit
open Path (bl Zad overB Zaw)
open Lease (Ses Ans fresh ZaQ)
open Lock (S3 Ent)
open Cmd (Cm ZaA)
attribute [-go_sem] run_eql_struct run_neq_struct run_eqGuard_agg
section
variable {w:World} {t p m:Nat} {ss:List Ses} {b:Lock.Bk} (h:Sep [TabP t p m ss b] w) (kind num:Int) (foot:ByteArray) (req:Int) (path:ByteArray) (mode n time:Int) (h0:0≤num) (h1:num < Lock.big64) (hf:foot.size≤1000) (hp:path.size≤1000) (hok:LkOk b)
include h h0 h1 hf hp hok
theorem add_any:Calls Tryz.prog 221 #[.pointer (some ⟨t,0,none⟩),.agg #[.int .i64 kind,.int .u64 num,.string foot,.int .u64 req,.string path,.int .i64 mode,.int .u64 n,.int .i64 time]] w fun r w'=>r=.returned (if b.st.may path num foot mode=0 then ansV 0 (b.st.addE path num foot mode).n (Lock.ZaO b.es path mode) else ansV (b.st.may path num foot mode) 0 false)∧At [TabP t p m ss b] w [TabP t p m ss (b.with (b.st.add path num foot mode))] w':=by
 have hm:Tryz.prog.follows .mixedOrders=true:=by kernel_rfl
 have hok':=Hd hok;clear hok
 have hco:=fun(w1:World) (q:Sep [Lock.BookP b] w1)=>Lock.Zg3 (mode:=mode) q (show path.size≤1000000 by omega) (fun x hx=>⟨Nat.le_trans (hok'.out.path x hx) (by omega),hok'.out.stamp x hx⟩)
 have had:=fun(w1:World) (q:Sep [Lock.BookP b] w1)=>Lock.add_any (mode:=mode) q (show path.size≤1000000 by omega) h0 h1 (show foot.size≤maxLen by unfold maxLen;omega) hok'.out.len hok'.out.ctr (fun x hx=>⟨Nat.le_trans (hok'.out.path x hx) (by omega),hok'.out.stamp x hx⟩)
 obtain⟨cd,hcd⟩:∃z,Lock.ZaO b.es path mode=z:=⟨_,rfl⟩
 obtain⟨me,hme⟩:∃z,b.st.may path num foot mode=z:=⟨_,rfl⟩
 obtain⟨ae,hae⟩:∃z,b.st.addE path num foot mode=z:=⟨_,rfl⟩
 simp only[hcd] at hco;simp only[hme,hae] at had;rw[hcd,hme,hae];clear hcd hme hae;obtain⟨ep,en,ef,em,enn,est⟩:=ae;simp only[Lock.Ent.val] at had;have hco':=Hd hco;have had':=Hd had;clear hco had;have hA:=ZbB h;clear h;obtain⟨hA,hF⟩:=fY hA
 go_enter Tryz.func221,Tryz.ntmps221
 go_upto_region 1 with(first|((with_reducible refine gbx ?_);refine wHy 27 [.int .i64 kind,.int .u64 num,.string foot,.int .u64 req,.string path,.int .i64 mode,.int .u64 n,.int .i64 time] hA ?_;clear hF hA;intro b3 w1 hA hb3 hF)|((with_reducible refine gal ?_);refine g0 hA ?_;clear hF hA;intro b4 w1 hA hb4 hF))
 try go_frame
 replace hA:=hA.drew;clear hF;refine wp_region_held (S:=fun w'=>Zaa w' t (k2 p b.p) 180∧Zaa w' b3 (k8 kind num foot req path mode n time) 27) hm ?_;change wpAnyH _ _ _ _ _ 10 _ _ (World.drew _)
 generalize World.drew _=wd at *
 have hS0:=(⟨hA.get (A:=Part.cells t (k2 p b.p) 180) sZ,hA.get (A:=Part.cells b3 (k8 kind num foot req path mode n time) 27) sZ⟩:(fun w'=>Zaa w' t (k2 p b.p) 180∧Zaa w' b3 (k8 kind num foot req path mode n time) 27) wd)
 refine tP 0 8 (.pointer (some ⟨t,0,none⟩)) (s:=hS0) (h:= ?_)
 try go_frame
 refine tP 1 9 (.pointer (some ⟨t,0,none⟩)) (s:=hS0) (h:= ?_)
 try go_frame
 refine tP 2 10 (.pointer (some ⟨t,1,none⟩)) (s:=hS0) (h:= ?_)
 try go_frame
 refine tZ 3 11 (.pointer (some ⟨b.p,0,none⟩)) (r:=(fun w' hS=>Zab (ty:=110) (b:=t) (j:=1) rfl (by exact rfl) hS.1 (by kernel_rfl) rfl)) (s:=hS0) (h:= ?_)
 try go_frame
 refine tP 4 12 (.pointer (some ⟨b3,4,none⟩)) (s:=hS0) (h:= ?_)
 try go_frame
 refine tZ 5 13 (.string path) (r:=(fun w' hS=>Zab (ty:=9) (b:=b3) (j:=4) rfl (by exact rfl) hS.2 (by kernel_rfl) rfl)) (s:=hS0) (h:= ?_)
 try go_frame
 refine tP 6 14 (.pointer (some ⟨b3,5,none⟩)) (s:=hS0) (h:= ?_)
 try go_frame
 refine tZ 7 15 (.int .i64 mode) (r:=(fun w' hS=>Zab (ty:=3) (b:=b3) (j:=5) rfl (by exact rfl) hS.2 (by kernel_rfl) rfl)) (s:=hS0) (h:= ?_)
 try go_frame
 refine Zac (i:=8) (by kernel_rfl) ?_;refine cY 8 16 260 (fun u w'=>u=.bool cd∧At [Lock.BookP b] _ [Lock.BookP b] w') ((hco'.out _ (hA.sep1 (A:=Lock.BookP b) sZ)).mono fun e w' ⟨he,hT⟩=>⟨_,he,rfl,hT⟩) ?_;rintro u w3 ⟨rfl,hT⟩;have hB:=hA.call1 (A:=Lock.BookP b) sZ hT;clear hT;simp only[uA] at hB
 refine andH ⟨hB.ci,hB.ci⟩ fun hS0=> ?_
 clear hA;have hA:=hB;clear hB
 try go_frame
 refine tP 9 5 (.bool cd) (s:=hS0) (h:= ?_)
 try go_frame
 refine wpAnyH_done (by kernel_rfl) ?_ _
 try go_frame
 clear hS0;obtain⟨hA,hF⟩:=fY hA
 go_upto_region 2 with fail
 try go_frame
 replace hA:=hA.drew;clear hF;refine wp_region_held (S:=fun w'=>Zaa w' t (k2 p b.p) 180∧Zaa w' b3 (k8 kind num foot req path mode n time) 27) hm ?_;change wpAnyH _ _ _ _ _ 17 _ _ (World.drew _)
 generalize World.drew _=wd at *
 have hS0:=(⟨hA.get (A:=Part.cells t (k2 p b.p) 180) sZ,hA.get (A:=Part.cells b3 (k8 kind num foot req path mode n time) 27) sZ⟩:(fun w'=>Zaa w' t (k2 p b.p) 180∧Zaa w' b3 (k8 kind num foot req path mode n time) 27) wd)
 refine tP 0 18 (.pointer (some ⟨t,0,none⟩)) (s:=hS0) (h:= ?_)
 try go_frame
 refine tP 1 19 (.pointer (some ⟨t,0,none⟩)) (s:=hS0) (h:= ?_)
 try go_frame
 refine tP 2 20 (.pointer (some ⟨t,1,none⟩)) (s:=hS0) (h:= ?_)
 try go_frame
 refine tZ 3 21 (.pointer (some ⟨b.p,0,none⟩)) (r:=(fun w' hS=>Zab (ty:=110) (b:=t) (j:=1) rfl (by exact rfl) hS.1 (by kernel_rfl) rfl)) (s:=hS0) (h:= ?_)
 try go_frame
 refine tP 4 22 (.pointer (some ⟨b3,4,none⟩)) (s:=hS0) (h:= ?_)
 try go_frame
 refine tZ 5 23 (.string path) (r:=(fun w' hS=>Zab (ty:=9) (b:=b3) (j:=4) rfl (by exact rfl) hS.2 (by kernel_rfl) rfl)) (s:=hS0) (h:= ?_)
 try go_frame
 refine tP 6 24 (.pointer (some ⟨b3,1,none⟩)) (s:=hS0) (h:= ?_)
 try go_frame
 refine tZ 7 25 (.agg #[.int .u64 num,.string foot]) (r:=(fun w' hS=>Zag (ty:=25) (n:=2) (b:=b3) (j:=1) rfl (by exact rfl) hS.2 (by kernel_rfl) (by kernel_rfl) rfl rfl)) (s:=hS0) (h:= ?_)
 try go_frame
 refine tP 8 26 (.pointer (some ⟨b3,5,none⟩)) (s:=hS0) (h:= ?_)
 try go_frame
 refine tZ 9 27 (.int .i64 mode) (r:=(fun w' hS=>Zab (ty:=3) (b:=b3) (j:=5) rfl (by exact rfl) hS.2 (by kernel_rfl) rfl)) (s:=hS0) (h:= ?_)
 try go_frame
 refine ZbM (i:=10) (j:=14) (by kernel_rfl) ?_ ?_
 · skip
   refine cY 10 28 261 (fun u w'=>u=.tuple #[.agg #[.string ep,.int .u64 en,.string ef,.int .i64 em,.int .u64 enn,.int .i64 est],.int .i64 me]∧At [Lock.BookP b] _ [Lock.BookP (b.with (b.st.add path num foot mode))] w') ((had'.out _ (hA.sep1 (A:=Lock.BookP b) sZ)).mono fun e w' ⟨he,hT⟩=>⟨_,he,rfl,hT⟩) ?_;rintro u w3 ⟨rfl,hT⟩;have hB:=hA.call1 (A:=Lock.BookP b) sZ hT;clear hT;simp only[uA] at hB
   refine andH ⟨hB.ci,hB.ci⟩ fun hS0=> ?_
   clear hA;have hA:=hB;clear hB
   try go_frame
   refine tP 11 17 (.tuple #[.agg #[.string ep,.int .u64 en,.string ef,.int .i64 em,.int .u64 enn,.int .i64 est],.int .i64 me]) (s:=hS0) (h:= ?_)
   try go_frame
   refine tP 12 29 (.agg #[.string ep,.int .u64 en,.string ef,.int .i64 em,.int .u64 enn,.int .i64 est]) (s:=hS0) (h:= ?_)
   try go_frame
   refine tP 13 30 (.int .i64 me) (s:=hS0) (h:= ?_)
   try go_frame
   refine Zac (i:=14) (by kernel_rfl) ?_;refine aZ 14 6 97 [.string .empty,.int .u64 0,.string .empty,.int .i64 0,.int .u64 0,.int .i64 0] hA ?_;intro b6 w3 hB
   refine andH ⟨hB.ci,hB.ci⟩ fun hS0=> ?_
   clear hA;have hA:=hB;clear hB
   try go_frame
   refine Zac (i:=15) (by kernel_rfl) ?_;refine stZ 15 b6 0 [.string ep,.int .u64 en,.string ef,.int .i64 em,.int .u64 enn,.int .i64 est] hA ?_;intro w3 hB;simp only[uA] at hB
   refine andH ⟨hB.ci,hB.ci⟩ fun hS0=> ?_
   clear hA;have hA:=hB;clear hB
   try go_frame
   refine tP 16 7 (.int .i64 me) (s:=hS0) (h:= ?_)
   try go_frame
   refine wpAnyH_done (by kernel_rfl) ?_ _
   try go_frame
   clear hS0;obtain⟨hA,hF⟩:=fY hA
   by_cases hz:me=0
   · subst hz
     go_wp2_with ((with_reducible refine gst ?_);refine wTy hA ?_;clear hF hA;intro w1 hA hF)
     exact bodyPost_ret (v:=ansV 0 enn cd) (by simp[results,Tryz.results221,go_sem,hF]) rfl ⟨by first|rfl|rw[if_pos rfl],Zax (b:=b.with (b.st.add path num foot mode)) (hA.pick pZ)⟩
   go_wp2_with fail
   refine(Zaz _ _).mono ?_;rintro e w1 ⟨rfl,hx⟩;replace hA:=hA.ext hx;clear hx hF
   try simp only[uA] at hA
   obtain⟨hA,hF⟩:=fY hA
   go_wp2_with ((with_reducible refine gst ?_);refine wTy hA ?_;clear hF hA;intro w1 hA hF)
   exact bodyPost_ret (v:=ansV me 0 false) (by simp[results,Tryz.results221,go_sem,hF]) rfl ⟨by first|rfl|rw[if_neg hz],Zax (b:=b.with (b.st.add path num foot mode)) (hA.pick pZ)⟩
 skip;refine aZ 14 6 97 [.string .empty,.int .u64 0,.string .empty,.int .i64 0,.int .u64 0,.int .i64 0] hA ?_;intro b6 w3 hB
 refine andH ⟨hB.ci,hB.ci⟩ fun hS0=> ?_
 clear hA;have hA:=hB;clear hB
 try go_frame
 refine Zac (i:=10) (by kernel_rfl) ?_;refine cY 10 28 261 (fun u w'=>u=.tuple #[.agg #[.string ep,.int .u64 en,.string ef,.int .i64 em,.int .u64 enn,.int .i64 est],.int .i64 me]∧At [Lock.BookP b] _ [Lock.BookP (b.with (b.st.add path num foot mode))] w') ((had'.out _ (hA.sep1 (A:=Lock.BookP b) sZ)).mono fun e w' ⟨he,hT⟩=>⟨_,he,rfl,hT⟩) ?_;rintro u w3 ⟨rfl,hT⟩;have hB:=hA.call1 (A:=Lock.BookP b) sZ hT;clear hT;simp only[uA] at hB
 refine andH ⟨hB.ci,hB.ci⟩ fun hS0=> ?_
 clear hA;have hA:=hB;clear hB
 try go_frame
 refine tP 11 17 (.tuple #[.agg #[.string ep,.int .u64 en,.string ef,.int .i64 em,.int .u64 enn,.int .i64 est],.int .i64 me]) (s:=hS0) (h:= ?_)
 try go_frame
 refine tP 12 29 (.agg #[.string ep,.int .u64 en,.string ef,.int .i64 em,.int .u64 enn,.int .i64 est]) (s:=hS0) (h:= ?_)
 try go_frame
 refine tP 13 30 (.int .i64 me) (s:=hS0) (h:= ?_)
 try go_frame
 refine Zac (i:=15) (by kernel_rfl) ?_;refine stZ 15 b6 0 [.string ep,.int .u64 en,.string ef,.int .i64 em,.int .u64 enn,.int .i64 est] hA ?_;intro w3 hB;simp only[uA] at hB
 refine andH ⟨hB.ci,hB.ci⟩ fun hS0=> ?_
 clear hA;have hA:=hB;clear hB
 try go_frame
 refine tP 16 7 (.int .i64 me) (s:=hS0) (h:= ?_)
 try go_frame
 refine wpAnyH_done (by kernel_rfl) ?_ _
 try go_frame
 clear hS0;obtain⟨hA,hF⟩:=fY hA
 by_cases hz:me=0
 · subst hz
   go_wp2_with ((with_reducible refine gst ?_);refine wTy hA ?_;clear hF hA;intro w1 hA hF)
   exact bodyPost_ret (v:=ansV 0 enn cd) (by simp[results,Tryz.results221,go_sem,hF]) rfl ⟨by first|rfl|rw[if_pos rfl],Zax (b:=b.with (b.st.add path num foot mode)) (hA.pick pZ)⟩
 go_wp2_with fail
 refine(Zaz _ _).mono ?_;rintro e w1 ⟨rfl,hx⟩;replace hA:=hA.ext hx;clear hx hF
 try simp only[uA] at hA
 obtain⟨hA,hF⟩:=fY hA
 go_wp2_with ((with_reducible refine gst ?_);refine wTy hA ?_;clear hF hA;intro w1 hA hF)
 exact bodyPost_ret (v:=ansV me 0 false) (by simp[results,Tryz.results221,go_sem,hF]) rfl ⟨by first|rfl|rw[if_neg hz],Zax (b:=b.with (b.st.add path num foot mode)) (hA.pick pZ)⟩
def tryV (b:Lock.Bk) (num:Int) (foot path:ByteArray) (mode:Int):Value:=if Lock.ZaO b.es path mode=true then(if b.st.may path num foot mode=0 then ansV 0 (b.st.addE path num foot mode).n (Lock.ZaO b.es path mode) else ansV (b.st.may path num foot mode) 0 false) else if b.st.may path num foot mode=0 then ansV 51 0 false else ansV (b.st.may path num foot mode) 0 false
def tryB (b:Lock.Bk) (num:Int) (foot path:ByteArray) (mode:Int):Lock.Bk:=if Lock.ZaO b.es path mode=true then b.with (b.st.add path num foot mode) else b
theorem Znb:Calls Tryz.prog 222 #[.pointer (some ⟨t,0,none⟩),.agg #[.int .i64 kind,.int .u64 num,.string foot,.int .u64 req,.string path,.int .i64 mode,.int .u64 n,.int .i64 time]] w fun r w'=>r=.returned (tryV b num foot path mode)∧At [TabP t p m ss b] w [TabP t p m ss (tryB b num foot path mode)] w':=by
 have hm:Tryz.prog.follows .mixedOrders=true:=by kernel_rfl
 have hok':=Hd hok;clear hok
 have hco:=fun(w1:World) (q:Sep [Lock.BookP b] w1)=>Lock.Zg3 (mode:=mode) q (show path.size≤1000000 by omega) (fun x hx=>⟨Nat.le_trans (hok'.out.path x hx) (by omega),hok'.out.stamp x hx⟩)
 have had:=fun(w1:World) (q:Sep [TabP t p m ss b] w1)=>add_any q kind num foot req path mode n time h0 h1 hf hp hok'.out
 have hma:=fun(w1:World) (q:Sep [Lock.BookP b] w1)=>Lock.may_any (mode:=mode) q (show path.size≤1000000 by omega) h0 h1 (show foot.size≤maxLen by unfold maxLen;omega) hok'.out.len hok'.out.ctr
 unfold tryV tryB
 obtain⟨cd,hcd⟩:∃z,Lock.ZaO b.es path mode=z:=⟨_,rfl⟩
 obtain⟨me,hme⟩:∃z,b.st.may path num foot mode=z:=⟨_,rfl⟩
 obtain⟨av,hav⟩:∃z,(if b.st.may path num foot mode=0 then ansV 0 (b.st.addE path num foot mode).n (Lock.ZaO b.es path mode) else ansV (b.st.may path num foot mode) 0 false)=z:=⟨_,rfl⟩
 simp only[hcd] at hco;rw[hav];simp only[hav] at had;simp only[hme] at hma;rw[hcd,hme];clear hcd hme
 have hav2:∃x y z,av=ansV x y z:=by rw[←hav];split<;>exact⟨_,_,_,rfl⟩
 obtain⟨a1,a2,a3,rfl⟩:=hav2;clear hav;have hco':=Hd hco;have had':=Hd had;have hma':=Hd hma;clear hco had hma;have hA:=ZbB h;clear h;obtain⟨hA,hF⟩:=fY hA
 go_enter Tryz.func222,Tryz.ntmps222
 go_upto_region 1 with(first|((with_reducible refine gbx ?_);refine wHy 27 [.int .i64 kind,.int .u64 num,.string foot,.int .u64 req,.string path,.int .i64 mode,.int .u64 n,.int .i64 time] hA ?_;clear hF hA;intro b3 w1 hA hb3 hF)|((with_reducible refine gal ?_);refine g0 hA ?_;clear hF hA;intro b4 w1 hA hb4 hF))
 try go_frame
 replace hA:=hA.drew;clear hF;refine wp_region_held (S:=fun w'=>Zaa w' t (k2 p b.p) 180∧Zaa w' b3 (k8 kind num foot req path mode n time) 27) hm ?_;change wpAnyH _ _ _ _ _ 9 _ _ (World.drew _)
 generalize World.drew _=wd at *
 have hS0:=(⟨hA.get (A:=Part.cells t (k2 p b.p) 180) sZ,hA.get (A:=Part.cells b3 (k8 kind num foot req path mode n time) 27) sZ⟩:(fun w'=>Zaa w' t (k2 p b.p) 180∧Zaa w' b3 (k8 kind num foot req path mode n time) 27) wd)
 refine tP 0 6 (.pointer (some ⟨t,0,none⟩)) (s:=hS0) (h:= ?_)
 try go_frame
 refine tP 1 7 (.pointer (some ⟨t,0,none⟩)) (s:=hS0) (h:= ?_)
 try go_frame
 refine tP 2 8 (.pointer (some ⟨t,1,none⟩)) (s:=hS0) (h:= ?_)
 try go_frame
 refine tZ 3 9 (.pointer (some ⟨b.p,0,none⟩)) (r:=(fun w' hS=>Zab (ty:=110) (b:=t) (j:=1) rfl (by exact rfl) hS.1 (by kernel_rfl) rfl)) (s:=hS0) (h:= ?_)
 try go_frame
 refine tP 4 10 (.pointer (some ⟨b3,4,none⟩)) (s:=hS0) (h:= ?_)
 try go_frame
 refine tZ 5 11 (.string path) (r:=(fun w' hS=>Zab (ty:=9) (b:=b3) (j:=4) rfl (by exact rfl) hS.2 (by kernel_rfl) rfl)) (s:=hS0) (h:= ?_)
 try go_frame
 refine tP 6 12 (.pointer (some ⟨b3,5,none⟩)) (s:=hS0) (h:= ?_)
 try go_frame
 refine tZ 7 13 (.int .i64 mode) (r:=(fun w' hS=>Zab (ty:=3) (b:=b3) (j:=5) rfl (by exact rfl) hS.2 (by kernel_rfl) rfl)) (s:=hS0) (h:= ?_)
 try go_frame
 refine Zac (i:=8) (by kernel_rfl) ?_;refine cY 8 14 260 (fun u w'=>u=.bool cd∧At [Lock.BookP b] _ [Lock.BookP b] w') ((hco'.out _ (hA.sep1 (A:=Lock.BookP b) sZ)).mono fun e w' ⟨he,hT⟩=>⟨_,he,rfl,hT⟩) ?_;rintro u w3 ⟨rfl,hT⟩;have hB:=hA.call1 (A:=Lock.BookP b) sZ hT;clear hT;simp only[uA] at hB
 refine andH ⟨hB.ci,hB.ci⟩ fun hS0=> ?_
 clear hA;have hA:=hB;clear hB
 try go_frame
 refine wpAnyH_done (by kernel_rfl) ?_ _
 try go_frame
 clear hS0;obtain⟨hA,hF⟩:=fY hA;cases cd
 · go_upto_region 3 with fail
   try go_frame
   replace hA:=hA.drew;clear hF;refine wp_region_held (S:=fun w'=>Zaa w' t (k2 p b.p) 180∧Zaa w' b3 (k8 kind num foot req path mode n time) 27) hm ?_;change wpAnyH _ _ _ _ _ 12 _ _ (World.drew _)
   generalize World.drew _=wd at *
   have hS0:=(⟨hA.get (A:=Part.cells t (k2 p b.p) 180) sZ,hA.get (A:=Part.cells b3 (k8 kind num foot req path mode n time) 27) sZ⟩:(fun w'=>Zaa w' t (k2 p b.p) 180∧Zaa w' b3 (k8 kind num foot req path mode n time) 27) wd)
   refine tP 0 18 (.pointer (some ⟨t,0,none⟩)) (s:=hS0) (h:= ?_)
   try go_frame
   refine tP 1 19 (.pointer (some ⟨t,0,none⟩)) (s:=hS0) (h:= ?_)
   try go_frame
   refine tP 2 20 (.pointer (some ⟨t,1,none⟩)) (s:=hS0) (h:= ?_)
   try go_frame
   refine tZ 3 21 (.pointer (some ⟨b.p,0,none⟩)) (r:=(fun w' hS=>Zab (ty:=110) (b:=t) (j:=1) rfl (by exact rfl) hS.1 (by kernel_rfl) rfl)) (s:=hS0) (h:= ?_)
   try go_frame
   refine tP 4 22 (.pointer (some ⟨b3,4,none⟩)) (s:=hS0) (h:= ?_)
   try go_frame
   refine tZ 5 23 (.string path) (r:=(fun w' hS=>Zab (ty:=9) (b:=b3) (j:=4) rfl (by exact rfl) hS.2 (by kernel_rfl) rfl)) (s:=hS0) (h:= ?_)
   try go_frame
   refine tP 6 24 (.pointer (some ⟨b3,1,none⟩)) (s:=hS0) (h:= ?_)
   try go_frame
   refine tZ 7 25 (.agg #[.int .u64 num,.string foot]) (r:=(fun w' hS=>Zag (ty:=25) (n:=2) (b:=b3) (j:=1) rfl (by exact rfl) hS.2 (by kernel_rfl) (by kernel_rfl) rfl rfl)) (s:=hS0) (h:= ?_)
   try go_frame
   refine tP 8 26 (.pointer (some ⟨b3,5,none⟩)) (s:=hS0) (h:= ?_)
   try go_frame
   refine tZ 9 27 (.int .i64 mode) (r:=(fun w' hS=>Zab (ty:=3) (b:=b3) (j:=5) rfl (by exact rfl) hS.2 (by kernel_rfl) rfl)) (s:=hS0) (h:= ?_)
   try go_frame
   refine Zac (i:=10) (by kernel_rfl) ?_;refine cY 10 28 262 (fun u w'=>u=.int .i64 me∧At [Lock.BookP b] _ [Lock.BookP b] w') ((hma'.out _ (hA.sep1 (A:=Lock.BookP b) sZ)).mono fun e w' ⟨he,hT⟩=>⟨_,he,rfl,hT⟩) ?_;rintro u w3 ⟨rfl,hT⟩;have hB:=hA.call1 (A:=Lock.BookP b) sZ hT;clear hT;simp only[uA] at hB
   refine andH ⟨hB.ci,hB.ci⟩ fun hS0=> ?_
   clear hA;have hA:=hB;clear hB
   try go_frame
   refine tP 11 5 (.int .i64 me) (s:=hS0) (h:= ?_)
   try go_frame
   refine wpAnyH_done (by kernel_rfl) ?_ _
   try go_frame
   clear hS0;obtain⟨hA,hF⟩:=fY hA
   by_cases hz:me=0
   · subst hz
     go_wp2_with fail
     refine(Zaz _ _).mono ?_;rintro e w1 ⟨rfl,hx⟩;replace hA:=hA.ext hx;clear hx hF
     try simp only[uA] at hA
     obtain⟨hA,hF⟩:=fY hA
     go_wp2_with ((with_reducible refine gst ?_);refine wTy hA ?_;clear hF hA;intro w1 hA hF)
     exact bodyPost_ret (v:=ansV 51 0 false) (by simp[results,Tryz.results222,go_sem,hF]) rfl ⟨by first|rfl|(rw[if_neg (by decide),if_pos rfl]),Zax (hA.pick pZ)⟩
   go_wp2_with fail
   refine(Zaz _ _).mono ?_;rintro e w1 ⟨rfl,hx⟩;replace hA:=hA.ext hx;clear hx hF
   try simp only[uA] at hA
   obtain⟨hA,hF⟩:=fY hA
   go_wp2_with ((with_reducible refine gst ?_);refine wTy hA ?_;clear hF hA;intro w1 hA hF)
   exact bodyPost_ret (v:=ansV me 0 false) (by simp[results,Tryz.results222,go_sem,hF]) rfl ⟨by first|rfl|(rw[if_neg (by decide),if_neg hz]),Zax (hA.pick pZ)⟩
 replace hA:=Zcb hA sZ sZ sZ;clear hF;obtain⟨hA,hF⟩:=fY hA
 go_wp2_with fail
 refine(had'.out _ (hA.sep1 (A:=TabP t p m ss b) sZ)).mono ?_;rintro e w1 ⟨rfl,hT⟩;replace hA:=hA.call1 (A:=TabP t p m ss b) sZ hT;clear hT hF
 try simp only[uA] at hA
 obtain⟨hA,hF⟩:=fY hA
 go_wp2_with ((with_reducible refine gst ?_);refine wTy hA ?_;clear hF hA;intro w1 hA hF)
 exact bodyPost_ret (v:=ansV a1 a2 a3) (by simp[results,Tryz.results222,go_sem,hF]) rfl ⟨by first|rfl|rw[if_pos rfl],(hA.pick pZ)⟩
end
end Tab
end
section
namespace Tab
open Go.RowKit
open Path (bl Zad overB Zaw)
open Lease (Ses Ans fresh ZaQ)
open Lock (S3 Ent)
open Cmd (Cm ZaA)
attribute [-go_sem] run_eql_struct run_neq_struct run_eqGuard_agg
def lkV (me:Int) (b:Lock.Bk) (kind num:Int) (foot path:ByteArray) (mode n:Int):Value:=if me≠0 then ansV me 0 false else if kind=4 then(if b.st.may path num foot mode=0 then ansV 0 (b.st.addE path num foot mode).n (Lock.ZaO b.es path mode) else ansV (b.st.may path num foot mode) 0 false) else if kind=5 then tryV b num foot path mode else if kind=6 then ansV (if(Lock.find b.es path num foot).isSome=true then 0 else 52) 0 false else ansV (if Zbl b.es path n=true then 0 else 52) 0 false
def lkB (me:Int) (b:Lock.Bk) (kind num:Int) (foot path:ByteArray) (mode:Int):Lock.Bk:=if me≠0 then b else if kind=4 then b.with (b.st.add path num foot mode) else if kind=5 then tryB b num foot path mode else if kind=6 then b.with (b.st.remove path num foot) else b
def mayI (ss:List Ses) (num:Int) (foot path:ByteArray):Int:=if(Lease.look ss num foot).op=false then 50 else if Zaw (bl foot) (bl path)=false then 55 else 0
section
variable {w:World} {t p m:Nat} {ss:List Ses} {b:Lock.Bk} (h:Sep [TabP t p m ss b] w) (kind num:Int) (foot:ByteArray) (req:Int) (path:ByteArray) (mode n time:Int) (h0:0≤num) (h1:num < Lock.big64) (hf:foot.size≤1000) (hp:path.size≤1000) (hok:LkOk b)
include h h0 h1 hf hp hok
theorem ZnF:Calls Tryz.prog 169 #[.pointer (some ⟨t,0,none⟩),.agg #[.int .i64 kind,.int .u64 num,.string foot,.int .u64 req,.string path,.int .i64 mode,.int .u64 n,.int .i64 time]] w fun r w'=>r=.returned (lkV (mayI ss num foot path) b kind num foot path mode n)∧At [TabP t p m ss b] w [TabP t p m ss (lkB (mayI ss num foot path) b kind num foot path mode)] w':=by
 have hm:Tryz.prog.follows .mixedOrders=true:=by kernel_rfl
 have hok':=Hd hok;clear hok
 have hmy:=fun(w1:World) (q:Sep [TabP t p m ss b] w1)=>may_any q kind num foot req path mode n time h0 h1 hf hp
 have had:=fun(w1:World) (q:Sep [TabP t p m ss b] w1)=>add_any q kind num foot req path mode n time h0 h1 hf hp hok'.out
 have htr:=fun(w1:World) (q:Sep [TabP t p m ss b] w1)=>Znb q kind num foot req path mode n time h0 h1 hf hp hok'.out
 have hrm:=fun(w1:World) (q:Sep [Lock.BookP b] w1)=>Lock.Zjl (p:=path) (n:=num) (f:=foot) q (show path.size≤maxLen by unfold maxLen;omega) h0 h1 (show foot.size≤maxLen by unfold maxLen;omega)
 have hck:=fun(w1:World) (q:Sep [Lock.BookP b] w1)=>Lock.ZkV q path n (fun x hx=>Nat.le_trans (hok'.out.path x hx) (by omega)) (hok'.out.chk path n).1 (hok'.out.chk path n).2
 obtain⟨me,hme⟩:∃z,mayI ss num foot path=z:=⟨_,rfl⟩
 have hme2:(if(Lease.look ss num foot).op=false then(50:Int) else if Zaw (bl foot) (bl path)=false then 55 else 0)=me:=hme;simp only[hme2] at hmy;rw[hme];clear hme hme2;have hmy':=Hd hmy;have had':=Hd had;have htr':=Hd htr;have hrm':=Hd hrm;have hck':=Hd hck;clear hmy had htr hrm hck;have hA:=At.start h;clear h;obtain⟨hA,hF⟩:=fY hA
 go_enter Tryz.func169,Tryz.ntmps169
 go_wp2_with (first|((with_reducible refine gbx ?_);refine wHy 27 [.int .i64 kind,.int .u64 num,.string foot,.int .u64 req,.string path,.int .i64 mode,.int .u64 n,.int .i64 time] hA ?_;clear hF hA;intro b3 w1 hA hb3 hF)|((with_reducible refine gal ?_);refine g0 hA ?_;clear hF hA;intro b4 w1 hA hb4 hF)|((with_reducible refine gst ?_);refine wTy hA ?_;clear hF hA;intro w1 hA hF)|((with_reducible refine gbx ?_);refine wCy hA ?_;clear hF hA;intro b1 w1 hA hb1 hF))
 refine(hmy'.out _ (hA.sep1 (A:=TabP t p m ss b) sZ)).mono ?_;rintro e w1 ⟨rfl,hT⟩;replace hA:=hA.call1 (A:=TabP t p m ss b) sZ hT;clear hT hF
 try simp only[uA] at hA
 obtain⟨hA,hF⟩:=fY hA
 by_cases hz:me=0
 · subst hz
   by_cases k4:kind=4
   · subst k4
     obtain⟨av,hav⟩:∃z,(if b.st.may path num foot mode=0 then ansV 0 (b.st.addE path num foot mode).n (Lock.ZaO b.es path mode) else ansV (b.st.may path num foot mode) 0 false)=z:=⟨_,rfl⟩
     have hav2:∃x y z,av=ansV x y z:=by rw[←hav];split<;>exact⟨_,_,_,rfl⟩
     obtain⟨a1,a2,a3,rfl⟩:=hav2;have had2:=had'.out;simp only[hav] at had2;have had3:=Hd had2;have hav':=Hd hav;clear had2 hav had'
     go_wp2_with (first|((with_reducible refine gst ?_);refine wTy hA ?_;clear hF hA;intro w1 hA hF)|((with_reducible refine gbx ?_);refine wCy hA ?_;clear hF hA;intro b1 w1 hA hb1 hF))
     refine(had3.out _ (hA.sep1 (A:=TabP t p m ss b) sZ)).mono ?_;rintro e w1 ⟨rfl,hT⟩;replace hA:=hA.call1 (A:=TabP t p m ss b) sZ hT;clear hT hF
     try simp only[uA] at hA
     obtain⟨hA,hF⟩:=fY hA
     go_wp2_with (first|((with_reducible refine gst ?_);refine wTy hA ?_;clear hF hA;intro w1 hA hF)|((with_reducible refine gbx ?_);refine wCy hA ?_;clear hF hA;intro b1 w1 hA hb1 hF))
     exact bodyPost_ret (v:=ansV a1 a2 a3) (by simp[results,Tryz.results169,go_sem,hF]) rfl ⟨by first|rfl|(rw[lkV,if_neg (by decide),if_pos rfl,hav'.out]),by rw[lkB,if_neg (by decide),if_pos rfl];exact hA.pick pZ⟩
   by_cases k5:kind=5
   · subst k5
     obtain⟨av,hav⟩:∃z,tryV b num foot path mode=z:=⟨_,rfl⟩
     have hav2:∃x y z,av=ansV x y z:=by rw[←hav];unfold tryV;split;(split<;>exact⟨_,_,_,rfl⟩);(split<;>exact⟨_,_,_,rfl⟩)
     obtain⟨a1,a2,a3,rfl⟩:=hav2;have had2:=htr'.out;simp only[hav] at had2;have had3:=Hd had2;have hav':=Hd hav;clear had2 hav htr'
     go_wp2_with (first|((with_reducible refine gst ?_);refine wTy hA ?_;clear hF hA;intro w1 hA hF)|((with_reducible refine gbx ?_);refine wCy hA ?_;clear hF hA;intro b1 w1 hA hb1 hF))
     refine(had3.out _ (hA.sep1 (A:=TabP t p m ss b) sZ)).mono ?_;rintro e w1 ⟨rfl,hT⟩;replace hA:=hA.call1 (A:=TabP t p m ss b) sZ hT;clear hT hF
     try simp only[uA] at hA
     obtain⟨hA,hF⟩:=fY hA
     go_wp2_with (first|((with_reducible refine gst ?_);refine wTy hA ?_;clear hF hA;intro w1 hA hF)|((with_reducible refine gbx ?_);refine wCy hA ?_;clear hF hA;intro b1 w1 hA hb1 hF))
     exact bodyPost_ret (v:=ansV a1 a2 a3) (by simp[results,Tryz.results169,go_sem,hF]) rfl ⟨by first|rfl|(rw[lkV,if_neg (by decide),if_neg (by decide),if_pos rfl,hav'.out]),by rw[lkB,if_neg (by decide),if_neg (by decide),if_pos rfl];exact hA.pick pZ⟩
   by_cases k6:kind=6
   · subst k6
     obtain⟨rc,hrc⟩:∃z,(if(Lock.find b.es path num foot).isSome=true then(0:Int) else 52)=z:=⟨_,rfl⟩
     have hrm2:=hrm'.out;simp only[hrc] at hrm2;have hrm3:=Hd hrm2;have hrc':=Hd hrc;clear hrm2 hrm' hrc;replace hA:=Zbm hA sZ;clear hF;obtain⟨hA,hF⟩:=fY hA
     go_upto_region 10 with(first|((with_reducible refine gst ?_);refine wTy hA ?_;clear hF hA;intro w1 hA hF)|((with_reducible refine gbx ?_);refine wCy hA ?_;clear hF hA;intro b1 w1 hA hb1 hF))
     try go_frame
     replace hA:=hA.drew;clear hF;refine wp_region_held (S:=fun w'=>Zaa w' t (k2 p b.p) 180∧Zaa w' b3 (k8 6 num foot req path mode n time) 27) hm ?_;change wpAnyH _ _ _ _ _ 11 _ _ (World.drew _)
     generalize World.drew _=wd at *
     have hS0:=(⟨hA.get (A:=Part.cells t (k2 p b.p) 180) sZ,hA.get (A:=Part.cells b3 (k8 6 num foot req path mode n time) 27) sZ⟩:(fun w'=>Zaa w' t (k2 p b.p) 180∧Zaa w' b3 (k8 6 num foot req path mode n time) 27) wd)
     refine tP 0 27 (.pointer (some ⟨t,0,none⟩)) (s:=hS0) (h:= ?_)
     try go_frame
     refine tP 1 28 (.pointer (some ⟨t,0,none⟩)) (s:=hS0) (h:= ?_)
     try go_frame
     refine tP 2 29 (.pointer (some ⟨t,1,none⟩)) (s:=hS0) (h:= ?_)
     try go_frame
     refine tZ 3 30 (.pointer (some ⟨b.p,0,none⟩)) (r:=(fun w' hS=>Zab (ty:=110) (b:=t) (j:=1) rfl (by exact rfl) hS.1 (by kernel_rfl) rfl)) (s:=hS0) (h:= ?_)
     try go_frame
     refine tP 4 31 (.pointer (some ⟨b3,4,none⟩)) (s:=hS0) (h:= ?_)
     try go_frame
     refine tZ 5 32 (.string path) (r:=(fun w' hS=>Zab (ty:=9) (b:=b3) (j:=4) rfl (by exact rfl) hS.2 (by kernel_rfl) rfl)) (s:=hS0) (h:= ?_)
     try go_frame
     refine tP 6 33 (.pointer (some ⟨b3,1,none⟩)) (s:=hS0) (h:= ?_)
     try go_frame
     refine tZ 7 34 (.agg #[.int .u64 num,.string foot]) (r:=(fun w' hS=>Zag (ty:=25) (n:=2) (b:=b3) (j:=1) rfl (by exact rfl) hS.2 (by kernel_rfl) (by kernel_rfl) rfl rfl)) (s:=hS0) (h:= ?_)
     try go_frame
     refine Zac (i:=8) (by kernel_rfl) ?_;refine cY 8 35 223 (fun u w'=>u=.int .i64 rc∧At [Lock.BookP b] _ [Lock.BookP (b.with (b.st.remove path num foot))] w') ((hrm3.out _ (hA.sep1 (A:=Lock.BookP b) sZ)).mono fun e w' ⟨he,hT⟩=>⟨_,he,rfl,hT⟩) ?_;rintro u w3 ⟨rfl,hT⟩;have hB:=hA.call1 (A:=Lock.BookP b) sZ hT;clear hT;simp only[uA] at hB
     refine andH ⟨hB.ci,hB.ci⟩ fun hS0=> ?_
     clear hA;have hA:=hB;clear hB
     try go_frame
     refine Zac (i:=9) (by kernel_rfl) ?_;refine cY 9 36 117 (fun u w'=>u=ansV rc 0 false∧Ext _ w') ((Zaz _ _).mono fun e w' ⟨he,hx⟩=>⟨_,he,rfl,hx⟩) ?_;rintro u w3 ⟨rfl,hx⟩;have hB:=hA.ext hx;clear hx
     refine andH ⟨hB.ci,hB.ci⟩ fun hS0=> ?_
     clear hA;have hA:=hB;clear hB
     try go_frame
     refine Zac (i:=10) (by kernel_rfl) ?_;refine stZ 10 b4 0 [.int .i64 rc,.int .u64 0,.bool false] hA ?_;intro w3 hB;simp only[uA] at hB
     refine andH ⟨hB.ci,hB.ci⟩ fun hS0=> ?_
     clear hA;have hA:=hB;clear hB
     try go_frame
     refine wpAnyH_done (by kernel_rfl) ?_ _
     try go_frame
     clear hS0;obtain⟨hA,hF⟩:=fY hA
     go_wp2_with (first|((with_reducible refine gst ?_);refine wTy hA ?_;clear hF hA;intro w1 hA hF)|((with_reducible refine gbx ?_);refine wCy hA ?_;clear hF hA;intro b1 w1 hA hb1 hF))
     exact bodyPost_ret (v:=ansV rc 0 false) (by simp[results,Tryz.results169,go_sem,hF]) rfl ⟨by rw[lkV,if_neg (by decide),if_neg (by decide),if_neg (by decide),if_pos rfl,hrc'.out],by rw[lkB,if_neg (by decide),if_neg (by decide),if_neg (by decide),if_pos rfl];exact(Zcb (b:=b.with (b.st.remove path num foot)) hA sZ sZ sZ).pick pZ⟩
   obtain⟨cb,hcb⟩:∃z,Zbl b.es path n=z:=⟨_,rfl⟩
   have hck2:=hck'.out;simp only[hcb] at hck2;have hck3:=Hd hck2;have hcb':=Hd hcb;clear hck2 hck' hcb;replace hA:=Zbm hA sZ;clear hF;obtain⟨hA,hF⟩:=fY hA
   go_upto_region 11 with(first|((with_reducible refine gst ?_);refine wTy hA ?_;clear hF hA;intro w1 hA hF)|((with_reducible refine gbx ?_);refine wCy hA ?_;clear hF hA;intro b1 w1 hA hb1 hF))
   try go_frame
   replace hA:=hA.drew;clear hF;refine wp_region_held (S:=fun w'=>Zaa w' t (k2 p b.p) 180∧Zaa w' b3 (k8 kind num foot req path mode n time) 27) hm ?_;change wpAnyH _ _ _ _ _ 10 _ _ (World.drew _)
   generalize World.drew _=wd at *
   have hS0:=(⟨hA.get (A:=Part.cells t (k2 p b.p) 180) sZ,hA.get (A:=Part.cells b3 (k8 kind num foot req path mode n time) 27) sZ⟩:(fun w'=>Zaa w' t (k2 p b.p) 180∧Zaa w' b3 (k8 kind num foot req path mode n time) 27) wd)
   refine tP 0 37 (.pointer (some ⟨t,0,none⟩)) (s:=hS0) (h:= ?_)
   try go_frame
   refine tP 1 38 (.pointer (some ⟨t,0,none⟩)) (s:=hS0) (h:= ?_)
   try go_frame
   refine tP 2 39 (.pointer (some ⟨t,1,none⟩)) (s:=hS0) (h:= ?_)
   try go_frame
   refine tZ 3 40 (.pointer (some ⟨b.p,0,none⟩)) (r:=(fun w' hS=>Zab (ty:=110) (b:=t) (j:=1) rfl (by exact rfl) hS.1 (by kernel_rfl) rfl)) (s:=hS0) (h:= ?_)
   try go_frame
   refine tP 4 41 (.pointer (some ⟨b3,4,none⟩)) (s:=hS0) (h:= ?_)
   try go_frame
   refine tZ 5 42 (.string path) (r:=(fun w' hS=>Zab (ty:=9) (b:=b3) (j:=4) rfl (by exact rfl) hS.2 (by kernel_rfl) rfl)) (s:=hS0) (h:= ?_)
   try go_frame
   refine tP 6 43 (.pointer (some ⟨b3,6,none⟩)) (s:=hS0) (h:= ?_)
   try go_frame
   refine tZ 7 44 (.int .u64 n) (r:=(fun w' hS=>Zab (ty:=23) (b:=b3) (j:=6) rfl (by exact rfl) hS.2 (by kernel_rfl) rfl)) (s:=hS0) (h:= ?_)
   try go_frame
   refine Zac (i:=8) (by kernel_rfl) ?_;refine cY 8 45 224 (fun u w'=>u=.bool cb∧At [Lock.BookP b] _ [Lock.BookP b] w') ((hck3.out _ (hA.sep1 (A:=Lock.BookP b) sZ)).mono fun e w' ⟨he,hT⟩=>⟨_,he,rfl,hT⟩) ?_;rintro u w3 ⟨rfl,hT⟩;have hB:=hA.call1 (A:=Lock.BookP b) sZ hT;clear hT;simp only[uA] at hB
   refine andH ⟨hB.ci,hB.ci⟩ fun hS0=> ?_
   clear hA;have hA:=hB;clear hB
   try go_frame
   refine tP 9 46 (.bool (!cb)) (s:=hS0) (h:= ?_)
   try go_frame
   refine wpAnyH_done (by kernel_rfl) ?_ _
   try go_frame
   clear hS0;obtain⟨hA,hF⟩:=fY hA;cases cb
   · go_wp2_with (first|((with_reducible refine gst ?_);refine wTy hA ?_;clear hF hA;intro w1 hA hF)|((with_reducible refine gbx ?_);refine wCy hA ?_;clear hF hA;intro b1 w1 hA hb1 hF))
     refine(Zaz _ _).mono ?_;rintro e w1 ⟨rfl,hx⟩;replace hA:=hA.ext hx;clear hx hF
     try simp only[uA] at hA
     obtain⟨hA,hF⟩:=fY hA
     go_wp2_with (first|((with_reducible refine gst ?_);refine wTy hA ?_;clear hF hA;intro w1 hA hF)|((with_reducible refine gbx ?_);refine wCy hA ?_;clear hF hA;intro b1 w1 hA hb1 hF))
     exact bodyPost_ret (v:=ansV 52 0 false) (by simp[results,Tryz.results169,go_sem,hF]) rfl ⟨by rw[lkV,if_neg (by decide),if_neg k4,if_neg k5,if_neg k6,hcb'.out];rfl,by rw[lkB,if_neg (by decide),if_neg k4,if_neg k5,if_neg k6];exact(Zcb hA sZ sZ sZ).pick pZ⟩
   go_wp2_with (first|((with_reducible refine gst ?_);refine wTy hA ?_;clear hF hA;intro w1 hA hF)|((with_reducible refine gbx ?_);refine wCy hA ?_;clear hF hA;intro b1 w1 hA hb1 hF))
   refine(Zaz _ _).mono ?_;rintro e w1 ⟨rfl,hx⟩;replace hA:=hA.ext hx;clear hx hF
   try simp only[uA] at hA
   obtain⟨hA,hF⟩:=fY hA
   go_wp2_with (first|((with_reducible refine gst ?_);refine wTy hA ?_;clear hF hA;intro w1 hA hF)|((with_reducible refine gbx ?_);refine wCy hA ?_;clear hF hA;intro b1 w1 hA hb1 hF))
   exact bodyPost_ret (v:=ansV 0 0 false) (by simp[results,Tryz.results169,go_sem,hF]) rfl ⟨by rw[lkV,if_neg (by decide),if_neg k4,if_neg k5,if_neg k6,hcb'.out];rfl,by rw[lkB,if_neg (by decide),if_neg k4,if_neg k5,if_neg k6];exact(Zcb hA sZ sZ sZ).pick pZ⟩
 go_wp2_with (first|((with_reducible refine gst ?_);refine wTy hA ?_;clear hF hA;intro w1 hA hF)|((with_reducible refine gbx ?_);refine wCy hA ?_;clear hF hA;intro b1 w1 hA hb1 hF))
 refine(Zaz _ _).mono ?_;rintro e w1 ⟨rfl,hx⟩;replace hA:=hA.ext hx;clear hx hF
 try simp only[uA] at hA
 obtain⟨hA,hF⟩:=fY hA
 go_wp2_with (first|((with_reducible refine gst ?_);refine wTy hA ?_;clear hF hA;intro w1 hA hF)|((with_reducible refine gbx ?_);refine wCy hA ?_;clear hF hA;intro b1 w1 hA hb1 hF))
 exact bodyPost_ret (v:=ansV me 0 false) (by simp[results,Tryz.results169,go_sem,hF]) rfl ⟨by rw[lkV,if_pos hz],by rw[lkB,if_pos hz];exact hA.pick pZ⟩
end
end Tab
end
end Go.Proofs.YtkdjkngfnapjcaaGreatDoor
