import Derived.Test.YtknoefbcmomalaaGreatDoorP14
set_option linter.unusedSimpArgs false
set_option linter.unusedVariables false
set_option maxRecDepth 100000
set_option maxHeartbeats 16000000
namespace Go.Proofs.YtknoefbcmomalaaGreatDoor
section
namespace Lock
open Go.RowKit
open Go.Maps (Keyed)
open Path (bl Zaf overB)
attribute [-go_sem] run_eql_struct run_neq_struct run_eqGuard_agg
attribute [local go_sem] ZkB eqlS
structure Kept (es cur dn:List Ent) (D:Ent→Bool):Prop where
 sub:cur.Sublist es
 kept:∀x ∈ es,x ∈ cur∨(D x=true∧x ∈ dn)
 done:∀x ∈ cur,x ∈ dn→D x=false
 inn:∀x ∈ dn,x ∈ es
 nd:dn.Nodup
theorem Kept.len {es cur dn:List Ent} {D:Ent→Bool} (h:Kept es cur dn D):dn.length≤es.length:=h.nd.length_le_of_subset (fun x hx=>h.inn x hx)
theorem Zgq {l1 l2:List Ent} {x:Ent} (h:(l1++x::l2).Nodup):x ∉ l1++l2:=(List.nodup_cons.1 (List.perm_middle.nodup h)).1
theorem Kept.next {es cur dn:List Ent} {D:Ent→Bool} (h:Kept es cur dn D) {x:Ent} (hx:x ∈ cur) (hn:x ∉ dn):(D x=false→Kept es cur (dn++[x]) D)∧
 (D x=true→∀l1 l2,cur=l1++x::l2→x ∉ l1++l2→Kept es (l1++l2) (dn++[x]) D):=by
 have hpw:(dn++[x]).Nodup:=List.nodup_append.2 ⟨h.nd,by simp,fun a ha c hc=>by rw[List.mem_singleton.1 hc];intro e;subst e;exact hn ha⟩
 have hdm:∀y ∈ dn++[x],y ∈ es:=fun y hy=>by
  rcases List.mem_append.1 hy with hy|hy
  · exact h.inn y hy
  rw[List.mem_singleton.1 hy];exact h.sub.subset hx
 constructor
 · intro hl;refine⟨h.sub,fun y hy=> ?_,fun y hy hz=> ?_,hdm,hpw⟩
   · rcases h.kept y hy with q|⟨q,r⟩
     · exact .inl q
     exact .inr ⟨q,by simp[r]⟩
   rcases List.mem_append.1 hz with hz|hz
   · exact h.done y hy hz
   rw[List.mem_singleton.1 hz];exact hl
 intro hl l1 l2 e hne;subst e;refine⟨(List.Sublist.append (List.Sublist.refl _) (List.sublist_cons_self _ _)).trans h.sub,fun y hy=> ?_,fun y hy hz=> ?_,hdm,hpw⟩
 · rcases h.kept y hy with q|⟨q,r⟩
   · by_cases hyx:y=x
     · subst hyx;exact .inr ⟨hl,by simp⟩
     left
     simp only[List.mem_append,List.mem_cons] at q ⊢;rcases q with q|q|q
     · exact .inl q
     · exact absurd q hyx
     exact .inr q
   exact .inr ⟨q,by simp[r]⟩
 rcases List.mem_append.1 hz with hz|hz
 · exact h.done y (by simp only[List.mem_append,List.mem_cons] at hy ⊢;rcases hy with hy|hy<;>simp[hy]) hz
 rw[List.mem_singleton.1 hz] at hy;exact absurd hy hne
theorem Kept.end {es cur dn:List Ent} {D:Ent→Bool} (h:Kept es cur dn D) (hnd:es.Nodup) (hall:∀x ∈ cur,x ∈ dn):cur=es.filter (fun x=> !D x):=by
 have hs:cur.Sublist (es.filter (fun x=> !D x)):=by
  have:=h.sub.filter (fun x=> !D x)
  rwa [List.filter_eq_self.2 (fun x hx=>by rw[h.done x hx (hall x hx)];rfl)] at this
 refine hs.eq_of_length ?_;refine(List.Perm.length_eq ?_);refine(List.perm_ext_iff_of_nodup (h.sub.nodup hnd) (hnd.sublist List.filter_sublist)).2 fun x=> ?_;rw[List.mem_filter];constructor
 · intro hx;exact⟨h.sub.subset hx,by rw[h.done x hx (hall x hx)];rfl⟩
 rintro⟨h1,h2⟩
 rcases h.kept x h1 with q|⟨q,_⟩
 · exact q
 rw[q] at h2;cases h2
theorem ZmE (l1 l2:List Ent) (e:Ent):ents (l1++e::l2)=ents l1++(e.key,e.val)::ents l2:=by simp[ents,ent]
theorem ZmG (l1 l2:List Ent):ents l1++ents l2=ents (l1++l2):=by simp[ents]
theorem ZgK {w:World} {bS:Nat} {n k:Int} {f p g:ByteArray} {v:List Value} (h:Sep [boxS bS n f] w) {c:Bool} (hc:decide (k=n∧g=f)=c) {c1 c2 c3 c4 c5 c6:Value}:
 Calls Tryz.prog 129 #[.agg #[.string p,.int .u64 k,.string g],.agg #[c1,c2,c3,c4,c5,c6],.pointer (some ⟨bS,0,none⟩)] w fun e w'=>e=.returned (.bool c)∧At [boxS bS n f] w [boxS bS n f] w':=by
 have hA:=At.start h;obtain⟨hA,hF⟩:=fY hA;clear h;have hc':=Hd hc;clear hc;go_enter Tryz.func129,Tryz.ntmps129
 go_wp2_with ((with_reducible refine gbx ?_);refine wCy hA ?_;clear hF hA;intro b1 w1 hA hb1 hF)
 go_ret;exact⟨by rw[←hc'.out,Bool.decide_and];rfl,hA.only1 sR⟩
abbrev iterE (r b:Nat) (cur dn:List Ent):Part:=.iterD Tryz.prog 106 r b (ents cur) (ents dn)
def DelRel (L0:List Part) (w:World) (m r bS:Nat) (n:Int) (f:ByteArray) (es:List Ent) (k:Nat) (wr:World):Prop:=
 ∃cur dn:List Ent,Kept es cur dn (·.of n f)∧dn.length + k=es.length∧At L0 w [iterE r m cur dn,boxS bS n f] wr
theorem Zog {w:World} {m bS:Nat} {n:Int} {f:ByteArray} {es:List Ent} (h:Sep [mapC m (ents es),boxS bS n f] w) (hok:∀x ∈ es,x.path.size≤maxLen∧0≤x.num∧x.num < big64∧x.foot.size≤maxLen):
 Calls Tryz.prog 128 #[.map (some m),.func (.func 129) #[] #[.pointer (some ⟨bS,0,none⟩)]] w fun e w'=>e=.returned (.tuple #[])∧At [mapC m (ents es),boxS bS n f] w [mapC m (ents (es.filter (fun x=> !x.of n f))),boxS bS n f] w':=by
 have hA:=At.start h;have hkeys:=Zhw (MapAt.keys (hA.get (A:=mapC m (ents es)) sR));have hnde:es.Nodup:=hkeys.imp (fun h e=>h (by rw[e]));obtain⟨hA,hF⟩:=fY hA;clear h hkeys;go_enter Tryz.func128,Tryz.ntmps128
 go_wp2_with (refine ZaQ rfl rfl rfl hA sR Tryz.underlying104 ?_;intro r w1 hB hr;replace hA:=hB.rangeD sR;clear hF;obtain⟨hA,hF⟩:=fY hA)
 (try go_frame);go_loopg [5] es.length (fun k _ wr=>DelRel [mapC m (ents es),boxS bS n f] w m r bS n f es k wr)
 case atStart=>exact⟨es,[],⟨List.Sublist.refl _,fun x hx=>.inl hx,fun x _ hx=>(by cases hx),nofun,List.nodup_nil⟩,by simp,hA⟩
 case round=>
  obtain⟨cur,dn,hL,hk,hB⟩:=hrel;replace hA:=hB;clear hF hB;obtain⟨hA,hF⟩:=fY hA;go_step
  go_step
  refine ZdK rfl rfl rfl hA sR (fun hp=> ?_) (fun q w1 hq hd hB=> ?_)
  · have hM:=hA.rangedD sR;have hfin:=Hd (hL.end hnde (fun x hx=>Zod (hp _ (List.mem_map.2 ⟨x,hx,rfl⟩))));clear hp hL;go_wp2_with fail;go_end0
    exact⟨rfl,by rw[←hfin.out];exact hM.only2 sR sR⟩
  obtain⟨x,hx,rfl⟩:=List.mem_map.1 hq;have hI:IterD Tryz.prog 106 w1 r m (ents cur) (ents dn++[ent x]):=hB.get (A:=Part.iterD Tryz.prog 106 r m (ents cur) (ents dn++[ent x])) sR;have hen:=hI.entry hq;have hnot:x ∉ dn:=fun q=>hd (ent x) (List.mem_map.2 ⟨x,q,rfl⟩) rfl;obtain⟨hn1,hn2⟩:=hL.next hx hnot;obtain⟨o1,o2,o3,o4⟩:=hok x (hL.sub.subset hx);obtain⟨kl,hkl⟩:=keyP o1 o2 o3 o4;have hnd:cur.Nodup:=hL.sub.nodup hnde
  have hlen:dn.length < es.length:=by
   cases hin:x.of n f with
   |false=>have:=(hn1 hin).len;simp at this;omega
   |true=>
    obtain⟨l1,l2,e⟩:=List.append_of_mem hx;have:=(hn2 hin l1 l2 e (by rw[e] at hnd;exact Zgq hnd)).len;simp at this;omega
  rw[show ents dn++[ent x]=ents (dn++[x]) by simp[ents]] at hB;clear hF hA;have hA:=hB;simp only[ent,Ent.key,keyV,Ent.val] at hen;unfold keyV at hkl;have hok':=Hd hok;clear hB hI hd hq hok o1 o2 o3 o4 hnot;have hL':=Hd hL;clear hL;obtain⟨hA,hF⟩:=fY hA
  cases hin:x.of n f with
  |false=>
   have hK:=Hd (hn1 hin);have hnde':=Hd hnde;clear hn1 hn2 hnde hnd
   go_wp2_with (first|((with_reducible refine gst ?_);refine wTy hA ?_;clear hF hA;intro w1 hA hF)|((with_reducible refine gal ?_);refine wGy 106 [.string .empty,.int .u64 0,.string .empty] hA ?_;clear hF hA;intro b1 w1 hA hb1 hF)|((with_reducible refine gal ?_);refine g6 hA ?_;clear hF hA;intro b1 w1 hA hb1 hF))
   refine(ZgK (v:=[]) (hA.sep1 (A:=boxS bS n f) sR) hin).mono ?_;rintro e w1 ⟨rfl,hT⟩;replace hA:=hA.call1 sR hT;clear hF hT;obtain⟨hA,hF⟩:=fY hA;go_wp2_with fail;go_roundg (gk - 1);case measure=>omega
   case rel=>exact⟨cur,dn++[x],hK.out,by simp;omega,hA.only2 sR sR⟩
  |true=>
   obtain⟨l1,l2,e⟩:=List.append_of_mem hx;subst e;have hK:=Hd (hn2 hin l1 l2 rfl (Zgq hnd));have hnde':=Hd hnde;clear hn1 hn2 hx hnd hnde;unfold iterE at *
   rw[ZmE] at hA;unfold Ent.key keyV at hA
   go_wp2_with (first|((with_reducible refine gst ?_);refine wTy hA ?_;clear hF hA;intro w1 hA hF)|((with_reducible refine gal ?_);refine wGy 106 [.string .empty,.int .u64 0,.string .empty] hA ?_;clear hF hA;intro b1 w1 hA hb1 hF)|((with_reducible refine gal ?_);refine g6 hA ?_;clear hF hA;intro b1 w1 hA hb1 hF))
   refine(ZgK (v:=[]) (hA.sep1 (A:=boxS bS n f) sR) hin).mono ?_;rintro e w1 ⟨rfl,hT⟩;replace hA:=hA.call1 sR hT;clear hF hT;obtain⟨hA,hF⟩:=fY hA
   go_wp2_with (refine ZcM rfl rfl rfl (by(try simp only[Act.eval,eV])<;>exact rfl) hA (k:=106) sR lawP Tryz.underlying104 hkl ?_;intro w1 hB;rw[ZmG l1 l2] at hB;replace hA:=hB;clear hF hB;obtain⟨hA,hF⟩:=fY hA)
   go_roundg (gk - 1);case measure=>omega
   case rel=>exact⟨l1++l2,dn++[x],hK.out,by simp;omega,hA.only2 sR sR⟩
theorem ZmJ {w:World} {b:Bk} (h:Sep [BookP b] w) (n:Int) (f:ByteArray) (hl:b.es.length≤1000000000) (hok:∀x ∈ b.es,x.path.size≤maxLen∧0≤x.num∧x.num < big64∧x.foot.size≤maxLen):
 Calls Tryz.prog 93 #[.pointer (some ⟨b.p,0,none⟩),.agg #[.int .u64 n,.string f]] w fun e w'=>e=.returned (.int .i64 (b.es.length - (b.st.dropAll n f).es.length))∧At [BookP b] w [BookP (b.with (b.st.dropAll n f))] w':=by
 have hA:=begin0 h;have hF:=hA.facts;have hle:(b.es.filter (fun x=> !x.of n f)).length≤b.es.length:=List.length_filter_le _ _;show Calls _ _ _ _ fun e w'=>e=.returned (.int .i64 (b.es.length - (b.es.filter (fun x=> !x.of n f)).length))∧At [BookP b] w [BookP ⟨b.p,b.m,b.c,b.first,b.es.filter (fun x=> !x.of n f),b.cs⟩] w';have hdel:=fun(w1:World) (bS:Nat) (q:Sep [mapC b.m (ents b.es),boxS bS n f] w1)=>Zog q hok;generalize b.es.filter (fun x=> !x.of n f)=es' at *
 have e1:(ents b.es).length=b.es.length:=by simp[ents]
 have e2:(ents es').length=es'.length:=by simp[ents]
 obtain⟨hA,hF⟩:=fY hA;clear h hok;go_enter Tryz.func93,Tryz.ntmps93
 go_wp2_with (first|((with_reducible refine gbx ?_);refine wCy (E:=25) hA ?_;clear hF hA;intro bS w1 hA hbS hF)|(refine Za2 (k:=106) (es:=ents b.es) rfl rfl rfl hA sR Tryz.underlying104 ?_;rw[e1]))
 refine(hdel _ bS (hA.sep2 (A:=mapC b.m (ents b.es)) (B:=boxS bS n f) sR sR)).mono ?_;clear hdel;rintro e w2 ⟨rfl,hT⟩;replace hA:=hA.call2 (A:=mapC b.m (ents b.es)) (B:=boxS bS n f) sR sR hT;clear hF hT;obtain⟨hA,hF⟩:=fY hA;have hw:IntKind.i64.wrap ((b.es.length:Int) - (es'.length:Int))=(b.es.length:Int) - (es'.length:Int):=by rw[IntKind.wrap_i64]<;>omega
 go_wp2_with (refine Za2 (k:=106) (es:=ents es') rfl rfl rfl hA sR Tryz.underlying104 ?_;rw[e2])
 go_ret;exact⟨rfl,close0 ⟨b.p,b.m,b.c,b.first,es',b.cs⟩ hA sR sR sR⟩
end Lock
end
section
namespace Tab
open Go.RowKit
open Path (bl Zaf overB Zan)
open Lease (Ses Ans fresh ZaE)
open Lock (S3 Ent)
open Cmd (Cm Zao)
attribute [-go_sem] run_eql_struct run_neq_struct run_eqGuard_agg
abbrev ansV (e n:Int) (g:Bool):Value:=.agg #[.int .i64 e,.int .u64 n,.bool g]
theorem ZaA (e:Int) (w:World):Calls Tryz.prog 58 #[.int .i64 e] w fun r w'=>r=.returned (ansV e 0 false)∧Ext w w':=by
 have hA:At [] w [] w:=At.start (L0:=[]) trivial;obtain⟨hA,hF⟩:=fY hA;go_enter Tryz.func58,Tryz.ntmps58
 go_wp2_with (first|((with_reducible refine gal ?_);refine g1 hA ?_;clear hF hA;intro b2 w1 hA hb2 hF)|((with_reducible refine gst ?_);refine wTy hA ?_;clear hF hA;intro w1 hA hF))
 exact bodyPost_ret (v:=ansV e 0 false) (by simp[results,Tryz.results58,go_sem,hF]) rfl ⟨rfl,hA.toExt⟩
theorem Zbr {L0 L F:List Part} {w0 w:World} {t p m:Nat} {ss:List Ses} {b:Lock.Bk} (h:At L0 w0 L w) (s:Sel (TabP t p m ss b) L F):At L0 w0 (headT t p b.p::Lease.BookP p m ss::Lock.BookP b::F) w:=(h.take s).to (ZcG t p m ss b F)
theorem ZcR {L0 L F G H:List Part} {w0 w:World} {t p m:Nat} {ss:List Ses} {b:Lock.Bk} (h:At L0 w0 L w) (s1:Sel (headT t p b.p) L F) (s2:Sel (Lease.BookP p m ss) F G) (s3:Sel (Lock.BookP b) G H):At L0 w0 (TabP t p m ss b::H) w:=
 (h.perm (s1.perm.trans ((s2.perm.trans (s3.perm.cons _)).cons _))).to (ZcG t p m ss b H).symm
structure LkOk (b:Lock.Bk):Prop where
 len:b.es.length≤1000000000
 ctr:∀q,0≤Lock.counter b.first b.cs q
 path:∀x ∈ b.es,x.path.size≤1000
 stamp:∀x ∈ b.es,x.stamp≤1000000000
 num:∀x ∈ b.es,0≤x.num∧x.num < Lock.big64
 foot:∀x ∈ b.es,x.foot.size≤maxLen
 chk:∀p n,(∀e ∈ b.es,e.path=p→e.n=n→Lock.ZaL b.es e=Zbm b.es p n)∧((∀e ∈ b.es,¬(e.path=p∧e.n=n))→Zbm b.es p n=false)
theorem Zjh {es:List Ent} (hn:∀a ∈ es,∀b ∈ es,a.path=b.path→a.n=b.n→a=b) (p:ByteArray) (n:Int):(∀e ∈ es,e.path=p→e.n=n→Lock.ZaL es e=Zbm es p n)∧((∀e ∈ es,¬(e.path=p∧e.n=n))→Zbm es p n=false):=by
 unfold Zbm;refine⟨fun e he e1 e2=> ?_,fun h=> ?_⟩
 · cases hc:Lock.ZaL es e with
   |true=>
    symm
    rw[List.any_eq_true];exact⟨e,he,by rw[hc,decide_eq_true ⟨e1,e2⟩];rfl⟩
   |false=>
    symm
    rw[List.any_eq_false];intro x hx q;obtain⟨q1,q2⟩:=Bool.and_eq_true_iff.1 q;have q1:=of_decide_eq_true q1;have:=hn x hx e he (q1.1.trans e1.symm) (q1.2.trans e2.symm);rw[this,hc] at q2;cases q2
 rw[List.any_eq_false];intro x hx q;exact h x hx (of_decide_eq_true (Bool.and_eq_true_iff.1 q).1)
theorem Zkc {es:List Ent} (h:es.Pairwise (fun a b=>a.path=b.path→a.n < b.n)):∀a ∈ es,∀b ∈ es,a.path=b.path→a.n=b.n→a=b:=by
 intro a ha b hb e1 e2;obtain⟨i,hi⟩:=List.mem_iff_getElem?.1 ha;obtain⟨j,hj⟩:=List.mem_iff_getElem?.1 hb;obtain⟨hi1,hi2⟩:=List.getElem?_eq_some_iff.1 hi;obtain⟨hj1,hj2⟩:=List.getElem?_eq_some_iff.1 hj;have hp:=List.pairwise_iff_getElem.1 h;rcases Nat.lt_trichotomy i j with q|q|q
 · have:=hp i j hi1 hj1 q
   rw[hi2,hj2] at this;have:=this e1;omega
 · subst q;rw[hi] at hj;exact Option.some.inj hj
 have:=hp j i hj1 hi1 q
 rw[hi2,hj2] at this;have:=this e1.symm;omega
theorem LkOk.of {b:Lock.Bk} {k:Nat} (h:Lock.Inv b.st k) (hk:k≤1000000):LkOk b:=
 ⟨by have:=h.len;simp only[Lock.Bk.st] at this;omega,fun q=>by have:=Lock.Zcu h q;have:=h.first0;simp only[Lock.Bk.st] at *;omega,fun x hx=>Nat.le_trans (h.path x hx) (by omega),fun x hx=>by have:=h.stamp1 x hx;omega,fun x hx=>⟨h.num0 x hx,h.num1 x hx⟩,fun x hx=>h.foot x hx,Zjh (Zkc (es:=b.es) h.nums)⟩
section
variable {w:World} {t p m:Nat} {ss:List Ses} {b:Lock.Bk} (h:Sep [TabP t p m ss b] w)
include h
theorem Zgw:Calls Tryz.prog 19 #[.pointer (some ⟨t,0,none⟩)] w fun e w'=>e=.returned (.pointer (some ⟨b.p,0,none⟩))∧At [TabP t p m ss b] w [TabP t p m ss b] w':=by
 have hA:=Zbf h;clear h;obtain⟨hA,hF⟩:=fY hA;go_enter Tryz.func19,Tryz.ntmps19;go_wp2_with fail;go_ret;exact⟨rfl,Zay (hA.pick pZ)⟩
theorem ZgI (num:Int) (foot:ByteArray) (e:Int) (hok:LkOk b):
 Calls Tryz.prog 54 #[.pointer (some ⟨t,0,none⟩),.agg #[.int .u64 num,.string foot],.int .i64 e] w fun r w'=>r=.returned (ansV e 0 false)∧At [TabP t p m ss b] w [TabP t p m ss (if e=0 then b.with (b.st.dropAll num foot) else b)] w':=by
 have hm:Tryz.prog.follows .mixedOrders=true:=by kernel_rfl
 have hok':=Hd hok;clear hok;by_cases he:e=0
 · subst he;rw[if_pos rfl];have hA:=Zbf h;clear h;obtain⟨hA,hF⟩:=fY hA;go_enter Tryz.func54,Tryz.ntmps54
   go_upto_region 2 with(first|((with_reducible refine gbx ?_);refine wHy 25 [.int .u64 num,.string foot] hA ?_;clear hF hA;intro b4 w1 hA hb4 hF)|((with_reducible refine gal ?_);refine g1 hA ?_;clear hF hA;intro b6 w1 hA hb6 hF))
   (try go_frame);replace hA:=hA.drew;clear hF;refine wp_region_held (S:=fun w'=>Zaa w' t (k2 p b.p) 87∧Zaa w' b4 [.int .u64 num,.string foot] 25) hm ?_;change wpAnyH _ _ _ _ _ 6 _ _ (World.drew _);generalize World.drew _=wd at *
   have hS0:=(⟨hA.get (A:=Part.cells t (k2 p b.p) 87) sZ,hA.get (A:=Part.cells b4 [.int .u64 num,.string foot] 25) sZ⟩:(fun w'=>Zaa w' t (k2 p b.p) 87∧Zaa w' b4 [.int .u64 num,.string foot] 25) wd)
   refine tP 0 9 (.pointer (some ⟨t,0,none⟩)) (s:=hS0) (h:= ?_);(try go_frame);refine tP 1 10 (.pointer (some ⟨t,0,none⟩)) (s:=hS0) (h:= ?_);(try go_frame);refine tP 2 11 (.pointer (some ⟨t,1,none⟩)) (s:=hS0) (h:= ?_);(try go_frame);refine tZ 3 12 (.pointer (some ⟨b.p,0,none⟩)) (r:=(fun w' hS=>Zae (ty:=66) (b:=t) (j:=1) rfl (by exact rfl) hS.1 (by kernel_rfl) rfl)) (s:=hS0) (h:= ?_);(try go_frame);refine tZ 4 13 (.agg #[.int .u64 num,.string foot]) (r:=(fun w' hS=>Zah (ty:=25) (n:=2) (b:=b4) (j:=0) rfl (by exact rfl) hS.2 (by kernel_rfl) (by kernel_rfl) rfl rfl)) (s:=hS0) (h:= ?_);(try go_frame);refine Zab (i:=5) (by kernel_rfl) ?_;refine cY 5 14 93 (fun u w'=>u=.int .i64 (b.es.length - (b.st.dropAll num foot).es.length)∧At [Lock.BookP b] _ [Lock.BookP (b.with (b.st.dropAll num foot))] w') ((Lock.ZmJ (hA.sep1 (A:=Lock.BookP b) sZ) num foot hok'.out.len (fun x hx=>⟨Nat.le_trans (hok'.out.path x hx) (by unfold maxLen;omega),(hok'.out.num x hx).1,(hok'.out.num x hx).2,hok'.out.foot x hx⟩)).mono fun e w' ⟨he,hT⟩=>⟨_,he,rfl,hT⟩) ?_;rintro u w3 ⟨rfl,hT⟩;have hB:=hA.call1 (A:=Lock.BookP b) sZ hT;clear hT;simp only[uA] at hB;refine andH ⟨hB.ci,hB.ci⟩ fun hS0=> ?_;replace hA:=hB;clear hB;(try go_frame);refine wpAnyH_done (by kernel_rfl) ?_ _;(try go_frame);clear hS0;obtain⟨hA,hF⟩:=fY hA;go_wp2_with fail;refine(ZaA _ _).mono ?_;rintro e w1 ⟨rfl,hx⟩;replace hA:=hA.ext hx;clear hx hF;obtain⟨hA,hF⟩:=fY hA
   go_wp2_with ((with_reducible refine gst ?_);refine wTy hA ?_;clear hF hA;intro w1 hA hF)
   exact bodyPost_ret (v:=ansV 0 0 false) (by simp[results,Tryz.results54,go_sem,hF]) rfl ⟨rfl,Zay (b:=b.with (b.st.dropAll num foot)) (hA.pick pZ)⟩
 rw[if_neg he];have hA:=Zbf h;clear h;obtain⟨hA,hF⟩:=fY hA;go_enter Tryz.func54,Tryz.ntmps54
 go_wp2_with (first|((with_reducible refine gbx ?_);refine wHy 25 [.int .u64 num,.string foot] hA ?_;clear hF hA;intro b4 w1 hA hb4 hF)|((with_reducible refine gal ?_);refine g1 hA ?_;clear hF hA;intro b6 w1 hA hb6 hF))
 refine(ZaA _ _).mono ?_;rintro e w1 ⟨rfl,hx⟩;replace hA:=hA.ext hx;clear hx hF;obtain⟨hA,hF⟩:=fY hA
 go_wp2_with ((with_reducible refine gst ?_);refine wTy hA ?_;clear hF hA;intro w1 hA hF)
 exact bodyPost_ret (v:=ansV e 0 false) (by simp[results,Tryz.results54,go_sem,hF]) rfl ⟨rfl,Zay (hA.pick pZ)⟩
theorem may_any (kind num:Int) (foot:ByteArray) (req:Int) (path:ByteArray) (mode n time:Int) (h0:0≤num) (h1:num < Lease.big64) (hf:foot.size≤1000) (hp:path.size≤1000):
 Calls Tryz.prog 133 #[.pointer (some ⟨t,0,none⟩),.agg #[.int .i64 kind,.int .u64 num,.string foot,.int .u64 req,.string path,.int .i64 mode,.int .u64 n,.int .i64 time]] w fun r w'=>r=.returned (.int .i64 (if(Lease.look ss num foot).op=false then 50 else if Zan (bl foot) (bl path)=false then 55 else 0))∧At [TabP t p m ss b] w [TabP t p m ss b] w':=by
 have hm:Tryz.prog.follows .mixedOrders=true:=by kernel_rfl
 have hin:=fun(w1:World) (q:Sep [Lease.BookP p m ss] w1)=>Lease.ZaN q h0 h1 (show foot.size≤maxLen by unfold maxLen;omega);have hab:=fun w1=>Path.Zen foot path w1 (by omega) (by omega)
 obtain⟨lk,hlk⟩:∃z,Lease.look ss num foot=z:=⟨_,rfl⟩
 obtain⟨ab,hab2⟩:∃z,Zan (bl foot) (bl path)=z:=⟨_,rfl⟩
 rw[hlk] at ⊢;simp only[hlk] at hin;rw[hab2];simp only[hab2] at hab;clear hlk hab2;obtain⟨ln,lf,lo,ld,ldl,lt,ltold,lb,ltm⟩:=lk;simp only[Lease.Ses.info] at hin;have hin':=Hd hin;clear hin;have hA:=Zbf h;clear h;obtain⟨hA,hF⟩:=fY hA;go_enter Tryz.func133,Tryz.ntmps133
 go_upto_region 1 with((with_reducible refine gbx ?_);refine wHy 43 [.int .i64 kind,.int .u64 num,.string foot,.int .u64 req,.string path,.int .i64 mode,.int .u64 n,.int .i64 time] hA ?_;clear hF hA;intro b3 w1 hA hb3 hF)
 (try go_frame);replace hA:=hA.drew;clear hF;refine wp_region_held (S:=fun w'=>Zaa w' t (k2 p b.p) 87∧Zaa w' b3 (k8 kind num foot req path mode n time) 43) hm ?_;change wpAnyH _ _ _ _ _ 10 _ _ (World.drew _);generalize World.drew _=wd at *
 have hS0:=(⟨hA.get (A:=Part.cells t (k2 p b.p) 87) sZ,hA.get (A:=Part.cells b3 (k8 kind num foot req path mode n time) 43) sZ⟩:(fun w'=>Zaa w' t (k2 p b.p) 87∧Zaa w' b3 (k8 kind num foot req path mode n time) 43) wd)
 refine tP 0 6 (.pointer (some ⟨t,0,none⟩)) (s:=hS0) (h:= ?_);(try go_frame);refine tP 1 7 (.pointer (some ⟨t,0,none⟩)) (s:=hS0) (h:= ?_);(try go_frame);refine tP 2 8 (.pointer (some ⟨t,0,none⟩)) (s:=hS0) (h:= ?_);(try go_frame);refine tZ 3 9 (.pointer (some ⟨p,0,none⟩)) (r:=(fun w' hS=>Zae (ty:=85) (b:=t) (j:=0) rfl (by exact rfl) hS.1 (by kernel_rfl) rfl)) (s:=hS0) (h:= ?_);(try go_frame);refine tP 4 10 (.pointer (some ⟨b3,1,none⟩)) (s:=hS0) (h:= ?_);(try go_frame);refine tZ 5 11 (.agg #[.int .u64 num,.string foot]) (r:=(fun w' hS=>Zah (ty:=25) (n:=2) (b:=b3) (j:=1) rfl (by exact rfl) hS.2 (by kernel_rfl) (by kernel_rfl) rfl rfl)) (s:=hS0) (h:= ?_);(try go_frame);refine Zab (i:=6) (by kernel_rfl) ?_;refine cY 6 12 81 (fun u w'=>u=.agg #[.bool lo,.bool ld,.int .i64 ldl,.int .i64 lt,.int .i64 ltold.length]∧At [Lease.BookP p m ss] _ [Lease.BookP p m ss] w') ((hin'.out _ (hA.sep1 (A:=Lease.BookP p m ss) sZ)).mono fun e w' ⟨he,hT⟩=>⟨_,he,rfl,hT⟩) ?_;rintro u w3 ⟨rfl,hT⟩;have hB:=hA.call1 (A:=Lease.BookP p m ss) sZ hT;clear hT;simp only[uA] at hB;refine andH ⟨hB.ci,hB.ci⟩ fun hS0=> ?_;replace hA:=hB;clear hB;(try go_frame);refine tP 7 13 (.bool lo) (s:=hS0) (h:= ?_);(try go_frame);refine tP 8 14 (.bool (!lo)) (s:=hS0) (h:= ?_);(try go_frame);refine tP 9 5 (.bool (!lo)) (s:=hS0) (h:= ?_);(try go_frame);refine wpAnyH_done (by kernel_rfl) ?_ _;(try go_frame);clear hS0;obtain⟨hA,hF⟩:=fY hA;cases lo
 · go_wp2_with fail;go_ret;exact⟨rfl,Zay (hA.pick pZ)⟩
 go_wp2_with fail;refine(hab _).mono ?_;rintro e w1 ⟨rfl,hx⟩;replace hA:=hA.ext hx;clear hx hF;obtain⟨hA,hF⟩:=fY hA;cases ab
 · go_wp2_with fail;go_ret;exact⟨rfl,Zay (hA.pick pZ)⟩
 go_wp2_with fail;go_ret;exact⟨rfl,Zay (hA.pick pZ)⟩
end
end Tab
end
section
namespace Tab
open Go.RowKit
open Path (bl Zaf overB Zan)
open Lease (Ses Ans fresh ZaE)
open Lock (S3 Ent)
open Cmd (Cm Zao)
attribute [-go_sem] run_eql_struct run_neq_struct run_eqGuard_agg
section
variable {w:World} {t p m:Nat} {ss:List Ses} {b:Lock.Bk} (h:Sep [TabP t p m ss b] w) (kind num:Int) (foot:ByteArray) (req:Int) (path:ByteArray) (mode n time:Int) (h0:0≤num) (h1:num < Lock.big64) (hf:foot.size≤1000) (hp:path.size≤1000) (hok:LkOk b)
include h h0 h1 hf hp hok
theorem add_any:Calls Tryz.prog 134 #[.pointer (some ⟨t,0,none⟩),.agg #[.int .i64 kind,.int .u64 num,.string foot,.int .u64 req,.string path,.int .i64 mode,.int .u64 n,.int .i64 time]] w fun r w'=>r=.returned (if b.st.may path num foot mode=0 then ansV 0 (b.st.addE path num foot mode).n (Lock.ZaC b.es path mode) else ansV (b.st.may path num foot mode) 0 false)∧At [TabP t p m ss b] w [TabP t p m ss (b.with (b.st.add path num foot mode))] w':=by
 have hm:Tryz.prog.follows .mixedOrders=true:=by kernel_rfl
 have hok':=Hd hok;clear hok;have hco:=fun(w1:World) (q:Sep [Lock.BookP b] w1)=>Lock.ZgO (mode:=mode) q (show path.size≤1000000 by omega) (fun x hx=>⟨Nat.le_trans (hok'.out.path x hx) (by omega),hok'.out.stamp x hx⟩);have had:=fun(w1:World) (q:Sep [Lock.BookP b] w1)=>Lock.add_any (mode:=mode) q (show path.size≤1000000 by omega) h0 h1 (show foot.size≤maxLen by unfold maxLen;omega) hok'.out.len hok'.out.ctr (fun x hx=>⟨Nat.le_trans (hok'.out.path x hx) (by omega),hok'.out.stamp x hx⟩)
 obtain⟨cd,hcd⟩:∃z,Lock.ZaC b.es path mode=z:=⟨_,rfl⟩
 obtain⟨me,hme⟩:∃z,b.st.may path num foot mode=z:=⟨_,rfl⟩
 obtain⟨ae,hae⟩:∃z,b.st.addE path num foot mode=z:=⟨_,rfl⟩
 simp only[hcd] at hco;simp only[hme,hae] at had;rw[hcd,hme,hae];clear hcd hme hae;obtain⟨ep,en,ef,em,enn,est⟩:=ae;simp only[Lock.Ent.val] at had;have hco':=Hd hco;have had':=Hd had;clear hco had;have hA:=Zbf h;clear h;obtain⟨hA,hF⟩:=fY hA;go_enter Tryz.func134,Tryz.ntmps134
 go_upto_region 1 with(first|((with_reducible refine gbx ?_);refine wHy 43 [.int .i64 kind,.int .u64 num,.string foot,.int .u64 req,.string path,.int .i64 mode,.int .u64 n,.int .i64 time] hA ?_;clear hF hA;intro b3 w1 hA hb3 hF)|((with_reducible refine gal ?_);refine g1 hA ?_;clear hF hA;intro b4 w1 hA hb4 hF))
 (try go_frame);replace hA:=hA.drew;clear hF;refine wp_region_held (S:=fun w'=>Zaa w' t (k2 p b.p) 87∧Zaa w' b3 (k8 kind num foot req path mode n time) 43) hm ?_;change wpAnyH _ _ _ _ _ 10 _ _ (World.drew _);generalize World.drew _=wd at *
 have hS0:=(⟨hA.get (A:=Part.cells t (k2 p b.p) 87) sZ,hA.get (A:=Part.cells b3 (k8 kind num foot req path mode n time) 43) sZ⟩:(fun w'=>Zaa w' t (k2 p b.p) 87∧Zaa w' b3 (k8 kind num foot req path mode n time) 43) wd)
 refine tP 0 8 (.pointer (some ⟨t,0,none⟩)) (s:=hS0) (h:= ?_);(try go_frame);refine tP 1 9 (.pointer (some ⟨t,0,none⟩)) (s:=hS0) (h:= ?_);(try go_frame);refine tP 2 10 (.pointer (some ⟨t,1,none⟩)) (s:=hS0) (h:= ?_);(try go_frame);refine tZ 3 11 (.pointer (some ⟨b.p,0,none⟩)) (r:=(fun w' hS=>Zae (ty:=66) (b:=t) (j:=1) rfl (by exact rfl) hS.1 (by kernel_rfl) rfl)) (s:=hS0) (h:= ?_);(try go_frame);refine tP 4 12 (.pointer (some ⟨b3,4,none⟩)) (s:=hS0) (h:= ?_);(try go_frame);refine tZ 5 13 (.string path) (r:=(fun w' hS=>Zae (ty:=9) (b:=b3) (j:=4) rfl (by exact rfl) hS.2 (by kernel_rfl) rfl)) (s:=hS0) (h:= ?_);(try go_frame);refine tP 6 14 (.pointer (some ⟨b3,5,none⟩)) (s:=hS0) (h:= ?_);(try go_frame);refine tZ 7 15 (.int .i64 mode) (r:=(fun w' hS=>Zae (ty:=3) (b:=b3) (j:=5) rfl (by exact rfl) hS.2 (by kernel_rfl) rfl)) (s:=hS0) (h:= ?_);(try go_frame);refine Zab (i:=8) (by kernel_rfl) ?_;refine cY 8 16 159 (fun u w'=>u=.bool cd∧At [Lock.BookP b] _ [Lock.BookP b] w') ((hco'.out _ (hA.sep1 (A:=Lock.BookP b) sZ)).mono fun e w' ⟨he,hT⟩=>⟨_,he,rfl,hT⟩) ?_;rintro u w3 ⟨rfl,hT⟩;have hB:=hA.call1 (A:=Lock.BookP b) sZ hT;clear hT;simp only[uA] at hB;refine andH ⟨hB.ci,hB.ci⟩ fun hS0=> ?_;replace hA:=hB;clear hB;(try go_frame);refine tP 9 5 (.bool cd) (s:=hS0) (h:= ?_);(try go_frame);refine wpAnyH_done (by kernel_rfl) ?_ _;(try go_frame);clear hS0;obtain⟨hA,hF⟩:=fY hA;go_upto_region 2 with fail
 (try go_frame);replace hA:=hA.drew;clear hF;refine wp_region_held (S:=fun w'=>Zaa w' t (k2 p b.p) 87∧Zaa w' b3 (k8 kind num foot req path mode n time) 43) hm ?_;change wpAnyH _ _ _ _ _ 17 _ _ (World.drew _);generalize World.drew _=wd at *
 have hS0:=(⟨hA.get (A:=Part.cells t (k2 p b.p) 87) sZ,hA.get (A:=Part.cells b3 (k8 kind num foot req path mode n time) 43) sZ⟩:(fun w'=>Zaa w' t (k2 p b.p) 87∧Zaa w' b3 (k8 kind num foot req path mode n time) 43) wd)
 refine tP 0 18 (.pointer (some ⟨t,0,none⟩)) (s:=hS0) (h:= ?_);(try go_frame);refine tP 1 19 (.pointer (some ⟨t,0,none⟩)) (s:=hS0) (h:= ?_);(try go_frame);refine tP 2 20 (.pointer (some ⟨t,1,none⟩)) (s:=hS0) (h:= ?_);(try go_frame);refine tZ 3 21 (.pointer (some ⟨b.p,0,none⟩)) (r:=(fun w' hS=>Zae (ty:=66) (b:=t) (j:=1) rfl (by exact rfl) hS.1 (by kernel_rfl) rfl)) (s:=hS0) (h:= ?_);(try go_frame);refine tP 4 22 (.pointer (some ⟨b3,4,none⟩)) (s:=hS0) (h:= ?_);(try go_frame);refine tZ 5 23 (.string path) (r:=(fun w' hS=>Zae (ty:=9) (b:=b3) (j:=4) rfl (by exact rfl) hS.2 (by kernel_rfl) rfl)) (s:=hS0) (h:= ?_);(try go_frame);refine tP 6 24 (.pointer (some ⟨b3,1,none⟩)) (s:=hS0) (h:= ?_);(try go_frame);refine tZ 7 25 (.agg #[.int .u64 num,.string foot]) (r:=(fun w' hS=>Zah (ty:=25) (n:=2) (b:=b3) (j:=1) rfl (by exact rfl) hS.2 (by kernel_rfl) (by kernel_rfl) rfl rfl)) (s:=hS0) (h:= ?_);(try go_frame);refine tP 8 26 (.pointer (some ⟨b3,5,none⟩)) (s:=hS0) (h:= ?_);(try go_frame);refine tZ 9 27 (.int .i64 mode) (r:=(fun w' hS=>Zae (ty:=3) (b:=b3) (j:=5) rfl (by exact rfl) hS.2 (by kernel_rfl) rfl)) (s:=hS0) (h:= ?_);(try go_frame);refine ZaY (i:=10) (j:=14) (by kernel_rfl) ?_ ?_
 · skip;refine cY 10 28 160 (fun u w'=>u=.tuple #[.agg #[.string ep,.int .u64 en,.string ef,.int .i64 em,.int .u64 enn,.int .i64 est],.int .i64 me]∧At [Lock.BookP b] _ [Lock.BookP (b.with (b.st.add path num foot mode))] w') ((had'.out _ (hA.sep1 (A:=Lock.BookP b) sZ)).mono fun e w' ⟨he,hT⟩=>⟨_,he,rfl,hT⟩) ?_;rintro u w3 ⟨rfl,hT⟩;have hB:=hA.call1 (A:=Lock.BookP b) sZ hT;clear hT;simp only[uA] at hB;refine andH ⟨hB.ci,hB.ci⟩ fun hS0=> ?_;replace hA:=hB;clear hB;(try go_frame);refine tP 11 17 (.tuple #[.agg #[.string ep,.int .u64 en,.string ef,.int .i64 em,.int .u64 enn,.int .i64 est],.int .i64 me]) (s:=hS0) (h:= ?_);(try go_frame);refine tP 12 29 (.agg #[.string ep,.int .u64 en,.string ef,.int .i64 em,.int .u64 enn,.int .i64 est]) (s:=hS0) (h:= ?_);(try go_frame);refine tP 13 30 (.int .i64 me) (s:=hS0) (h:= ?_);(try go_frame);refine Zab (i:=14) (by kernel_rfl) ?_;refine aZ 14 6 55 [.string .empty,.int .u64 0,.string .empty,.int .i64 0,.int .u64 0,.int .i64 0] hA ?_;intro b6 w3 hB;refine andH ⟨hB.ci,hB.ci⟩ fun hS0=> ?_;replace hA:=hB;clear hB;(try go_frame);refine Zab (i:=15) (by kernel_rfl) ?_;refine stZ 15 b6 0 [.string ep,.int .u64 en,.string ef,.int .i64 em,.int .u64 enn,.int .i64 est] hA ?_;intro w3 hB;simp only[uA] at hB;refine andH ⟨hB.ci,hB.ci⟩ fun hS0=> ?_;replace hA:=hB;clear hB;(try go_frame);refine tP 16 7 (.int .i64 me) (s:=hS0) (h:= ?_);(try go_frame);refine wpAnyH_done (by kernel_rfl) ?_ _;(try go_frame);clear hS0;obtain⟨hA,hF⟩:=fY hA;by_cases hz:me=0
   · subst hz
     go_wp2_with ((with_reducible refine gst ?_);refine wTy hA ?_;clear hF hA;intro w1 hA hF)
     exact bodyPost_ret (v:=ansV 0 enn cd) (by simp[results,Tryz.results134,go_sem,hF]) rfl ⟨by first|rfl|rw[if_pos rfl],Zay (b:=b.with (b.st.add path num foot mode)) (hA.pick pZ)⟩
   go_wp2_with fail;refine(ZaA _ _).mono ?_;rintro e w1 ⟨rfl,hx⟩;replace hA:=hA.ext hx;clear hx hF;obtain⟨hA,hF⟩:=fY hA
   go_wp2_with ((with_reducible refine gst ?_);refine wTy hA ?_;clear hF hA;intro w1 hA hF)
   exact bodyPost_ret (v:=ansV me 0 false) (by simp[results,Tryz.results134,go_sem,hF]) rfl ⟨by first|rfl|rw[if_neg hz],Zay (b:=b.with (b.st.add path num foot mode)) (hA.pick pZ)⟩
 skip;refine aZ 14 6 55 [.string .empty,.int .u64 0,.string .empty,.int .i64 0,.int .u64 0,.int .i64 0] hA ?_;intro b6 w3 hB;refine andH ⟨hB.ci,hB.ci⟩ fun hS0=> ?_;replace hA:=hB;clear hB;(try go_frame);refine Zab (i:=10) (by kernel_rfl) ?_;refine cY 10 28 160 (fun u w'=>u=.tuple #[.agg #[.string ep,.int .u64 en,.string ef,.int .i64 em,.int .u64 enn,.int .i64 est],.int .i64 me]∧At [Lock.BookP b] _ [Lock.BookP (b.with (b.st.add path num foot mode))] w') ((had'.out _ (hA.sep1 (A:=Lock.BookP b) sZ)).mono fun e w' ⟨he,hT⟩=>⟨_,he,rfl,hT⟩) ?_;rintro u w3 ⟨rfl,hT⟩;have hB:=hA.call1 (A:=Lock.BookP b) sZ hT;clear hT;simp only[uA] at hB;refine andH ⟨hB.ci,hB.ci⟩ fun hS0=> ?_;replace hA:=hB;clear hB;(try go_frame);refine tP 11 17 (.tuple #[.agg #[.string ep,.int .u64 en,.string ef,.int .i64 em,.int .u64 enn,.int .i64 est],.int .i64 me]) (s:=hS0) (h:= ?_);(try go_frame);refine tP 12 29 (.agg #[.string ep,.int .u64 en,.string ef,.int .i64 em,.int .u64 enn,.int .i64 est]) (s:=hS0) (h:= ?_);(try go_frame);refine tP 13 30 (.int .i64 me) (s:=hS0) (h:= ?_);(try go_frame);refine Zab (i:=15) (by kernel_rfl) ?_;refine stZ 15 b6 0 [.string ep,.int .u64 en,.string ef,.int .i64 em,.int .u64 enn,.int .i64 est] hA ?_;intro w3 hB;simp only[uA] at hB;refine andH ⟨hB.ci,hB.ci⟩ fun hS0=> ?_;replace hA:=hB;clear hB;(try go_frame);refine tP 16 7 (.int .i64 me) (s:=hS0) (h:= ?_);(try go_frame);refine wpAnyH_done (by kernel_rfl) ?_ _;(try go_frame);clear hS0;obtain⟨hA,hF⟩:=fY hA;by_cases hz:me=0
 · subst hz
   go_wp2_with ((with_reducible refine gst ?_);refine wTy hA ?_;clear hF hA;intro w1 hA hF)
   exact bodyPost_ret (v:=ansV 0 enn cd) (by simp[results,Tryz.results134,go_sem,hF]) rfl ⟨by first|rfl|rw[if_pos rfl],Zay (b:=b.with (b.st.add path num foot mode)) (hA.pick pZ)⟩
 go_wp2_with fail;refine(ZaA _ _).mono ?_;rintro e w1 ⟨rfl,hx⟩;replace hA:=hA.ext hx;clear hx hF;obtain⟨hA,hF⟩:=fY hA
 go_wp2_with ((with_reducible refine gst ?_);refine wTy hA ?_;clear hF hA;intro w1 hA hF)
 exact bodyPost_ret (v:=ansV me 0 false) (by simp[results,Tryz.results134,go_sem,hF]) rfl ⟨by first|rfl|rw[if_neg hz],Zay (b:=b.with (b.st.add path num foot mode)) (hA.pick pZ)⟩
def tryV (b:Lock.Bk) (num:Int) (foot path:ByteArray) (mode:Int):Value:=if Lock.ZaC b.es path mode=true then(if b.st.may path num foot mode=0 then ansV 0 (b.st.addE path num foot mode).n (Lock.ZaC b.es path mode) else ansV (b.st.may path num foot mode) 0 false) else if b.st.may path num foot mode=0 then ansV 51 0 false else ansV (b.st.may path num foot mode) 0 false
def tryB (b:Lock.Bk) (num:Int) (foot path:ByteArray) (mode:Int):Lock.Bk:=if Lock.ZaC b.es path mode=true then b.with (b.st.add path num foot mode) else b
theorem Zns:Calls Tryz.prog 135 #[.pointer (some ⟨t,0,none⟩),.agg #[.int .i64 kind,.int .u64 num,.string foot,.int .u64 req,.string path,.int .i64 mode,.int .u64 n,.int .i64 time]] w fun r w'=>r=.returned (tryV b num foot path mode)∧At [TabP t p m ss b] w [TabP t p m ss (tryB b num foot path mode)] w':=by
 have hm:Tryz.prog.follows .mixedOrders=true:=by kernel_rfl
 have hok':=Hd hok;clear hok;have hco:=fun(w1:World) (q:Sep [Lock.BookP b] w1)=>Lock.ZgO (mode:=mode) q (show path.size≤1000000 by omega) (fun x hx=>⟨Nat.le_trans (hok'.out.path x hx) (by omega),hok'.out.stamp x hx⟩);have had:=fun(w1:World) (q:Sep [TabP t p m ss b] w1)=>add_any q kind num foot req path mode n time h0 h1 hf hp hok'.out;have hma:=fun(w1:World) (q:Sep [Lock.BookP b] w1)=>Lock.may_any (mode:=mode) q (show path.size≤1000000 by omega) h0 h1 (show foot.size≤maxLen by unfold maxLen;omega) hok'.out.len hok'.out.ctr;unfold tryV tryB
 obtain⟨cd,hcd⟩:∃z,Lock.ZaC b.es path mode=z:=⟨_,rfl⟩
 obtain⟨me,hme⟩:∃z,b.st.may path num foot mode=z:=⟨_,rfl⟩
 obtain⟨av,hav⟩:∃z,(if b.st.may path num foot mode=0 then ansV 0 (b.st.addE path num foot mode).n (Lock.ZaC b.es path mode) else ansV (b.st.may path num foot mode) 0 false)=z:=⟨_,rfl⟩
 simp only[hcd] at hco;rw[hav];simp only[hav] at had;simp only[hme] at hma;rw[hcd,hme];clear hcd hme;have hav2:∃x y z,av=ansV x y z:=by rw[←hav];split<;>exact⟨_,_,_,rfl⟩
 obtain⟨a1,a2,a3,rfl⟩:=hav2;clear hav;have hco':=Hd hco;have had':=Hd had;have hma':=Hd hma;clear hco had hma;have hA:=Zbf h;clear h;obtain⟨hA,hF⟩:=fY hA;go_enter Tryz.func135,Tryz.ntmps135
 go_upto_region 1 with(first|((with_reducible refine gbx ?_);refine wHy 43 [.int .i64 kind,.int .u64 num,.string foot,.int .u64 req,.string path,.int .i64 mode,.int .u64 n,.int .i64 time] hA ?_;clear hF hA;intro b3 w1 hA hb3 hF)|((with_reducible refine gal ?_);refine g1 hA ?_;clear hF hA;intro b4 w1 hA hb4 hF))
 (try go_frame);replace hA:=hA.drew;clear hF;refine wp_region_held (S:=fun w'=>Zaa w' t (k2 p b.p) 87∧Zaa w' b3 (k8 kind num foot req path mode n time) 43) hm ?_;change wpAnyH _ _ _ _ _ 9 _ _ (World.drew _);generalize World.drew _=wd at *
 have hS0:=(⟨hA.get (A:=Part.cells t (k2 p b.p) 87) sZ,hA.get (A:=Part.cells b3 (k8 kind num foot req path mode n time) 43) sZ⟩:(fun w'=>Zaa w' t (k2 p b.p) 87∧Zaa w' b3 (k8 kind num foot req path mode n time) 43) wd)
 refine tP 0 6 (.pointer (some ⟨t,0,none⟩)) (s:=hS0) (h:= ?_);(try go_frame);refine tP 1 7 (.pointer (some ⟨t,0,none⟩)) (s:=hS0) (h:= ?_);(try go_frame);refine tP 2 8 (.pointer (some ⟨t,1,none⟩)) (s:=hS0) (h:= ?_);(try go_frame);refine tZ 3 9 (.pointer (some ⟨b.p,0,none⟩)) (r:=(fun w' hS=>Zae (ty:=66) (b:=t) (j:=1) rfl (by exact rfl) hS.1 (by kernel_rfl) rfl)) (s:=hS0) (h:= ?_);(try go_frame);refine tP 4 10 (.pointer (some ⟨b3,4,none⟩)) (s:=hS0) (h:= ?_);(try go_frame);refine tZ 5 11 (.string path) (r:=(fun w' hS=>Zae (ty:=9) (b:=b3) (j:=4) rfl (by exact rfl) hS.2 (by kernel_rfl) rfl)) (s:=hS0) (h:= ?_);(try go_frame);refine tP 6 12 (.pointer (some ⟨b3,5,none⟩)) (s:=hS0) (h:= ?_);(try go_frame);refine tZ 7 13 (.int .i64 mode) (r:=(fun w' hS=>Zae (ty:=3) (b:=b3) (j:=5) rfl (by exact rfl) hS.2 (by kernel_rfl) rfl)) (s:=hS0) (h:= ?_);(try go_frame);refine Zab (i:=8) (by kernel_rfl) ?_;refine cY 8 14 159 (fun u w'=>u=.bool cd∧At [Lock.BookP b] _ [Lock.BookP b] w') ((hco'.out _ (hA.sep1 (A:=Lock.BookP b) sZ)).mono fun e w' ⟨he,hT⟩=>⟨_,he,rfl,hT⟩) ?_;rintro u w3 ⟨rfl,hT⟩;have hB:=hA.call1 (A:=Lock.BookP b) sZ hT;clear hT;simp only[uA] at hB;refine andH ⟨hB.ci,hB.ci⟩ fun hS0=> ?_;replace hA:=hB;clear hB;(try go_frame);refine wpAnyH_done (by kernel_rfl) ?_ _;(try go_frame);clear hS0;obtain⟨hA,hF⟩:=fY hA;cases cd
 · go_upto_region 3 with fail
   (try go_frame);replace hA:=hA.drew;clear hF;refine wp_region_held (S:=fun w'=>Zaa w' t (k2 p b.p) 87∧Zaa w' b3 (k8 kind num foot req path mode n time) 43) hm ?_;change wpAnyH _ _ _ _ _ 12 _ _ (World.drew _);generalize World.drew _=wd at *
   have hS0:=(⟨hA.get (A:=Part.cells t (k2 p b.p) 87) sZ,hA.get (A:=Part.cells b3 (k8 kind num foot req path mode n time) 43) sZ⟩:(fun w'=>Zaa w' t (k2 p b.p) 87∧Zaa w' b3 (k8 kind num foot req path mode n time) 43) wd)
   refine tP 0 18 (.pointer (some ⟨t,0,none⟩)) (s:=hS0) (h:= ?_);(try go_frame);refine tP 1 19 (.pointer (some ⟨t,0,none⟩)) (s:=hS0) (h:= ?_);(try go_frame);refine tP 2 20 (.pointer (some ⟨t,1,none⟩)) (s:=hS0) (h:= ?_);(try go_frame);refine tZ 3 21 (.pointer (some ⟨b.p,0,none⟩)) (r:=(fun w' hS=>Zae (ty:=66) (b:=t) (j:=1) rfl (by exact rfl) hS.1 (by kernel_rfl) rfl)) (s:=hS0) (h:= ?_);(try go_frame);refine tP 4 22 (.pointer (some ⟨b3,4,none⟩)) (s:=hS0) (h:= ?_);(try go_frame);refine tZ 5 23 (.string path) (r:=(fun w' hS=>Zae (ty:=9) (b:=b3) (j:=4) rfl (by exact rfl) hS.2 (by kernel_rfl) rfl)) (s:=hS0) (h:= ?_);(try go_frame);refine tP 6 24 (.pointer (some ⟨b3,1,none⟩)) (s:=hS0) (h:= ?_);(try go_frame);refine tZ 7 25 (.agg #[.int .u64 num,.string foot]) (r:=(fun w' hS=>Zah (ty:=25) (n:=2) (b:=b3) (j:=1) rfl (by exact rfl) hS.2 (by kernel_rfl) (by kernel_rfl) rfl rfl)) (s:=hS0) (h:= ?_);(try go_frame);refine tP 8 26 (.pointer (some ⟨b3,5,none⟩)) (s:=hS0) (h:= ?_);(try go_frame);refine tZ 9 27 (.int .i64 mode) (r:=(fun w' hS=>Zae (ty:=3) (b:=b3) (j:=5) rfl (by exact rfl) hS.2 (by kernel_rfl) rfl)) (s:=hS0) (h:= ?_);(try go_frame);refine Zab (i:=10) (by kernel_rfl) ?_;refine cY 10 28 161 (fun u w'=>u=.int .i64 me∧At [Lock.BookP b] _ [Lock.BookP b] w') ((hma'.out _ (hA.sep1 (A:=Lock.BookP b) sZ)).mono fun e w' ⟨he,hT⟩=>⟨_,he,rfl,hT⟩) ?_;rintro u w3 ⟨rfl,hT⟩;have hB:=hA.call1 (A:=Lock.BookP b) sZ hT;clear hT;simp only[uA] at hB;refine andH ⟨hB.ci,hB.ci⟩ fun hS0=> ?_;replace hA:=hB;clear hB;(try go_frame);refine tP 11 5 (.int .i64 me) (s:=hS0) (h:= ?_);(try go_frame);refine wpAnyH_done (by kernel_rfl) ?_ _;(try go_frame);clear hS0;obtain⟨hA,hF⟩:=fY hA;by_cases hz:me=0
   · subst hz;go_wp2_with fail;refine(ZaA _ _).mono ?_;rintro e w1 ⟨rfl,hx⟩;replace hA:=hA.ext hx;clear hx hF;obtain⟨hA,hF⟩:=fY hA
     go_wp2_with ((with_reducible refine gst ?_);refine wTy hA ?_;clear hF hA;intro w1 hA hF)
     exact bodyPost_ret (v:=ansV 51 0 false) (by simp[results,Tryz.results135,go_sem,hF]) rfl ⟨by first|rfl|(rw[if_neg (by decide),if_pos rfl]),Zay (hA.pick pZ)⟩
   go_wp2_with fail;refine(ZaA _ _).mono ?_;rintro e w1 ⟨rfl,hx⟩;replace hA:=hA.ext hx;clear hx hF;obtain⟨hA,hF⟩:=fY hA
   go_wp2_with ((with_reducible refine gst ?_);refine wTy hA ?_;clear hF hA;intro w1 hA hF)
   exact bodyPost_ret (v:=ansV me 0 false) (by simp[results,Tryz.results135,go_sem,hF]) rfl ⟨by first|rfl|(rw[if_neg (by decide),if_neg hz]),Zay (hA.pick pZ)⟩
 replace hA:=ZcR hA sZ sZ sZ;clear hF;obtain⟨hA,hF⟩:=fY hA;go_wp2_with fail;refine(had'.out _ (hA.sep1 (A:=TabP t p m ss b) sZ)).mono ?_;rintro e w1 ⟨rfl,hT⟩;replace hA:=hA.call1 (A:=TabP t p m ss b) sZ hT;clear hT hF;obtain⟨hA,hF⟩:=fY hA
 go_wp2_with ((with_reducible refine gst ?_);refine wTy hA ?_;clear hF hA;intro w1 hA hF)
 exact bodyPost_ret (v:=ansV a1 a2 a3) (by simp[results,Tryz.results135,go_sem,hF]) rfl ⟨by first|rfl|rw[if_pos rfl],(hA.pick pZ)⟩
end
end Tab
end
section
namespace Tab
open Go.RowKit
open Path (bl Zaf overB Zan)
open Lease (Ses Ans fresh ZaE)
open Lock (S3 Ent)
open Cmd (Cm Zao)
attribute [-go_sem] run_eql_struct run_neq_struct run_eqGuard_agg
def lkV (me:Int) (b:Lock.Bk) (kind num:Int) (foot path:ByteArray) (mode n:Int):Value:=if me≠0 then ansV me 0 false else if kind=4 then(if b.st.may path num foot mode=0 then ansV 0 (b.st.addE path num foot mode).n (Lock.ZaC b.es path mode) else ansV (b.st.may path num foot mode) 0 false) else if kind=5 then tryV b num foot path mode else if kind=6 then ansV (if(Lock.find b.es path num foot).isSome=true then 0 else 52) 0 false else ansV (if Zbm b.es path n=true then 0 else 52) 0 false
def lkB (me:Int) (b:Lock.Bk) (kind num:Int) (foot path:ByteArray) (mode:Int):Lock.Bk:=if me≠0 then b else if kind=4 then b.with (b.st.add path num foot mode) else if kind=5 then tryB b num foot path mode else if kind=6 then b.with (b.st.remove path num foot) else b
def mayI (ss:List Ses) (num:Int) (foot path:ByteArray):Int:=if(Lease.look ss num foot).op=false then 50 else if Zan (bl foot) (bl path)=false then 55 else 0
section
variable {w:World} {t p m:Nat} {ss:List Ses} {b:Lock.Bk} (h:Sep [TabP t p m ss b] w) (kind num:Int) (foot:ByteArray) (req:Int) (path:ByteArray) (mode n time:Int) (h0:0≤num) (h1:num < Lock.big64) (hf:foot.size≤1000) (hp:path.size≤1000) (hok:LkOk b)
include h h0 h1 hf hp hok
theorem ZnX:Calls Tryz.prog 97 #[.pointer (some ⟨t,0,none⟩),.agg #[.int .i64 kind,.int .u64 num,.string foot,.int .u64 req,.string path,.int .i64 mode,.int .u64 n,.int .i64 time]] w fun r w'=>r=.returned (lkV (mayI ss num foot path) b kind num foot path mode n)∧At [TabP t p m ss b] w [TabP t p m ss (lkB (mayI ss num foot path) b kind num foot path mode)] w':=by
 have hm:Tryz.prog.follows .mixedOrders=true:=by kernel_rfl
 have hok':=Hd hok;clear hok;have hmy:=fun(w1:World) (q:Sep [TabP t p m ss b] w1)=>may_any q kind num foot req path mode n time h0 h1 hf hp;have had:=fun(w1:World) (q:Sep [TabP t p m ss b] w1)=>add_any q kind num foot req path mode n time h0 h1 hf hp hok'.out;have htr:=fun(w1:World) (q:Sep [TabP t p m ss b] w1)=>Zns q kind num foot req path mode n time h0 h1 hf hp hok'.out;have hrm:=fun(w1:World) (q:Sep [Lock.BookP b] w1)=>Lock.ZiS (p:=path) (n:=num) (f:=foot) q (show path.size≤maxLen by unfold maxLen;omega) h0 h1 (show foot.size≤maxLen by unfold maxLen;omega);have hck:=fun(w1:World) (q:Sep [Lock.BookP b] w1)=>Lock.Zk4 q path n (fun x hx=>Nat.le_trans (hok'.out.path x hx) (by omega)) (hok'.out.chk path n).1 (hok'.out.chk path n).2
 obtain⟨me,hme⟩:∃z,mayI ss num foot path=z:=⟨_,rfl⟩
 have hme2:(if(Lease.look ss num foot).op=false then(50:Int) else if Zan (bl foot) (bl path)=false then 55 else 0)=me:=hme;simp only[hme2] at hmy;rw[hme];clear hme hme2;have hmy':=Hd hmy;have had':=Hd had;have htr':=Hd htr;have hrm':=Hd hrm;have hck':=Hd hck;clear hmy had htr hrm hck;have hA:=At.start h;clear h;obtain⟨hA,hF⟩:=fY hA;go_enter Tryz.func97,Tryz.ntmps97
 go_wp2_with (first|((with_reducible refine gbx ?_);refine wHy 43 [.int .i64 kind,.int .u64 num,.string foot,.int .u64 req,.string path,.int .i64 mode,.int .u64 n,.int .i64 time] hA ?_;clear hF hA;intro b3 w1 hA hb3 hF)|((with_reducible refine gal ?_);refine g1 hA ?_;clear hF hA;intro b4 w1 hA hb4 hF))
 refine(hmy'.out _ (hA.sep1 (A:=TabP t p m ss b) sZ)).mono ?_;rintro e w1 ⟨rfl,hT⟩;replace hA:=hA.call1 (A:=TabP t p m ss b) sZ hT;clear hT hF;obtain⟨hA,hF⟩:=fY hA;by_cases hz:me=0
 · subst hz;by_cases k4:kind=4
   · subst k4
     obtain⟨av,hav⟩:∃z,(if b.st.may path num foot mode=0 then ansV 0 (b.st.addE path num foot mode).n (Lock.ZaC b.es path mode) else ansV (b.st.may path num foot mode) 0 false)=z:=⟨_,rfl⟩
     have hav2:∃x y z,av=ansV x y z:=by rw[←hav];split<;>exact⟨_,_,_,rfl⟩
     obtain⟨a1,a2,a3,rfl⟩:=hav2;have had2:=had'.out;simp only[hav] at had2;have had3:=Hd had2;have hav':=Hd hav;clear had2 hav had';go_wp2_with fail;refine(had3.out _ (hA.sep1 (A:=TabP t p m ss b) sZ)).mono ?_;rintro e w1 ⟨rfl,hT⟩;replace hA:=hA.call1 (A:=TabP t p m ss b) sZ hT;clear hT hF;obtain⟨hA,hF⟩:=fY hA
     go_wp2_with ((with_reducible refine gst ?_);refine wTy hA ?_;clear hF hA;intro w1 hA hF)
     exact bodyPost_ret (v:=ansV a1 a2 a3) (by simp[results,Tryz.results97,go_sem,hF]) rfl ⟨by first|rfl|(rw[lkV,if_neg (by decide),if_pos rfl,hav'.out]),by rw[lkB,if_neg (by decide),if_pos rfl];exact hA.pick pZ⟩
   by_cases k5:kind=5
   · subst k5
     obtain⟨av,hav⟩:∃z,tryV b num foot path mode=z:=⟨_,rfl⟩
     have hav2:∃x y z,av=ansV x y z:=by rw[←hav];unfold tryV;split;(split<;>exact⟨_,_,_,rfl⟩);(split<;>exact⟨_,_,_,rfl⟩)
     obtain⟨a1,a2,a3,rfl⟩:=hav2;have had2:=htr'.out;simp only[hav] at had2;have had3:=Hd had2;have hav':=Hd hav;clear had2 hav htr';go_wp2_with fail;refine(had3.out _ (hA.sep1 (A:=TabP t p m ss b) sZ)).mono ?_;rintro e w1 ⟨rfl,hT⟩;replace hA:=hA.call1 (A:=TabP t p m ss b) sZ hT;clear hT hF;obtain⟨hA,hF⟩:=fY hA
     go_wp2_with ((with_reducible refine gst ?_);refine wTy hA ?_;clear hF hA;intro w1 hA hF)
     exact bodyPost_ret (v:=ansV a1 a2 a3) (by simp[results,Tryz.results97,go_sem,hF]) rfl ⟨by first|rfl|(rw[lkV,if_neg (by decide),if_neg (by decide),if_pos rfl,hav'.out]),by rw[lkB,if_neg (by decide),if_neg (by decide),if_pos rfl];exact hA.pick pZ⟩
   by_cases k6:kind=6
   · subst k6
     obtain⟨rc,hrc⟩:∃z,(if(Lock.find b.es path num foot).isSome=true then(0:Int) else 52)=z:=⟨_,rfl⟩
     have hrm2:=hrm'.out;simp only[hrc] at hrm2;have hrm3:=Hd hrm2;have hrc':=Hd hrc;clear hrm2 hrm' hrc;replace hA:=Zbr hA sZ;clear hF;obtain⟨hA,hF⟩:=fY hA;go_upto_region 10 with fail
     (try go_frame);replace hA:=hA.drew;clear hF;refine wp_region_held (S:=fun w'=>Zaa w' t (k2 p b.p) 87∧Zaa w' b3 (k8 6 num foot req path mode n time) 43) hm ?_;change wpAnyH _ _ _ _ _ 11 _ _ (World.drew _);generalize World.drew _=wd at *
     have hS0:=(⟨hA.get (A:=Part.cells t (k2 p b.p) 87) sZ,hA.get (A:=Part.cells b3 (k8 6 num foot req path mode n time) 43) sZ⟩:(fun w'=>Zaa w' t (k2 p b.p) 87∧Zaa w' b3 (k8 6 num foot req path mode n time) 43) wd)
     refine tP 0 27 (.pointer (some ⟨t,0,none⟩)) (s:=hS0) (h:= ?_);(try go_frame);refine tP 1 28 (.pointer (some ⟨t,0,none⟩)) (s:=hS0) (h:= ?_);(try go_frame);refine tP 2 29 (.pointer (some ⟨t,1,none⟩)) (s:=hS0) (h:= ?_);(try go_frame);refine tZ 3 30 (.pointer (some ⟨b.p,0,none⟩)) (r:=(fun w' hS=>Zae (ty:=66) (b:=t) (j:=1) rfl (by exact rfl) hS.1 (by kernel_rfl) rfl)) (s:=hS0) (h:= ?_);(try go_frame);refine tP 4 31 (.pointer (some ⟨b3,4,none⟩)) (s:=hS0) (h:= ?_);(try go_frame);refine tZ 5 32 (.string path) (r:=(fun w' hS=>Zae (ty:=9) (b:=b3) (j:=4) rfl (by exact rfl) hS.2 (by kernel_rfl) rfl)) (s:=hS0) (h:= ?_);(try go_frame);refine tP 6 33 (.pointer (some ⟨b3,1,none⟩)) (s:=hS0) (h:= ?_);(try go_frame);refine tZ 7 34 (.agg #[.int .u64 num,.string foot]) (r:=(fun w' hS=>Zah (ty:=25) (n:=2) (b:=b3) (j:=1) rfl (by exact rfl) hS.2 (by kernel_rfl) (by kernel_rfl) rfl rfl)) (s:=hS0) (h:= ?_);(try go_frame);refine Zab (i:=8) (by kernel_rfl) ?_;refine cY 8 35 136 (fun u w'=>u=.int .i64 rc∧At [Lock.BookP b] _ [Lock.BookP (b.with (b.st.remove path num foot))] w') ((hrm3.out _ (hA.sep1 (A:=Lock.BookP b) sZ)).mono fun e w' ⟨he,hT⟩=>⟨_,he,rfl,hT⟩) ?_;rintro u w3 ⟨rfl,hT⟩;have hB:=hA.call1 (A:=Lock.BookP b) sZ hT;clear hT;simp only[uA] at hB;refine andH ⟨hB.ci,hB.ci⟩ fun hS0=> ?_;replace hA:=hB;clear hB;(try go_frame);refine Zab (i:=9) (by kernel_rfl) ?_;refine cY 9 36 58 (fun u w'=>u=ansV rc 0 false∧Ext _ w') ((ZaA _ _).mono fun e w' ⟨he,hx⟩=>⟨_,he,rfl,hx⟩) ?_;rintro u w3 ⟨rfl,hx⟩;have hB:=hA.ext hx;clear hx;refine andH ⟨hB.ci,hB.ci⟩ fun hS0=> ?_;replace hA:=hB;clear hB;(try go_frame);refine Zab (i:=10) (by kernel_rfl) ?_;refine stZ 10 b4 0 [.int .i64 rc,.int .u64 0,.bool false] hA ?_;intro w3 hB;simp only[uA] at hB;refine andH ⟨hB.ci,hB.ci⟩ fun hS0=> ?_;replace hA:=hB;clear hB;(try go_frame);refine wpAnyH_done (by kernel_rfl) ?_ _;(try go_frame);clear hS0;obtain⟨hA,hF⟩:=fY hA;go_wp2_with fail;exact bodyPost_ret (v:=ansV rc 0 false) (by simp[results,Tryz.results97,go_sem,hF]) rfl ⟨by rw[lkV,if_neg (by decide),if_neg (by decide),if_neg (by decide),if_pos rfl,hrc'.out],by rw[lkB,if_neg (by decide),if_neg (by decide),if_neg (by decide),if_pos rfl];exact(ZcR (b:=b.with (b.st.remove path num foot)) hA sZ sZ sZ).pick pZ⟩
   obtain⟨cb,hcb⟩:∃z,Zbm b.es path n=z:=⟨_,rfl⟩
   have hck2:=hck'.out;simp only[hcb] at hck2;have hck3:=Hd hck2;have hcb':=Hd hcb;clear hck2 hck' hcb;replace hA:=Zbr hA sZ;clear hF;obtain⟨hA,hF⟩:=fY hA;go_upto_region 11 with fail
   (try go_frame);replace hA:=hA.drew;clear hF;refine wp_region_held (S:=fun w'=>Zaa w' t (k2 p b.p) 87∧Zaa w' b3 (k8 kind num foot req path mode n time) 43) hm ?_;change wpAnyH _ _ _ _ _ 10 _ _ (World.drew _);generalize World.drew _=wd at *
   have hS0:=(⟨hA.get (A:=Part.cells t (k2 p b.p) 87) sZ,hA.get (A:=Part.cells b3 (k8 kind num foot req path mode n time) 43) sZ⟩:(fun w'=>Zaa w' t (k2 p b.p) 87∧Zaa w' b3 (k8 kind num foot req path mode n time) 43) wd)
   refine tP 0 37 (.pointer (some ⟨t,0,none⟩)) (s:=hS0) (h:= ?_);(try go_frame);refine tP 1 38 (.pointer (some ⟨t,0,none⟩)) (s:=hS0) (h:= ?_);(try go_frame);refine tP 2 39 (.pointer (some ⟨t,1,none⟩)) (s:=hS0) (h:= ?_);(try go_frame);refine tZ 3 40 (.pointer (some ⟨b.p,0,none⟩)) (r:=(fun w' hS=>Zae (ty:=66) (b:=t) (j:=1) rfl (by exact rfl) hS.1 (by kernel_rfl) rfl)) (s:=hS0) (h:= ?_);(try go_frame);refine tP 4 41 (.pointer (some ⟨b3,4,none⟩)) (s:=hS0) (h:= ?_);(try go_frame);refine tZ 5 42 (.string path) (r:=(fun w' hS=>Zae (ty:=9) (b:=b3) (j:=4) rfl (by exact rfl) hS.2 (by kernel_rfl) rfl)) (s:=hS0) (h:= ?_);(try go_frame);refine tP 6 43 (.pointer (some ⟨b3,6,none⟩)) (s:=hS0) (h:= ?_);(try go_frame);refine tZ 7 44 (.int .u64 n) (r:=(fun w' hS=>Zae (ty:=22) (b:=b3) (j:=6) rfl (by exact rfl) hS.2 (by kernel_rfl) rfl)) (s:=hS0) (h:= ?_);(try go_frame);refine Zab (i:=8) (by kernel_rfl) ?_;refine cY 8 45 137 (fun u w'=>u=.bool cb∧At [Lock.BookP b] _ [Lock.BookP b] w') ((hck3.out _ (hA.sep1 (A:=Lock.BookP b) sZ)).mono fun e w' ⟨he,hT⟩=>⟨_,he,rfl,hT⟩) ?_;rintro u w3 ⟨rfl,hT⟩;have hB:=hA.call1 (A:=Lock.BookP b) sZ hT;clear hT;simp only[uA] at hB;refine andH ⟨hB.ci,hB.ci⟩ fun hS0=> ?_;replace hA:=hB;clear hB;(try go_frame);refine tP 9 46 (.bool (!cb)) (s:=hS0) (h:= ?_);(try go_frame);refine wpAnyH_done (by kernel_rfl) ?_ _;(try go_frame);clear hS0;obtain⟨hA,hF⟩:=fY hA;cases cb
   · go_wp2_with fail;refine(ZaA _ _).mono ?_;rintro e w1 ⟨rfl,hx⟩;replace hA:=hA.ext hx;clear hx hF;obtain⟨hA,hF⟩:=fY hA
     go_wp2_with ((with_reducible refine gst ?_);refine wTy hA ?_;clear hF hA;intro w1 hA hF)
     exact bodyPost_ret (v:=ansV 52 0 false) (by simp[results,Tryz.results97,go_sem,hF]) rfl ⟨by rw[lkV,if_neg (by decide),if_neg k4,if_neg k5,if_neg k6,hcb'.out];rfl,by rw[lkB,if_neg (by decide),if_neg k4,if_neg k5,if_neg k6];exact(ZcR hA sZ sZ sZ).pick pZ⟩
   go_wp2_with fail;refine(ZaA _ _).mono ?_;rintro e w1 ⟨rfl,hx⟩;replace hA:=hA.ext hx;clear hx hF;obtain⟨hA,hF⟩:=fY hA
   go_wp2_with ((with_reducible refine gst ?_);refine wTy hA ?_;clear hF hA;intro w1 hA hF)
   exact bodyPost_ret (v:=ansV 0 0 false) (by simp[results,Tryz.results97,go_sem,hF]) rfl ⟨by rw[lkV,if_neg (by decide),if_neg k4,if_neg k5,if_neg k6,hcb'.out];rfl,by rw[lkB,if_neg (by decide),if_neg k4,if_neg k5,if_neg k6];exact(ZcR hA sZ sZ sZ).pick pZ⟩
 go_wp2_with fail;refine(ZaA _ _).mono ?_;rintro e w1 ⟨rfl,hx⟩;replace hA:=hA.ext hx;clear hx hF;obtain⟨hA,hF⟩:=fY hA
 go_wp2_with ((with_reducible refine gst ?_);refine wTy hA ?_;clear hF hA;intro w1 hA hF)
 exact bodyPost_ret (v:=ansV me 0 false) (by simp[results,Tryz.results97,go_sem,hF]) rfl ⟨by rw[lkV,if_pos hz],by rw[lkB,if_pos hz];exact hA.pick pZ⟩
end
end Tab
end
end Go.Proofs.YtknoefbcmomalaaGreatDoor
