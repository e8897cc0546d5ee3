import Derived.Test.YtknoefbcmomalaaGreatDoorP9
import Derived.Test.YtknoefbcmomalaaGreatDoorP4
set_option linter.unusedSimpArgs false
set_option linter.unusedVariables false
set_option maxRecDepth 100000
set_option maxHeartbeats 16000000
namespace Go.Proofs.YtknoefbcmomalaaGreatDoor
section
namespace Lock
open Go.RowKit
open Go.Maps (Keyed)
open Path (bl Zaf overB)
theorem Zjg {l:List Ent} {x e:Ent} (h:x ∈ l) (h1:x.stamp < e.stamp) (h2:wayB x e=true):ZaL l e=false:=by
 unfold ZaL;rw[List.all_eq_false];exact⟨x,h,by simp[h1,h2]⟩
theorem ZhF (l:List Ent) (x e:Ent):ZaL (l++[x]) e=(ZaL l e&& !(decide (x.stamp < e.stamp)&&wayB x e)):=by simp[ZaL]
def ClRel (b:Bk) (r bE:Nat) (e:Ent) (w:World) (k:Nat) (wr:World):Prop:=
 ∃ds:List Ent,At [BookP b] w [Part.iter Tryz.prog 106 r b.m (ents b.es) (ents ds),headC b.p b.m b.c b.first,ctrC b.c (ctrs b.cs),Part.cells bE [.string e.path,.int .u64 e.num,.string e.foot,.int .i64 e.mode,.int .u64 e.n,.int .i64 e.stamp] 55] wr∧(∀s ∈ ds,s ∈ b.es)∧ZaL ds e=true∧ds.length + k=b.es.length
theorem Zek {w:World} {b:Bk} (h:Sep [BookP b] w) (e:Ent) (he:e.path.size≤1000000) (hok:∀x ∈ b.es,x.path.size≤1000000):
 Calls Tryz.prog 108 #[.pointer (some ⟨b.p,0,none⟩),.agg #[.string e.path,.int .u64 e.num,.string e.foot,.int .i64 e.mode,.int .u64 e.n,.int .i64 e.stamp]] w fun o w'=>o=.returned (.bool (ZaL b.es e))∧At [BookP b] w [BookP b] w':=by
 have hA:=begin0 h;obtain⟨hA,hF⟩:=fY hA;clear h;go_enter Tryz.func108,Tryz.ntmps108
 go_wp2_with (first|((with_reducible refine gbx ?_);refine wCy (E:=55) hA ?_;clear hF hA;intro bE w1 hA hbE hF)|(refine ZaQ rfl rfl rfl hA sR Tryz.underlying104 ?_;intro r w1 hB hr;replace hA:=hB;clear hF hB;obtain⟨hA,hF⟩:=fY hA))
 go_frame;go_loopg [] b.es.length (ClRel b r bE e w)
 case atStart=>exact⟨[],hA.pick pZ,nofun,rfl,by simp⟩
 case round=>
  obtain⟨ds,hA2,hds,hcl,hk⟩:=hrel;clear hF hA;have hA:=hA2;clear hA2;obtain⟨hA,hF⟩:=fY hA;go_step
  go_step
  refine Za3 rfl rfl rfl hA sR (fun hp=> ?_) (fun q w1 hq hd hB=> ?_)
  · have hc:=Hd ((Zel (ents_perm hp) e).trans hcl);have hM:=At.ranged hA sR;clear hp hcl;go_wp2_with fail;go_ret;exact⟨by rw[hc.out];rfl,close0 b hM sR sR sR⟩
  obtain⟨s,hs,rfl⟩:=List.mem_map.1 hq;have hI:Zax Tryz.prog 106 w1 r b.m (ents b.es) (ents ds++[ent s]):=hB.get (A:=Part.iter _ _ r b.m (ents b.es) (ents ds++[ent s])) sR;have hen:=hI.entry;have hlen:(ds++[s]).length≤b.es.length:=by have:=hI.len;simpa [ents] using this
  have hsub:∀x ∈ ds++[s],x ∈ b.es:=fun x hx=>by
   rcases List.mem_append.1 hx with hx|hx
   · exact hds x hx
   have:x=s:=by simpa using hx
   rw[this];exact hs
  rw[ents_snoc] at hB;have hs1:=hok s hs;clear hF hA;have hA:=hB;have hk':=Hd hk;have hsub':=Hd hsub;have hsn:=Hd (ZhF ds s e);have hcl':=Hd hcl;have hbad:=Hd (fun h1 h2=>Zjg (e:=e) hs h1 h2);have ho:=fun w=>Znp s e w hs1 he;simp only[List.length_append,List.length_cons,List.length_nil,Nat.zero_add] at hlen;clear hI hB hk hsub hds hq hd hs hcl;obtain⟨hA,hF⟩:=fY hA;simp only[ent,Ent.key,Ent.val,keyV] at hen ho;by_cases hlt:s.stamp < e.stamp
  · have hlt':=Hd hlt
    obtain⟨wb,hwb⟩:∃wb,wayB s e=wb:=⟨_,rfl⟩
    rw[hwb] at ho;have hwb':=Hd hwb;clear hwb
    go_wp2_with (first|((with_reducible refine gst ?_);refine wTy hA ?_;clear hF hA;intro w1 hA hF)|((with_reducible refine gal ?_);refine g6 hA ?_;clear hF hA;intro b1 w1 hA hb1 hF))
    refine(ho _).mono ?_;clear ho;rintro o w2 ⟨rfl,hx⟩;replace hA:=hA.ext hx;clear hF hx;obtain⟨hA,hF⟩:=fY hA;cases wb
    · go_wp2_with fail;go_roundg (gk - 1);case measure=>have:=hk'.out;omega
      case rel=>exact⟨ds++[s],hA.pick pR,hsub'.out,by rw[hsn.out,hcl'.out,hwb'.out];simp,by have:=hk'.out;simp;omega⟩
    have hM:=At.ranged hA sR;have hc:=Hd (hbad.out hlt'.out hwb'.out);go_wp2_with fail;go_ret;exact⟨by rw[hc.out];rfl,close0 b hM sR sR sR⟩
  have hlt':=Hd hlt
  go_wp2_with (first|((with_reducible refine gst ?_);refine wTy hA ?_;clear hF hA;intro w1 hA hF)|((with_reducible refine gal ?_);refine g6 hA ?_;clear hF hA;intro b1 w1 hA hb1 hF))
  go_roundg (gk - 1);case measure=>have:=hk'.out;omega
  case rel=>exact⟨ds++[s],hA.pick pR,hsub'.out,by rw[hsn.out,hcl'.out,decide_eq_false (show ¬s.stamp < e.stamp by have:=hlt'.out;omega)];simp,by have:=hk'.out;simp;omega⟩
end Lock
end
section
namespace Lock
open Go.RowKit
open Go.Maps (Keyed)
open Path (bl Zaf overB)
theorem same_ba (f g:ByteArray):(f.toList==g.toList)=decide (f=g):=by
 rw[Path.eqB];by_cases h:f=g
 · subst h;simp
 rw[decide_eq_false h,decide_eq_false];intro e;apply h;unfold bl at e;have:f.data=g.data:=by rw[←Array.toList_inj];exact e
 cases f;cases g;simp_all
theorem sameS (a c:Int) (f g:ByteArray) (w:World):(Op.equalIn 10000 25 (.agg #[.int .u64 a,.string f]) (.agg #[.int .u64 c,.string g])).run Tryz.prog w=.ok (decide (a=c∧f=g)) w:=by
 rw[run_equalIn_agg _ 9999 _ _ _ (by kernel_rfl) (by kernel_rfl)];simp[go_sem,Op.eqFields,same_ba];by_cases h1:a=c<;>by_cases h2:f=g<;>simp[h1,h2]
@[local go_sem] theorem ZkB (op:BinOp) (x y:Operand) (a c:Int) (f g:ByteArray) (w:World):(eqGuard op 25 x y (.agg #[.int .u64 a,.string f]) (.agg #[.int .u64 c,.string g])).run Tryz.prog w=.ok () w:=run_eqGuard_agg _ _ _ _ _ _ _ (by kernel_rfl)
@[local go_sem] theorem eqlS (a c:Int) (f g:ByteArray) (w:World):(binOp .eql 25 (.agg #[.int .u64 a,.string f]) (.agg #[.int .u64 c,.string g])).run Tryz.prog w=.ok (.bool (decide (a=c∧f=g))) w:=by
 rw[run_eql_struct,sameS];rfl
theorem sameE (x y:Ent) (w:World):(Op.equalIn 10000 55 x.val y.val).run Tryz.prog w=.ok (decide (x=y)) w:=by
 unfold Ent.val;rw[run_equalIn_agg _ 9999 _ _ _ (by kernel_rfl) (by kernel_rfl)];obtain⟨p1,n1,f1,m1,k1,s1⟩:=x;obtain⟨p2,n2,f2,m2,k2,s2⟩:=y;simp[go_sem,Op.eqFields,same_ba];by_cases h1:p1=p2<;>by_cases h2:n1=n2<;>by_cases h3:f1=f2<;>by_cases h4:m1=m2<;>by_cases h5:k1=k2<;>by_cases h6:s1=s2<;>simp[h1,h2,h3,h4,h5,h6]
@[local go_sem] theorem Zij (op:BinOp) (x y:Operand) (c1 c2 c3 c4 c5 c6 d1 d2 d3 d4 d5 d6:Value) (w:World):(eqGuard op 55 x y (.agg #[c1,c2,c3,c4,c5,c6]) (.agg #[d1,d2,d3,d4,d5,d6])).run Tryz.prog w=.ok () w:=run_eqGuard_agg _ _ _ _ _ _ _ (by kernel_rfl)
theorem eqlE (x y:Ent) (w:World):(binOp .eql 55 x.val y.val).run Tryz.prog w=.ok (.bool (decide (x=y))) w:=by
 have:=sameE x y w
 unfold Ent.val at *
 rw[run_eql_struct,this];rfl
end Lock
end
section
namespace Lock
open Go.RowKit
open Go.Maps (Keyed)
open Path (bl Zaf overB)
attribute [-go_sem] run_eql_struct run_neq_struct run_eqGuard_agg
attribute [local go_sem] ZkB eqlS
abbrev boxS (b:Nat) (n:Int) (f:ByteArray):Part:=.cells b [.int .u64 n,.string f] 25
def Ent.of (e:Ent) (n:Int) (f:ByteArray):Bool:=decide (e.num=n∧e.foot=f)
def heldN (l:List Ent) (n:Int) (f:ByteArray):Nat:=(l.filter (·.of n f)).length
theorem ZeS (l:List Ent) (e:Ent) (n:Int) (f:ByteArray):heldN (l++[e]) n f=heldN l n f + if e.of n f then 1 else 0:=by
 unfold heldN;rw[List.filter_append];cases h:e.of n f<;>simp[List.filter_cons,h]
theorem heldN_perm {l r:List Ent} (h:l.Perm r) (n:Int) (f:ByteArray):heldN l n f=heldN r n f:=(h.filter _).length_eq
theorem heldN_le (l:List Ent) (n:Int) (f:ByteArray):heldN l n f≤l.length:=List.length_filter_le _ _
theorem ZkA {w:World} {bS:Nat} {n k:Int} {f p g:ByteArray} (h:Sep [boxS bS n f] w) {c:Bool} (hc:decide (k=n∧g=f)=c):
 Calls Tryz.prog 197 #[.agg #[.string p,.int .u64 k,.string g],.pointer (some ⟨bS,0,none⟩)] w fun e w'=>e=.returned (.bool c)∧At [boxS bS n f] w [boxS bS n f] w':=by
 have hA:=At.start h;obtain⟨hA,hF⟩:=fY hA;clear h;have hc':=Hd hc;clear hc;go_enter Tryz.func197,Tryz.ntmps197
 go_wp2_with ((with_reducible refine gbx ?_);refine wCy hA ?_;clear hF hA;intro b1 w1 hA hb1 hF)
 go_ret;exact⟨by rw[←hc'.out,Bool.decide_and];rfl,hA.only1 sR⟩
def CtRel (L0:List Part) (m r bS:Nat) (n:Int) (f:ByteArray) (es:List Ent) (w:World) (k:Nat) (v:Value) (wr:World):Prop:=
 ∃ds:List Ent,At L0 w [Part.iter Tryz.prog 106 r m (ents es) (ents ds),boxS bS n f] wr∧(∀s ∈ ds,s ∈ es)∧v=.int .i64 (heldN ds n f)∧ds.length + k=es.length
theorem count_any {w:World} {m bS:Nat} {n:Int} {f:ByteArray} {es:List Ent} (h:Sep [mapC m (ents es),boxS bS n f] w) (hl:es.length≤1000000000):
 Calls Tryz.prog 196 #[.map (some m),.func (.func 197) #[] #[.pointer (some ⟨bS,0,none⟩)]] w fun e w'=>e=.returned (.int .i64 (heldN es n f))∧At [mapC m (ents es),boxS bS n f] w [mapC m (ents es),boxS bS n f] w':=by
 have hA:=At.start h;obtain⟨hA,hF⟩:=fY hA;clear h;go_enter Tryz.func196,Tryz.ntmps196
 go_wp2_with (refine ZaQ rfl rfl rfl hA sR Tryz.underlying104 ?_;intro r w1 hB hr;replace hA:=hB;clear hF hB;obtain⟨hA,hF⟩:=fY hA)
 (try go_frame);go_loopg [5] es.length (CtRel [mapC m (ents es),boxS bS n f] m r bS n f es w)
 case atStart=>exact⟨[],hA,nofun,by simp[heldN],by simp⟩
 case round=>
  obtain⟨ds,hA2,hds,rfl,hk⟩:=hrel;clear hF hA;have hA:=hA2;clear hA2;obtain⟨hA,hF⟩:=fY hA;go_step
  go_step
  refine Za3 rfl rfl rfl hA sR (fun hp=> ?_) (fun q w1 hq hd hB=> ?_)
  · have hc:=Hd (heldN_perm (ents_perm hp) n f);have hM:=At.ranged hA sR;clear hp;go_wp2_with fail;go_ret;exact⟨by rw[hc.out];rfl,hM.only2 sR sR⟩
  obtain⟨s,hs,rfl⟩:=List.mem_map.1 hq;have hI:Zax Tryz.prog 106 w1 r m (ents es) (ents ds++[ent s]):=hB.get (A:=Part.iter _ _ r m (ents es) (ents ds++[ent s])) sR;have hen:=hI.entry;have hlen:(ds++[s]).length≤es.length:=by have:=hI.len;simpa [ents] using this
  have hsub:∀x ∈ ds++[s],x ∈ es:=fun x hx=>by
   rcases List.mem_append.1 hx with hx|hx
   · exact hds x hx
   have:x=s:=by simpa using hx
   rw[this];exact hs
  rw[ents_snoc] at hB;clear hF hA;have hA:=hB;have hk':=Hd hk;have hsub':=Hd hsub;have hsn:=Hd (ZeS ds s n f);have hcl:=heldN_le ds n f;simp only[List.length_append,List.length_cons,List.length_nil,Nat.zero_add] at hlen;clear hI hB hk hsub hds hq hd hs;obtain⟨hA,hF⟩:=fY hA;simp only[ent,Ent.key,Ent.val,keyV] at hen
  obtain⟨c,hc⟩:∃c,s.of n f=c:=⟨_,rfl⟩
  have hc':=Hd hc
  go_wp2_with (first|((with_reducible refine gst ?_);refine wTy hA ?_;clear hF hA;intro w1 hA hF)|((with_reducible refine gal ?_);refine wGy 106 [.string .empty,.int .u64 0,.string .empty] hA ?_;clear hF hA;intro b1 w1 hA hb1 hF))
  refine(ZkA (hA.sep1 (A:=boxS bS n f) sR) hc).mono ?_;clear hc;rintro e w2 ⟨rfl,hT⟩;replace hA:=hA.call1 (A:=boxS bS n f) sR hT;clear hF hT;obtain⟨hA,hF⟩:=fY hA;cases c
  all_goals
   go_wp2_with fail;go_roundg (gk - 1);case measure=>have:=hk'.out;omega
   case rel=>exact⟨ds++[s],hA.only2 sR sR,hsub'.out,by rw[hsn.out,hc'.out];simp,by have:=hk'.out;simp;omega⟩
theorem held_any {w:World} {b:Bk} (h:Sep [BookP b] w) (n:Int) (f:ByteArray) (hl:b.es.length≤1000000000):
 Calls Tryz.prog 178 #[.pointer (some ⟨b.p,0,none⟩),.agg #[.int .u64 n,.string f]] w fun e w'=>e=.returned (.int .i64 (heldN b.es n f))∧At [BookP b] w [BookP b] w':=by
 have hA:=begin0 h;obtain⟨hA,hF⟩:=fY hA;clear h;go_enter Tryz.func178,Tryz.ntmps178
 go_wp2_with ((with_reducible refine gbx ?_);refine wCy (E:=25) hA ?_;clear hF hA;intro bS w1 hA hbS hF)
 refine(count_any (hA.sep2 (A:=mapC b.m (ents b.es)) (B:=boxS bS n f) sR sR) hl).mono ?_;rintro e w2 ⟨rfl,hT⟩;replace hA:=hA.call2 (A:=mapC b.m (ents b.es)) (B:=boxS bS n f) sR sR hT;clear hF hT;obtain⟨hA,hF⟩:=fY hA;go_wp2_with fail;go_ret;exact⟨rfl,close0 b hA sR sR sR⟩
end Lock
end
section
namespace Lock
open Path (bl Zaf overB)
def putC:List (ByteArray × Int)→ByteArray→Int→List (ByteArray × Int)
 |[],p,n=>[(p,n)]
 |c::cs,p,n=>if c.1=p then(p,n)::cs else c::putC cs p n
theorem ZcX:∀{cs:List (ByteArray × Int)} {p:ByteArray} {n:Int},ctr cs p=none→putC cs p n=cs++[(p,n)]
 |[],p,n,_=>rfl
 |c::cs,p,n,h=>by
  unfold ctr at h;by_cases hc:c.1=p
  · simp[List.find?_cons,hc] at h
  have h2:ctr cs p=none:=by unfold ctr;simpa [List.find?_cons,hc] using h
  simp[putC,hc,ZcX h2]
theorem ZdB {l2:List (ByteArray × Int)} {p:ByteArray} {u n:Int}:∀{l1:List (ByteArray × Int)},(∀c ∈ l1,c.1≠p)→putC (l1++(p,u)::l2) p n=l1++(p,n)::l2
 |[],_=>by simp[putC]
 |c::l1,h=>by
  have:=ZdB (l1:=l1) (n:=n) (u:=u) (l2:=l2) (fun x hx=>h x (by simp[hx]));simp[putC,h c (by simp),this]
theorem Zeh {cs:List (ByteArray × Int)} {p:ByteArray} {u:Int} (h:ctr cs p=some u):∃l1 l2,cs=l1++(p,u)::l2∧∀c ∈ l1,c.1≠p:=by
 unfold ctr at h;simp only[Option.map_eq_some_iff] at h;obtain⟨q,h1,rfl⟩:=h;obtain⟨h1,l1,l2,h2,h3⟩:=List.find?_eq_some_iff_append.1 h1;have h4:q.1=p:=by simpa using h1
 subst h4;exact⟨l1,l2,h2,fun c hc=>by simpa using h3 c hc⟩
theorem Zoi (cs:List (ByteArray × Int)) (p q:ByteArray) (n:Int):ctr (putC cs p n) q=if p=q then some n else ctr cs q:=by
 induction cs with
 |nil=>by_cases h:p=q<;>simp[putC,ctr,h]
 |cons c cs ih=>
  unfold ctr at ih ⊢;by_cases hc:c.1=p
  · by_cases h:p=q
    · simp[putC,hc,List.find?_cons,h]
    have h2:¬c.1=q:=fun e=>h (hc.symm.trans e);simp[putC,hc,List.find?_cons,h]
  by_cases h2:c.1=q
  · have h:¬p=q:=fun e=>hc (h2.trans e.symm);have hq:¬q=p:=fun e=>h e.symm;simp[putC,hc,List.find?_cons,h,hq,h2]
  simp[putC,hc,List.find?_cons,h2,ih]
theorem Zl0 (cs:List (ByteArray × Int)) (p:ByteArray) (n:Int):(putC cs p n).length≤cs.length + 1:=by
 induction cs with
 |nil=>simp[putC]
 |cons c cs ih=>unfold putC;split<;>simp<;>omega
theorem ZdC {cs:List (ByteArray × Int)} {p:ByteArray} {n:Int} {c:ByteArray × Int} (h:c ∈ putC cs p n):c=(p,n)∨c ∈ cs:=by
 induction cs with
 |nil=>simp[putC] at h;exact .inl h
 |cons d cs ih=>
  unfold putC at h;split at h
  · rcases List.mem_cons.1 h with h|h
    · exact .inl h
    exact .inr (by simp[h])
  rcases List.mem_cons.1 h with h|h
  · exact .inr (by simp[h])
  rcases ih h with q|q
  · exact .inl q
  exact .inr (by simp[q])
structure S3 where
 first:Int
 es:List Ent
 cs:List (ByteArray × Int)
def lastN:Int:=9223372036854775807
def S3.may (s:S3) (p:ByteArray) (n:Int) (f:ByteArray) (mode:Int):Int:=
 if Zbi p mode=false then 10 else if(find s.es p n f).isSome=true then 15 else if 64≤heldN s.es n f then 14 else if lastN≤counter s.first s.cs p then 53 else 0
def S3.newE (s:S3) (p:ByteArray) (n:Int) (f:ByteArray) (mode:Int):Ent:=⟨p,n,f,mode,counter s.first s.cs p + 1,maxS s.es p + 1⟩
def S3.added (s:S3) (p:ByteArray) (n:Int) (f:ByteArray) (mode:Int):S3:=⟨s.first,s.es++[s.newE p n f mode],putC s.cs p (counter s.first s.cs p + 1)⟩
def S3.add (s:S3) (p:ByteArray) (n:Int) (f:ByteArray) (mode:Int):S3:=if s.may p n f mode=0 then s.added p n f mode else s
def S3.addE (s:S3) (p:ByteArray) (n:Int) (f:ByteArray) (mode:Int):Ent:=if s.may p n f mode=0 then s.newE p n f mode else nullE
def S3.remove (s:S3) (p:ByteArray) (n:Int) (f:ByteArray):S3:=⟨s.first,s.es.filter (fun e=> !e.is p n f),s.cs⟩
def S3.dropAll (s:S3) (n:Int) (f:ByteArray):S3:=⟨s.first,s.es.filter (fun e=> !e.of n f),s.cs⟩
structure Op where
 kind:Int
 mode:Int
 path:ByteArray
 num:Int
 foot:ByteArray
def S3.step (s:S3) (o:Op):S3:=
 if o.kind=1 then s.add o.path o.num o.foot o.mode else if o.kind=2 then s.remove o.path o.num o.foot else if o.kind=3 then s.dropAll o.num o.foot else s
structure Op.ok (o:Op):Prop where
 path:o.path.size≤100
 num0:0≤o.num
 num1:o.num < big64
 foot:o.foot.size≤maxLen
structure Inv (s:S3) (k:Nat):Prop where
 len:s.es.length≤k
 clen:s.cs.length≤k
 keys:s.es.Pairwise (fun a b=>¬(a.path=b.path∧a.num=b.num∧a.foot=b.foot))
 ckeys:s.cs.Pairwise (fun a b=>a.1≠b.1)
 right:∀e ∈ s.es,Zaf (bl e.path)=true
 mode:∀e ∈ s.es,e.mode=1∨e.mode=2
 path:∀e ∈ s.es,e.path.size≤100
 num0:∀e ∈ s.es,0≤e.num
 num1:∀e ∈ s.es,e.num < big64
 foot:∀e ∈ s.es,e.foot.size≤maxLen
 stamp0:∀e ∈ s.es,1≤e.stamp
 stamp1:∀e ∈ s.es,e.stamp≤k
 n0:∀e ∈ s.es,0≤e.n
 n1:∀e ∈ s.es,e.n≤lastN
 order:s.es.Pairwise (fun a b=>overB (bl a.path) (bl b.path)=true→a.stamp < b.stamp)
 nums:s.es.Pairwise (fun a b=>a.path=b.path→a.n < b.n)
 ctrs:∀e ∈ s.es,e.n≤counter s.first s.cs e.path
 first0:0≤s.first
 first1:s.first < big64
 cpath:∀c ∈ s.cs,c.1.size≤100
 c0:∀c ∈ s.cs,s.first < c.2
 c1:∀c ∈ s.cs,c.2≤lastN
 cright:∀c ∈ s.cs,Zaf (bl c.1)=true
theorem Zn3 {first:Int} (h0:0≤first) (h1:first < big64):Inv ⟨first,[],[]⟩ 0 where
 len:=by simp
 clen:=by simp
 keys:=.nil
 ckeys:=.nil
 right:=nofun
 mode:=nofun
 path:=nofun
 num0:=nofun
 num1:=nofun
 foot:=nofun
 stamp0:=nofun
 stamp1:=nofun
 n0:=nofun
 n1:=nofun
 order:=.nil
 nums:=.nil
 ctrs:=nofun
 first0:=h0
 first1:=h1
 cpath:=nofun
 c0:=nofun
 c1:=nofun
 cright:=nofun
theorem Inv.mono {s:S3} {k j:Nat} (h:Inv s k) (hj:k≤j):Inv s j:=
 {h with len:=by have:=h.len;omega,clen:=by have:=h.clen;omega,stamp1:=fun e he=>by have:=h.stamp1 e he;omega}
theorem Inv.sub {s:S3} {k:Nat} (h:Inv s k) {l:List Ent} (hl:l.Sublist s.es):Inv ⟨s.first,l,s.cs⟩ k:=
 {len:=Nat.le_trans hl.length_le h.len,clen:=h.clen,keys:=h.keys.sublist hl,ckeys:=h.ckeys,right:=fun e he=>h.right e (hl.subset he),mode:=fun e he=>h.mode e (hl.subset he),
  path:=fun e he=>h.path e (hl.subset he),num0:=fun e he=>h.num0 e (hl.subset he),num1:=fun e he=>h.num1 e (hl.subset he),foot:=fun e he=>h.foot e (hl.subset he),
  stamp0:=fun e he=>h.stamp0 e (hl.subset he),stamp1:=fun e he=>h.stamp1 e (hl.subset he),n0:=fun e he=>h.n0 e (hl.subset he),n1:=fun e he=>h.n1 e (hl.subset he),
  order:=h.order.sublist hl,nums:=h.nums.sublist hl,ctrs:=fun e he=>h.ctrs e (hl.subset he),first0:=h.first0,first1:=h.first1,cpath:=h.cpath,c0:=h.c0,c1:=h.c1,cright:=h.cright}
theorem Zc2 {es:List Ent} {p:ByteArray} {n:Int} {f:ByteArray}:find es p n f=none↔∀e ∈ es,¬(e.path=p∧e.num=n∧e.foot=f):=by
 unfold find;rw[List.find?_eq_none];simp[Ent.is]
theorem Zkg {l:List Ent} {p:ByteArray} {e:Ent} (he:e ∈ l) (h:overB (bl e.path) (bl p)=true):e.stamp≤maxS l p:=by
 have key:∀(l:List Ent) (m:Int),m≤l.foldl (fun m e=>if overB (bl e.path) (bl p) then max m e.stamp else m) m:=by
  intro l
  induction l with
  |nil=>intro m;exact Int.le_refl _
  |cons x l ih=>
   intro m;rw[List.foldl_cons];refine Int.le_trans ?_ (ih _);split<;>omega
 obtain⟨l1,l2,rfl⟩:=List.append_of_mem he;unfold maxS;rw[List.foldl_append,List.foldl_cons,if_pos h];exact Int.le_trans (by omega) (key l2 _)
theorem Zd4 {s:S3} {p:ByteArray} {n:Int} {f:ByteArray} {mode:Int} (h:s.may p n f mode=0):Zbi p mode=true∧find s.es p n f=none∧heldN s.es n f < 64∧counter s.first s.cs p < lastN:=by
 unfold S3.may at h;split at h
 · omega
 rename_i h1;split at h
 · omega
 rename_i h2;split at h
 · omega
 rename_i h3;split at h
 · omega
 rename_i h4;exact⟨by simpa using h1,by simpa using h2,by omega,by omega⟩
theorem Zds {p:ByteArray} {mode:Int} (h:Zbi p mode=true):Zaf (bl p)=true∧(mode=1∨mode=2):=by
 unfold Zbi at h;simpa using h
theorem Zcu {s:S3} {k:Nat} (h:Inv s k) (p:ByteArray):s.first≤counter s.first s.cs p:=by
 unfold counter
 cases hc:ctr s.cs p with
 |none=>simp
 |some u=>
  obtain⟨l1,l2,e,_⟩:=Zeh hc;have:=h.c0 (p,u) (by rw[e];simp);simp at this ⊢;omega
theorem Zkt {s:S3} {k:Nat} (h:Inv s k) {p:ByteArray} {n:Int} {f:ByteArray} {mode:Int} (hm:s.may p n f mode=0) (hp:p.size≤100) (h0:0≤n) (h1:n < big64) (hf:f.size≤maxLen):Inv (s.added p n f mode) (k + 1):=by
 obtain⟨hr,hn,hh,hc⟩:=Zd4 hm;obtain⟨hr,hmo⟩:=Zds hr;rw[Zc2] at hn;have hms:=Zdg (l:=s.es) (p:=p) (B:=k) (by omega) h.stamp1;have hcg:=Zcu h p;have hf0:=h.first0
 have mem:∀{P:Ent→Prop},(∀e ∈ s.es,P e)→P (s.newE p n f mode)→∀e ∈ s.es++[s.newE p n f mode],P e:=fun h1 h2 e he=>by
  rcases List.mem_append.1 he with he|he
  · exact h1 e he
  rw[List.mem_singleton.1 he];exact h2
 have pw:∀{R:Ent→Ent→Prop},s.es.Pairwise R→(∀e ∈ s.es,R e (s.newE p n f mode))→(s.es++[s.newE p n f mode]).Pairwise R:=fun h1 h2=>
  List.pairwise_append.2 ⟨h1,List.pairwise_singleton _ _,fun a ha b hb=>by rw[List.mem_singleton.1 hb];exact h2 a ha⟩
 have cc:∀q,counter s.first (putC s.cs p (counter s.first s.cs p + 1)) q=if p=q then counter s.first s.cs p + 1 else counter s.first s.cs q:=fun q=>by
  unfold counter;rw[Zoi];split<;>simp
 have ck:(putC s.cs p (counter s.first s.cs p + 1)).Pairwise (fun a b=>a.1≠b.1):=by
  cases hq:ctr s.cs p with
  |none=>
   rw[ZcX hq];refine List.pairwise_append.2 ⟨h.ckeys,List.pairwise_singleton _ _,fun a ha b hb=> ?_⟩;rw[List.mem_singleton.1 hb];intro e;have:=ZfW hq (ctrE a) (List.mem_map.2 ⟨a,ha,rfl⟩);exact this (by simp[ctrE,e])
  |some u=>
   obtain⟨l1,l2,e,hl⟩:=Zeh hq;have hk:=h.ckeys;rw[e] at hk ⊢;rw[ZdB hl];rw[List.pairwise_append] at hk ⊢;refine⟨hk.1,?_,fun a ha b hb=> ?_⟩
   · have:=List.pairwise_cons.1 hk.2.1
     exact List.pairwise_cons.2 ⟨this.1,this.2⟩
   rcases List.mem_cons.1 hb with rfl|hb
   · exact hl a ha
   exact hk.2.2 a ha b (by simp[hb])
 constructor
 case len=>simp[S3.added];exact h.len
 case clen=>exact Nat.le_trans (Zl0 _ _ _) (by have:=h.clen;omega)
 case keys=>exact pw h.keys (fun e he=>hn e he)
 case ckeys=>exact ck
 case right=>exact mem h.right hr
 case mode=>exact mem h.mode hmo
 case path=>exact mem h.path hp
 case num0=>exact mem h.num0 h0
 case num1=>exact mem h.num1 h1
 case foot=>exact mem h.foot hf
 case stamp0=>exact mem h.stamp0 (by simp only[S3.newE];omega)
 case stamp1=>exact mem (fun e he=>by have:=h.stamp1 e he;omega) (by simp only[S3.newE];omega)
 case n0=>exact mem h.n0 (by simp only[S3.newE];omega)
 case n1=>exact mem h.n1 (by simp only[S3.newE];omega)
 case order=>exact pw h.order (fun e he ho=>by have:e.stamp≤maxS s.es p:=Zkg he ho;simp only[S3.newE];omega)
 case nums=>exact pw h.nums (fun e he ho=>by have:=h.ctrs e he;simp only[S3.newE] at ho ⊢;rw[ho] at this;omega)
 case ctrs=>
  refine mem (fun e he=> ?_) ?_
  · have:=h.ctrs e he
    simp only[S3.added];rw[cc];split
    · rename_i hq;subst hq;omega
    exact this
  simp only[S3.added,S3.newE];rw[cc,if_pos rfl];exact Int.le_refl _
 case first0=>exact h.first0
 case first1=>exact h.first1
 case cpath=>
  intro c hc;rcases ZdC hc with rfl|hc
  · exact hp
  exact h.cpath c hc
 case c0=>
  intro c hc;rcases ZdC hc with rfl|hc
  · simp only[S3.added];omega
  exact h.c0 c hc
 case c1=>
  intro c hc;rcases ZdC hc with rfl|hc
  · simp only;omega
  exact h.c1 c hc
 case cright=>
  intro c hc;rcases ZdC hc with rfl|hc
  · exact hr
  exact h.cright c hc
theorem ZfM {s:S3} {k:Nat} (h:Inv s k) {o:Op} (ho:o.ok):Inv (s.step o) (k + 1):=by
 unfold S3.step;split
 · unfold S3.add;split
   · rename_i hm;exact Zkt h hm ho.path ho.num0 ho.num1 ho.foot
   exact h.mono (by omega)
 split
 · exact(h.sub List.filter_sublist).mono (by omega)
 split
 · exact(h.sub List.filter_sublist).mono (by omega)
 exact h.mono (by omega)
def Zbd (l:List Ent) (k:Nat):Bool:=match l[k]? with
 |some e=>(l.take k).all (fun x=> !wayB x e)
 |none=>false
theorem Zfd {a b:Ent} (h:wayB a b=true):overB (bl a.path) (bl b.path)=true:=by
 unfold wayB at h;simp at h
 exact h.2
theorem ZcK {l:List Ent} (ho:l.Pairwise (fun a b=>overB (bl a.path) (bl b.path)=true→a.stamp < b.stamp)) {k:Nat} {e:Ent} (hk:l[k]? =some e):ZaL l e=Zbd l k:=by
 obtain⟨hk1,hk2⟩:=List.getElem?_eq_some_iff.1 hk;unfold Zbd;rw[hk]
 have hl:l=l.take k++e::l.drop (k + 1):=by
  rw[←hk2,List.getElem_cons_drop hk1,List.take_append_drop]
 have ho':=ho;rw[hl,List.pairwise_append] at ho';have h3:=List.pairwise_cons.1 ho'.2.1;show ZaL l e=(l.take k).all (fun x=> !wayB x e);conv=>lhs;rw[hl]
 unfold ZaL;rw[List.all_append,List.all_cons]
 have e1:(l.take k).all (fun x=> !(decide (x.stamp < e.stamp)&&wayB x e))=(l.take k).all (fun x=> !wayB x e):=by
  rw[Bool.eq_iff_iff,List.all_eq_true,List.all_eq_true];refine forall_congr' fun x=>forall_congr' fun hx=> ?_
  cases hw:wayB x e with
  |false=>simp
  |true=>simp[ho'.2.2 x hx e (by simp) (Zfd hw)]
 have e2:(l.drop (k + 1)).all (fun x=> !(decide (x.stamp < e.stamp)&&wayB x e))=true:=by
  rw[List.all_eq_true];intro x hx
  cases hw:wayB x e with
  |false=>simp
  |true=>
   have:=h3.1 x hx (by rw[Path.Zj5];exact Zfd hw)
   simp;omega
 rw[e1,e2];simp
def ZaC (l:List Ent) (p:ByteArray) (mode:Int):Bool:=l.all (fun x=> !wayB x ⟨p,0,.empty,mode,0,0⟩)&&Zbi p mode
theorem ZhE (l:List Ent) (p:ByteArray) (mode:Int):ZaL l ⟨p,0,.empty,mode,0,maxS l p + 1⟩=l.all (fun x=> !wayB x ⟨p,0,.empty,mode,0,0⟩):=by
 unfold ZaL;rw[Bool.eq_iff_iff,List.all_eq_true,List.all_eq_true];refine forall_congr' fun x=>forall_congr' fun hx=> ?_;have e:wayB x ⟨p,0,.empty,mode,0,maxS l p + 1⟩=wayB x ⟨p,0,.empty,mode,0,0⟩:=rfl;rw[e]
 cases hw:wayB x ⟨p,0,.empty,mode,0,0⟩ with
 |false=>simp
 |true=>
  have h:x.stamp≤maxS l p:=Zkg hx (Zfd hw);have:x.stamp < maxS l p + 1:=by omega
  simp[this]
def Zh8 (l:List Ent) (p:ByteArray) (n:Int) (f:ByteArray):Option Nat:=l.findIdx? (·.is p n f)
def Zck (l:List Ent) (p:ByteArray) (n:Int):Bool:=match l.findIdx? (fun e=>decide (e.path=p∧e.n=n)) with
 |some k=>Zbd l k
 |none=>false
theorem Zmb {l:List Ent} (h:l.Pairwise (fun a b=>a.path=b.path→a.n < b.n)) {i j:Nat} {a b:Ent} (hi:l[i]? =some a) (hj:l[j]? =some b) (hp:a.path=b.path) (hn:a.n=b.n):i=j:=by
 obtain⟨hi1,hi2⟩:=List.getElem?_eq_some_iff.1 hi;obtain⟨hj1,hj2⟩:=List.getElem?_eq_some_iff.1 hj;have hp':=List.pairwise_iff_getElem.1 h;rcases Nat.lt_trichotomy i j with q|q|q
 · have:=hp' i j hi1 hj1 q (by rw[hi2,hj2,hp])
   rw[hi2,hj2] at this;omega
 · exact q
 have:=hp' j i hj1 hi1 q (by rw[hi2,hj2,hp])
 rw[hi2,hj2] at this;omega
theorem Zji {l:List Ent} (h:l.Pairwise (fun a b=>a.path=b.path→a.n < b.n)) {k:Nat} {e:Ent} (hk:l[k]? =some e):Zck l e.path e.n=Zbd l k:=by
 unfold Zck
 cases hf:l.findIdx? (fun x=>decide (x.path=e.path∧x.n=e.n)) with
 |none=>
  have:=List.findIdx?_eq_none_iff.1 hf e (List.mem_of_getElem? hk)
  simp at this
 |some j=>
  obtain⟨hj,h2,_⟩:=List.findIdx?_eq_some_iff_getElem.1 hf;simp at h2
  rw[Zmb h (List.getElem?_eq_getElem hj) hk h2.1 h2.2]
end Lock
end
section
namespace Lock
open Go.RowKit
open Go.Maps (Keyed)
open Path (bl Zaf overB)
def Bk.st (b:Bk):S3:=⟨b.first,b.es,b.cs⟩
theorem through1 {L0 L F:List Part} {A:Part} {w0 w:World} {P:Program} {f:FuncId} {args:Array Value} {v:Value} (h:At L0 w0 L w) (s:Sel A L F) (hc:Sep [A] w→Calls P f args w fun e w'=>e=.returned v∧At [A] w [A] w'):
 Calls P f args w fun e w'=>e=.returned v∧At L0 w0 L w':=
 (hc (h.sep1 s)).mono fun e w' ⟨he,t⟩=>⟨he,((h.call1 s t).perm s.perm.symm)⟩
theorem through0 {L0 L:List Part} {w0 w:World} {P:Program} {f:FuncId} {args:Array Value} {v:Value} (h:At L0 w0 L w) (hc:Calls P f args w fun e w'=>e=.returned v∧Ext w w'):
 Calls P f args w fun e w'=>e=.returned v∧At L0 w0 L w':=hc.mono fun e w' ⟨he,t⟩=>⟨he,h.ext t⟩
section
variable {w:World} {b:Bk} {p f:ByteArray} {n mode:Int}
theorem Zmf {has:Bool} (hh:(find b.es p n f).isSome=has):b.st.may p n f mode=if Zbi p mode=false then 10 else if has=true then 15 else if 64≤heldN b.es n f then 14 else if lastN≤counter b.first b.cs p then 53 else 0:=by
 subst hh;rfl
theorem may_any (h:Sep [BookP b] w) (hp:p.size≤1000000) (h0:0≤n) (h1:n < big64) (hf:f.size≤maxLen) (hl:b.es.length≤1000000000) (hc:∀q,0≤counter b.first b.cs q):
 Calls Tryz.prog 161 #[.pointer (some ⟨b.p,0,none⟩),.string p,.agg #[.int .u64 n,.string f],.int .i64 mode] w fun e w'=>e=.returned (.int .i64 (b.st.may p n f mode))∧At [BookP b] w [BookP b] w':=by
 obtain⟨kl,hk⟩:=keyP (p:=p) (by unfold maxLen;omega) h0 h1 hf;have hA:=begin0 h;have hF:=hA.facts;have hr:=right_any p mode;have hcode:=fun has=>Zmf (b:=b) (p:=p) (f:=f) (n:=n) (mode:=mode) (has:=has)
 obtain⟨r,hrr⟩:∃r,Zbi p mode=r:=⟨_,rfl⟩
 rw[hrr] at hcode hr;unfold keyV at *
 cases hfi:find b.es p n f with
 |none=>
  have hmiss:=Hd (find_none hfi);have hcode':=Hd (hcode false (by rw[hfi];rfl));clear h hfi hcode hrr;obtain⟨hA,hF⟩:=fY hA;go_enter Tryz.func161,Tryz.ntmps161
  go_wp2_with ((with_reducible refine gbx ?_);refine wCy (E:=25) hA ?_;clear hF hA;intro bS w1 hA hbS hF)
  (refine Zaq (a1:= ?a1_q1) (v:= ?v_q1) 11 9 55 _ (.agg #[.string .empty,.int .u64 0,.string .empty,.int .i64 0,.int .u64 0,.int .i64 0]) [.string .empty,.int .u64 0,.string .empty,.int .i64 0,.int .u64 0,.int .i64 0] ([.string .empty,.int .u64 0,.string .empty,.int .i64 0,.int .u64 0,.int .i64 0]) (by kernel_rfl) (by kernel_rfl) rfl rfl ?hyd_q1 (by kernel_rfl) rfl hA ?h1_q1 ?hd_q1 ?hy_q1 ?hu_q1 ?hsz_q1 ?hus_q1 ?hl_q1 ?h2_q1);(case h1_q1=>(intro R wR hR;(try clear hF);(simp only[List.take_succ_cons,List.take_zero,List.drop_succ_cons,List.drop_zero]);(have hn1:=Cl.none hR);(have hn2:=Cl.none2 hR);(repeat(first|go_big_quiet_skip|(go_big_quiet_want;(first|(refine qM 25 2 ?_;go_frame;go_big_quiet_on)|((refine ZbO rfl rfl (by(try simp only[Act.eval,eV])<;>exact rfl) (k:=106) (es:=ents b.es) sR lawP Tryz.underlying104 hk hmiss.out (z:=nullE.val) (fun _=>by kernel_rfl) ?_);go_frame;go_big_quiet_on)|(refine qL ?_;go_frame;go_big_quiet_on)|(go_big_quiet_op;(first|go_big_quiet_on))))));(refine wpQuiet_nil ?_);exact rfl));(case hyd_q1=>rfl);(case hd_q1=>(first|decide|simp));(case hy_q1=>((try simp only[Act.eval,Array.getD_eq_getD_getElem?,List.getElem?_toArray,List.getElem?_cons_succ,List.getElem?_cons_zero,Option.getD_some]);exact rfl));(case hu_q1=>exact rfl);(case hsz_q1=>kernel_rfl);(case hus_q1=>rfl);(case hl_q1=>rfl);(intro b1 w1 hB hb1;replace hA:=hB;clear hF hB;(simp only[List.drop_succ_cons,List.drop_zero]);obtain⟨hA,hF⟩:=fY hA;(try go_frame))
  replace hA:=fold0 b hA sR sR sR;clear hF;obtain⟨hA,hF⟩:=fY hA;go_wp2_with fail;refine(hr w1 hp).mono ?_;clear hr;rintro e w2 ⟨rfl,hx⟩;replace hA:=hA.ext hx;clear hF hx;obtain⟨hA,hF⟩:=fY hA;cases r
  · go_wp2_with fail;go_ret;exact⟨by rw[hcode'.out];rfl,hA.only1 sR⟩
  go_wp2_with fail;refine(held_any (hA.sep1 (A:=BookP b) sR) n f hl).mono ?_;have hq0:heldN b.es n f≤1000000000:=by have:=heldN_le b.es n f;omega
  generalize heldN b.es n f=q at *
  rintro e w1 ⟨rfl,hT⟩;replace hA:=hA.call1 sR hT;clear hF hT;obtain⟨hA,hF⟩:=fY hA;by_cases hq:64≤q
  · have hq':(64:Int)≤(q:Int):=by omega
    have hq2:=Hd hq;clear hq;go_wp2_with fail;go_ret;exact⟨by rw[hcode'.out];simp[hq2.out],hA.only1 sR⟩
  have hq':¬(64:Int)≤(q:Int):=by omega
  have hcode2:b.st.may p n f mode=if lastN≤counter b.first b.cs p then 53 else 0:=by rw[hcode'.out,if_neg (by simp),if_neg (by simp),if_neg hq]
  have hcode3:=Hd hcode2;clear hq hcode2 hcode';go_wp2_with fail;refine(Zei (hA.sep1 (A:=BookP b) sR) (p:=p) (by unfold maxLen;omega)).mono ?_;have hc0:=hc p;generalize counter b.first b.cs p=cc at *
  rintro e w1 ⟨rfl,hT⟩;replace hA:=hA.call1 sR hT;clear hF hT;obtain⟨hA,hF⟩:=fY hA;by_cases hq3:9223372036854775807≤cc
  · have hcode4:=Hd (hcode3.out.trans (if_pos hq3));go_wp2_with fail;go_ret;exact⟨by rw[hcode4.out];rfl,hA.only1 sR⟩
  have hcode4:=Hd (hcode3.out.trans (if_neg hq3));go_wp2_with fail;go_ret;exact⟨by rw[hcode4.out];rfl,hA.only1 sR⟩
 |some x=>
  have hmem:=Hd (find_mem hfi);have hcode':=Hd (hcode true (by rw[hfi];rfl));clear h hfi hcode hrr;obtain⟨hA,hF⟩:=fY hA;unfold Ent.val keyV at hmem;go_enter Tryz.func161,Tryz.ntmps161
  go_wp2_with ((with_reducible refine gbx ?_);refine wCy (E:=25) hA ?_;clear hF hA;intro bS w1 hA hbS hF)
  (refine Zaq (a1:= ?a1_q2) (v:= ?v_q2) 11 9 55 _ (.agg #[.string .empty,.int .u64 0,.string .empty,.int .i64 0,.int .u64 0,.int .i64 0]) [.string .empty,.int .u64 0,.string .empty,.int .i64 0,.int .u64 0,.int .i64 0] ([.string x.path,.int .u64 x.num,.string x.foot,.int .i64 x.mode,.int .u64 x.n,.int .i64 x.stamp]) (by kernel_rfl) (by kernel_rfl) rfl rfl ?hyd_q2 (by kernel_rfl) rfl hA ?h1_q2 ?hd_q2 ?hy_q2 ?hu_q2 ?hsz_q2 ?hus_q2 ?hl_q2 ?h2_q2);(case h1_q2=>(intro R wR hR;(try clear hF);(simp only[List.take_succ_cons,List.take_zero,List.drop_succ_cons,List.drop_zero]);(have hn1:=Cl.none hR);(have hn2:=Cl.none2 hR);(repeat(first|go_big_quiet_skip|(go_big_quiet_want;(first|(refine qM 25 2 ?_;go_frame;go_big_quiet_on)|((refine ZbN rfl rfl (by(try simp only[Act.eval,eV])<;>exact rfl) (k:=106) (es:=ents b.es) sR lawP Tryz.underlying104 hk hmem.out ?_);go_frame;go_big_quiet_on)|(refine qL ?_;go_frame;go_big_quiet_on)|(go_big_quiet_op;(first|go_big_quiet_on))))));(refine wpQuiet_nil ?_);exact rfl));(case hyd_q2=>rfl);(case hd_q2=>(first|decide|simp));(case hy_q2=>((try simp only[Act.eval,Array.getD_eq_getD_getElem?,List.getElem?_toArray,List.getElem?_cons_succ,List.getElem?_cons_zero,Option.getD_some]);exact rfl));(case hu_q2=>exact rfl);(case hsz_q2=>kernel_rfl);(case hus_q2=>rfl);(case hl_q2=>rfl);(intro b1 w1 hB hb1;replace hA:=hB;clear hF hB;(simp only[List.drop_succ_cons,List.drop_zero]);obtain⟨hA,hF⟩:=fY hA;(try go_frame))
  replace hA:=fold0 b hA sR sR sR;clear hF;obtain⟨hA,hF⟩:=fY hA;go_wp2_with fail;refine(hr w1 hp).mono ?_;clear hr;rintro e w2 ⟨rfl,hx⟩;replace hA:=hA.ext hx;clear hF hx;obtain⟨hA,hF⟩:=fY hA;cases r
  all_goals
   go_wp2_with fail;go_ret;exact⟨by rw[hcode'.out];rfl,hA.only1 sR⟩
end
end Lock
end
section
namespace Lock
open Go.RowKit
open Go.Maps (Keyed)
open Path (bl Zaf overB)
theorem ZfV (l r:List (ByteArray × Int)):ctrs (l++r)=ctrs l++ctrs r:=by simp[ctrs]
section
variable {P:Program} {ops:Array Oper} {rest:List Oper} {o:Oper} {a:Act} {Q:Exit→Act→World→Prop} {L0 L F:List Part} {w0 w:World} {k:TypeId} {c:Nat}
theorem Zer {t:TypeId} {m x y:Operand} {cs:List (ByteArray × Int)} {p:ByteArray} {n:Int} (hg:o.guard=none) (hop:o.op=.mapUpdate t m x y) (hm:a.eval m=.map (some c)) (hx:a.eval x=.string p) (hy:a.eval y=.int .u64 n)
 (h:At L0 w0 L w) (s:Sel (Part.map P k c (ctrs cs)) L F) {e:TypeId} (K:Keyed P k) (ht:P.underlying t=some (.map k e)) {kl:Lit} (hk:keyOf P k (.string p)=some kl)
 (hK:∀w',At L0 w0 (Part.map P k c (ctrs (putC cs p n))::F) w'→wpList P ops Q rest (a.put o.dst undef) w'):wpList P ops Q (o::rest) a w:=by
 cases hq:ctr cs p with
 |none=>
  refine Zaz hg hop hm hx hy h s K ht hk (ZfW hq) fun w' h'=>hK w' ?_;rw[ZcX hq,ZfV];exact h'
 |some u=>
  obtain⟨l1,l2,rfl,hl⟩:=Zeh hq;rw[ZfV] at s;refine Za9 (u:=.int .u64 u) (l1:=ctrs l1) (l2:=ctrs l2) hg hop hm hx hy h s K ht hk fun w' h'=>hK w' ?_;rw[ZdB hl,ZfV];exact h'
end
section
variable {w:World} {b:Bk} {p f:ByteArray} {n mode:Int}
def Bk.with (b:Bk) (s:S3):Bk:=⟨b.p,b.m,b.c,b.first,s.es,s.cs⟩
theorem ZiH:b.with (b.st.added p n f mode)=⟨b.p,b.m,b.c,b.first,b.es++[b.st.newE p n f mode],putC b.cs p (counter b.first b.cs p + 1)⟩:=rfl
theorem ZmD (l:List Ent) (e:Ent):ents l++[(keyV e.path e.num e.foot,e.val)]=ents (l++[e]):=ents_snoc l e
theorem add_no (h:Sep [BookP b] w) (hp:p.size≤1000000) (h0:0≤n) (h1:n < big64) (hf:f.size≤maxLen) (hl:b.es.length≤1000000000) (hc:∀q,0≤counter b.first b.cs q) {c:Int} (hm:b.st.may p n f mode=c) (hm0:c≠0):
 Calls Tryz.prog 160 #[.pointer (some ⟨b.p,0,none⟩),.string p,.agg #[.int .u64 n,.string f],.int .i64 mode] w fun e w'=>e=.returned (.tuple #[nullE.val,.int .i64 c])∧At [BookP b] w [BookP b] w':=by
 have hA:=At.start h;have hF:=hA.facts;have hm':=Hd hm;have hm2:(c==0)=false:=by simpa using hm0
 clear h hm hm0;obtain⟨hA,hF⟩:=fY hA;go_enter Tryz.func160,Tryz.ntmps160
 go_wp2_with (first|((with_reducible refine gbx ?_);refine wCy (E:=25) hA ?_;clear hF hA;intro bS w1 hA hbS hF)|((with_reducible refine gal ?_);refine g6 hA ?_;clear hF hA;intro bE w1 hA hbE hF))
 refine(may_any (hA.sep1 (A:=BookP b) sR) hp h0 h1 hf hl hc).mono ?_;rw[hm'.out];rintro e w1 ⟨rfl,hT⟩;replace hA:=hA.call1 sR hT;clear hF hT;obtain⟨hA,hF⟩:=fY hA
 go_wp2_with ((with_reducible refine gst ?_);refine wTy hA ?_;clear hF hA;intro w1 hA hF)
 refine bodyPost_ret (v:=.tuple #[nullE.val,.int .i64 c]) (by simp[results,Tryz.results160,go_sem,hF,nullE,Ent.val]<;>rfl) rfl ⟨rfl,?_⟩;exact hA.only1 sR
theorem Zoq (h:Sep [BookP b] w) (hp:p.size≤1000000) (h0:0≤n) (h1:n < big64) (hf:f.size≤maxLen) (hl:b.es.length≤1000000000) (hc:∀q,0≤counter b.first b.cs q) (hok:∀x ∈ b.es,x.path.size≤1000000∧x.stamp≤1000000000) (hm:b.st.may p n f mode=0):
 Calls Tryz.prog 160 #[.pointer (some ⟨b.p,0,none⟩),.string p,.agg #[.int .u64 n,.string f],.int .i64 mode] w fun e w'=>e=.returned (.tuple #[(b.st.newE p n f mode).val,.int .i64 0])∧At [BookP b] w [BookP (b.with (b.st.added p n f mode))] w':=by
 obtain⟨kl,hk⟩:=keyP (p:=p) (by unfold maxLen;omega) h0 h1 hf;obtain⟨kl2,hk2⟩:=keyT (p:=p) (by unfold maxLen;omega);have hpm:p.size≤maxLen:=by unfold maxLen;omega
 obtain⟨_,hfi,_,hcl⟩:=Zd4 hm;have hmiss:=Hd (find_none (es:=b.es) hfi);have hc0:=hc p;have hms:=Zdg (l:=b.es) (p:=p) (B:=1000000000) (by omega) (fun x hx=>(hok x hx).2);have hA:=At.start h;have hF:=hA.facts;have hm':=Hd hm;have hok':=Hd hok;have hcl':counter b.first b.cs p < 9223372036854775807:=hcl;have hwr:IntKind.u64.wrap (counter b.first b.cs p + 1)=counter b.first b.cs p + 1:=by rw[IntKind.wrap_u64];omega
 rw[ZiH];have hne:(b.st.newE p n f mode).val=.agg #[.string p,.int .u64 n,.string f,.int .i64 mode,.int .u64 (counter b.first b.cs p + 1),.int .i64 (maxS b.es p + 1)]:=rfl;rw[hne];have hone:ents b.es++[(.agg #[.string p,.int .u64 n,.string f],.agg #[.string p,.int .u64 n,.string f,.int .i64 mode,.int .u64 (counter b.first b.cs p + 1),.int .i64 (maxS b.es p + 1)])]=ents (b.es++[b.st.newE p n f mode]):=ZmD b.es (b.st.newE p n f mode);unfold keyV at *
 have hct:=fun(w1:World) (q:Sep [BookP b] w1)=>Zei q (p:=p) hpm;have hst:=fun(w1:World) (q:Sep [BookP b] w1)=>Zf9 q p hp hok;generalize hnn:b.st.newE p n f mode=e at *
 generalize counter b.first b.cs p=cc at *
 generalize maxS b.es p=ss at *
 have hone':=Hd hone;clear h hm hok hfi hcl hone hnn hne;obtain⟨hA,hF⟩:=fY hA;go_enter Tryz.func160,Tryz.ntmps160
 go_wp2_with (first|((with_reducible refine gbx ?_);refine wCy (E:=25) hA ?_;clear hF hA;intro bS w1 hA hbS hF)|((with_reducible refine gal ?_);refine g6 hA ?_;clear hF hA;intro bE w1 hA hbE hF))
 refine(may_any (hA.sep1 (A:=BookP b) sR) hp h0 h1 hf hl hc).mono ?_;rw[hm'.out];rintro e w1 ⟨rfl,hT⟩;replace hA:=hA.call1 sR hT;clear hF hT;obtain⟨hA,hF⟩:=fY hA;go_wp2_with fail;(refine Zaq (a1:= ?a1_q1) (v:= ?v_q1) 11 11 55 _ (.agg #[.string .empty,.int .u64 0,.string .empty,.int .i64 0,.int .u64 0,.int .i64 0]) [.string .empty,.int .u64 0,.string .empty,.int .i64 0,.int .u64 0,.int .i64 0] ([.string p,.int .u64 n,.string f,.int .i64 mode,.int .u64 (cc + 1),.int .i64 (ss + 1)]) (by kernel_rfl) (by kernel_rfl) rfl rfl ?hyd_q1 (by kernel_rfl) rfl hA ?h1_q1 ?hd_q1 ?hy_q1 ?hu_q1 ?hsz_q1 ?hus_q1 ?hl_q1 ?h2_q1);(case h1_q1=>(intro R wR hR;(try clear hF);(simp only[List.take_succ_cons,List.take_zero,List.drop_succ_cons,List.drop_zero]);(have hn1:=Cl.none hR);(have hn2:=Cl.none2 hR);(repeat(first|go_big_quiet_skip|(go_big_quiet_want;(first|(refine qM 25 2 ?_;go_frame;go_big_quiet_on)|(refine qL ?_;go_frame;go_big_quiet_on)|(go_big_quiet_op;(first|go_big_quiet_on|((apply Exists.intro);(refine⟨fun w1 hw=> ?_,?_⟩);(focus((have hw:=Cl.out hw);(first|exact through1 hw (A:=BookP b) sR (hct _)|exact through1 hw (A:=BookP b) sR (hst _))));(go_big_quiet_on))))))));(refine wpQuiet_nil ?_);exact rfl));(case hyd_q1=>rfl);(case hd_q1=>(first|decide|simp));(case hy_q1=>((try simp only[Act.eval,Array.getD_eq_getD_getElem?,List.getElem?_toArray,List.getElem?_cons_succ,List.getElem?_cons_zero,Option.getD_some]);exact rfl));(case hu_q1=>exact rfl);(case hsz_q1=>kernel_rfl);(case hus_q1=>rfl);(case hl_q1=>rfl);(intro b1 w1 hB hb1;replace hA:=hB;clear hF hB;(simp only[List.drop_succ_cons,List.drop_zero]);obtain⟨hA,hF⟩:=fY hA;(try go_frame))
 clear hct hst;replace hA:=open0 hA sR;clear hF;obtain⟨hA,hF⟩:=fY hA;go_wp2_with fail;(refine Zar 7 (Cl _ _ _) (by kernel_rfl) (by kernel_rfl) (Cl.drew hA) ?_);(simp only[List.take_succ_cons,List.take_zero,List.drop_succ_cons,List.drop_zero]);(have hn1:=Cl.none hA);(have hn2:=Cl.none2 hA);(repeat(first|go_big_quiet_skip|(go_big_quiet_want;(first|(refine qL ?_;go_frame;go_big_quiet_on)|(go_big_quiet_op;(first|go_big_quiet_on))))))
 (refine wpQuiet_nil ?_);(intro w1 hB);(clear hF hA hn1 hn2);(have hA:=Cl.out hB);(clear hB);obtain⟨hA,hF⟩:=fY hA
 go_wp2_with (refine Zer rfl rfl rfl (by(try simp only[Act.eval,eV])<;>exact rfl) (by exact rfl) hA (k:=9) (cs:=b.cs) sR lawT Tryz.underlying107 hk2 ?_;intro w1 hB;replace hA:=hB;clear hF hB;obtain⟨hA,hF⟩:=fY hA)
 (try go_frame);(refine Zar 8 (Cl _ _ _) (by kernel_rfl) (by kernel_rfl) (Cl.drew hA) ?_);(simp only[List.take_succ_cons,List.take_zero,List.drop_succ_cons,List.drop_zero]);(have hn1:=Cl.none hA);(have hn2:=Cl.none2 hA);(repeat(first|go_big_quiet_skip|(go_big_quiet_want;(first|(refine qM 25 2 ?_;go_frame;go_big_quiet_on)|(refine qM 55 6 ?_;go_frame;go_big_quiet_on)|(refine qL ?_;go_frame;go_big_quiet_on)|(go_big_quiet_op;(first|go_big_quiet_on))))))
 (refine wpQuiet_nil ?_);(intro w1 hB);(clear hF hA hn1 hn2);(have hA:=Cl.out hB);(clear hB);obtain⟨hA,hF⟩:=fY hA
 go_wp2_with (first|((with_reducible refine gst ?_);refine wTy hA ?_;clear hF hA;intro w1 hA hF)|(refine Zaz rfl rfl rfl (by(try simp only[Act.eval,eV])<;>exact rfl) (by(try simp only[Act.eval,eV])<;>exact rfl) hA (k:=106) (es:=ents b.es) sR lawP Tryz.underlying104 hk hmiss.out ?_;intro w1 hB;rw[hone'.out] at hB;replace hA:=hB;clear hF hB;obtain⟨hA,hF⟩:=fY hA))
 refine bodyPost_ret (v:=.tuple #[.agg #[.string p,.int .u64 n,.string f,.int .i64 mode,.int .u64 (cc + 1),.int .i64 (ss + 1)],.int .i64 0]) (by simp[results,Tryz.results160,go_sem,hF]) rfl ⟨rfl,?_⟩;exact close0 ⟨b.p,b.m,b.c,b.first,b.es++[e],putC b.cs p (cc + 1)⟩ hA sR sR sR
theorem add_any (h:Sep [BookP b] w) (hp:p.size≤1000000) (h0:0≤n) (h1:n < big64) (hf:f.size≤maxLen) (hl:b.es.length≤1000000000) (hc:∀q,0≤counter b.first b.cs q) (hok:∀x ∈ b.es,x.path.size≤1000000∧x.stamp≤1000000000):
 Calls Tryz.prog 160 #[.pointer (some ⟨b.p,0,none⟩),.string p,.agg #[.int .u64 n,.string f],.int .i64 mode] w fun e w'=>e=.returned (.tuple #[(b.st.addE p n f mode).val,.int .i64 (b.st.may p n f mode)])∧At [BookP b] w [BookP (b.with (b.st.add p n f mode))] w':=by
 by_cases hm:b.st.may p n f mode=0
 · have:=Zoq h hp h0 h1 hf hl hc hok hm
   unfold S3.addE S3.add;rw[if_pos hm,if_pos hm,hm];exact this
 have:=add_no h hp h0 h1 hf hl hc (c:=b.st.may p n f mode) rfl hm
 unfold S3.addE S3.add;rw[if_neg hm,if_neg hm];exact this
end
end Lock
end
section
namespace Lock
open Go.RowKit
open Go.Maps (Keyed)
open Path (bl Zaf overB)
section
variable {w:World} {b:Bk} {p f:ByteArray} {n mode:Int}
theorem remove_none (h:find b.es p n f=none):b.st.remove p n f=b.st:=by
 unfold S3.remove Bk.st;congr 1
 rw[List.filter_eq_self];intro e he;have:=Zc2.1 h e he;simp only[Ent.is,Bool.not_eq_true',decide_eq_false_iff_not];exact this
theorem Zhw {es:List Ent} (h:(ents es).Pairwise (fun p q=>p.1≠q.1)):es.Pairwise (fun a b=>a.key≠b.key):=by
 unfold ents at h;rw[List.pairwise_map] at h;exact h
theorem is_key {a e:Ent} (h:a.is e.path e.num e.foot=true):a.key=e.key:=by
 simp[Ent.is] at h;simp[Ent.key,keyV,h]
theorem ZiR {l1 l2:List Ent} {e:Ent} (hk:(l1++e::l2).Pairwise (fun a b=>a.key≠b.key)):(l1++e::l2).filter (fun x=> !x.is e.path e.num e.foot)=l1++l2:=by
 have h1:=List.pairwise_append.1 hk;have h2:=List.pairwise_cons.1 h1.2.1;have he:e.is e.path e.num e.foot=true:=by simp[Ent.is]
 have f1:l1.filter (fun x=> !x.is e.path e.num e.foot)=l1:=by
  rw[List.filter_eq_self];intro x hx
  cases hq:x.is e.path e.num e.foot with
  |false=>rfl
  |true=>exact absurd (is_key hq) (h1.2.2 x hx e (by simp))
 have f2:l2.filter (fun x=> !x.is e.path e.num e.foot)=l2:=by
  rw[List.filter_eq_self];intro x hx
  cases hq:x.is e.path e.num e.foot with
  |false=>rfl
  |true=>exact absurd (is_key hq).symm (h2.1 x hx)
 rw[List.filter_append,List.filter_cons,he,f1,f2];rfl
theorem ZjS (h:Sep [BookP b] w) (hp:p.size≤maxLen) (h0:0≤n) (h1:n < big64) (hf:f.size≤maxLen) (hfi:find b.es p n f=none):
 Calls Tryz.prog 136 #[.pointer (some ⟨b.p,0,none⟩),.string p,.agg #[.int .u64 n,.string f]] w fun e w'=>e=.returned (.int .i64 52)∧At [BookP b] w [BookP b] w':=by
 obtain⟨kl,hk⟩:=keyP hp h0 h1 hf;have hA:=begin0 h;have hF:=hA.facts;have hmiss:=Hd (find_none hfi);clear h hfi;unfold keyV at *
 obtain⟨hA,hF⟩:=fY hA;go_enter Tryz.func136,Tryz.ntmps136
 go_wp2_with ((with_reducible refine gbx ?_);refine wCy (E:=25) hA ?_;clear hF hA;intro bS w1 hA hbS hF)
 (refine Zaq (a1:= ?a1_q1) (v:= ?v_q1) 11 7 55 _ (.agg #[.string .empty,.int .u64 0,.string .empty,.int .i64 0,.int .u64 0,.int .i64 0]) [.string .empty,.int .u64 0,.string .empty,.int .i64 0,.int .u64 0,.int .i64 0] ([.string .empty,.int .u64 0,.string .empty,.int .i64 0,.int .u64 0,.int .i64 0]) (by kernel_rfl) (by kernel_rfl) rfl rfl ?hyd_q1 (by kernel_rfl) rfl hA ?h1_q1 ?hd_q1 ?hy_q1 ?hu_q1 ?hsz_q1 ?hus_q1 ?hl_q1 ?h2_q1);(case h1_q1=>(intro R wR hR;(try clear hF);(simp only[List.take_succ_cons,List.take_zero,List.drop_succ_cons,List.drop_zero]);(have hn1:=Cl.none hR);(have hn2:=Cl.none2 hR);(repeat(first|go_big_quiet_skip|(go_big_quiet_want;(first|(refine qM 25 2 ?_;go_frame;go_big_quiet_on)|((refine ZbO rfl rfl (by(try simp only[Act.eval,eV])<;>exact rfl) (k:=106) (es:=ents b.es) sR lawP Tryz.underlying104 hk hmiss.out (z:=nullE.val) (fun _=>by kernel_rfl) ?_);go_frame;go_big_quiet_on)|(refine qL ?_;go_frame;go_big_quiet_on)|(go_big_quiet_op;(first|go_big_quiet_on))))));(refine wpQuiet_nil ?_);exact rfl));(case hyd_q1=>rfl);(case hd_q1=>(first|decide|simp));(case hy_q1=>((try simp only[Act.eval,Array.getD_eq_getD_getElem?,List.getElem?_toArray,List.getElem?_cons_succ,List.getElem?_cons_zero,Option.getD_some]);exact rfl));(case hu_q1=>exact rfl);(case hsz_q1=>kernel_rfl);(case hus_q1=>rfl);(case hl_q1=>rfl);(intro b1 w1 hB hb1;replace hA:=hB;clear hF hB;(simp only[List.drop_succ_cons,List.drop_zero]);obtain⟨hA,hF⟩:=fY hA;(try go_frame))
 go_wp2_with fail;go_ret;exact⟨rfl,close0 b hA sR sR sR⟩
theorem ZiQ (h:Sep [BookP b] w) (hp:p.size≤maxLen) (h0:0≤n) (h1:n < big64) (hf:f.size≤maxLen) {x:Ent} (hfi:find b.es p n f=some x):
 Calls Tryz.prog 136 #[.pointer (some ⟨b.p,0,none⟩),.string p,.agg #[.int .u64 n,.string f]] w fun e w'=>e=.returned (.int .i64 0)∧At [BookP b] w [BookP (b.with (b.st.remove p n f))] w':=by
 obtain⟨kl,hk⟩:=keyP hp h0 h1 hf;have hA:=begin0 h;have hmem:=Hd (find_mem hfi);obtain⟨l1,l2,hes,rfl,rfl,rfl,_⟩:=find_split hfi;have hkeys:=Zhw (MapAt.keys (hA.get (A:=mapC b.m (ents b.es)) sR));rw[hes] at hkeys
 have hrem:b.st.remove x.path x.num x.foot=⟨b.first,l1++l2,b.cs⟩:=by
  unfold S3.remove Bk.st;simp only[hes];rw[ZiR hkeys]
 rw[hrem];have hF:=hA.facts;have hents:ents b.es=ents l1++(x.key,x.val)::ents l2:=by rw[hes];simp[ents,ent]
 have hes':=Hd hents;clear h hfi hkeys hrem hes hents;unfold Ent.val keyV at hmem;unfold keyV at hk;obtain⟨hA,hF⟩:=fY hA;go_enter Tryz.func136,Tryz.ntmps136
 go_wp2_with ((with_reducible refine gbx ?_);refine wCy (E:=25) hA ?_;clear hF hA;intro bS w1 hA hbS hF)
 (refine Zaq (a1:= ?a1_q2) (v:= ?v_q2) 11 7 55 _ (.agg #[.string .empty,.int .u64 0,.string .empty,.int .i64 0,.int .u64 0,.int .i64 0]) [.string .empty,.int .u64 0,.string .empty,.int .i64 0,.int .u64 0,.int .i64 0] ([.string x.path,.int .u64 x.num,.string x.foot,.int .i64 x.mode,.int .u64 x.n,.int .i64 x.stamp]) (by kernel_rfl) (by kernel_rfl) rfl rfl ?hyd_q2 (by kernel_rfl) rfl hA ?h1_q2 ?hd_q2 ?hy_q2 ?hu_q2 ?hsz_q2 ?hus_q2 ?hl_q2 ?h2_q2);(case h1_q2=>(intro R wR hR;(try clear hF);(simp only[List.take_succ_cons,List.take_zero,List.drop_succ_cons,List.drop_zero]);(have hn1:=Cl.none hR);(have hn2:=Cl.none2 hR);(repeat(first|go_big_quiet_skip|(go_big_quiet_want;(first|(refine qM 25 2 ?_;go_frame;go_big_quiet_on)|((refine ZbN rfl rfl (by(try simp only[Act.eval,eV])<;>exact rfl) (k:=106) (es:=ents b.es) sR lawP Tryz.underlying104 hk hmem.out ?_);go_frame;go_big_quiet_on)|(refine qL ?_;go_frame;go_big_quiet_on)|(go_big_quiet_op;(first|go_big_quiet_on))))));(refine wpQuiet_nil ?_);exact rfl));(case hyd_q2=>rfl);(case hd_q2=>(first|decide|simp));(case hy_q2=>((try simp only[Act.eval,Array.getD_eq_getD_getElem?,List.getElem?_toArray,List.getElem?_cons_succ,List.getElem?_cons_zero,Option.getD_some]);exact rfl));(case hu_q2=>exact rfl);(case hsz_q2=>kernel_rfl);(case hus_q2=>rfl);(case hl_q2=>rfl);(intro b1 w1 hB hb1;replace hA:=hB;clear hF hB;(simp only[List.drop_succ_cons,List.drop_zero]);obtain⟨hA,hF⟩:=fY hA;(try go_frame))
 go_wp2_with fail;(try go_frame);(refine Zar 7 (Cl _ _ _) (by kernel_rfl) (by kernel_rfl) (Cl.drew hA) ?_);(simp only[List.take_succ_cons,List.take_zero,List.drop_succ_cons,List.drop_zero]);(have hn1:=Cl.none hA);(have hn2:=Cl.none2 hA);(repeat(first|go_big_quiet_skip|(go_big_quiet_want;(first|(refine qM 25 2 ?_;go_frame;go_big_quiet_on)|(refine qL ?_;go_frame;go_big_quiet_on)|(go_big_quiet_op;(first|go_big_quiet_on))))))
 (refine wpQuiet_nil ?_);(intro w1 hB);(clear hF hA hn1 hn2);(have hA:=Cl.out hB);(clear hB);obtain⟨hA,hF⟩:=fY hA
 unfold mapC at hA;rw[hes'.out] at hA;unfold Ent.key keyV at hA;obtain⟨hA,hF⟩:=fY hA
 go_wp2_with (refine ZcE rfl rfl rfl (by(try simp only[Act.eval,eV])<;>exact rfl) hA (k:=106) sR lawP Tryz.underlying104 hk ?_;intro w1 hB;replace hA:=hB;clear hF hB;obtain⟨hA,hF⟩:=fY hA)
 go_ret;have hel:ents l1++ents l2=ents (l1++l2):=by simp[ents]
 rw[hel] at hA;exact⟨rfl,close0 ⟨b.p,b.m,b.c,b.first,l1++l2,b.cs⟩ hA sR sR sR⟩
theorem ZiS (h:Sep [BookP b] w) (hp:p.size≤maxLen) (h0:0≤n) (h1:n < big64) (hf:f.size≤maxLen):
 Calls Tryz.prog 136 #[.pointer (some ⟨b.p,0,none⟩),.string p,.agg #[.int .u64 n,.string f]] w fun e w'=>e=.returned (.int .i64 (if(find b.es p n f).isSome=true then 0 else 52))∧At [BookP b] w [BookP (b.with (b.st.remove p n f))] w':=by
 cases hfi:find b.es p n f with
 |none=>
  have:=ZjS h hp h0 h1 hf hfi;rw[remove_none hfi];exact this
 |some x=>exact ZiQ h hp h0 h1 hf hfi
theorem ZgO (h:Sep [BookP b] w) (hp:p.size≤1000000) (hok:∀x ∈ b.es,x.path.size≤1000000∧x.stamp≤1000000000):
 Calls Tryz.prog 159 #[.pointer (some ⟨b.p,0,none⟩),.string p,.int .i64 mode] w fun e w'=>e=.returned (.bool (ZaC b.es p mode))∧At [BookP b] w [BookP b] w':=by
 have hA:=At.start h;have hF:=hA.facts;have hr:=right_any p mode
 have hcd:ZaC b.es p mode=(Zbi p mode&&ZaL b.es ⟨p,0,.empty,mode,0,maxS b.es p + 1⟩):=by
  rw[ZhE,Bool.and_comm];rfl
 rw[hcd];have hst:=fun(w1:World) (q:Sep [BookP b] w1)=>Zf9 q p hp hok;have hcl:=fun(w1:World) (q:Sep [BookP b] w1)=>Zek q ⟨p,0,.empty,mode,0,maxS b.es p + 1⟩ hp (fun x hx=>(hok x hx).1);generalize ZaL b.es ⟨p,0,.empty,mode,0,maxS b.es p + 1⟩=c at *
 simp only at hcl;generalize maxS b.es p=ss at *
 generalize Zbi p mode=r at *
 clear h hok hcd;obtain⟨hA,hF⟩:=fY hA;go_enter Tryz.func159,Tryz.ntmps159;go_wp2_with fail;refine(hr w hp).mono ?_;clear hr;rintro e w2 ⟨rfl,hx⟩;replace hA:=hA.ext hx;clear hF hx;obtain⟨hA,hF⟩:=fY hA;cases r
 · go_wp2_with fail;go_ret;exact⟨rfl,hA.only1 sR⟩
 go_wp2_with fail;refine(hst _ (hA.sep1 (A:=BookP b) sR)).mono ?_;clear hst;rintro e w1 ⟨rfl,hT⟩;replace hA:=hA.call1 sR hT;clear hF hT;obtain⟨hA,hF⟩:=fY hA;go_wp2_with fail;refine(hcl _ (hA.sep1 (A:=BookP b) sR)).mono ?_;clear hcl;rintro e w1 ⟨rfl,hT⟩;replace hA:=hA.call1 sR hT;clear hF hT;obtain⟨hA,hF⟩:=fY hA;go_wp2_with fail;go_ret;exact⟨rfl,hA.only1 sR⟩
end
end Lock
end
section
namespace Lock
open Go.RowKit
open Go.Maps (Keyed)
open Path (bl Zaf overB)
attribute [-go_sem] run_eql_struct run_neq_struct run_eqGuard_agg
theorem eqlE6 (p1 f1 p2 f2:ByteArray) (n1 m1 k1 s1 n2 m2 k2 s2:Int) (w:World):(binOp .eql 55 (.agg #[.string p1,.int .u64 n1,.string f1,.int .i64 m1,.int .u64 k1,.int .i64 s1]) (.agg #[.string p2,.int .u64 n2,.string f2,.int .i64 m2,.int .u64 k2,.int .i64 s2])).run Tryz.prog w=.ok (.bool (decide ((⟨p1,n1,f1,m1,k1,s1⟩:Ent)=⟨p2,n2,f2,m2,k2,s2⟩))) w:=eqlE ⟨p1,n1,f1,m1,k1,s1⟩ ⟨p2,n2,f2,m2,k2,s2⟩ w
attribute [local go_sem] Zij eqlE6
def grantedB (es:List Ent) (e:Ent):Bool:=decide (find es e.path e.num e.foot=some e)&&ZaL es e
section
variable {w:World} {b:Bk} {e:Ent}
theorem Zea (h:Sep [BookP b] w) (hp:e.path.size≤1000000) (h0:0≤e.num) (h1:e.num < big64) (hf:e.foot.size≤maxLen) (hok:∀x ∈ b.es,x.path.size≤1000000):
 Calls Tryz.prog 75 #[.pointer (some ⟨b.p,0,none⟩),e.val] w fun o w'=>o=.returned (.bool (grantedB b.es e))∧At [BookP b] w [BookP b] w':=by
 have hA:=At.start h;have hF:=hA.facts;have hpm:e.path.size≤maxLen:=by unfold maxLen;omega
 have hcl:=fun(w1:World) (q:Sep [BookP b] w1)=>Zek q e hp hok;unfold grantedB;generalize ZaL b.es e=c at *
 cases hfi:find b.es e.path e.num e.foot with
 |none=>
  have hfn:=fun(w1:World) (q:Sep [BookP b] w1)=>Zoc q hpm h0 h1 hf hfi;clear h hfi hok;obtain⟨p1,n1,f1,m1,k1,s1⟩:=e;simp only[Ent.val] at *
  obtain⟨hA,hF⟩:=fY hA;go_enter Tryz.func75,Tryz.ntmps75
  go_wp2_with ((with_reducible refine gbx ?_);refine wCy (E:=55) hA ?_;clear hF hA;intro bX w1 hA hbX hF)
  refine(hfn _ (hA.sep1 (A:=BookP b) sR)).mono ?_;clear hfn;rintro e w1 ⟨rfl,hT⟩;replace hA:=hA.call1 sR hT;clear hF hT;obtain⟨hA,hF⟩:=fY hA
  go_wp2_with (first|((with_reducible refine gal ?_);refine g6 hA ?_;clear hF hA;intro bE w1 hA hbE hF)|((with_reducible refine gst ?_);refine wTy hA ?_;clear hF hA;intro w1 hA hF))
  go_ret;exact⟨rfl,hA.only1 sR⟩
 |some x=>
  have hfn:=fun(w1:World) (q:Sep [BookP b] w1)=>Zmz q hpm h0 h1 hf hfi;have hxe:(some x=some e)=(x=e):=by simp
  simp only[hxe];clear h hfi hok hxe;obtain⟨p1,n1,f1,m1,k1,s1⟩:=e;obtain⟨p2,n2,f2,m2,k2,s2⟩:=x;simp only[Ent.val] at *
  obtain⟨d,hd⟩:∃d,decide ((⟨p2,n2,f2,m2,k2,s2⟩:Ent)=⟨p1,n1,f1,m1,k1,s1⟩)=d:=⟨_,rfl⟩
  have eq6:∀w,(binOp .eql 55 (.agg #[.string p2,.int .u64 n2,.string f2,.int .i64 m2,.int .u64 k2,.int .i64 s2]) (.agg #[.string p1,.int .u64 n1,.string f1,.int .i64 m1,.int .u64 k1,.int .i64 s1])).run Tryz.prog w=.ok (.bool d) w:=fun w=>by rw[eqlE6,hd]
  rw[hd];clear hd;obtain⟨hA,hF⟩:=fY hA;go_enter Tryz.func75,Tryz.ntmps75
  go_wp2_with ((with_reducible refine gbx ?_);refine wCy (E:=55) hA ?_;clear hF hA;intro bX w1 hA hbX hF)
  refine(hfn _ (hA.sep1 (A:=BookP b) sR)).mono ?_;clear hfn;rintro e w1 ⟨rfl,hT⟩;replace hA:=hA.call1 sR hT;clear hF hT;obtain⟨hA,hF⟩:=fY hA;cases d
  · go_wp2_with (first|((with_reducible refine gal ?_);refine g6 hA ?_;clear hF hA;intro bE w1 hA hbE hF)|((with_reducible refine gst ?_);refine wTy hA ?_;clear hF hA;intro w1 hA hF))
    go_ret;exact⟨rfl,hA.only1 sR⟩
  go_wp2_with (first|((with_reducible refine gal ?_);refine g6 hA ?_;clear hF hA;intro bE w1 hA hbE hF)|((with_reducible refine gst ?_);refine wTy hA ?_;clear hF hA;intro w1 hA hF))
  refine(hcl _ (hA.sep1 (A:=BookP b) sR)).mono ?_;clear hcl;rintro e w1 ⟨rfl,hT⟩;replace hA:=hA.call1 sR hT;clear hF hT;obtain⟨hA,hF⟩:=fY hA;go_wp2_with fail;go_ret;exact⟨rfl,hA.only1 sR⟩
end
def ChRel (b:Bk) (r:Nat) (p:ByteArray) (n:Int) (w:World) (k:Nat) (wr:World):Prop:=
 ∃ds:List Ent,At [BookP b] w [Part.iter Tryz.prog 106 r b.m (ents b.es) (ents ds),headC b.p b.m b.c b.first,ctrC b.c (ctrs b.cs)] wr∧(∀s ∈ ds,s ∈ b.es∧¬(s.path=p∧s.n=n))∧ds.length + k=b.es.length
theorem Zk4 {w:World} {b:Bk} (h:Sep [BookP b] w) (p:ByteArray) (n:Int) (hok:∀x ∈ b.es,x.path.size≤1000000) {c:Bool} (h1:∀e ∈ b.es,e.path=p→e.n=n→ZaL b.es e=c) (h2:(∀e ∈ b.es,¬(e.path=p∧e.n=n))→c=false):
 Calls Tryz.prog 137 #[.pointer (some ⟨b.p,0,none⟩),.string p,.int .u64 n] w fun o w'=>o=.returned (.bool c)∧At [BookP b] w [BookP b] w':=by
 have hA:=begin0 h;have hF:=hA.facts;have h1':=Hd h1;have h2':=Hd h2;clear h1 h2;obtain⟨hA,hF⟩:=fY hA;clear h;go_enter Tryz.func137,Tryz.ntmps137
 go_wp2_with (refine ZaQ rfl rfl rfl hA sR Tryz.underlying104 ?_;intro r w1 hB hr;replace hA:=hB;clear hF hB;obtain⟨hA,hF⟩:=fY hA)
 (try go_frame);go_loopg [] b.es.length (ChRel b r p n w)
 case atStart=>exact⟨[],hA.pick pZ,nofun,by simp⟩
 case round=>
  obtain⟨ds,hA2,hds,hk⟩:=hrel;clear hF hA;have hA:=hA2;clear hA2;obtain⟨hA,hF⟩:=fY hA;go_step
  go_step
  refine Za3 rfl rfl rfl hA sR (fun hp=> ?_) (fun q w1 hq hd hB=> ?_)
  · have hpp:=ents_perm hp;have hc:=Hd (h2'.out (fun e he=>(hds e (hpp.mem_iff.1 he)).2));have hM:=At.ranged hA sR;clear hp hpp hds;go_wp2_with fail;go_ret;exact⟨by rw[hc.out];rfl,close0 b hM sR sR sR⟩
  obtain⟨s,hs,rfl⟩:=List.mem_map.1 hq;have hI:Zax Tryz.prog 106 w1 r b.m (ents b.es) (ents ds++[ent s]):=hB.get (A:=Part.iter _ _ r b.m (ents b.es) (ents ds++[ent s])) sR;have hen:=hI.entry;have hlen:(ds++[s]).length≤b.es.length:=by have:=hI.len;simpa [ents] using this
  have hsub:¬(s.path=p∧s.n=n)→∀x ∈ ds++[s],x ∈ b.es∧¬(x.path=p∧x.n=n):=fun hn x hx=>by
   rcases List.mem_append.1 hx with hx|hx
   · exact hds x hx
   have:x=s:=by simpa using hx
   rw[this];exact⟨hs,hn⟩
  rw[ents_snoc] at hB;have hs1:=hok s hs;clear hF hA;have hA:=hB;have hk':=Hd hk;have hsub':=Hd hsub;have hc1:=Hd (h1'.out s hs);have hcl:=fun(w1:World) (q:Sep [BookP b] w1)=>Zek q s hs1 hok
  obtain⟨cc,hcc⟩:∃cc,ZaL b.es s=cc:=⟨_,rfl⟩
  rw[hcc] at hcl;have hcc':=Hd hcc;simp only[List.length_append,List.length_cons,List.length_nil,Nat.zero_add] at hlen;clear hI hB hk hsub hds hq hd hs hcc;obtain⟨hA,hF⟩:=fY hA;simp only[ent,Ent.key,Ent.val,keyV] at hen;by_cases e1:s.path=p
  · have b1:(s.path.toList==p.toList)=true:=by rw[same_ba];exact decide_eq_true e1
    have e1':=Hd e1;by_cases e2:s.n=n
    · have b2:(s.n==n)=true:=by simpa using e2
      have e2':=Hd e2;clear e1 e2
      go_wp2_with (first|((with_reducible refine gst ?_);refine wTy hA ?_;clear hF hA;intro w1 hA hF)|((with_reducible refine gal ?_);refine g6 hA ?_;clear hF hA;intro b1 w1 hA hb1 hF))
      have hM:=At.ranged hA sR;replace hA:=fold0 b hM sR sR sR;clear hF hM;refine(hcl _ (hA.sep1 (A:=BookP b) sR)).mono ?_;clear hcl;rintro o w2 ⟨rfl,hT⟩;have hB:=hA.call1 (A:=BookP b) sR hT;have hres:=Hd ((hc1.out e1'.out e2'.out).symm.trans hcc'.out);clear hA hT;go_wp2_with fail;go_ret;exact⟨by rw[hres.out];rfl,hB.only1 .here⟩
    have b2:(s.n==n)=false:=by simpa using e2
    have hs3:=Hd (hsub'.out (fun q=>e2 q.2));clear e1 e2
    go_wp2_with (first|((with_reducible refine gst ?_);refine wTy hA ?_;clear hF hA;intro w1 hA hF)|((with_reducible refine gal ?_);refine g6 hA ?_;clear hF hA;intro b1 w1 hA hb1 hF))
    go_roundg (gk - 1);case measure=>have:=hk'.out;omega
    case rel=>exact⟨ds++[s],hA.pick pR,hs3.out,by have:=hk'.out;simp;omega⟩
  have b1:(s.path.toList==p.toList)=false:=by rw[same_ba];exact decide_eq_false e1
  have hs3:=Hd (hsub'.out (fun q=>e1 q.1));clear e1
  go_wp2_with (first|((with_reducible refine gst ?_);refine wTy hA ?_;clear hF hA;intro w1 hA hF)|((with_reducible refine gal ?_);refine g6 hA ?_;clear hF hA;intro b1 w1 hA hb1 hF))
  go_roundg (gk - 1);case measure=>have:=hk'.out;omega
  case rel=>exact⟨ds++[s],hA.pick pR,hs3.out,by have:=hk'.out;simp;omega⟩
end Lock
end
end Go.Proofs.YtknoefbcmomalaaGreatDoor
