import Derived.Test.YtknoefbcmomalaaGreatDoorP13
import Derived.Test.YtknoefbcmomalaaGreatDoorP7
set_option linter.unusedSimpArgs false
set_option linter.unusedVariables false
set_option maxRecDepth 100000
set_option maxHeartbeats 16000000
namespace Go.Proofs.YtknoefbcmomalaaGreatDoor
section
namespace Sess
open _root_.Go.Proofs.YtknoefbcmomalaaGreatDoor.Mark (Zc0 Zcp Zbk)
open Go.RowKit Go.Shelf Go.Sort
open Go.Maps (Keyed)
theorem collect_in (F:Fence) (n:Nat) (hF:F.fn 113) (hF2:F.fn 147) (hro:F.round=none) (hn:4≤n) (gf:Nat) (lb:Array Value) (hFg:F.fn gf) (eg:∀args w,(callFunc gf args).run Tryz.prog w=.ok (.enter gf args) w)
 (S Sp:List (Int × ByteArray)→Prop) (N:Nat) (hN:N≤100000000) (w:World) (hseq:SeqStopsK F (n - 1 - 1) Tryz.prog gf lb (fun x:Int × ByteArray=> #[seV x]) KeepsWalks S Sp N w):
 CallsIn F n Tryz.prog 113 #[.func (.func gf) #[] lb] w fun e w'=>∃(v:Value) (ss:List (Int × ByteArray)),e=.returned v∧S ss∧w'.ownsRow w.heap.size 25 2 v ss.length (ss.flatMap seL)∧(v=.slice none 0 0↔ss=[])∧Below w.heap.size w w':=by
 have h1:1≤n:=by omega
 refine callsIn_of_wp Tryz.func113 rfl hF ?_ hro;simp only[Tryz.ntmps113,List.size_toArray,List.length_cons,List.length_nil,Nat.reduceAdd,Nat.reduceSub,Array.replicate_succ,Array.replicate_zero,List.push_toArray,List.append_toArray,List.nil_append,List.cons_append]
 gi_wp2_with (gi_at_call 147;refine(appendSeq_in F (n - 1) hF2 hro (by omega) gf lb hFg eg S Sp N hN _ hseq).mono ?_;rintro e W ⟨v,ss,rfl,hS,hrow,hnil,hb⟩)
 go_ret;exact⟨v,ss,rfl,hS,hrow,hnil,hb⟩
theorem Zfr (x:Int × ByteArray):(seL x).length=2:=rfl
theorem Znx (x:Int × ByteArray):∀v ∈ seL x,v.oneCell'=true:=by
 intro u hu;simp only[seL,List.mem_cons,List.not_mem_nil,or_false] at hu;rcases hu with rfl|rfl<;>rfl
theorem ZgT (Bm b:Nat) (es:List (Value × Value)) (ks:List (Int × ByteArray)) (hes:es.map (·.1)=ks.map seV) (w:World) (hBm:Bm < w.heap.size) (hm:w.cell? ⟨Bm,0,none⟩=some (.map (some b))) (hM:MapAt Tryz.prog 25 w b es) (hN:ks.length≤100000000):
 Calls Tryz.prog 113 #[.func (.func 148) #[] #[.pointer (some ⟨Bm,0,none⟩)]] w fun e w'=>∃(v:Value) (ss:List (Int × ByteArray)),e=.returned v∧ss.Perm ks∧w'.ownsRow w.heap.size 25 2 v ss.length (ss.flatMap seL)∧(v=.slice none 0 0↔ss=[])∧Below w.heap.size w w':=
 callsIn_wide.1 (collect_in Fence.wide 5 trivial trivial rfl (by omega) _ _ trivial (enters_of Tryz.func148 (by kernel_rfl) rfl) _ _ ks.length hN w
  (Zi2 Fence.wide _ trivial rfl (by omega) Bm b es ks hes w hBm hm hM))
theorem sort_len (l:List (Int × ByteArray)):(sortS l).length=l.length:=List.length_mergeSort l
theorem ZjI (a b c:Int × ByteArray) (h1:(!ltOf cmpS b a)=true) (h2:(!ltOf cmpS c b)=true):(!ltOf cmpS c a)=true:=by
 rw[ZcJ] at *
 simp only[Bool.not_eq_true',decide_eq_false_iff_not] at *
 intro h;rcases ZfE b a with q|q|q
 · exact h1 q
 · subst q;exact h2 h
 exact h2 (Zcf h q)
theorem ZjJ (a b:Int × ByteArray):((!ltOf cmpS b a) || !ltOf cmpS a b)=true:=by
 rw[ZcJ,ZcJ];simp only[Bool.or_eq_true,Bool.not_eq_true',decide_eq_false_iff_not];by_cases h:ltS b a
 · right
   intro h';exact Zdh _ (Zcf h h')
 exact .inl h
theorem sort_perm {l m:List (Int × ByteArray)} (h:l.Perm m):sortS l=sortS m:=by
 have hp:(sortS l).Perm (sortS m):=(List.mergeSort_perm l _).trans (h.trans (List.mergeSort_perm m _).symm);refine List.Perm.eq_of_pairwise (le:=fun a b=>(!ltOf cmpS b a)=true) ?_ (List.pairwise_mergeSort ZjI ZjJ l) (List.pairwise_mergeSort ZjI ZjJ m) hp;intro a b _ _ h1 h2;exact totS a b (by simpa using h2) (by simpa using h1)
theorem ZiM {w:World} {base:Nat} {v:Value} {ss:List (Int × ByteArray)} (hrow:w.ownsRow base 25 2 v ss.length (ss.flatMap seL)) (hmax:ss.length≤100000000):
 Calls Tryz.prog 112 #[v] w fun e w'=>e=.returned v∧w'.ownsRow base 25 2 v (sortS ss).length ((sortS ss).flatMap seL)∧w.grownBy w' v.ownBlock:=by
 rcases hrow.2 with⟨rfl,hz⟩|⟨gb,cap,cur,rfl,hbase,hgb,r1,r2,r3,r4⟩
 · have hss:ss=[]:=List.eq_nil_of_length_eq_zero hz;subst hss;have hS:Calls Tryz.prog 145 #[.slice none 0 0,.func (.func 146) #[] #[]] w fun e w'=>e=.returned (.tuple #[])∧w'=w:=AnyF.slices_SortFunc_none Tryz.sort145 none 0 _ w;go_enter Tryz.func112,Tryz.ntmps112;go_wp2_with fail;refine hS.mono ?_;rintro e _ ⟨rfl,rfl⟩;go_wp2_with fail;go_ret;exact⟨rfl,by simpa [sortS] using hrow,⟨rfl,rfl,rfl,Nat.le_refl _,fun _ _ _=>rfl⟩⟩
 have hH:HoldsK seL 2 w gb 0 ss.toArray:=Zc0 seL 2 Zfr hgb r4;have hgl:gb < w.heap.size:=(Array.getElem?_eq_some_iff.1 hgb).1;have hsz:ss.toArray.size < 4611686018427387904:=by simp;omega
 have hS:Calls Tryz.prog 145 #[.slice (some ⟨gb,0,none⟩) ss.length cap,.func (.func 146) #[] #[]] w fun e w'=>e=.returned (.tuple #[])∧∃n os,w'=sortWorldK seL 2 w gb 0 n (sortS ss).toArray os:=
  AnyQ.slices_SortFunc_total Tryz.sort145 2 Tryz.isAgg25 Tryz.sizeOf25 seL Zfr Znx cmpS swoS 146 #[] gb 0 cap ss.toArray w (enters_of Tryz.func146 (by kernel_rfl) rfl) (Zol _ _ _ _) hH hgl hsz totS
 go_enter Tryz.func112,Tryz.ntmps112;go_wp2_with fail;refine hS.mono ?_;rintro e _ ⟨rfl,nn,os,rfl⟩;go_wp2_with fail;go_ret;refine⟨rfl,?_,Zbk _⟩;rw[sort_len];exact Zcp seL 2 Zfr (sort_len ss) hbase hgb r1 r2 r3
end Sess
end
section
namespace Lease
open Go.RowKit
open Go.Maps (Keyed)
open _root_.Go.Proofs.YtknoefbcmomalaaGreatDoor.Sess (seV seL sortS Zfr)
abbrev rowSe (v:Value) (l:List (Int × ByteArray)):Part:=.row 25 2 v l.length (l.flatMap seL)
def Zbj (ss:List Ses):List (Int × ByteArray):=ss.map (fun s=>(s.num,s.foot))
theorem ZkM (ss:List Ses):(ents ss).map (·.1)=(Zbj ss).map seV:=by simp[ents,ent,Zbj,seV,Ses.key,keyV]
def Zg1 (w:World) (p m:Nat) (ss:List Ses) (e:Ending) (w':World):Prop:=∃v,e=.returned v∧At [BookP p m ss] w [rowSe v (sortS (Zbj ss)),BookP p m ss] w'
theorem Zgd {w:World} {p m:Nat} {ss:List Ses} (h:Sep [BookP p m ss] w) (hmax:ss.length≤1000000):
 Calls Tryz.prog 80 #[.pointer (some ⟨p,0,none⟩)] w (Zg1 w p m ss):=by
 have hA:=begin0 h;obtain⟨hA,hF⟩:=fY hA;clear h;go_enter Tryz.func80,Tryz.ntmps80;go_wp2_with fail;refine(callsIn_wide.1 (Sess.ZnZ Fence.wide 1 trivial rfl (some m) w)).mono ?_;rintro e _ ⟨rfl,rfl⟩;have hB:=hA.alloc [.map (some m)] 147;go_wp2_with fail;refine(Sess.ZgT w.heap.size m (ents ss) (Zbj ss) (ZkM ss) _ (by simp) ((Zaa.alloc w [.map (some m)] 147).cell 0) (hB.get (A:=mapC m (ents ss)) sR) (by simp[Zbj];omega)).mono ?_;rintro e w1 ⟨v,ls,rfl,hp,hrow,_,hb⟩;have hC:=hB.row_new hb hrow;have hso:=Hd (Sess.sort_perm hp);have hll:=hp.length_eq;have hlk:ls.length≤100000000:=by rw[hll];simp[Zbj];omega
 clear hF hA hB;go_wp2_with fail;refine(Sess.ZiM (hC.get (A:=Part.row 25 2 v ls.length (ls.flatMap seL)) sR) hlk).mono ?_;rintro e w2 ⟨rfl,hrow2,hgr⟩;have hD:=hC.turn (A:=Part.row 25 2 v ls.length (ls.flatMap seL)) sR (Part.row 25 2 v (sortS ls).length ((sortS ls).flatMap seL)) hrow2 (fun b hb=>.inl hb) (ZbV hgr);rw[hso.out] at hD;go_wp2_with fail;go_ret;exact⟨v,rfl,(fold0 (m:=m) (ss:=ss) hD sR sR sR).only2 sZ sR⟩
end Lease
end
section
namespace Lease
open Go.RowKit
open Go.Lib (compareBytes)
open _root_.Go.Proofs.YtknoefbcmomalaaGreatDoor.Sess (ltS sortS cbS)
section
variable {α:Type} {lt:α→α→Prop} {p:α→Bool} {a:α} {l:List α}
theorem ZfU (tr:∀x y z,lt x y→lt y z→lt x z) (hp:∀x,p x=true↔lt x a):∀{l:List α},l.Pairwise lt→∀z ∈ l.dropWhile p,¬lt z a
 |[],_,z,hz=>by simp at hz
 |y::l,hs,z,hz=>by
  by_cases hy:p y=true
  · rw[List.dropWhile_cons_of_pos hy] at hz;exact ZfU tr hp (List.pairwise_cons.1 hs).2 z hz
  rw[List.dropWhile_cons_of_neg hy] at hz;rcases List.mem_cons.1 hz with rfl|hz
  · exact fun h=>hy ((hp _).2 h)
  exact fun h=>hy ((hp _).2 (tr _ _ _ ((List.pairwise_cons.1 hs).1 z hz) h))
theorem ZjA (hp:∀x,p x=true↔lt x a):∀x ∈ l.takeWhile p,lt x a:=fun x hx=>(hp x).1 (by
 induction l with
 |nil=>simp at hx
 |cons y l ih=>
  rw[List.takeWhile_cons] at hx;split at hx
  · rename_i hy;rcases List.mem_cons.1 hx with rfl|hx
    · exact hy
    exact ih hx
  simp at hx)
theorem ZeQ (tr:∀x y z,lt x y→lt y z→lt x z) (hp:∀x,p x=true↔lt x a) (hs:l.Pairwise lt) {r:List α} (hr:r.Sublist (l.dropWhile p)) (hr2:∀x ∈ r,lt a x):(l.takeWhile p++a::r).Pairwise lt:=by
 refine List.pairwise_append.2 ⟨hs.sublist (List.takeWhile_sublist p),List.pairwise_cons.2 ⟨hr2,(hs.sublist (List.dropWhile_sublist p)).sublist hr⟩,fun x hx y hy=> ?_⟩;have h1:=ZjA hp x hx;rcases List.mem_cons.1 hy with rfl|hy
 · exact h1
 exact tr _ _ _ h1 (hr2 y hy)
end
def arP (a:AR):Int × Ans:=(a.r,⟨a.e,a.n,a.g⟩)
def okA (a:AR):Prop:=(-9223372036854775808≤a.e∧a.e≤9223372036854775807)∧0≤a.n∧a.n < big64
structure RelT (told:List (Int × Ans)) (l:List AR):Prop where
 perm:told.Perm (l.map arP)
 srt:l.Pairwise (fun a b=>a.r < b.r)
 bd:∀x ∈ l,0≤x.r∧x.r < big64
 len:l.length≤256
 an:∀x ∈ l,okA x
theorem RelT.nil:RelT [] []:=⟨by simp,List.Pairwise.nil,nofun,by simp,nofun⟩
theorem RelT.size {told:List (Int × Ans)} {l:List AR} (h:RelT told l):told.length=l.length:=by simpa using h.perm.length_eq
theorem RelT.uniq {told:List (Int × Ans)} {l:List AR} (h:RelT told l) {x y:AR} (hx:x ∈ l) (hy:y ∈ l) (e:x.r=y.r):x=y:=by
 obtain⟨i,hi⟩:=List.mem_iff_getElem?.1 hx;obtain⟨j,hj⟩:=List.mem_iff_getElem?.1 hy;by_cases hij:i=j
 · subst hij;rw[hi] at hj;exact Option.some.inj hj
 exfalso
 obtain⟨hi1,hi2⟩:=List.getElem?_eq_some_iff.1 hi;obtain⟨hj1,hj2⟩:=List.getElem?_eq_some_iff.1 hj;have hp:=List.pairwise_iff_getElem.1 h.srt;rcases Nat.lt_or_gt_of_ne hij with q|q
 · have:=hp i j hi1 hj1 q;rw[hi2,hj2] at this;omega
 have:=hp j i hj1 hi1 q;rw[hi2,hj2] at this;omega
theorem RelT.said {told:List (Int × Ans)} {l:List AR} (h:RelT told l) (r:Int):Lease.said told r=(saidA l r).map (fun a=>(arP a).2):=by
 cases hs:saidA l r with
 |none=>
  unfold saidA at hs;have hn:=List.find?_eq_none.1 hs;unfold Lease.said;rw[List.find?_eq_none.2 (fun q hq hr=> ?_)]
  · rfl
  obtain⟨a,ha,rfl⟩:=List.mem_map.1 (h.perm.mem_iff.1 hq);exact hn a ha (by simpa [arP] using of_decide_eq_true hr)
 |some a=>
  unfold saidA at hs;have h1:=List.find?_some hs;have h2:=List.mem_of_find?_eq_some hs;have h1':a.r=r:=by simpa using h1
  have h3:(r,(arP a).2) ∈ told:=h.perm.mem_iff.2 (List.mem_map.2 ⟨a,h2,by simp[arP,h1']⟩);unfold Lease.said
  cases hq:told.find? (fun q=>decide (q.1=r)) with
  |none=>
   exfalso
   have h4:=List.find?_eq_none.1 hq _ h3;simp at h4
  |some q=>
   have q1:=List.find?_some hq;obtain⟨b,hb,rfl⟩:=List.mem_map.1 (h.perm.mem_iff.1 (List.mem_of_find?_eq_some hq));have hb2:b.r=r:=of_decide_eq_true q1;rw[h.uniq hb h2 (hb2.trans h1'.symm)];rfl
theorem ZcZ (l:List AR) (a:AR):(insA l a).Perm (a::l):=by
 unfold insA;refine List.perm_middle.trans (List.Perm.cons _ ?_);rw[List.takeWhile_append_dropWhile]
theorem RelT.tell {told:List (Int × Ans)} {l:List AR} (h:RelT told l) {a:AR} (hn:saidA l a.r=none) (hl:l.length < 256) (hb:0≤a.r∧a.r < big64) (ha:okA a):RelT (told++[arP a]) (insA l a):=by
 have hno:∀x ∈ l,x.r≠a.r:=fun x hx e=>by
  unfold saidA at hn;exact List.find?_eq_none.1 hn x hx (by simpa using e)
 have hp:∀x,ZcC a x=true↔x.r < a.r:=fun x=>by simp[ZcC]
 refine⟨?_,?_,fun x hx=> ?_,?_,fun x hx=> ?_⟩
 · have e:((insA l a).map arP).Perm (arP a::l.map arP):=(ZcZ l a).map arP;exact(List.perm_append_comm.trans (by simpa using h.perm.cons (arP a))).trans e.symm
 · refine ZeQ (lt:=fun x y:AR=>x.r < y.r) (fun _ _ _ h1 h2=>Int.lt_trans h1 h2) hp h.srt (List.Sublist.refl _) fun x hx=> ?_;have h1:=ZfU (lt:=fun x y:AR=>x.r < y.r) (fun _ _ _ h1 h2=>Int.lt_trans h1 h2) hp h.srt x hx;have h2:=hno x ((List.dropWhile_sublist _).subset hx);omega
 · rcases List.mem_cons.1 ((ZcZ l a).mem_iff.1 hx) with rfl|hx
   · exact hb
   exact h.bd x hx
 · have:=(ZcZ l a).length_eq
   simp at this
   omega
 rcases List.mem_cons.1 ((ZcZ l a).mem_iff.1 hx) with rfl|hx
 · exact ha
 exact h.an x hx
structure RelS (s:Ses) (a:SR):Prop where
 num:s.num=a.num
 foot:s.foot=a.foot
 op:s.op=a.op
 dead:s.dead=a.dead
 dl:s.dl=a.dl
 ttl:s.ttl=a.ttl
 told:RelT s.told a.told
 tb:0≤a.ttl∧a.ttl≤2199023255552
 db:0≤a.dl∧a.dl≤2199023255552
def keyR (a:SR):Int × ByteArray:=(a.num,a.foot)
def keyE (s:Ses):Int × ByteArray:=(s.num,s.foot)
def ltR (a b:SR):Prop:=ltS (keyR a) (keyR b)
theorem less_cb:∀(x y:List UInt8),Op.bytesLess x y=decide (compareBytes x y < 0)
 |[],[]=>by simp[Op.bytesLess,compareBytes]
 |[],_::_=>by simp[Op.bytesLess,compareBytes]
 |_::_,[]=>by simp[Op.bytesLess,compareBytes]
 |a::x,b::y=>by
  rw[Op.bytesLess,less_cb x y];simp only[compareBytes];rcases Nat.lt_trichotomy a.toNat b.toNat with h|h|h
  · have h1:a < b:=UInt8.lt_iff_toNat_lt.2 h;simp[h1]
  · have e:a=b:=UInt8.toNat_inj.1 h;subst e;have h1:¬a < a:=fun q=>by have:=UInt8.lt_iff_toNat_lt.1 q;omega
    simp[h1]
  have h1:b < a:=UInt8.lt_iff_toNat_lt.2 h;have h2:¬a < b:=fun q=>by have:=UInt8.lt_iff_toNat_lt.1 q;omega
  have h3:a≠b:=fun e=>by subst e;omega
  simp[h1,h2,h3]
theorem Zld (s x:SR):Za1 s x=true↔ltR x s:=by
 unfold Za1 ltR ltS keyR cbS;rw[Lib.toList_data,Lib.toList_data,less_cb];simp
theorem ZeO {n:Int} {f:ByteArray} {a:SR}:SR.is n f a=true↔keyR a=(n,f):=by
 unfold SR.is keyR;rw[Lib.toList_data,Lib.toList_data];simp only[Bool.and_eq_true,beq_iff_eq,Prod.mk.injEq];constructor
 · rintro⟨h1,h2⟩;exact⟨h1,Go.WideShapes.bytes_inj h2⟩
 rintro⟨h1,h2⟩;exact⟨h1,by rw[h2]⟩
theorem Zgu:∀x y z:SR,ltR x y→ltR y z→ltR x z:=fun _ _ _ h1 h2=>Sess.Zcf h1 h2
theorem Zkh {x y:SR} (h:ltR x y):keyR x≠keyR y:=fun e=>by unfold ltR at h;rw[e] at h;exact Sess.Zdh _ h
structure Rel (ss:List Ses) (L:List SR):Prop where
 keys:(ss.map keyE).Perm (L.map keyR)
 srt:L.Pairwise ltR
 each:∀s ∈ ss,∀a ∈ L,keyE s=keyR a→RelS s a
theorem Rel.nil:Rel [] []:=⟨by simp,List.Pairwise.nil,nofun⟩
theorem Rel.len {ss:List Ses} {L:List SR} (h:Rel ss L):ss.length=L.length:=by simpa using h.keys.length_eq
theorem ZeH {L:List SR} (h:L.Pairwise ltR):(L.map keyR).Nodup:=List.pairwise_map.2 (h.imp Zkh)
theorem Rel.nodupL {ss:List Ses} {L:List SR} (h:Rel ss L):(L.map keyR).Nodup:=ZeH h.srt
theorem Rel.nodupS {ss:List Ses} {L:List SR} (h:Rel ss L):(ss.map keyE).Nodup:=h.keys.nodup_iff.2 h.nodupL
theorem Zn0 {α β:Type} {f:α→β} {l:List α} (h:(l.map f).Nodup) {x y:α} (hx:x ∈ l) (hy:y ∈ l) (e:f x=f y):x=y:=by
 obtain⟨i,hi⟩:=List.mem_iff_getElem?.1 hx;obtain⟨j,hj⟩:=List.mem_iff_getElem?.1 hy;by_cases hij:i=j
 · subst hij;rw[hi] at hj;exact Option.some.inj hj
 exfalso
 obtain⟨hi1,hi2⟩:=List.getElem?_eq_some_iff.1 hi;obtain⟨hj1,hj2⟩:=List.getElem?_eq_some_iff.1 hj;have hp:=List.pairwise_iff_getElem.1 (List.pairwise_map.1 h);rcases Nat.lt_or_gt_of_ne hij with q|q
 · exact hp i j hi1 hj1 q (by rw[hi2,hj2,e])
 exact hp j i hj1 hi1 q (by rw[hi2,hj2,e])
theorem is_key {s:Ses} {n:Int} {f:ByteArray}:s.is n f=true↔keyE s=(n,f):=by simp[Ses.is,keyE]
theorem RelS.none (n:Int) (f:ByteArray) (b t:Nat):RelS (fresh n f b t) (noSR n f):=⟨rfl,rfl,rfl,rfl,rfl,rfl,RelT.nil,by simp[noSR],by simp[noSR]⟩
theorem Rel.both {ss:List Ses} {L:List SR} (h:Rel ss L) (n:Int) (f:ByteArray):
 (find ss n f=none∧(∀a ∈ L,SR.is n f a=false)∧findR L n f=noSR n f)∨(∃s a,find ss n f=some s∧a ∈ L∧keyR a=(n,f)∧findR L n f=a∧RelS s a):=by
 cases hf:find ss n f with
 |none=>
  refine .inl ⟨rfl,?_⟩
  have hno:∀a ∈ L,SR.is n f a=false:=fun a ha=>by
   cases hq:SR.is n f a
   · rfl
   exfalso
   have hk:=ZeO.1 hq;have:(n,f) ∈ ss.map keyE:=h.keys.mem_iff.2 (hk ▸ List.mem_map.2 ⟨a,ha,rfl⟩);obtain⟨s,hs,hs2⟩:=List.mem_map.1 this;exact List.find?_eq_none.1 hf s hs (is_key.2 hs2)
  exact⟨hno,ZeU hno⟩
 |some s=>
  right
  have h1:=List.find?_some hf;have h2:=List.mem_of_find?_eq_some hf;have hk:=is_key.1 h1;have:(n,f) ∈ L.map keyR:=h.keys.mem_iff.1 (hk ▸ List.mem_map.2 ⟨s,h2,rfl⟩);obtain⟨a,ha,hak⟩:=List.mem_map.1 this;refine⟨s,a,rfl,ha,hak,?_,h.each s h2 a ha (hk.trans hak.symm)⟩;unfold findR
  cases hq:L.find? (SR.is n f) with
  |none=>exact absurd (ZeO.2 hak) (by simpa using List.find?_eq_none.1 hq a ha)
  |some b=>
   have hb:=ZeO.1 (List.find?_some hq);exact Zn0 h.nodupL (List.mem_of_find?_eq_some hq) ha (hb.trans hak.symm)
theorem Rel.look {ss:List Ses} {L:List SR} (h:Rel ss L) (n:Int) (f:ByteArray):RelS (Lease.look ss n f) (findR L n f):=by
 unfold Lease.look;rcases h.both n f with⟨h1,_,h3⟩|⟨s,a,h1,_,_,h4,h5⟩
 · rw[h1,h3];exact RelS.none _ _ _ _
 rw[h1,h4];exact h5
theorem Rel.map_perm {ss:List Ses} {L:List SR} (h:Rel ss L) {β:Type} (φ:Ses→β) (ψ:SR→β) (e:∀s a,RelS s a→φ s=ψ a):(ss.map fun s=>(keyE s,φ s)).Perm (L.map fun a=>(keyR a,ψ a)):=by
 have n1:(ss.map fun s=>(keyE s,φ s)).Nodup:=List.pairwise_map.2 ((List.pairwise_map.1 h.nodupS).imp fun q e=>q (congrArg Prod.fst e));have n2:(L.map fun a=>(keyR a,ψ a)).Nodup:=List.pairwise_map.2 ((List.pairwise_map.1 h.nodupL).imp fun q e=>q (congrArg Prod.fst e));refine(List.perm_ext_iff_of_nodup n1 n2).2 fun x=> ?_;constructor
 · intro hx;obtain⟨s,hs,rfl⟩:=List.mem_map.1 hx;obtain⟨a,ha,hk⟩:=List.mem_map.1 (h.keys.mem_iff.1 (List.mem_map.2 ⟨s,hs,rfl⟩));exact List.mem_map.2 ⟨a,ha,by rw[hk,e s a (h.each s hs a ha hk.symm)]⟩
 intro hx;obtain⟨a,ha,rfl⟩:=List.mem_map.1 hx;obtain⟨s,hs,hk⟩:=List.mem_map.1 (h.keys.mem_iff.2 (List.mem_map.2 ⟨a,ha,rfl⟩));exact List.mem_map.2 ⟨s,hs,by rw[hk,e s a (h.each s hs a ha hk)]⟩
theorem Rel.cnt {ss:List Ses} {L:List SR} (h:Rel ss L) (f:ByteArray):Lease.cnt ss f=cntR L f:=by
 have hp:=(h.map_perm (fun s=>s.op) (fun a=>a.op) (fun s a r=>r.op)).filter (fun x:(Int × ByteArray) × Bool=>(x.1.2.toList==f.toList)&&x.2);have hl:=hp.length_eq;rw[List.filter_map,List.filter_map,List.length_map,List.length_map] at hl;exact hl
theorem Zgl (s y:SR) (r:List SR):ZbD s (y::r)=if SR.is s.num s.foot y=true then r else y::r:=rfl
theorem Zhs {L:List SR} (hs:L.Pairwise ltR) (a:SR):(putR L a).Pairwise ltR∧∀x,x ∈ putR L a↔x=a∨(x ∈ L∧keyR x≠keyR a):=by
 have hp:∀x,Za1 a x=true↔ltR x a:=Zld a;have hd:=ZfU (lt:=ltR) Zgu hp hs;have hds:(L.dropWhile (Za1 a)).Pairwise ltR:=hs.sublist (List.dropWhile_sublist _)
 have key:(ZbD a (L.dropWhile (Za1 a))).Sublist (L.dropWhile (Za1 a))∧∀x,x ∈ ZbD a (L.dropWhile (Za1 a))↔x ∈ L.dropWhile (Za1 a)∧keyR x≠keyR a:=by
  generalize L.dropWhile (Za1 a)=r at hd hds
  cases r with
  |nil=>exact⟨by simp[ZbD],fun x=>by simp[ZbD]⟩
  |cons y r=>
   have hy:=List.pairwise_cons.1 hds;rw[Zgl];rcases Bool.eq_false_or_eq_true (SR.is a.num a.foot y) with hq|hq;rotate_left
   · rw[if_neg (by rw[hq];simp)];refine⟨List.Sublist.refl _,fun x=>⟨fun hx=>⟨hx,fun e=> ?_⟩,fun hx=>hx.1⟩⟩
     have hyk:keyR y≠keyR a:=fun e2=>by
      have:SR.is a.num a.foot y=true:=ZeO.2 e2;rw[hq] at this;cases this
     rcases List.mem_cons.1 hx with rfl|hx
     · exact hyk e
     have h1:ltR y x:=hy.1 x hx;have h2:¬ltR y a:=hd y (by simp);apply h2;unfold ltR at h1 ⊢;rw[←e];exact h1
   rw[if_pos hq];have hyk:keyR y=keyR a:=ZeO.1 hq;refine⟨List.sublist_cons_self _ _,fun x=>⟨fun hx=>⟨by simp[hx],fun e=> ?_⟩,fun hx=> ?_⟩⟩
   · exact Zkh (hy.1 x hx) (hyk.trans e.symm)
   rcases List.mem_cons.1 hx.1 with rfl|h
   · exact absurd hyk hx.2
   exact h
 refine⟨ZeQ Zgu hp hs key.1 fun x hx=> ?_,fun x=> ?_⟩
 · have h1:=(key.2 x).1 hx;have h2:=hd x h1.1;unfold ltR at h2 ⊢;rcases Sess.ZfE (keyR a) (keyR x) with q|q|q
   · exact q
   · exact absurd q.symm h1.2
   exact absurd q h2
 unfold putR;rw[List.mem_append,List.mem_cons,key.2];constructor
 · rintro(h|h|h)
   · exact .inr ⟨(List.takeWhile_sublist _).subset h,fun e=>Zkh (ZjA hp x h) e⟩
   · exact .inl h
   exact .inr ⟨(List.dropWhile_sublist _).subset h.1,h.2⟩
 rintro(h|⟨h1,h2⟩)
 · exact .inr (.inl h)
 rw[←List.takeWhile_append_dropWhile (p:=Za1 a) (l:=L)] at h1;rcases List.mem_append.1 h1 with h|h
 · exact .inl h
 exact .inr (.inr ⟨h,h2⟩)
theorem Rel.put {ss ss':List Ses} {L:List SR} {s':Ses} {a':SR} (h:Rel ss L) (hr:RelS s' a') (hn:(ss'.map keyE).Nodup) (hm:∀x,x ∈ ss'↔x=s'∨(x ∈ ss∧keyE x≠keyE s')):Rel ss' (putR L a'):=by
 obtain⟨hsrt,hmem⟩:=Zhs h.srt a';have hk:keyE s'=keyR a':=by unfold keyE keyR;rw[hr.num,hr.foot]
 refine⟨(List.perm_ext_iff_of_nodup hn (ZeH hsrt)).2 fun q=> ?_,hsrt,fun s hs a ha e=> ?_⟩
 · constructor
   · intro hq;obtain⟨x,hx,rfl⟩:=List.mem_map.1 hq;rcases(hm x).1 hx with rfl|⟨hx1,hx2⟩
     · exact List.mem_map.2 ⟨a',(hmem a').2 (.inl rfl),hk.symm⟩
     obtain⟨a,ha,hak⟩:=List.mem_map.1 (h.keys.mem_iff.1 (List.mem_map.2 ⟨x,hx1,rfl⟩));exact List.mem_map.2 ⟨a,(hmem a).2 (.inr ⟨ha,by rw[hak,←hk];exact hx2⟩),hak⟩
   intro hq;obtain⟨a,ha,rfl⟩:=List.mem_map.1 hq;rcases(hmem a).1 ha with rfl|⟨ha1,ha2⟩
   · exact List.mem_map.2 ⟨s',(hm s').2 (.inl rfl),hk⟩
   obtain⟨x,hx,hxk⟩:=List.mem_map.1 (h.keys.mem_iff.2 (List.mem_map.2 ⟨a,ha1,rfl⟩));exact List.mem_map.2 ⟨x,(hm x).2 (.inr ⟨hx,by rw[hxk,hk];exact ha2⟩),hxk⟩
 rcases(hm s).1 hs with rfl|⟨hs1,hs2⟩
 · rcases(hmem a).1 ha with rfl|⟨_,ha2⟩
   · exact hr
   exact absurd (e.symm.trans hk) ha2
 rcases(hmem a).1 ha with rfl|⟨ha1,_⟩
 · exact absurd (e.trans hk.symm) hs2
 exact h.each s hs1 a ha1 e
theorem Rel.put_old {l1 l2:List Ses} {s s':Ses} {L:List SR} {a':SR} (h:Rel (l1++s::l2) L) (hk:keyE s'=keyE s) (hr:RelS s' a'):Rel (l1++s'::l2) (putR L a'):=by
 have hn:=h.nodupS;have e:(l1++s'::l2).map keyE=(l1++s::l2).map keyE:=by simp[hk]
 refine h.put hr (by rw[e];exact hn) fun x=> ?_;have hp:=List.pairwise_append.1 (List.pairwise_map.1 hn);have hc:=List.pairwise_cons.1 hp.2.1;rw[hk];constructor
 · intro hx;rcases List.mem_append.1 hx with hx|hx
   · exact .inr ⟨by simp[hx],hp.2.2 x hx s (by simp)⟩
   rcases List.mem_cons.1 hx with rfl|hx
   · exact .inl rfl
   exact .inr ⟨by simp[hx],fun e=>hc.1 x hx e.symm⟩
 rintro(rfl|⟨hx,hx2⟩)
 · simp
 rcases List.mem_append.1 hx with hx|hx
 · simp[hx]
 rcases List.mem_cons.1 hx with rfl|hx
 · exact absurd rfl hx2
 simp[hx]
theorem Rel.put_new {ss:List Ses} {s':Ses} {L:List SR} {a':SR} (h:Rel ss L) (hf:find ss s'.num s'.foot=none) (hr:RelS s' a'):Rel (ss++[s']) (putR L a'):=by
 have hno:∀x ∈ ss,keyE x≠keyE s':=fun x hx e=>List.find?_eq_none.1 hf x hx (is_key.2 e);refine h.put hr ?_ fun x=> ?_
 · rw[List.map_append];refine List.pairwise_append.2 ⟨h.nodupS,by simp,fun p hp q hq=> ?_⟩;obtain⟨x,hx,rfl⟩:=List.mem_map.1 hp;have:q=keyE s':=by simpa using hq
   rw[this];exact hno x hx
 constructor
 · intro hx;rcases List.mem_append.1 hx with hx|hx
   · exact .inr ⟨hx,hno x hx⟩
   exact .inl (by simpa using hx)
 rintro(rfl|⟨hx,_⟩)<;>simp[*]
end Lease
end
section
namespace Lease
open Go.RowKit
theorem Rel.turned {ss ss':List Ses} {L:List SR} {n:Int} {f:ByteArray} {g:Ses→Ses} {ga:SR→SR} (h:Rel ss L) (ht:ZaE ss n f g ss') (hg:∀s,keyE (g s)=keyE s) (hr:∀s a,RelS s a→s=Lease.look ss n f∨find ss n f=none→a=findR L n f→RelS (g s) (ga a)):Rel ss' (putR L (ga (findR L n f))):=by
 rcases ht with⟨l1,s,l2,hf,rfl,rfl⟩|⟨hf,b,t,rfl⟩
 · rcases h.both n f with⟨q,_,_⟩|⟨s',a,q1,q2,q3,q4,q5⟩
   · rw[q] at hf;cases hf
   rw[q1] at hf;cases hf;rw[q4];exact h.put_old (hg s) (hr s a q5 (.inl (by unfold Lease.look;rw[q1];rfl)) q4.symm)
 rcases h.both n f with⟨q,_,q3⟩|⟨s',a,q1,_⟩
 · rw[q3];have hk:=hg (fresh n f b t);have h1:(g (fresh n f b t)).num=n:=congrArg Prod.fst hk;have h2:(g (fresh n f b t)).foot=f:=congrArg Prod.snd hk;exact h.put_new (by rw[h1,h2];exact hf) (hr _ _ (RelS.none n f b t) (.inr q) q3.symm)
 rw[q1] at hf;cases hf
section
variable {ss:List Ses} {L:List SR} {n:Int} {f:ByteArray} (h:Rel ss L)
include h
theorem Rel.openE:Lease.openE (Lease.look ss n f) (Lease.cnt ss f)=Za0 (findR L n f) (cntR L f):=by
 have r:=h.look n f;unfold Lease.openE Za0;rw[r.dead,r.op,h.cnt]
theorem Rel.expE (time:Int):expB (Lease.look ss n f) time=Lease.expE (findR L n f) time:=by
 have r:=h.look n f;unfold expB Lease.expE;rw[r.op,r.dl]
theorem Rel.keepE:(if(Lease.look ss n f).op then(0:Int) else 50)=if(findR L n f).op then 0 else 50:=by rw[(h.look n f).op]
end
theorem RelS.opened {s:Ses} {a:SR} (h:RelS s a) (ttl time:Int) (hd:a.dead=false):RelS (s.opened ttl time) (a.opened ttl time):=
 ⟨h.num,h.foot,rfl,hd.symm,rfl,rfl,h.told,Zci ttl,Zci _⟩
theorem ZkZ {t:Int} (h:0≤t∧t≤2199023255552):cutI t=t:=by unfold cutI;rw[if_neg (by omega),if_neg (by omega)]
theorem RelS.kept {s:Ses} {a:SR} (h:RelS s a) (time:Int):RelS (s.kept time) (a.kept time):=by
 have e:endI time s.ttl=cutI (cutI time + a.ttl):=by unfold endI;rw[h.ttl,ZkZ h.tb]
 refine⟨h.num,h.foot,h.op,h.dead,?_,h.ttl,h.told,h.tb,by
  have h1:=h.db;have h2:=Zci (cutI time + a.ttl);unfold SR.kept;simp only
  split<;>omega⟩
 show(if s.dl < endI time s.ttl then endI time s.ttl else s.dl)=_;rw[e,h.dl]
 rfl
theorem RelS.ended {s:Ses} {a:SR} (h:RelS s a):RelS s.ended a.ended:=⟨h.num,h.foot,rfl,rfl,rfl,rfl,h.told,by simp[SR.ended],by simp[SR.ended]⟩
theorem RelS.tell {s:Ses} {a:SR} (h:RelS s a) {x:AR} (hn:saidA a.told x.r=Option.none) (hl:a.told.length < 256) (hb:0≤x.r∧x.r < big64) (ha:okA x) (ax:Option Addr) (cap:Nat):RelS (s.tell x.r (arP x).2) {a with ax:=ax,cap:=cap,told:=insA a.told x}:=
 ⟨h.num,h.foot,h.op,h.dead,h.dl,h.ttl,h.told.tell hn hl hb ha,h.tb,h.db⟩
theorem RelS.tellE {s:Ses} {a:SR} (h:RelS s a) (r:Int):Lease.tellE s r=if(saidA a.told r).isSome then 1 else if 256≤a.told.length then 1 else 0:=by
 unfold Lease.tellE;rw[h.told.said,h.told.size];cases saidA a.told r<;>rfl
end Lease
end
section
namespace Lease
open Go.RowKit
def poolL (PL:List (Value × List AR)):List Part:=PL.map fun q=>rowA q.1 q.2
def poolP (PL:List (Value × List AR)):Part:=Part.all (poolL PL)
theorem eqvP (p1 p2:List (Value × List AR)) (q:Value × List AR) (F:List Part):Eqv (poolP (p1++q::p2)::F) (rowA q.1 q.2::poolP (p1++p2)::F):=by
 refine(Eqv.all _ F).trans ?_
 have e1:(poolL (p1++q::p2)++F).Perm (rowA q.1 q.2::(poolL (p1++p2)++F)):=by
  simp only[poolL,List.map_append,List.map_cons,List.append_assoc,List.cons_append];exact List.perm_middle
 exact(Eqv.perm e1).trans (((Eqv.all (poolL (p1++p2)) F).symm).cons _)
theorem eqvP1 (PL:List (Value × List AR)) (q:Value × List AR) (F:List Part):Eqv (poolP (q::PL)::F) (rowA q.1 q.2::poolP PL::F):=eqvP [] PL q F
structure Inv (ss:List Ses) (L:List SR) (PL:List (Value × List AR)):Prop where
 rel:Rel ss L
 pool:∀a ∈ L,(a.tv,a.told) ∈ PL
 nil:((.slice none 0 0:Value),([]:List AR)) ∈ PL
 fb:∀a ∈ L,a.foot.size≤2000000
theorem ZkJ {L:List SR} {n:Int} {f:ByteArray}:findR L n f ∈ L∨findR L n f=noSR n f:=by
 unfold findR
 cases h:L.find? (SR.is n f) with
 |none=>exact .inr rfl
 |some a=>exact .inl (List.mem_of_find?_eq_some h)
theorem Zec {L:List SR} {n:Int} {f:ByteArray}:(findR L n f).num=n∧(findR L n f).foot=f:=by
 unfold findR
 cases h:L.find? (SR.is n f) with
 |none=>exact⟨rfl,rfl⟩
 |some a=>
  have:=ZeO.1 (List.find?_some h);exact⟨congrArg Prod.fst this,congrArg Prod.snd this⟩
theorem Inv.found {ss:List Ses} {L:List SR} {PL:List (Value × List AR)} (h:Inv ss L PL) (n:Int) (f:ByteArray):((findR L n f).tv,(findR L n f).told) ∈ PL:=by
 rcases ZkJ (L:=L) (n:=n) (f:=f) with q|q
 · exact h.pool _ q
 rw[q];exact h.nil
theorem Inv.put {ss ss':List Ses} {L:List SR} {PL PL':List (Value × List AR)} (h:Inv ss L PL) {a':SR} (hr:Rel ss' (putR L a')) (hs:∀q ∈ PL,q ∈ PL') (ha:(a'.tv,a'.told) ∈ PL') (hfb:a'.foot.size≤2000000):Inv ss' (putR L a') PL':=by
 refine⟨hr,fun a hm=> ?_,hs _ h.nil,fun a hm=>by
  rcases((Zhs h.rel.srt a').2 a).1 hm with rfl|⟨hm,_⟩
  · exact hfb
  exact h.fb a hm⟩
 rcases((Zhs h.rel.srt a').2 a).1 hm with rfl|⟨hm,_⟩
 · exact ha
 exact hs _ (h.pool a hm)
def ZoA (w:World) (v:Value) (L:List SR) (PL:List (Value × List AR)) (s:SR) (x:AR) (code:Int) (e:Ending) (w':World):Prop:=
 (code≠0∧e=.returned (.agg #[v])∧At [rowR v L,poolP PL] w [rowR v L,poolP PL] w')∨
 (code=0∧∃v' ax cap,e=.returned (.agg #[v'])∧At [rowR v L,poolP PL] w [rowR v' (putR L {s with ax:=ax,cap:=cap,told:=insA s.told x}),poolP ((SR.tv {s with ax:=ax,cap:=cap,told:=insA s.told x},insA s.told x)::PL)] w')
theorem ZmK {w:World} {v:Value} {L:List SR} {PL:List (Value × List AR)} {s:SR} (h:Sep [rowR v L,poolP PL] w) (hs:(s.tv,s.told) ∈ PL) (x:AR) (hmax:L.length≤1000000) (hl:s.told.length≤256) {code:Int} (hc:code=if(saidA s.told x.r).isSome then 1 else if 256≤s.told.length then 1 else 0):
 Calls Tryz.prog 29 #[.agg #[v],.agg s.cells.toArray,.agg x.cells.toArray] w (ZoA w v L PL s x code):=by
 obtain⟨p1,p2,rfl⟩:=List.append_of_mem hs;have hA:=(At.start h).pick (K:=[poolP (p1++(s.tv,s.told)::p2),rowR v L]) pR;have hB:=hA.to (eqvP p1 p2 (s.tv,s.told) [rowR v L]);clear hA;have back:∀{L1:List SR} {v1:Value} {w1:World},At [rowR v L,poolP (p1++(s.tv,s.told)::p2)] w [rowA s.tv s.told,poolP (p1++p2),rowR v1 L1] w1→At [rowR v L,poolP (p1++(s.tv,s.told)::p2)] w [rowR v1 L1,poolP (p1++(s.tv,s.told)::p2)] w1:=fun hX=>(hX.to (eqvP p1 p2 (s.tv,s.told) [rowR _ _]).symm).pick pR;by_cases hno:saidA s.told x.r=none∧s.told.length < 256
 · have hc0:code=0:=by rw[hc,hno.1,if_neg (by simp),if_neg (by omega)]
   refine(Zjy (hB.seps pR) x hmax hno.1 hno.2).mono ?_;rintro e w1 ⟨v',ax,cap,rfl,hT⟩;have hC:=hB.call2 sR sR hT;simp only[uA] at hC;refine .inr ⟨hc0,v',ax,cap,rfl,?_⟩;have hD:=back (hC.pick (K:=[rowA s.tv s.told,poolP (p1++p2),rowR _ _]) pR);have hE:=hC.pick (K:=[rowA s.tv s.told,poolP (p1++p2),rowA (SR.tv {s with ax:=ax,cap:=cap,told:=insA s.told x}) (insA s.told x),rowR v' (putR L {s with ax:=ax,cap:=cap,told:=insA s.told x})]) pZ;have hG:=(hE.to (eqvP p1 p2 (s.tv,s.told) [rowA _ _,rowR _ _]).symm).pick (K:=[rowA (SR.tv {s with ax:=ax,cap:=cap,told:=insA s.told x}) (insA s.told x),poolP (p1++(s.tv,s.told)::p2),rowR v' (putR L {s with ax:=ax,cap:=cap,told:=insA s.told x})]) pZ;exact(hG.to (eqvP1 (p1++(s.tv,s.told)::p2) (SR.tv {s with ax:=ax,cap:=cap,told:=insA s.told x},insA s.told x) [rowR _ _]).symm).pick pZ
 have hc1:code≠0:=by
  rw[hc]
  cases hs:saidA s.told x.r with
  |some a=>simp
  |none=>rw[if_neg (by simp),if_pos (by have:¬s.told.length < 256:=fun q=>hno ⟨hs,q⟩;omega)];simp
 refine(Zlx (hB.seps pR) x (by omega) (by
  cases hs:saidA s.told x.r with
  |some a=>exact .inl rfl
  |none=>exact .inr (by have:¬s.told.length < 256:=fun q=>hno ⟨hs,q⟩;omega))).mono ?_
 rintro e w1 ⟨rfl,hT⟩;have hC:=hB.call2 sR sR hT;simp only[uA] at hC;exact .inl ⟨hc1,rfl,back (hC.pick pR)⟩
end Lease
end
end Go.Proofs.YtknoefbcmomalaaGreatDoor
section
namespace Go.Proofs.YtknoefbcmomalaaGreatDoor.Cmd
open Path (bl Zaf overB)
structure Cm where
 kind:Int
 num:Int
 foot:ByteArray
 req:Int
 path:ByteArray
 mode:Int
 n:Int
 time:Int
deriving DecidableEq
def Cm.cells (c:Cm):List Value:=[.int .i64 c.kind,.int .u64 c.num,.string c.foot,.int .u64 c.req,.string c.path,.int .i64 c.mode,.int .u64 c.n,.int .i64 c.time]
def Cm.val (c:Cm):Value:=.agg #[.int .i64 c.kind,.int .u64 c.num,.string c.foot,.int .u64 c.req,.string c.path,.int .i64 c.mode,.int .u64 c.n,.int .i64 c.time]
structure Hs where
 session:Bool
 request:Bool
 path:Bool
 mode:Bool
 n:Bool
 time:Bool
def hasOf (k:Int):Option Hs:=
 if k=0 then some ⟨false,false,false,false,false,false⟩
 else if k=1 then some ⟨true,true,false,false,true,true⟩
 else if k=2 then some ⟨true,true,false,false,false,false⟩
 else if k=3 then some ⟨true,true,false,false,false,true⟩
 else if k=4 then some ⟨true,true,true,true,false,false⟩
 else if k=5 then some ⟨true,true,true,true,false,false⟩
 else if k=6 then some ⟨true,true,true,false,false,false⟩
 else if k=7 then some ⟨true,true,true,false,true,false⟩
 else if k=8 then some ⟨true,false,false,false,false,true⟩
 else none
def bareC (c:Cm) (h:Hs):Cm:=⟨c.kind,if h.session then c.num else 0,if h.session then c.foot else .empty,if h.request then c.req else 0,if h.path then c.path else .empty,if h.mode then c.mode else 0,if h.n then c.n else 0,if h.time then c.time else 0⟩
def mostN (k:Int):Int:=if k=1 then 1048576 else 9223372036854775807
def Zbc (c:Cm) (h:Hs):Bool:=decide (c=bareC c h)&&(!h.session || Zaf (bl c.foot))&&(!h.request || !(c.req==0))&&(!h.path || Zaf (bl c.path))&&(!h.mode || !((c.mode != 1)&&(c.mode != 2)))&&(!h.n || !((c.n==0) || decide (mostN c.kind < c.n)))&&(decide (0≤c.time)&&decide (c.time≤1099511627776))
def Zao (c:Cm):Bool:=match hasOf c.kind with
 |some h=>Zbc c h
 |none=>false
def footC (c:Cm):ByteArray × Bool:=if Zao c then(match hasOf c.kind with
 |some h=>if h.path then(c.path,true) else(c.foot,h.session)
 |none=>(.empty,false)) else(.empty,false)
def keyC (c:Cm):Option (ByteArray × Int):=if(footC c).2 then some ((footC c).1,c.num) else none
end Go.Proofs.YtknoefbcmomalaaGreatDoor.Cmd
namespace Go
abbrev k8 (k n:Int) (f:ByteArray) (r:Int) (p:ByteArray) (m u t:Int):List Value:=[.int .i64 k,.int .u64 n,.string f,.int .u64 r,.string p,.int .i64 m,.int .u64 u,.int .i64 t]
abbrev k2 (p q:Nat):List Value:=[.pointer (some ⟨p,0,none⟩),.pointer (some ⟨q,0,none⟩)]
end Go
end
namespace Go.Proofs.YtknoefbcmomalaaGreatDoor
section
namespace Tab
open Go.RowKit
open Path (bl Zaf overB Zan)
open Lease (Ses Ans fresh ZaE)
open Lock (S3 Ent)
open Cmd (Cm Zao)
def zs (s:Ses):Ses:={s with blk:=0,tm:=0}
theorem zs_is (s:Ses) (n:Int) (f:ByteArray):(zs s).is n f=s.is n f:=rfl
def lookA (S:List Ses) (n:Int) (f:ByteArray):Ses:=(Lease.find S n f).getD (fresh n f 0 0)
def updA (g:Ses→Ses) (n:Int) (f:ByteArray):List Ses→List Ses
 |[]=>[g (fresh n f 0 0)]
 |s::S=>if s.is n f then g s::S else s::updA g n f S
structure TS where
 S:List Ses
 L:S3
def ans0:Ans:=⟨0,0,false⟩
def ansE (e:Int):Ans:=⟨e,0,false⟩
def mayT (t:TS) (c:Cm):Int:=if(lookA t.S c.num c.foot).op=false then 50 else if Zan (bl c.foot) (bl c.path)=false then 55 else 0
def addT (t:TS) (c:Cm):TS × Ans:=
 (⟨t.S,t.L.add c.path c.num c.foot c.mode⟩,if t.L.may c.path c.num c.foot c.mode=0 then⟨0,(t.L.newE c.path c.num c.foot c.mode).n,Lock.ZaC t.L.es c.path c.mode⟩ else ansE (t.L.may c.path c.num c.foot c.mode))
def tryT (t:TS) (c:Cm):TS × Ans:=
 if Lock.ZaC t.L.es c.path c.mode then addT t c else if t.L.may c.path c.num c.foot c.mode=0 then(t,ansE 51) else(t,ansE (t.L.may c.path c.num c.foot c.mode))
def Zbm (l:List Ent) (p:ByteArray) (n:Int):Bool:=l.any (fun e=>decide (e.path=p∧e.n=n)&&Lock.ZaL l e)
def ZaX (t:TS) (c:Cm):TS × Ans:=
 if mayT t c≠0 then(t,ansE (mayT t c))
 else if c.kind=4 then addT t c
 else if c.kind=5 then tryT t c
 else if c.kind=6 then(⟨t.S,t.L.remove c.path c.num c.foot⟩,ansE (if(Lock.find t.L.es c.path c.num c.foot).isSome then 0 else 52))
 else(t,ansE (if Zbm t.L.es c.path c.n then 0 else 52))
def opT (t:TS) (c:Cm) (g:Ses→Ses) (e:Int):TS:=if e=0 then⟨updA g c.num c.foot t.S,t.L⟩ else t
def endT (t:TS) (c:Cm) (e:Int):TS:=if e=0 then⟨updA Ses.ended c.num c.foot t.S,t.L.dropAll c.num c.foot⟩ else t
def doT (t:TS) (c:Cm):TS × Ans:=
 if c.kind=1 then(opT t c (fun s=>s.opened c.n c.time) (Lease.openE (lookA t.S c.num c.foot) (Lease.cnt t.S c.foot)),ansE (Lease.openE (lookA t.S c.num c.foot) (Lease.cnt t.S c.foot)))
 else if c.kind=2 then(endT t c (if(lookA t.S c.num c.foot).op then 0 else 50),ansE (if(lookA t.S c.num c.foot).op then 0 else 50))
 else if c.kind=3 then(opT t c (fun s=>s.kept c.time) (if(lookA t.S c.num c.foot).op then 0 else 50),ansE (if(lookA t.S c.num c.foot).op then 0 else 50))
 else ZaX t c
def tellT (t:TS) (c:Cm) (a:Ans):TS:=opT t c (fun s=>s.tell c.req a) (Lease.tellE (lookA t.S c.num c.foot) c.req)
def Zav (t:TS) (c:Cm):TS × Ans:=
 if Zao c=false∨c.kind=0 then(t,ans0)
 else if c.kind=8 then(endT t c (Lease.expB (lookA t.S c.num c.foot) c.time),ansE (Lease.expB (lookA t.S c.num c.foot) c.time))
 else match Lease.said (lookA t.S c.num c.foot).told c.req with
  |some a=>(t,a)
  |none=>if 256≤(lookA t.S c.num c.foot).told.length then(t,ansE 14) else(tellT (doT t c).1 c (doT t c).2,(doT t c).2)
theorem ZkI (ss:List Ses) (n:Int) (f:ByteArray):Lease.find (ss.map zs) n f=(Lease.find ss n f).map zs:=by
 unfold Lease.find
 induction ss with
 |nil=>rfl
 |cons s ss ih=>
  rw[List.map_cons,List.find?_cons,List.find?_cons,zs_is];cases s.is n f
  · exact ih
  rfl
theorem Zkj (ss:List Ses) (n:Int) (f:ByteArray):lookA (ss.map zs) n f=zs (Lease.look ss n f):=by
 unfold lookA Lease.look;rw[ZkI];cases Lease.find ss n f<;>rfl
theorem cnt_zs (ss:List Ses) (f:ByteArray):Lease.cnt (ss.map zs) f=Lease.cnt ss f:=by
 unfold Lease.cnt;rw[List.filter_map,List.length_map];rfl
def keyE (s:Ses):Int × ByteArray:=(s.num,s.foot)
theorem is_key {s:Ses} {n:Int} {f:ByteArray}:s.is n f=true↔keyE s=(n,f):=by unfold Lease.Ses.is keyE;simp
theorem Zff {g:Ses→Ses} {n:Int} {f:ByteArray}:∀{S:List Ses},Lease.find S n f=none→updA g n f S=S++[g (fresh n f 0 0)]
 |[],_=>rfl
 |s::S,h=>by
  unfold Lease.find at h;rw[List.find?_cons] at h
  cases hq:s.is n f with
  |true=>rw[hq] at h;cases h
  |false=>
   rw[hq] at h;unfold updA;rw[hq,if_neg (by decide),Zff (S:=S) h];rfl
theorem Zg6 {g:Ses→Ses} {n:Int} {f:ByteArray} {s:Ses} {l2:List Ses} (hs:s.is n f=true):∀{l1:List Ses},(∀x ∈ l1,x.is n f=false)→updA g n f (l1++s::l2)=l1++g s::l2
 |[],_=>by simp[updA,hs]
 |x::l1,h=>by
  have h1:=h x (by simp);have ih:=Zg6 (g:=g) (l2:=l2) hs (l1:=l1) fun y hy=>h y (by simp[hy]);simp[updA,h1,ih]
def Kn (ss:List Ses):Prop:=(ss.map keyE).Nodup
theorem ZeA {ss ss':List Ses} {n:Int} {f:ByteArray} {g:Ses→Ses} (hk:Kn ss) (ht:ZaE ss n f g ss') (hg:∀s,zs (g s)=g (zs s)):ss'.map zs=updA g n f (ss.map zs):=by
 rcases ht with⟨l1,s,l2,hf,rfl,rfl⟩|⟨hf,b,t,rfl⟩
 · have hs:s.is n f=true:=by unfold Lease.find at hf;simpa using List.find?_some hf
   have hl:∀x ∈ l1.map zs,x.is n f=false:=fun x hx=>by
    obtain⟨y,hy,rfl⟩:=List.mem_map.1 hx
    cases q:(zs y).is n f with
    |false=>rfl
    |true=>
     unfold Kn at hk;rw[List.map_append,List.map_cons] at hk;have h1:=(List.nodup_append.1 hk).2.2 (keyE y) (List.mem_map.2 ⟨y,hy,rfl⟩) (keyE s) (by simp);exact absurd ((is_key.1 q).trans (is_key.1 hs).symm) h1
   rw[List.map_append,List.map_cons,List.map_append,List.map_cons,Zg6 (s:=zs s) (by rw[zs_is];exact hs) hl,hg]
 rw[List.map_append,List.map_cons,List.map_nil,hg,Zff (by rw[ZkI,hf];rfl)];rfl
abbrev headT (t p q:Nat):Part:=Part.cells t [.pointer (some ⟨p,0,none⟩),.pointer (some ⟨q,0,none⟩)] 87
def TabP (t p m:Nat) (ss:List Ses) (b:Lock.Bk):Part:=Part.all [headT t p b.p,Lease.BookP p m ss,Lock.BookP b]
theorem ZcG (t p m:Nat) (ss:List Ses) (b:Lock.Bk) (F:List Part):Eqv (TabP t p m ss b::F) (headT t p b.p::Lease.BookP p m ss::Lock.BookP b::F):=Eqv.all [headT t p b.p,Lease.BookP p m ss,Lock.BookP b] F
theorem Zbf {w:World} {t p m:Nat} {ss:List Ses} {b:Lock.Bk} (h:Sep [TabP t p m ss b] w):At [TabP t p m ss b] w [headT t p b.p,Lease.BookP p m ss,Lock.BookP b] w:=(At.start h).to (ZcG t p m ss b [])
theorem Zay {L0:List Part} {w0 w:World} {t p m:Nat} {ss:List Ses} {b:Lock.Bk} (h:At L0 w0 [headT t p b.p,Lease.BookP p m ss,Lock.BookP b] w):At L0 w0 [TabP t p m ss b] w:=h.to (ZcG t p m ss b []).symm
structure TRel (ss:List Ses) (b:Lock.Bk) (t:TS):Prop where
 S:ss.map zs=t.S
 L:b.st=t.L
structure SInv (S:List Ses) (m:Nat):Prop where
 keys:Kn S
 num:∀s ∈ S,0≤s.num∧s.num < Lease.big64
 foot:∀s ∈ S,s.foot.size≤1000
 len:S.length≤m
structure TInv (t:TS) (k:Nat):Prop where
 s:SInv t.S (2 * k)
 lock:Lock.Inv t.L k
structure CmOk (c:Cm):Prop where
 num:0≤c.num∧c.num < Lease.big64
 foot:c.foot.size≤100
 path:c.path.size≤100
theorem Zfg {g:Ses→Ses} {n:Int} {f:ByteArray} (hg:∀s,keyE (g s)=keyE s):∀{S:List Ses} {x:Ses},x ∈ updA g n f S→keyE x=(n,f)∨∃y ∈ S,keyE y=keyE x
 |[],x,h=>by rw[List.mem_singleton.1 h,hg];exact .inl rfl
 |s::S,x,h=>by
  unfold updA at h;split at h
  · rcases List.mem_cons.1 h with rfl|h
    · exact .inr ⟨s,by simp,(hg s).symm⟩
    exact .inr ⟨x,by simp[h],rfl⟩
  rcases List.mem_cons.1 h with rfl|h
  · exact .inr ⟨x,by simp,rfl⟩
  rcases Zfg hg h with q|⟨y,h1,h2⟩
  · exact .inl q
  exact .inr ⟨y,by simp[h1],h2⟩
theorem Zjt (g:Ses→Ses) (n:Int) (f:ByteArray):∀S:List Ses,(updA g n f S).length≤S.length + 1
 |[]=>by simp[updA]
 |s::S=>by
  unfold updA;split
  · simp
  have:=Zjt g n f S
  simp only[List.length_cons];omega
theorem Znb {g:Ses→Ses} {n:Int} {f:ByteArray} (hg:∀s,keyE (g s)=keyE s):∀{S:List Ses},Kn S→Kn (updA g n f S)
 |[],_=>by simp[updA,Kn]
 |s::S,h=>by
  unfold Kn at h;rw[List.map_cons,List.nodup_cons] at h;unfold updA;split
  · unfold Kn;rw[List.map_cons,hg,List.nodup_cons];exact h
  rename_i hq;unfold Kn;rw[List.map_cons,List.nodup_cons];refine⟨fun q=> ?_,Znb hg h.2⟩;obtain⟨x,hx,e⟩:=List.mem_map.1 q;rcases Zfg hg hx with q2|⟨y,h1,h2⟩
  · exact hq (is_key.2 (e.symm.trans q2))
  exact h.1 (List.mem_map.2 ⟨y,h1,h2.trans e⟩)
theorem Zie {x y:Ses} (h:keyE x=keyE y):x.num=y.num∧x.foot=y.foot:=⟨congrArg Prod.fst h,congrArg Prod.snd h⟩
theorem SInv.mono {S:List Ses} {m j:Nat} (h:SInv S m) (hj:m≤j):SInv S j:={h with len:=Nat.le_trans h.len hj}
theorem SInv.upd {S:List Ses} {m:Nat} {c:Cm} {g:Ses→Ses} (h:SInv S m) (hc:CmOk c) (hg:∀s,keyE (g s)=keyE s):SInv (updA g c.num c.foot S) (m + 1):=by
 refine⟨Znb hg h.keys,fun s hs=> ?_,fun s hs=> ?_,Nat.le_trans (Zjt g c.num c.foot S) (Nat.succ_le_succ h.len)⟩
 · rcases Zfg hg hs with q|⟨y,q1,q2⟩
   · rw[show s.num=c.num from congrArg Prod.fst q];exact hc.num
   rw[←(Zie q2).1];exact h.num y q1
 rcases Zfg hg hs with q|⟨y,q1,q2⟩
 · rw[show s.foot=c.foot from congrArg Prod.snd q];exact Nat.le_trans hc.foot (by omega)
 rw[←(Zie q2).2];exact h.foot y q1
theorem op_ok {c:Cm} (hc:CmOk c) (kind mode:Int):(⟨kind,mode,c.path,c.num,c.foot⟩:Lock.Op).ok:=⟨hc.path,hc.num.1,hc.num.2,Nat.le_trans hc.foot (by unfold maxLen;omega)⟩
theorem Zn4 {l:S3} {k:Nat} {c:Cm} (h:Lock.Inv l k) (hc:CmOk c):Lock.Inv (l.add c.path c.num c.foot c.mode) (k + 1):=Lock.ZfM h (op_ok hc 1 c.mode)
theorem Zi3 {l:S3} {k:Nat} {c:Cm} (h:Lock.Inv l k) (hc:CmOk c):Lock.Inv (l.remove c.path c.num c.foot) (k + 1):=Lock.ZfM h (op_ok hc 2 c.mode)
theorem Zmp {l:S3} {k:Nat} {c:Cm} (h:Lock.Inv l k) (hc:CmOk c):Lock.Inv (l.dropAll c.num c.foot) (k + 1):=Lock.ZfM h (op_ok hc 3 c.mode)
theorem Zd2 {t:TS} {m:Nat} {c:Cm} {g:Ses→Ses} (e:Int) (h:SInv t.S m) (hc:CmOk c) (hg:∀s,keyE (g s)=keyE s):SInv (opT t c g e).S (m + 1)∧(opT t c g e).L=t.L:=by
 unfold opT;split
 · exact⟨h.upd hc hg,rfl⟩
 exact⟨h.mono (by omega),rfl⟩
theorem Zio {t:TS} {m k:Nat} {c:Cm} (e:Int) (h:SInv t.S m) (hl:Lock.Inv t.L k) (hc:CmOk c):SInv (endT t c e).S (m + 1)∧Lock.Inv (endT t c e).L (k + 1):=by
 unfold endT;split
 · exact⟨h.upd hc fun s=>rfl,Zmp hl hc⟩
 exact⟨h.mono (by omega),hl.mono (by omega)⟩
theorem ZiF {t:TS} {m k:Nat} {c:Cm} (h:SInv t.S m) (hl:Lock.Inv t.L k) (hc:CmOk c):SInv (addT t c).1.S (m + 1)∧Lock.Inv (addT t c).1.L (k + 1):=⟨h.mono (by omega),Zn4 hl hc⟩
theorem ZkU {t:TS} {m k:Nat} {c:Cm} (h:SInv t.S m) (hl:Lock.Inv t.L k) (hc:CmOk c):SInv (doT t c).1.S (m + 1)∧Lock.Inv (doT t c).1.L (k + 1):=by
 have h0:SInv t.S (m + 1)∧Lock.Inv t.L (k + 1):=⟨h.mono (by omega),hl.mono (by omega)⟩
 unfold doT;split
 · obtain⟨q1,q2⟩:=Zd2 (Lease.openE (lookA t.S c.num c.foot) (Lease.cnt t.S c.foot)) (g:=fun s=>s.opened c.n c.time) h hc fun s=>rfl;exact⟨q1,by rw[q2];exact h0.2⟩
 split
 · exact Zio _ h hl hc
 split
 · obtain⟨q1,q2⟩:=Zd2 (if(lookA t.S c.num c.foot).op then 0 else 50) (g:=fun s=>s.kept c.time) h hc fun s=>rfl;exact⟨q1,by rw[q2];exact h0.2⟩
 unfold ZaX;split
 · exact h0
 split
 · exact ZiF h hl hc
 split
 · unfold tryT;split
   · exact ZiF h hl hc
   split
   · exact h0
   exact h0
 split
 · exact⟨h0.1,Zi3 hl hc⟩
 exact h0
theorem ZmL {t:TS} {m:Nat} {c:Cm} (h:SInv t.S m) (hc:CmOk c):SInv (doT t c).1.S (m + 1):=by
 have h0:SInv t.S (m + 1):=h.mono (by omega);unfold doT;split
 · exact(Zd2 _ (g:=fun s=>s.opened c.n c.time) h hc fun s=>rfl).1
 split
 · unfold endT;split
   · exact h.upd hc fun s=>rfl
   exact h0
 split
 · exact(Zd2 _ (g:=fun s=>s.kept c.time) h hc fun s=>rfl).1
 unfold ZaX;split
 · exact h0
 split
 · exact h0
 split
 · unfold tryT;split
   · exact h0
   split
   · exact h0
   exact h0
 split
 · exact h0
 exact h0
theorem ZgV {t:TS} {k:Nat} {c:Cm} (h:TInv t k) (hc:CmOk c):TInv (Zav t c).1 (k + 1):=by
 have h0:TInv t (k + 1):=⟨h.s.mono (by omega),h.lock.mono (by omega)⟩
 unfold Zav;split
 · exact h0
 split
 · obtain⟨q1,q2⟩:=Zio (Lease.expB (lookA t.S c.num c.foot) c.time) h.s h.lock hc;exact⟨q1.mono (by omega),q2⟩
 split
 · exact h0
 split
 · exact h0
 obtain⟨q1,q2⟩:=ZkU h.s h.lock hc;obtain⟨q3,q4⟩:=Zd2 (t:=(doT t c).1) (Lease.tellE (lookA (doT t c).1.S c.num c.foot) c.req) (g:=fun s=>s.tell c.req (doT t c).2) q1 hc fun s=>rfl
 exact⟨q3.mono (by omega),by
  show Lock.Inv (opT _ _ _ _).L _
  rw[q4];exact q2⟩
def playT (t:TS) (l:List Cm):TS:=l.foldl (fun t c=>(Zav t c).1) t
def toldT:TS→List Cm→List Ans
 |_,[]=>[]
 |t,c::l=>(Zav t c).2::toldT (Zav t c).1 l
theorem Zdf (t:TS) (l:List Cm) (c:Cm):playT t (l++[c])=(Zav (playT t l) c).1:=by unfold playT;rw[List.foldl_append];rfl
theorem ZeB:∀(l:List Cm) (t:TS) (c:Cm),toldT t (l++[c])=toldT t l++[(Zav (playT t l) c).2]
 |[],_,_=>rfl
 |x::l,t,c=>by
  show(Zav t x).2::toldT _ (l++[c])=_;rw[ZeB l]
  rfl
theorem Zh6 {l:List Cm} (hl:∀c ∈ l,CmOk c):∀{t:TS} {k:Nat},TInv t k→TInv (playT t l) (k + l.length):=by
 induction l with
 |nil=>exact fun h=>h
 |cons c l ih=>
  intro t k h;have h1:=ih (fun x hx=>hl x (by simp[hx])) (ZgV h (hl c (by simp)));have e:k + 1 + l.length=k + (c::l).length:=by simp only[List.length_cons];omega
  rw[←e];exact h1
theorem Zhq {first:Int} (h0:0≤first) (h1:first < Lock.big64):TInv ⟨[],⟨first,[],[]⟩⟩ 0:=⟨⟨by simp[Kn],nofun,nofun,by simp⟩,Lock.Zn3 h0 h1⟩
end Tab
end
section
namespace Tab
open Lease (Ses Ans fresh ZaE SR AR Rel RelS putR findR saidA insA arP okA)
open Lock (S3 Ent)
open Cmd (Cm Zao)
theorem Zg9 (S:List Ses) (n:Int) (f:ByteArray) (g:Ses→Ses):ZaE S n f g (updA g n f S):=by
 cases h:Lease.find S n f with
 |none=>exact .inr ⟨h,0,0,Zff h⟩
 |some s=>
  obtain⟨l1,l2,rfl,h1,h2,h3⟩:=Lease.find_split h;exact .inl ⟨l1,s,l2,h,rfl,Zg6 (by unfold Lease.Ses.is;simp[h1,h2]) h3⟩
section
variable {S:List Ses} {L:List SR} {n:Int} {f:ByteArray} (h:Rel S L)
include h
theorem Zfv {g:Ses→Ses} {ga:SR→SR} (hg:∀s,Lease.keyE (g s)=Lease.keyE s) (hr:∀s a,RelS s a→s=lookA S n f∨Lease.find S n f=none→a=findR L n f→RelS (g s) (ga a)):Rel (updA g n f S) (putR L (ga (findR L n f))):=
 h.turned (Zg9 S n f g) hg hr
theorem Zco:RelS (lookA S n f) (findR L n f):=h.look n f
theorem ZlT (ttl time:Int) (he:Lease.openE (lookA S n f) (Lease.cnt S f)=0):Rel (updA (fun s=>s.opened ttl time) n f S) (putR L ((findR L n f).opened ttl time)):=by
 have hd:(findR L n f).dead=false:=by
  have h1:Lease.openE (Lease.look S n f) (Lease.cnt S f)=0:=he;rw[h.openE] at h1;unfold Lease.Za0 at h1
  cases hq:(findR L n f).dead with
  |false=>rfl
  |true=>rw[hq,if_pos rfl] at h1;cases h1
 exact Zfv (ga:=fun a=>a.opened ttl time) h (fun _=>rfl) fun s a q _ e=>q.opened ttl time (by rw[e];exact hd)
theorem ZlV (time:Int):Rel (updA (fun s=>s.kept time) n f S) (putR L ((findR L n f).kept time)):=
 Zfv (ga:=fun a=>a.kept time) h (fun _=>rfl) fun s a q _ _=>q.kept time
theorem Zhf:Rel (updA Ses.ended n f S) (putR L (findR L n f).ended):=
 Zfv (ga:=SR.ended) h (fun _=>rfl) fun s a q _ _=>q.ended
theorem ZlQ {x:AR} (hn:saidA (findR L n f).told x.r=none) (hl:(findR L n f).told.length < 256) (hb:0≤x.r∧x.r < Lease.big64) (ha:okA x) (ax:Option Addr) (cap:Nat):
 Rel (updA (fun s=>s.tell x.r (arP x).2) n f S) (putR L {findR L n f with ax:=ax,cap:=cap,told:=insA (findR L n f).told x}):=
 Zfv (ga:=fun a=>{a with ax:=ax,cap:=cap,told:=insA a.told x}) h (fun _=>rfl) fun s a q _ e=>q.tell (by rw[e];exact hn) (by rw[e];exact hl) hb ha ax cap
theorem ZjT:Lease.openE (lookA S n f) (Lease.cnt S f)=Lease.Za0 (findR L n f) (Lease.cntR L f):=h.openE
theorem ZlW (time:Int):Lease.expB (lookA S n f) time=Lease.expE (findR L n f) time:=h.expE time
theorem rel_op:(lookA S n f).op=(findR L n f).op:=(Zco h).op
theorem ZlS (r:Int):Lease.said (lookA S n f).told r=(saidA (findR L n f).told r).map (fun x=>(arP x).2):=(Zco h).told.said r
theorem ZlR:(lookA S n f).told.length=(findR L n f).told.length:=(Zco h).told.size
end
def arA (r:Int) (a:Ans):AR:=⟨r,a.e,a.n,a.g⟩
end Tab
end
section
namespace Tab
open Path (bl Zaf overB Zan)
open Lease (Ses Ans fresh)
open Lock (S3 Ent)
open Cmd (Cm Zao)
theorem bl_inj {p q:ByteArray} (h:bl p=bl q):p=q:=by
 unfold Path.bl at h;cases p;cases q;congr 1
 exact Array.toList_inj.1 h
def updO (g:Option (Ses→Ses)) (n:Int) (f:ByteArray) (S:List Ses):List Ses:=match g with
 |some g=>updA g n f S
 |none=>S
def KeyG (g:Ses→Ses):Prop:=∀s,keyE (g s)=keyE s
theorem KeyG.is {g:Ses→Ses} (h:KeyG g) (s:Ses) (n:Int) (f:ByteArray):(g s).is n f=s.is n f:=by
 rw[Bool.eq_iff_iff,is_key,is_key,h]
theorem Zmw (n:Int) (f:ByteArray) (m:Int) (k:ByteArray) (b t:Nat):(fresh n f b t).is m k=decide (n=m∧f=k):=rfl
theorem Zjs {g1 g2:Ses→Ses} {n:Int} {f:ByteArray} (h1:KeyG g1):∀S,updA g2 n f (updA g1 n f S)=updA (fun s=>g2 (g1 s)) n f S
 |[]=>by simp[updA,h1.is,Zmw]
 |s::S=>by
  unfold updA
  cases hq:s.is n f with
  |true=>simp[updA,h1.is,hq]
  |false=>simp[updA,hq,Zjs h1 S]
theorem cnt_perm {S S':List Ses} (h:S.Perm S') (f:ByteArray):Lease.cnt S f=Lease.cnt S' f:=by
 unfold Lease.cnt;exact(h.filter _).length_eq
def ovP (p:ByteArray) (e:Ent):Bool:=overB (bl e.path) (bl p)
structure LocL (l l':S3) (p:ByteArray) (n:Int) (f:ByteArray):Prop where
 first:l.first=l'.first
 own:(l.es.filter (·.of n f)).Perm (l'.es.filter (·.of n f))
 ov:(l.es.filter (ovP p)).Perm (l'.es.filter (ovP p))
 ctr:Lock.counter l.first l.cs p=Lock.counter l'.first l'.cs p
theorem ZeP (es:List Ent) (p:ByteArray) (n:Int) (f:ByteArray):(Lock.find es p n f).isSome=(es.filter (·.of n f)).any (·.is p n f):=by
 unfold Lock.find;rw[List.any_filter,Bool.eq_iff_iff,List.find?_isSome,List.any_eq_true];refine exists_congr fun x=>and_congr_right fun _=> ?_;simp only[Lock.Ent.is,Lock.Ent.of,Bool.and_eq_true,decide_eq_true_eq];exact⟨fun h=>⟨h.2,h⟩,fun h=>h.2⟩
theorem Zkf (es:List Ent) (p:ByteArray):Lock.maxS es p=Lock.maxS (es.filter (ovP p)) p:=by
 unfold Lock.maxS;rw[List.foldl_filter];congr 1
 funext m e
 unfold ovP;cases overB (bl e.path) (bl p)<;>rfl
theorem Ziu (es:List Ent) (p:ByteArray) (mode:Int):Lock.ZaC es p mode=Lock.ZaC (es.filter (ovP p)) p mode:=by
 unfold Lock.ZaC;rw[List.all_filter];congr 1
 congr 1
 funext x
 unfold Lock.wayB ovP;cases overB (bl x.path) (bl p)<;>simp
theorem ZhG {l:S3} {k:Nat} (h:Lock.Inv l k) (p:ByteArray) (n:Int):Lock.Zck l.es p n=Zbm l.es p n:=by
 rw[Bool.eq_iff_iff];unfold Zbm;rw[List.any_eq_true];constructor
 · intro hc;unfold Lock.Zck at hc
   cases hf:l.es.findIdx? (fun e=>decide (e.path=p∧e.n=n)) with
   |none=>rw[hf] at hc;cases hc
   |some j=>
    rw[hf] at hc;obtain⟨hj,h2,_⟩:=List.findIdx?_eq_some_iff_getElem.1 hf;refine⟨l.es[j],List.getElem_mem hj,?_⟩;rw[Bool.and_eq_true];exact⟨h2,by rw[Lock.ZcK h.order (List.getElem?_eq_getElem hj)];exact hc⟩
 rintro⟨e,he,hq⟩
 rw[Bool.and_eq_true,decide_eq_true_eq] at hq;obtain⟨j,hj⟩:=List.mem_iff_getElem?.1 he;rw[←hq.1.1,←hq.1.2,Lock.Zji h.nums hj,←Lock.ZcK h.order hj];exact hq.2
theorem ZmQ (es:List Ent) (p:ByteArray) {e:Ent} (he:e.path=p):Lock.ZaL es e=Lock.ZaL (es.filter (ovP p)) e:=by
 unfold Lock.ZaL;rw[List.all_filter];congr 1
 funext x
 unfold Lock.wayB ovP;rw[he];cases overB (bl x.path) (bl p)<;>simp
theorem Ziw (es:List Ent) {p:ByteArray} (hp:Zaf (bl p)=true) (n:Int):Zbm es p n=Zbm (es.filter (ovP p)) p n:=by
 unfold Zbm;rw[List.any_filter];congr 1
 funext e
 by_cases he:e.path=p
 · have h1:ovP p e=true:=by unfold ovP;rw[he];exact Path.Zgo hp
   rw[h1,Bool.true_and,←ZmQ es p he]
 rw[decide_eq_false (fun q=>he q.1)];simp
theorem Zjj {l r:List Ent} (h:l.Perm r) (p:ByteArray) (n:Int):Zbm l p n=Zbm r p n:=by
 unfold Zbm;rw[h.any_eq];congr 1
 funext e
 rw[Lock.Zel h]
section
variable {l l':S3} {p:ByteArray} {n:Int} {f:ByteArray} (h:LocL l l' p n f)
include h
theorem LocL.find:(Lock.find l.es p n f).isSome=(Lock.find l'.es p n f).isSome:=by rw[ZeP,ZeP,h.own.any_eq]
theorem LocL.maxS:Lock.maxS l.es p=Lock.maxS l'.es p:=by rw[Zkf,Zkf l'.es,Lock.Zgt h.ov]
theorem LocL.could (mode:Int):Lock.ZaC l.es p mode=Lock.ZaC l'.es p mode:=by
 rw[Ziu,Ziu l'.es];unfold Lock.ZaC;rw[h.ov.all_eq]
theorem LocL.held:Lock.heldN l.es n f=Lock.heldN l'.es n f:=h.own.length_eq
theorem LocL.may (mode:Int):l.may p n f mode=l'.may p n f mode:=by
 unfold S3.may;rw[h.find,h.held,h.ctr]
theorem LocL.newE (mode:Int):l.newE p n f mode=l'.newE p n f mode:=by
 unfold S3.newE;rw[h.ctr,h.maxS]
theorem LocL.check (hp:Zaf (bl p)=true) (m:Int):Zbm l.es p m=Zbm l'.es p m:=by
 rw[Ziw _ hp,Ziw l'.es hp,Zjj h.ov]
end
inductive LE where
 |nop
 |add (e:Ent)
 |rem (p:ByteArray) (n:Int) (f:ByteArray)
 |drop (n:Int) (f:ByteArray)
def LE.run (l:S3):LE→S3
 |.nop=>l
 |.add e=>⟨l.first,l.es++[e],Lock.putC l.cs e.path e.n⟩
 |.rem p n f=>l.remove p n f
 |.drop n f=>l.dropAll n f
theorem put_comm {p q:ByteArray} {m n:Int} (hne:p≠q):∀cs,(Lock.putC (Lock.putC cs p m) q n).Perm (Lock.putC (Lock.putC cs q n) p m)
 |[]=>by
  simp only[Lock.putC,if_neg hne,if_neg (fun e=>hne (Eq.symm e))];exact .swap _ _ _
 |c::cs=>by
  have ih:=put_comm (m:=m) (n:=n) hne cs;by_cases h1:c.1=p
  · have h2:¬c.1=q:=fun e=>hne (h1.symm.trans e);simp[Lock.putC,h1,h2,hne]
  by_cases h2:c.1=q
  · have hne':¬q=p:=fun e=>hne e.symm;simp[Lock.putC,h1,h2,hne']
  simp only[Lock.putC,if_neg h1,if_neg h2];exact ih.cons _
end Tab
end
section
namespace Tab
open Lease (Ses Ans)
open Lock (S3 Ent)
open Cmd (Cm Zao)
def docL (D:S3) (c:Cm):S3 × Ans:=
 if c.kind=4∨c.kind=5 then
  if c.kind=5∧D.may c.path c.num c.foot c.mode=0∧Lock.ZaC D.es c.path c.mode=false then(D,ansE 51)
  else(D.add c.path c.num c.foot c.mode,⟨D.may c.path c.num c.foot c.mode,(D.addE c.path c.num c.foot c.mode).n,decide (D.may c.path c.num c.foot c.mode=0)&&Lock.ZaC D.es c.path c.mode⟩)
 else if c.kind=6 then
  if(Lock.find D.es c.path c.num c.foot).isSome=false then(D,ansE 52) else(D.remove c.path c.num c.foot,ansE 0)
 else(D,ansE (if Lock.Zck D.es c.path c.n then 0 else 52))
theorem remove_none {s:S3} {p:ByteArray} {n:Int} {f:ByteArray} (h:(Lock.find s.es p n f).isSome=false):s.remove p n f=s:=by
 unfold Lock.S3.remove
 have h1:s.es.filter (fun e=> !e.is p n f)=s.es:=List.filter_eq_self.2 fun e he=>by
  have h2:Lock.find s.es p n f=none:=by simpa using h
  unfold Lock.find at h2;have:=List.find?_eq_none.1 h2 e he;simpa using this
 rw[h1]
theorem Zoe {t:TS} {c:Cm} {k:Nat} (hi:Lock.Inv t.L k) (hm:mayT t c=0):ZaX t c=(⟨t.S,(docL t.L c).1⟩,(docL t.L c).2):=by
 unfold ZaX docL;rw[ZhG hi];rw[if_neg (by simp[hm])]
 have hadd:addT t c=(⟨t.S,t.L.add c.path c.num c.foot c.mode⟩,⟨t.L.may c.path c.num c.foot c.mode,(t.L.addE c.path c.num c.foot c.mode).n,decide (t.L.may c.path c.num c.foot c.mode=0)&&Lock.ZaC t.L.es c.path c.mode⟩):=by
  unfold addT Lock.S3.addE;by_cases h:t.L.may c.path c.num c.foot c.mode=0
  · rw[if_pos h,if_pos h,h];simp
  rw[if_neg h,if_neg h,decide_eq_false h];rfl
 by_cases h4:c.kind=4
 · rw[if_pos h4,if_pos (.inl h4),if_neg (by omega),hadd]
 rw[if_neg h4];by_cases h5:c.kind=5
 · rw[if_pos h5,if_pos (.inr h5)];unfold tryT
   cases hc:Lock.ZaC t.L.es c.path c.mode with
   |true=>rw[if_pos rfl,if_neg (by simp),hadd,hc]
   |false=>
    rw[if_neg (by decide)];by_cases h:t.L.may c.path c.num c.foot c.mode=0
    · rw[if_pos h,if_pos ⟨h5,h,rfl⟩]
    rw[if_neg h,if_neg (fun q=>h q.2.1)];unfold Lock.S3.addE Lock.S3.add;rw[if_neg h,if_neg h];simp[h,ansE,Lock.nullE]
 rw[if_neg h5,if_neg (show ¬(c.kind=4∨c.kind=5) from fun q=>q.elim h4 h5)];by_cases h6:c.kind=6
 · rw[if_pos h6,if_pos h6]
   cases hf:(Lock.find t.L.es c.path c.num c.foot).isSome with
   |true=>rw[if_pos rfl,if_neg (by decide)]
   |false=>rw[if_neg (by decide),if_pos rfl,remove_none hf]
 rw[if_neg h6,if_neg h6]
end Tab
end
end Go.Proofs.YtknoefbcmomalaaGreatDoor
