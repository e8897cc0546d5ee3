/- LockI, PathM, PathN, RefP, RefQ, RefR, RefS, Row3, joined. -/
import Derived.Test.YtkdjkngfnapjcaaGreatDoorP6
import Derived.Test.YtkdjkngfnapjcaaGreatDoorP5
import Derived.Test.YtkdjkngfnapjcaaGreatDoorP4
import Derived.Deep.OwnRows
import Derived.Laws.OwnMore
import Derived.Test.YtkdjkngfnapjcaaGreatDoorP3
import Derived.Test.YtkdjkngfnapjcaaGreatDoorP2
set_option linter.unusedSimpArgs false
set_option linter.unusedVariables false
set_option maxRecDepth 100000
set_option maxHeartbeats 16000000
namespace Go.Proofs.YtkdjkngfnapjcaaGreatDoor
section
namespace Lock
open Go.RowKit
open Go.Maps (Keyed)
open Path (bl Zad overB)
section
variable {w:World} {b:Bk} {p f:ByteArray} {n mode:Int}
theorem remove_none (h:find b.es p n f=none):b.st.remove p n f=b.st:=by
 unfold S3.remove Bk.st
 congr 1
 rw[List.filter_eq_self];intro e he;have:=Zc9.1 h e he;simp only[Ent.is,Bool.not_eq_true',decide_eq_false_iff_not];exact this
theorem ZhZ {es:List Ent} (h:(ents es).Pairwise (fun p q=>p.1≠q.1)):es.Pairwise (fun a b=>a.key≠b.key):=by
 unfold ents at h;rw[List.pairwise_map] at h;exact h
theorem is_key {a e:Ent} (h:a.is e.path e.num e.foot=true):a.key=e.key:=by
 simp[Ent.is] at h;simp[Ent.key,keyV,h]
theorem Zjn {l1 l2:List Ent} {e:Ent} (hk:(l1++e::l2).Pairwise (fun a b=>a.key≠b.key)):(l1++e::l2).filter (fun x=> !x.is e.path e.num e.foot)=l1++l2:=by
 have h1:=List.pairwise_append.1 hk;have h2:=List.pairwise_cons.1 h1.2.1
 have he:e.is e.path e.num e.foot=true:=by simp[Ent.is]
 have f1:l1.filter (fun x=> !x.is e.path e.num e.foot)=l1:=by
  rw[List.filter_eq_self];intro x hx
  cases hq:x.is e.path e.num e.foot with
  |false=>rfl
  |true=>exact absurd (is_key hq) (h1.2.2 x hx e (by simp))
 have f2:l2.filter (fun x=> !x.is e.path e.num e.foot)=l2:=by
  rw[List.filter_eq_self];intro x hx
  cases hq:x.is e.path e.num e.foot with
  |false=>rfl
  |true=>exact absurd (is_key hq).symm (h2.1 x hx)
 rw[List.filter_append,List.filter_cons,he,f1,f2]
 rfl
theorem Zkm (h:Sep [BookP b] w) (hp:p.size≤maxLen) (h0:0≤n) (h1:n < big64) (hf:f.size≤maxLen) (hfi:find b.es p n f=none):
 Calls Tryz.prog 223 #[.pointer (some ⟨b.p,0,none⟩),.string p,.agg #[.int .u64 n,.string f]] w fun e w'=>e=.returned (.int .i64 52)∧At [BookP b] w [BookP b] w':=by
 obtain⟨kl,hk⟩:=keyP hp h0 h1 hf;have hA:=begin0 h;have hF:=hA.facts;have hmiss:=Hd (find_none hfi);clear h hfi
 unfold keyV at *
 obtain⟨hA,hF⟩:=fY hA
 go_enter Tryz.func223,Tryz.ntmps223
 go_wp2_with ((with_reducible refine gbx ?_);refine wCy (E:=25) hA ?_;clear hF hA;intro bS w1 hA hbS hF)
 (refine Zap (a1:= ?a1_q1) (v:= ?v_q1) 11 7 97 _ (.agg #[.string .empty,.int .u64 0,.string .empty,.int .i64 0,.int .u64 0,.int .i64 0]) [.string .empty,.int .u64 0,.string .empty,.int .i64 0,.int .u64 0,.int .i64 0] ([.string .empty,.int .u64 0,.string .empty,.int .i64 0,.int .u64 0,.int .i64 0]) (by kernel_rfl) (by kernel_rfl) rfl rfl ?hyd_q1 (by kernel_rfl) rfl hA ?h1_q1 ?hd_q1 ?hy_q1 ?hu_q1 ?hsz_q1 ?hus_q1 ?hl_q1 ?h2_q1);(case h1_q1=>(intro R wR hR;(try clear hF);(simp only[List.take_succ_cons,List.take_zero,List.drop_succ_cons,List.drop_zero]);(have hn1:=Cl.none hR);(have hn2:=Cl.none2 hR);(repeat(first|go_big_quiet_skip|(go_big_quiet_want;(first|(refine qM 25 2 ?_;go_frame;go_big_quiet_on)|((refine ZbN rfl rfl (by(try simp only[Act.eval,eV])<;>exact rfl) (k:=203) (es:=ents b.es) sR lawP Tryz.underlying201 hk hmiss.out (z:=nullE.val) (fun _=>by kernel_rfl) ?_);go_frame;go_big_quiet_on)|(refine qL ?_;go_frame;go_big_quiet_on)|(go_big_quiet_op;(first|go_big_quiet_on))))));(refine wpQuiet_nil ?_);exact rfl));(case hyd_q1=>rfl);(case hd_q1=>(first|decide|simp));(case hy_q1=>((try simp only[Act.eval,Array.getD_eq_getD_getElem?,List.getElem?_toArray,List.getElem?_cons_succ,List.getElem?_cons_zero,Option.getD_some]);exact rfl));(case hu_q1=>exact rfl);(case hsz_q1=>kernel_rfl);(case hus_q1=>rfl);(case hl_q1=>rfl);(intro b1 w1 hB hb1;clear hF hA;have hA:=hB;clear hB;(simp only[List.drop_succ_cons,List.drop_zero]);obtain⟨hA,hF⟩:=fY hA;(try go_frame))
 go_wp2_with fail
 go_ret;exact⟨rfl,close0 b hA sR sR sR⟩
theorem Zjm (h:Sep [BookP b] w) (hp:p.size≤maxLen) (h0:0≤n) (h1:n < big64) (hf:f.size≤maxLen) {x:Ent} (hfi:find b.es p n f=some x):
 Calls Tryz.prog 223 #[.pointer (some ⟨b.p,0,none⟩),.string p,.agg #[.int .u64 n,.string f]] w fun e w'=>e=.returned (.int .i64 0)∧At [BookP b] w [BookP (b.with (b.st.remove p n f))] w':=by
 obtain⟨kl,hk⟩:=keyP hp h0 h1 hf;have hA:=begin0 h;have hmem:=Hd (find_mem hfi);obtain⟨l1,l2,hes,rfl,rfl,rfl,_⟩:=find_split hfi;have hkeys:=ZhZ (MapAt.keys (hA.get (A:=mapC b.m (ents b.es)) sR));rw[hes] at hkeys
 have hrem:b.st.remove x.path x.num x.foot=⟨b.first,l1++l2,b.cs⟩:=by
  unfold S3.remove Bk.st;simp only[hes];rw[Zjn hkeys]
 rw[hrem];have hF:=hA.facts
 have hents:ents b.es=ents l1++(x.key,x.val)::ents l2:=by rw[hes];simp[ents,ent]
 have hes':=Hd hents;clear h hfi hkeys hrem hes hents;unfold Ent.val keyV at hmem;unfold keyV at hk;obtain⟨hA,hF⟩:=fY hA
 go_enter Tryz.func223,Tryz.ntmps223
 go_wp2_with ((with_reducible refine gbx ?_);refine wCy (E:=25) hA ?_;clear hF hA;intro bS w1 hA hbS hF)
 (refine Zap (a1:= ?a1_q2) (v:= ?v_q2) 11 7 97 _ (.agg #[.string .empty,.int .u64 0,.string .empty,.int .i64 0,.int .u64 0,.int .i64 0]) [.string .empty,.int .u64 0,.string .empty,.int .i64 0,.int .u64 0,.int .i64 0] ([.string x.path,.int .u64 x.num,.string x.foot,.int .i64 x.mode,.int .u64 x.n,.int .i64 x.stamp]) (by kernel_rfl) (by kernel_rfl) rfl rfl ?hyd_q2 (by kernel_rfl) rfl hA ?h1_q2 ?hd_q2 ?hy_q2 ?hu_q2 ?hsz_q2 ?hus_q2 ?hl_q2 ?h2_q2);(case h1_q2=>(intro R wR hR;(try clear hF);(simp only[List.take_succ_cons,List.take_zero,List.drop_succ_cons,List.drop_zero]);(have hn1:=Cl.none hR);(have hn2:=Cl.none2 hR);(repeat(first|go_big_quiet_skip|(go_big_quiet_want;(first|(refine qM 25 2 ?_;go_frame;go_big_quiet_on)|((refine ZbM rfl rfl (by(try simp only[Act.eval,eV])<;>exact rfl) (k:=203) (es:=ents b.es) sR lawP Tryz.underlying201 hk hmem.out ?_);go_frame;go_big_quiet_on)|(refine qL ?_;go_frame;go_big_quiet_on)|(go_big_quiet_op;(first|go_big_quiet_on))))));(refine wpQuiet_nil ?_);exact rfl));(case hyd_q2=>rfl);(case hd_q2=>(first|decide|simp));(case hy_q2=>((try simp only[Act.eval,Array.getD_eq_getD_getElem?,List.getElem?_toArray,List.getElem?_cons_succ,List.getElem?_cons_zero,Option.getD_some]);exact rfl));(case hu_q2=>exact rfl);(case hsz_q2=>kernel_rfl);(case hus_q2=>rfl);(case hl_q2=>rfl);(intro b1 w1 hB hb1;clear hF hA;have hA:=hB;clear hB;(simp only[List.drop_succ_cons,List.drop_zero]);obtain⟨hA,hF⟩:=fY hA;(try go_frame))
 go_wp2_with fail
 try go_frame
 (refine Zaw 7 (Cl _ _ _) (by kernel_rfl) (by kernel_rfl) (Cl.drew hA) ?_);(simp only[List.take_succ_cons,List.take_zero,List.drop_succ_cons,List.drop_zero]);(have hn1:=Cl.none hA);(have hn2:=Cl.none2 hA);(repeat(first|go_big_quiet_skip|(go_big_quiet_want;(first|(refine qM 25 2 ?_;go_frame;go_big_quiet_on)|(refine qL ?_;go_frame;go_big_quiet_on)|(go_big_quiet_op;(first|go_big_quiet_on))))))
 (refine wpQuiet_nil ?_);(intro w1 hB);(clear hF hA hn1 hn2);(have hA:=Cl.out hB);(clear hB);obtain⟨hA,hF⟩:=fY hA
 unfold mapC at hA;rw[hes'.out] at hA;unfold Ent.key keyV at hA;obtain⟨hA,hF⟩:=fY hA
 go_wp2_with (refine ZcO rfl rfl rfl (by(try simp only[Act.eval,eV])<;>exact rfl) hA (k:=203) sR lawP Tryz.underlying201 hk ?_;intro w1 hB;clear hF hA;have hA:=hB;clear hB;obtain⟨hA,hF⟩:=fY hA)
 go_ret
 have hel:ents l1++ents l2=ents (l1++l2):=by simp[ents]
 rw[hel] at hA;exact⟨rfl,close0 ⟨b.p,b.m,b.c,b.first,l1++l2,b.cs⟩ hA sR sR sR⟩
theorem Zjo (h:Sep [BookP b] w) (hp:p.size≤maxLen) (h0:0≤n) (h1:n < big64) (hf:f.size≤maxLen):
 Calls Tryz.prog 223 #[.pointer (some ⟨b.p,0,none⟩),.string p,.agg #[.int .u64 n,.string f]] w fun e w'=>e=.returned (.int .i64 (if(find b.es p n f).isSome=true then 0 else 52))∧At [BookP b] w [BookP (b.with (b.st.remove p n f))] w':=by
 cases hfi:find b.es p n f with
 |none=>
  have:=Zkm h hp h0 h1 hf hfi;rw[remove_none hfi];exact this
 |some x=>exact Zjm h hp h0 h1 hf hfi
theorem Zhi (h:Sep [BookP b] w) (hp:p.size≤1000000) (hok:∀x ∈ b.es,x.path.size≤1000000∧x.stamp≤1000000000):
 Calls Tryz.prog 260 #[.pointer (some ⟨b.p,0,none⟩),.string p,.int .i64 mode] w fun e w'=>e=.returned (.bool (ZaH b.es p mode))∧At [BookP b] w [BookP b] w':=by
 have hA:=At.start h;have hF:=hA.facts;have hr:=right_any p mode
 have hcd:ZaH b.es p mode=(Zbg p mode&&Za1 b.es ⟨p,0,.empty,mode,0,maxS b.es p + 1⟩):=by
  rw[Zia,Bool.and_comm];rfl
 rw[hcd]
 have hst:=fun(w1:World) (q:Sep [BookP b] w1)=>Zgz q p hp hok
 have hcl:=fun(w1:World) (q:Sep [BookP b] w1)=>ZeJ q ⟨p,0,.empty,mode,0,maxS b.es p + 1⟩ hp (fun x hx=>(hok x hx).1)
 generalize Za1 b.es ⟨p,0,.empty,mode,0,maxS b.es p + 1⟩=c at *
 simp only at hcl
 generalize maxS b.es p=ss at *
 generalize Zbg p mode=r at *
 clear h hok hcd;obtain⟨hA,hF⟩:=fY hA
 go_enter Tryz.func260,Tryz.ntmps260
 go_wp2_with fail
 refine(hr w hp).mono ?_;clear hr;rintro e w2 ⟨rfl,hx⟩;replace hA:=hA.ext hx;clear hF hx;obtain⟨hA,hF⟩:=fY hA;cases r
 · go_wp2_with fail
   go_ret;exact⟨rfl,hA.only1 sR⟩
 go_wp2_with fail
 refine(hst _ (hA.sep1 (A:=BookP b) sR)).mono ?_;clear hst;rintro e w1 ⟨rfl,hT⟩;replace hA:=hA.call1 sR hT;clear hF hT;obtain⟨hA,hF⟩:=fY hA
 go_wp2_with fail
 refine(hcl _ (hA.sep1 (A:=BookP b) sR)).mono ?_;clear hcl;rintro e w1 ⟨rfl,hT⟩;replace hA:=hA.call1 sR hT;clear hF hT;obtain⟨hA,hF⟩:=fY hA
 go_wp2_with fail
 go_ret;exact⟨rfl,hA.only1 sR⟩
end
end Lock
end
section
namespace Path
open Go.RowKit
theorem wpList_make_at {P:Program} {ops:Array Oper} {rest:List Oper} {o:Oper} {a:Act} {Q:Exit→Act→World→Prop} {L0 L:List Part} {w0 w:World} {t e:TypeId} {i:TypeInfo} {z:Value} {kl kc:IntKind} (hg:o.guard=none) (l c:Operand) (hop:o.op=.makeSlice t l c)
 (ht:P.underlying t=some (.slice e)) (hi:P.info? e=some i) (hz:i.zero=some z) (hsize:i.size=1) (hz1:z.cells= #[z]) (n:Nat) (hl:a.eval l=.int kl (n:Int)) (hc:a.eval c=.int kc (n:Int)) (hbytes:i.bytes * n≤281474976710656) (h63:n≤9223372036854775807)
 (h:At L0 w0 L w) (hK:∀b w',At L0 w0 (Part.cells b (List.replicate n z) e::L) w'→w0.heap.size≤b→wpList P ops Q rest (a.put o.dst (.slice (some ⟨b,0,none⟩) n n)) w'):wpList P ops Q (o::rest) a w:=by
 have hr:=run_make_row t e i z ht hi hz hsize hz1 kl kc n hbytes h63 w;have hA:=h.alloc (List.replicate n z) e;rw[show(List.replicate n z).toArray=madeCells #[z] n from by rw[←toList_madeCells_one z n]] at hA;refine Zak hg ?_ (hK _ _ hA h.size);simp[execOp,hop,hl,hc,hr,Result.andThen]
theorem ZdL:∀l:Bs,Lib.countByte l 47 + 1=(Zag l).length
 |[]=>rfl
 |c::r=>by
  have ih:=ZdL r;unfold Lib.countByte at ih ⊢;rw[ZaI]
  split
  · rename_i h;subst h;simp;omega
  rename_i h
  rw[List.count_cons];have hl:=Zbk r;simp[h]
  omega
theorem count_any (s:ByteArray) (w:World):Calls Tryz.prog 293 #[.string s,.string ⟨#[47]⟩] w fun e w'=>e=.returned (.int .i64 (Lib.countByte s.data.toList 47))∧w=w':=
 (Tryz.strings_Count_one s 47 w).mono fun _ _ ⟨he,hw⟩=>⟨he,hw.symm⟩
theorem Zoj (r:ByteArray) (w:World):Calls Tryz.prog 294 #[.string r,.string ⟨#[47]⟩] w fun e w'=>e=.returned (.int .i64 (Lib.indexByte r.data.toList 47))∧w=w':=
 (Tryz.strings_Index_one _ _ _).mono fun _ _ ⟨he,hw⟩=>⟨he,hw.symm⟩
def strCells (ws:List ByteArray) (k:Nat):List Value:=ws.map Value.string++List.replicate k (.string ⟨#[]⟩)
theorem ZdC (ws:List ByteArray) (k:Nat) (x:ByteArray):setL (strCells ws (k + 1)) ws.length [.string x]=strCells (ws++[x]) k:=by
 simp[setL,strCells,List.replicate_succ]
theorem ZeB (ws:List ByteArray):flatS ws=ws.map Value.string:=by
 induction ws with
 |nil=>rfl
 |cons x r ih=>simp only[flatS,List.flatMap_cons,List.map_cons] at ih ⊢;rw[ih];rfl
def GenRel (s:ByteArray) (w:World) (g N:Nat) (k:Nat) (u0 u10:Value) (wr:World):Prop:=
 ∃(ws:List ByteArray) (r:ByteArray),u0=.string r∧u10=.int .i64 ws.length∧ws.length + k=N∧r.size≤s.size∧Zag (bl s)=ws.map bl++Zag (bl r)∧At [] w [Part.cells g (strCells ws k) 9] wr
def Zhq (s:ByteArray) (w:World) (e:Ending) (w':World):Prop:=∃(v:Value) (ws:List ByteArray),e=.returned v∧ws.map bl=Zag (bl s)∧At [] w [rowS v ws] w'
theorem Zg6 (s:ByteArray) (w:World) (hs:s.size≤2000000):Calls Tryz.prog 266 #[.string s,.string ⟨#[47]⟩,.int .i64 0,.int .i64 (-1)] w (Zhq s w):=by
 have hA:=At.start (w0:=w) (L0:=[]) trivial;have hF:=hA.facts;obtain⟨i0,hi0,hz0,hz1,hz2⟩:=info_parts Zh2;have hN0:=ZdL (bl s);have hle:=ZaZ (bl s)
 have hsz:(bl s).length=s.size:=by simp
 have h1:=Zbk (bl s)
 obtain⟨N,hN⟩:∃N,(Zag (bl s)).length=N:=⟨_,rfl⟩
 rw[hN] at hN0 hle h1
 have hc:((Lib.countByte s.data.toList 47:Nat):Int)=(N:Int) - 1:=by
  have:Lib.countByte s.data.toList 47 + 1=N:=hN0
  omega
 have hN':=Hd hN;rw[hsz] at hle;clear hN0 hsz hN;have hcnt:=count_any s w;rw[hc] at hcnt;clear hc
 have hmin:min (N:Int) ((s.size:Int) + 1)=N:=by omega
 go_enter Tryz.func266,Tryz.ntmps266
 go_wp2_with fail
 refine hcnt.mono ?_;clear hcnt;rintro e _ ⟨rfl,rfl⟩
 go_wp2_with (refine wpList_make_at rfl _ _ rfl Tryz.underlying260 hi0 hz0 hz1 rfl N (by(try simp only[Act.eval,eV])<;>exact rfl) (by(try simp only[Act.eval,eV])<;>exact rfl) (by rw[hz2];omega) (by omega) hA ?_;intro g w1 hB hg;clear hF hA;have hA:=hB;clear hB;obtain⟨hA,hF⟩:=fZ hA)
 try go_frame
 go_loopg [0,10] N (GenRel s w g N)
 case atStart=>exact⟨[],s,rfl,rfl,by simp,Nat.le_refl _,rfl,hA⟩
 case round=>
  obtain⟨ws,r,rfl,rfl,hk,hrs,hsp,hB⟩:=hrel;clear hF hA;have hA:=hB;clear hB
  have hrl:(Zag (bl r)).length=gk:=by
   have:=congrArg List.length hsp;rw[hN'.out] at this
   simp at this
   omega
  have hr1:=Zbk (bl r)
  by_cases hlt:ws.length + 1 < N
  · have hi:0≤Lib.indexByte (bl r) 47:=by
     rcases Int.lt_or_le (Lib.indexByte (bl r) 47) 0 with q|q
     · have:=idx_none q
       rw[this] at hrl
       simp at hrl
       omega
     exact q
    obtain⟨i,hi2⟩:=Int.eq_ofNat_of_zero_le hi;obtain⟨hilt,hsr⟩:=ZiP hi2
    obtain⟨m,rfl⟩:∃m,gk=m + 1:=⟨gk - 1,by omega⟩
    have hrz:(bl r).length=r.size:=by simp
    have hil:i + 1≤r.size:=by omega
    have hix:=Zoj r wr;rw[show Lib.indexByte r.data.toList 47=(i:Int) from hi2] at hix;have hst:=ZdC ws m (r.extract 0 i)
    have hsl:(strCells ws (m + 1)).length=ws.length + (m + 1):=by simp[strCells]
    have hsp':=Hd hsp;have hsr':=Hd hsr;have hst':=Hd hst;have hsl':=Hd hsl;clear hsp hsr hi2 hilt hi hrz hrl hst hsl hr1;obtain⟨hA,hF⟩:=fZ hA
    go_wp2_with fail
    refine hix.mono ?_;clear hix;rintro e _ ⟨rfl,rfl⟩
    have hi':decide ((i:Int) < 0)=false:=by simp
    go_wp2_with (refine Zal (j:=ws.length) rfl rfl rfl (by(try simp only[Act.eval,eV])<;>exact rfl) (vs:=[.string (r.extract 0 i)]) (by exact rfl) hA sR (by kernel_rfl) rfl (by have:=hsl'.out;simp only[List.length_cons,List.length_nil];omega) ?_;intro w1 hB;clear hF hA;have hA:=hB;clear hB;rw[hst'.out] at hA;obtain⟨hA,hF⟩:=fZ hA)
    go_roundg m
    case measure=>omega
    case rel=>
     have e1:bl (r.extract 0 i)=(bl r).take i:=by simp[bl]
     have e2:bl (r.extract (i + 1) r.size)=(bl r).drop (i + 1):=by simp only[bl];simp;rw[List.take_of_length_le (by simp)]
     exact⟨ws++[r.extract 0 i],r.extract (i + 1) r.size,rfl,by simp,by simp;omega,by simp;omega,by rw[hsp'.out,hsr'.out,e2];simp[e1],hA⟩
  obtain rfl:gk=1:=by omega
  have hone:Zag (bl r)=[bl r]:=by
   cases hq:Zag (bl r) with
   |nil=>exact absurd hq (Zbf _)
   |cons a b=>
    rw[hq] at hrl
    simp at hrl
    subst hrl;have:=ZbE (bl r);rw[hq,join_one] at this;rw[this]
  have hst:setL (strCells ws 1) ws.length [.string r]=strCells (ws++[r]) 0:=ZdC ws 0 r
  have hsl:(strCells ws 1).length=ws.length + 1:=by simp[strCells]
  have hsp':=Hd hsp;have hone':=Hd hone;have hst':=Hd hst;have hsl':=Hd hsl;have hk':=Hd hk
  have hge:¬((ws.length:Int) < (N:Int) - 1):=by omega
  clear hsp hone hst hsl hrl hr1;obtain⟨hA,hF⟩:=fZ hA
  go_wp2_with (refine Zal (j:=ws.length) rfl rfl rfl (by(try simp only[Act.eval,eV])<;>exact rfl) (vs:=[.string r]) (by exact rfl) hA sR (by kernel_rfl) rfl (by have:=hsl'.out;simp only[List.length_cons,List.length_nil];omega) ?_;intro w1 hB;clear hF hA;have hA:=hB;clear hB;rw[hst'.out] at hA;obtain⟨hA,hF⟩:=fZ hA)
  go_ret
  have e:strCells (ws++[r]) 0=flatS (ws++[r]):=by simp[strCells,ZeB]
  rw[e] at hA
  have hl:(ws++[r]).length=N:=by simp;exact hk'.out
  have hA2:=hA.row_shut (n:=(ws++[r]).length) (cap:=N) (size:=1) (xs:=flatS (ws++[r])) sR (by rw[ZeB];simp;have:=hk'.out;omega) (by omega) (by unfold maxLen;omega) (by rw[List.take_of_length_le (by rw[ZeB];simp)]);refine⟨_,ws++[r],?_,by rw[hsp'.out,hone'.out];simp,hA2.pick pR⟩;rw[hl]
  rfl
end Path
end
section
namespace Path
open Go.RowKit
open Go.Lib (compareBytes)
theorem Zj9 (s:ByteArray) (w:World) (hs:s.size≤2000000):Calls Tryz.prog 232 #[.string s,.string ⟨#[47]⟩] w (Zhq s w):=by
 go_enter Tryz.func232,Tryz.ntmps232
 go_wp2_with fail
 refine(Zg6 s w hs).mono ?_;rintro e w1 ⟨v,ws,rfl,h1,h2⟩
 go_wp2_with fail
 go_ret;exact⟨v,ws,rfl,h1,h2⟩
def ZlE (s:ByteArray) (w:World) (e:Ending) (w':World):Prop:=∃(v:Value) (ws:List ByteArray),e=.returned v∧ws.map bl=ZbD (bl s)∧At [] w [rowS v ws] w'
theorem ZgN (s:ByteArray) (w:World) (hs:s.size≤2000000):Calls Tryz.prog 174 #[.string s] w (ZlE s w):=by
 cases h1:Zad (bl s)
 · have e:ZbD (bl s)=[]:=by simp[ZbD,h1]
   have e':=Hd e;clear e
   go_enter Tryz.func174,Tryz.ntmps174
   go_wp2_with fail
   refine(Zbw w hs h1).mono ?_;rintro e w1 ⟨rfl,hx⟩
   go_wp2_with fail
   go_ret;exact⟨_,[],rfl,by rw[e'.out];rfl,((At.start (w0:=w) (L0:=[]) trivial).ext hx).row_nil 9 1⟩
 have e:ZbD (bl s)=Zag (bl s):=by simp[ZbD,h1]
 have e':=Hd e;clear e
 go_enter Tryz.func174,Tryz.ntmps174
 go_wp2_with fail
 refine(Zbw w hs h1).mono ?_;rintro e w1 ⟨rfl,hx⟩
 go_wp2_with fail
 refine(Zj9 s w1 hs).mono ?_;rintro e w2 ⟨v,ws,rfl,h2,h3⟩;have hB:=((At.start (w0:=w) (L0:=[]) trivial).ext hx).call0 h3;clear h3 hx
 go_wp2_with fail
 go_ret;exact⟨_,ws,rfl,by rw[e'.out,h2],by simpa using hB⟩
theorem less_cb:∀(x y:List UInt8),Op.bytesLess x y=decide (compareBytes x y < 0)
 |[],[]=>by simp[Op.bytesLess,compareBytes]
 |[],_::_=>by simp[Op.bytesLess,compareBytes]
 |_::_,[]=>by simp[Op.bytesLess,compareBytes]
 |a::x,b::y=>by
  rw[Op.bytesLess,less_cb x y];simp only[compareBytes]
  rcases Nat.lt_trichotomy a.toNat b.toNat with h|h|h
  · have h1:a < b:=UInt8.lt_iff_toNat_lt.2 h
    simp[h1]
  · have e:a=b:=UInt8.toNat_inj.1 h
    subst e
    have h1:¬a < a:=fun q=>by have:=UInt8.lt_iff_toNat_lt.1 q;omega
    simp[h1]
  have h1:b < a:=UInt8.lt_iff_toNat_lt.2 h
  have h2:¬a < b:=fun q=>by have:=UInt8.lt_iff_toNat_lt.1 q;omega
  have h3:a≠b:=fun e=>by subst e;omega
  simp[h1,h2,h3]
theorem Zn8 (s:ByteArray) (w:World):Calls Tryz.prog 267 #[.string s] w fun e w'=>e=.returned (.bool false)∧w=w':=by
 have h:(s.toList==s.toList)=true:=by simp
 go_enter Tryz.func267,Tryz.ntmps267
 go_wp2_with fail
 go_ret;exact⟨by simp,rfl⟩
theorem Znd (x y:ByteArray) (w:World):Calls Tryz.prog 233 #[.string x,.string y] w fun e w'=>e=.returned (.int .i64 (compareBytes (bl x) (bl y)))∧w=w':=by
 have key:∀c,compareBytes (bl x) (bl y)=c→(c= -1∨c=0∨c=1)→Calls Tryz.prog 233 #[.string x,.string y] w fun e w'=>e=.returned (.int .i64 c)∧w=w':=by
  intro c hc h3
  have h1:Op.bytesLess x.toList y.toList=decide (c < 0):=by rw[Lib.toList_data,Lib.toList_data,less_cb,←hc]
  have h2:Op.bytesLess y.toList x.toList=decide (0 < c):=by rw[Lib.toList_data,Lib.toList_data,less_cb,←hc,Zif (bl x) (bl y)];simp[bl]
  have h4:(x.toList==y.toList)=decide (c=0):=by
   rw[eqB]
   congr 1
   rw[←hc];exact propext ⟨fun e=>by rw[e];exact Zid _,fun e=>cb_eq e⟩
  clear hc
  rcases h3 with rfl|rfl|rfl
  all_goals
   simp only[Int.reduceNeg,Int.reduceLT,Int.reduceEq,decide_true,decide_false] at h1 h2 h4
   go_enter Tryz.func233,Tryz.ntmps233
   go_wp2_with (refine(Zn8 _ _).mono ?_;rintro e _ ⟨rfl,rfl⟩)
   go_ret;exact⟨rfl,rfl⟩
 exact key _ rfl (cb_three _ _)
def CmpRel (ws us:List ByteArray) (w:World) (k:Nat) (u11:Value) (wr:World):Prop:=
 ∃i:Nat,u11=.int .i64 i∧i + k=ws.length∧i≤us.length∧cmpL (ws.map bl) (us.map bl)=cmpL ((ws.drop i).map bl) ((us.drop i).map bl)∧wr=w
theorem Zhj {w:World} {ws us:List ByteArray} {g1 g2 c1 c2:Nat} (h1:∀(j:Nat) x,ws[j]? =some x→w.cell? ⟨g1,j,none⟩=some (.string x)) (h2:∀(j:Nat) x,us[j]? =some x→w.cell? ⟨g2,j,none⟩=some (.string x)) (hw:ws.length≤2000000) (hu:us.length≤2000000):
 Calls Tryz.prog 175 #[.slice (some ⟨g1,0,none⟩) ws.length c1,.slice (some ⟨g2,0,none⟩) us.length c2] w fun e w'=>e=.returned (.int .i64 (cmpL (ws.map bl) (us.map bl)))∧w=w':=by
 have h1':=Hd h1;have h2':=Hd h2;clear h1 h2
 go_enter Tryz.func175,Tryz.ntmps175
 go_wp2_with fail
 go_loopg [5,6,7,8,11] ws.length (fun k _ _ _ _ u11 wr=>CmpRel ws us w k u11 wr)
 case atStart=>exact⟨0,rfl,by simp,by simp,rfl,rfl⟩
 case round=>
  obtain⟨i,rfl,hk,hiu,hc,rfl⟩:=hrel
  by_cases hi:i < ws.length
  · have x1:=h1'.out i ws[i] (List.getElem?_eq_getElem hi)
    have hd:ws.drop i=ws[i]::ws.drop (i + 1):=List.drop_eq_getElem_cons hi;rw[hd] at hc
    generalize ws[i]=x at *
    by_cases hj:i < us.length
    · have x2:=h2'.out i us[i] (List.getElem?_eq_getElem hj)
      have hd2:us.drop i=us[i]::us.drop (i + 1):=List.drop_eq_getElem_cons hj;rw[hd2] at hc
      generalize us[i]=y at *
      simp only[List.map_cons] at hc;rw[cmpL] at hc
      obtain⟨cc,hcc⟩:∃c,compareBytes (bl x) (bl y)=c:=⟨_,rfl⟩
      have hcm:=Znd x y wr;rw[hcc] at hcm hc;have hc':=Hd hc;clear hc hd hd2 hcc
      by_cases h0:cc=0
      · subst h0
        go_wp2_with fail
        refine hcm.mono ?_;clear hcm;rintro e _ ⟨rfl,rfl⟩
        go_wp2_with fail
        go_roundg (gk - 1)
        case measure=>omega
        case rel=>exact⟨i + 1,by simp,by omega,by omega,by rw[hc'.out];simp,rfl⟩
      have h0':(cc==0)=false:=by simpa using h0
      have hc2:=hc'.out;rw[if_neg h0] at hc2;have hc3:=Hd hc2;clear hc2 hc' h0
      go_wp2_with fail
      refine hcm.mono ?_;clear hcm;rintro e _ ⟨rfl,rfl⟩
      go_wp2_with fail
      go_ret;exact⟨by rw[hc3.out];rfl,rfl⟩
    have e2:us.drop i=[]:=List.drop_eq_nil_of_le (by omega);rw[e2] at hc;simp only[List.map_cons,List.map_nil] at hc;rw[cmpL] at hc;have hc':=Hd hc
    have hge:(us.length:Int)≤i:=by omega
    clear hc hd e2
    go_wp2_with fail
    go_ret;exact⟨by rw[hc'.out];rfl,rfl⟩
  have e1:ws.drop i=[]:=List.drop_eq_nil_of_le (by omega);rw[e1] at hc
  obtain rfl:i=ws.length:=by omega
  by_cases hlt:ws.length < us.length
  · obtain⟨y,ys,hy⟩:∃y ys,us.drop ws.length=y::ys:=by
     cases q:us.drop ws.length with
     |nil=>have:=List.drop_eq_nil_iff.1 q;omega
     |cons y ys=>exact⟨y,ys,rfl⟩
    rw[hy] at hc;simp only[List.map_cons,List.map_nil] at hc;rw[cmpL] at hc;have hc':=Hd hc;clear hc e1 hy
    go_wp2_with fail
    go_ret;exact⟨by rw[hc'.out];rfl,rfl⟩
  have e2:us.drop ws.length=[]:=List.drop_eq_nil_of_le (by omega);rw[e2] at hc;simp only[List.map_nil] at hc;rw[cmpL] at hc;have hc':=Hd hc;clear hc e1 e2
  go_wp2_with fail
  go_ret;exact⟨by rw[hc'.out];rfl,rfl⟩
end Path
end
section
namespace Path
open Go.RowKit
theorem Zfu {P:Program} {ops:Array Oper} {rest:List Oper} {o:Oper} {a:Act} {Q:Exit→Act→World→Prop} {L0 L G:List Part} {w0 w:World} {t e:TypeId} {i:TypeInfo} {size m0 k:Nat} {v:Value} {xs:List Value} {x hi':Operand}
 (hg:o.guard=none) (hop:o.op=.slice t x none (some hi') none) (ht:P.underlying t=some (.slice e)) (hi:P.info? e=some i) (hsize:i.size=size) (hx:a.eval x=v) (hh:a.eval hi'=.int .i64 k)
 (h:At L0 w0 L w) (s:Sel (Part.row e size v m0 xs) L G) (hk:k≤m0) (hK:∀v',At L0 w0 (Part.row e size v' k (xs.take (k * size))::G) w→wpList P ops Q rest (a.put o.dst v') w):wpList P ops Q (o::rest) a w:=by
 obtain⟨v',hr,h1,h2⟩:=Zem (P:=P) ht hi hsize (h.get s:w.ownsRow 0 e size v m0 xs) k hk;refine Zak hg ?_ (hK v' (h.turn s (Part.row e size v' k (xs.take (k * size))) h1 (fun b hb=>.inl (by simpa [Part.row,h2] using hb)) (Exc.refl _ _)));simp[execOp,hop,hx,hh,hr,Result.andThen]
theorem Zev (c:UInt8) (w:World):Calls Tryz.prog 281 #[.int .u8 c.toNat] w fun e w'=>e=.returned (.bool (letB c))∧w=w':=by
 have key:∀(n:Int) (b1 b2 b3 b4 b5 b6:Bool),decide (97≤n)=b1→decide (n≤122)=b2→decide (48≤n)=b3→decide (n≤57)=b4→decide (n=45)=b5→decide (n=95)=b6→
  Calls Tryz.prog 281 #[.int .u8 n] w fun e w'=>e=.returned (.bool ((b1&&b2) || (b3&&b4) || b5 || b6))∧w=w':=by
  intro n b1 b2 b3 b4 b5 b6 h1 h2 h3 h4 h5 h6
  have h5':(n==45)=b5:=by rw[←h5];rfl
  have h6':(n==95)=b6:=by rw[←h6];rfl
  clear h5 h6
  cases b1<;>cases b2<;>cases b3<;>cases b4<;>cases b5<;>cases b6
  all_goals first
   |(exfalso;simp at h1 h2 h3 h4 h5' h6';omega)
   |(go_enter Tryz.func281,Tryz.ntmps281
     go_wp2
     go_ret
     exact⟨rfl,rfl⟩)
 rw[←ZhW];exact key _ _ _ _ _ _ _ rfl rfl rfl rfl rfl rfl
def Zno (v:Value) (ws:List ByteArray) (p:ByteArray) (w:World) (e:Ending) (w':World):Prop:=
 ∃(v':Value) (us:List ByteArray),e=.returned (.tuple #[v',.int .i64 (ZbA (stepW (ws.map bl) (bl p)))])∧At [rowS v ws] w [rowS v' us] w'∧(stepW (ws.map bl) (bl p)=some (us.map bl)∨stepW (ws.map bl) (bl p)=none∧us=[])∧us.length≤ws.length + 1
def ZoG (v:Value) (ws:List ByteArray) (p:ByteArray) (w:World) (k:Nat) (u6:Value) (wr:World):Prop:=
 ∃i:Nat,u6=.int .i64 i∧i + k=p.size∧At [rowS v ws] w [rowS v ws] wr∧((bl p).take i).all letB=true
theorem Ziq {w:World} {v:Value} {ws:List ByteArray} (h:Sep [rowS v ws] w) (p:ByteArray) (hmax:ws.length≤2000000) (hp:p.size≤2000000):Calls Tryz.prog 245 #[v,.string p] w (Zno v ws p w):=by
 have hA:=At.start h;have hF:=hA.facts;obtain⟨i0,hi0,hz0,hz1,hz2⟩:=info_parts Zh2;clear h
 by_cases e0:bl p=[]∨bl p=[46]
 · have hk:stepW (ws.map bl) (bl p)=some (ws.map bl):=by rcases e0 with e|e<;>rw[e]<;>first|exact Zir|exact Zis
   rcases e0 with e0|e0
   · obtain rfl:p=⟨#[]⟩:=ZbZ e0
     have hk':=Hd hk;clear hk e0
     go_enter Tryz.func245,Tryz.ntmps245
     go_wp2_with fail
     go_ret2;exact⟨v,ws,by rw[hk'.out];rfl,hA,.inl hk'.out,by omega⟩
   obtain rfl:p=⟨#[46]⟩:=ZbZ e0;have hk':=Hd hk;clear hk e0
   go_enter Tryz.func245,Tryz.ntmps245
   go_wp2_with fail
   go_ret2;exact⟨v,ws,by rw[hk'.out];rfl,hA,.inl hk'.out,by omega⟩
 by_cases e1:bl p=[46,46]
 · obtain rfl:p=⟨#[46,46]⟩:=ZbZ e1
   clear e0
   by_cases e2:ws=[]
   · subst e2
     obtain⟨ax,cap,rfl,hax,hcap,_⟩:=hA.row_form (v:=v) (xs:=flatS []) sR;clear hax hcap
     go_enter Tryz.func245,Tryz.ntmps245
     go_wp2_with fail
     go_ret2;exact⟨_,[],by rw[show stepW (([]:List ByteArray).map bl) (bl ⟨#[46,46]⟩)=none from ZfK];rfl,(hA.row_nil 9 1).pick pZ,.inr ⟨ZfK,rfl⟩,by simp⟩
   have hl:0 < ws.length:=List.length_pos_iff.2 e2
   obtain⟨ax,kn,cap,hv0,hkn⟩:=hA.row_hid (v:=v) (xs:=flatS ws) sR;subst hv0;have ek:=hkn.out;obtain rfl:kn=ws.length:=ek;have hl1:((ws.length:Int)==0)=false:=beq_eq_false_iff_ne.2 (by omega);have hl2:=Hd (show((ws.length:Int) - 1)=((ws.length - 1:Nat):Int) by omega);have hst:=Hd (Zj6 (acc:=ws.map bl) (by simpa using e2));clear e2
   go_enter Tryz.func245,Tryz.ntmps245
   go_wp2_with (refine Zfu (k:=ws.length - 1) rfl rfl Tryz.underlying260 hi0 hz1 (by(try simp only[Act.eval,eV])<;>exact rfl) (by exact congrArg (Value.int .i64) hl2.out) hA sR (by omega) ?_;intro v1 hB;obtain⟨ax3,n3,cap3,hv3,hn3⟩:=hB.row_hid .here;subst hv3;clear hF hA;have hA:=hB;clear hB;obtain⟨hA,hF⟩:=fZ hA)
   go_ret2
   have e3:(flatS ws).take ((ws.length - 1) * 1)=flatS ws.dropLast:=by
    unfold flatS;rw[Zbh ZdR,List.dropLast_eq_take]
   have e4:ws.length - 1=ws.dropLast.length:=by simp
   rw[e3,e4] at hA;exact⟨.slice ax3 n3 cap3,ws.dropLast,by rw[show stepW (ws.map bl) (bl ⟨#[46,46]⟩)=_ from hst.out];rfl,hA.pick pR,.inl (by rw[show stepW (ws.map bl) (bl ⟨#[46,46]⟩)=_ from hst.out,List.map_dropLast]),by simp;omega⟩
 have n0:p.toList.isEmpty=false:=by
  rw[Lib.toList_data];cases q:p.data.toList
  · exact absurd (Or.inl q) e0
  rfl
 have n1:(p.toList==[46])=false:=by rw[Lib.toList_data];simpa using fun q=>e0 (Or.inr q)
 have n2:(p.toList==[46,46])=false:=by rw[Lib.toList_data];simpa using e1
 have hne:bl p≠[]:=fun q=>e0 (Or.inl q)
 have hno:partB (bl p)=false→stepW (ws.map bl) (bl p)=none:=Zj7 hne (fun q=>e0 (Or.inr q)) e1
 have hyes:(bl p).all letB=true→stepW (ws.map bl) (bl p)=some (ws.map bl++[bl p]):=fun q=>Zee (Zcn.2 ⟨hne,q⟩)
 have hno':=Hd hno;have hyes':=Hd hyes;clear hno hyes e0 e1 hne;obtain⟨ax,kn,cap,hv0,hkn⟩:=hA.row_hid (v:=v) (xs:=flatS ws) sR;subst hv0
 go_enter Tryz.func245,Tryz.ntmps245
 go_wp2_with fail
 go_loopg [6] p.size (ZoG (.slice ax kn cap) ws p w)
 case atStart=>exact⟨0,rfl,by simp,hA,by simp⟩
 case round=>
  obtain⟨i,rfl,hk,hB,hal⟩:=hrel;clear hF hA;have hA:=hB;clear hB;obtain⟨hA,hF⟩:=fZ hA
  by_cases hi:i < p.size
  · cases hc:letB p[i]
    · have hlt:=Zev p[i] wr
      rw[hc] at hlt;have hn:=Hd (hno'.out (ZnH hi hc));clear hc hal
      go_wp2_with fail
      ((with_reducible refine hlt.mono ?_))
      clear hlt;rintro e _ ⟨rfl,rfl⟩
      go_wp2_with fail
      go_ret2;exact⟨_,[],by rw[hn.out];rfl,(hA.row_nil 9 1).pick pZ,.inr ⟨hn.out,rfl⟩,by simp⟩
    have hlt:=Zev p[i] wr;rw[hc] at hlt;have hs:=Hd (Zi5 hi hal hc);clear hc hal
    go_wp2_with fail
    ((with_reducible refine hlt.mono ?_))
    clear hlt;rintro e _ ⟨rfl,rfl⟩
    go_wp2_with fail
    go_roundg (gk - 1)
    case measure=>omega
    case rel=>exact⟨i + 1,by simp,by omega,hA,hs.out⟩
  have hst:=Hd (hyes'.out (Zi4 hi hal));replace hA:=hA.row_nil 9 1;clear hF hal;obtain⟨hA,hF⟩:=fZ hA;have hd:=Hd hkn.out
  go_wp2_with (first|(refine Zat (e:=9) (vs:=strC p) rfl rfl (by(try simp only[Act.eval,eV])<;>exact rfl) (fun _=>by kernel_rfl) hA ?_;intro b2 w1 hB hb2;clear hF hA;have hA:=hB;clear hB;obtain⟨hA,hF⟩:=fZ hA)|(refine Zae (e:=9) (size:=1) (v:=.slice ax3 n3 cap3) (xs:=flatS ws) (n:=0 + ws.length) (m:=1) (news:=strC p) rfl _ _ 260 rfl Tryz.underlying260 hi0 hz0 hz1 hz2 rfl (by omega) hA sR (by(try simp only[Act.eval,eV])<;>exact rfl) (by(try simp only[Act.eval,eV])<;>exact rfl) rfl (hA.cells_reads sR _ _) (ZfJ p) (by unfold maxLen;omega) (by omega) ?_;intro v2 w1 hB;obtain⟨ax4,n4,cap4,hv4,hn4⟩:=hB.row_hid .here;subst hv4;clear hF hA;have hA:=hB;clear hB;obtain⟨hA,hF⟩:=fZ hA)|(refine Zae (e:=9) (size:=1) (v:=.slice none 0 0) (xs:=[]) (n:=0) (m:=ws.length) (xv:=.slice ax kn cap) (news:=flatS ws) rfl _ _ 260 rfl Tryz.underlying260 hi0 hz0 hz1 hz2 rfl (by omega) hA sR (by(try simp only[Act.eval,eV])<;>exact rfl) (by(try simp only[Act.eval,eV])<;>exact rfl) (Zaz _ _ ZdR _) (hA.row_reads (n:=ws.length) sR) (ZaK ZfJ _) (by unfold maxLen;omega) (by omega) ?_;intro v1 w1 hB;obtain⟨ax3,n3,cap3,hv3,hn3⟩:=hB.row_hid .here;subst hv3;clear hF hA;have hA:=hB;clear hB;obtain⟨hA,hF⟩:=fZ hA))
  go_ret2;refine⟨.slice ax4 n4 cap4,ws++[p],by rw[hst.out];rfl,?_,.inl (by rw[hst.out];simp),by simp⟩;rw[show flatS ws++strC p=flatS (ws++[p]) by simp[flatS,List.flatMap_append],show 0 + ws.length + 1=(ws++[p]).length by simp] at hA;exact hA.pick pR
end Path
end
section
namespace Path
open Go.RowKit
def leftL (cur t:Bs):List Bs:=(cur++(Zag t).headD [])::(Zag t).tail
theorem ZgW (t:Bs):leftL [] t=Zag t:=by
 unfold leftL
 cases h:Zag t with
 |nil=>exact absurd h (Zbf t)
 |cons a b=>rfl
theorem ZkJ (cur:Bs):leftL cur []=[cur]:=by simp[leftL,Zag]
theorem ZhY (cur t:Bs):leftL cur (47::t)=cur::Zag t:=by simp[leftL,ZaI]
theorem ZmJ (cur t:Bs) (c:UInt8) (h:c≠47):leftL cur (c::t)=leftL (cur++[c]) t:=by simp[leftL,ZaI,h]
def ZlA (s:ByteArray) (w:World) (k:Nat) (u4 u5 u6 u7:Value) (wr:World):Prop:=
 ∃(i:Nat) (v:Value) (ws:List ByteArray) (cur:ByteArray),u4=v∧u5=.string cur∧u6=.int .i64 0∧u7=.int .i64 i∧i + k=s.size + 1∧At [] w [rowS v ws] wr∧ws.length≤i∧cur.size≤i∧
  walkL [] (Zag (bl s))=if i≤s.size then walkL (ws.map bl) (leftL (bl cur) ((bl s).drop i)) else some (ws.map bl)
def ZjP (s:ByteArray) (w:World) (e:Ending) (w':World):Prop:=
 ∃(v:Value) (ws:List ByteArray),e=.returned (.tuple #[v,.int .i64 (ZbA (walkL [] (Zag (bl s))))])∧At [] w [rowS v ws] w'∧(walkL [] (Zag (bl s))=some (ws.map bl)∨walkL [] (Zag (bl s))=none∧ws=[])∧ws.length≤s.size + 1
theorem Ze6 (s:ByteArray) (w:World) (hs:s.size≤2000000):Calls Tryz.prog 189 #[.string s] w (ZjP s w):=by
 have hA:=(At.start (w0:=w) (L0:=[]) trivial).row_nil 9 1;have hF:=hA.facts
 go_enter Tryz.func189,Tryz.ntmps189
 go_wp2_with fail
 go_loopg [4,5,6,7] (s.size + 1) (ZlA s w)
 case atStart=>exact⟨0,_,[],⟨#[]⟩,rfl,rfl,rfl,rfl,by simp,hA,by simp,Nat.le_refl _,by simp[show bl ⟨#[]⟩=[] from rfl,ZgW]⟩
 case round=>
  obtain⟨i,v,ws,cur,rfl,rfl,rfl,rfl,hk,hB,hwl,hcl,hw⟩:=hrel;clear hF hA;have hA:=hB;clear hB;obtain⟨ax,kn,cap,hv0,hkn⟩:=hA.row_hid (v:=u4) (xs:=flatS ws) sR;subst hv0;obtain⟨hA,hF⟩:=fZ hA
  have hsz:(bl s).length=s.size:=by simp
  by_cases hi:i < s.size
  · rw[if_pos (by omega),List.drop_eq_getElem_cons (by omega)] at hw
    by_cases hc:s[i]=47
    · have hc':(bl s)[i]'(by omega)=47:=hc
      rw[hc',ZhY] at hw
      have hn:((s[i].toNat:Int) != 47)=false:=by rw[hc];rfl
      have htk:=Ziq (hA.sep1 (A:=rowS (.slice ax kn cap) ws) sR) cur (by omega) (by omega);have hw':=Hd hw;clear hw hc hc' hsz
      go_wp2_with fail
      refine htk.mono ?_;clear htk;rintro e w1 ⟨v',us,rfl,hT,hres,hul⟩;replace hA:=hA.call1 sR hT;clear hF hT;simp only[uA] at hA;obtain⟨ax2,kn2,cap2,hv2,hkn2⟩:=hA.row_hid (v:=v') (xs:=flatS us) sR;subst hv2;obtain⟨hA,hF⟩:=fZ hA
      rcases hres with hre|⟨hre,hus⟩
      · rw[hre]
        have hw2:=hw'.out;rw[walkL,hre] at hw2;simp only at hw2;have hw3:=Hd hw2;simp only[ZbA];clear hw2 hw' hre
        go_wp2_with fail
        go_roundg (gk - 1)
        case measure=>omega
        case rel=>exact⟨i + 1,_,us,⟨#[]⟩,rfl,rfl,rfl,by simp,by omega,hA,by omega,Nat.zero_le _,by rw[hw3.out,if_pos (by omega),show bl ⟨#[]⟩=[] from rfl,ZgW]⟩
      rw[hre];have hw2:=hw'.out;rw[walkL,hre] at hw2;simp only at hw2;have hw3:=Hd hw2;simp only[ZbA];clear hw2 hw' hre
      go_wp2_with fail
      go_ret2;exact⟨.slice none 0 0,[],by rw[hw3.out];rfl,(hA.row_nil 9 1).pick pZ,.inr ⟨hw3.out,rfl⟩,by simp⟩
    have hc':(bl s)[i]'(by omega)≠47:=hc;rw[ZmJ _ _ _ hc'] at hw
    have hn:((s[i].toNat:Int) != 47)=true:=by
     rw[bne_iff_ne];intro e
     apply hc
     apply UInt8.toNat_inj.1
     have:s[i].toNat=47:=by omega
     rw[this];rfl
    have hx:bl (cur++s.extract i (i + 1))=bl cur++[(bl s)[i]'(by omega)]:=by
     simp only[bl]
     simp
     rw[List.drop_eq_getElem_cons (by simpa using hi)]
     simp
    have hxl:(cur++s.extract i (i + 1)).size=cur.size + 1:=by
     have:=congrArg List.length hx;simp only[bl,List.length_append,List.length_cons,List.length_nil,Array.length_toList] at this;exact this
    rw[←hx] at hw;have hw':=Hd hw;have hxl':=Hd hxl;clear hw hc hc' hsz hx hxl
    go_wp2_with fail
    go_roundg (gk - 1)
    case measure=>omega
    case rel=>exact⟨i + 1,_,ws,cur++s.extract i (i + 1),rfl,rfl,rfl,by simp,by omega,hA,by omega,by have:=hxl'.out;omega,by rw[if_pos (by omega)];exact hw'.out⟩
  by_cases hi2:i=s.size
  · subst hi2
    rw[if_pos (Nat.le_refl _),List.drop_eq_nil_of_le (by omega),ZkJ] at hw;have htk:=Ziq (hA.sep1 (A:=rowS (.slice ax kn cap) ws) sR) cur (by omega) (by omega);have hw':=Hd hw
    have hnlt:¬(s.size:Int) < s.size:=by omega
    clear hw hsz hi
    go_wp2_with fail
    refine htk.mono ?_;clear htk;rintro e w1 ⟨v',us,rfl,hT,hres,hul⟩;replace hA:=hA.call1 sR hT;clear hF hT;simp only[uA] at hA;obtain⟨ax2,kn2,cap2,hv2,hkn2⟩:=hA.row_hid (v:=v') (xs:=flatS us) sR;subst hv2;obtain⟨hA,hF⟩:=fZ hA
    rcases hres with hre|⟨hre,hus⟩
    · rw[hre]
      have hw2:=hw'.out;rw[walkL,hre] at hw2;simp only at hw2;have hw3:=Hd hw2;simp only[ZbA];clear hw2 hw' hre
      go_wp2_with fail
      go_roundg (gk - 1)
      case measure=>omega
      case rel=>exact⟨s.size + 1,_,us,⟨#[]⟩,rfl,rfl,rfl,by simp,by omega,hA,by omega,Nat.zero_le _,by rw[hw3.out,if_neg (by omega),walkL]⟩
    rw[hre];have hw2:=hw'.out;rw[walkL,hre] at hw2;simp only at hw2;have hw3:=Hd hw2;simp only[ZbA];clear hw2 hw' hre
    go_wp2_with fail
    go_ret2;exact⟨.slice none 0 0,[],by rw[hw3.out];rfl,(hA.row_nil 9 1).pick pZ,.inr ⟨hw3.out,rfl⟩,by simp⟩
  rw[if_neg (by omega)] at hw;have hw':=Hd hw
  have hgt:¬(i:Int)≤s.size:=by omega
  clear hw hsz
  go_wp2_with fail
  go_ret2;exact⟨.slice ax kn cap,ws,by rw[hw'.out];rfl,hA.pick pR,.inl hw'.out,by omega⟩
end Path
end
section
namespace Path
open Go.RowKit
theorem ZgX:∀(l:List Bs) (x:Bs),l≠[]→joinS (l++[x])=joinS l++47::x
 |[],x,h=>absurd rfl h
 |[p],x,_=>by rw[List.cons_append,List.nil_append,ZbF _ _ (by simp),join_one,join_one]
 |p::q::r,x,_=>by
  have ih:=ZgX (q::r) x (by simp);rw[List.cons_append,ZbF p ((q::r)++[x]) (by simp),ih,ZbF p (q::r) (by simp),List.append_assoc,List.cons_append]
theorem ZnA {L0 L F:List Part} {w0 w:World} {g cap:Nat} {c:List Value} {ws:List ByteArray} (h:At L0 w0 L w) (s:Sel (Part.cells g c 9) L F) (hl:c.length=cap * 1) (hn:ws.length≤cap) (hm:cap≤maxLen) (ht:c.take (ws.length * 1)=flatS ws):
 At L0 w0 (rowS (.slice (some ⟨g,0,none⟩) ws.length cap) ws::F) w:=h.row_shut s hl hn hm ht
def Znp (w:World) (v:Value) (ws:List ByteArray) (k:Nat) (u3 u4:Value) (wr:World):Prop:=
 ∃(i:Nat) (cur:ByteArray),u3=.string cur∧u4=.int .i64 i∧i + k=ws.length∧At [rowS v ws] w [rowS v ws] wr∧bl cur=joinS ((ws.take i).map bl)∧cur.size≤i * 2000001
def ZlD (w:World) (v:Value) (ws:List ByteArray) (e:Ending) (w':World):Prop:=∃q:ByteArray,e=.returned (.string q)∧bl q=joinS (ws.map bl)∧At [rowS v ws] w [rowS v ws] w'
theorem ZgY {w:World} {v:Value} {ws:List ByteArray} (h:Sep [rowS v ws] w) (hmax:ws.length≤2000001) (hbd:∀x ∈ ws,x.size≤2000000):Calls Tryz.prog 190 #[v] w (ZlD w v ws):=by
 have hA:=At.start h;have hF:=hA.facts;clear h;obtain⟨ax,cap,rfl,hax,hcap,_⟩:=hA.row_form (v:=v) (xs:=flatS ws) sR;have hcap':=Hd hcap;have hbd':=Hd hbd;clear hbd;clear hax hcap
 go_enter Tryz.func190,Tryz.ntmps190
 go_wp2_with fail
 go_loopg [3,4] ws.length (Znp w (.slice ax ws.length cap) ws)
 case atStart=>exact⟨0,⟨#[]⟩,rfl,rfl,by simp,hA,rfl,Nat.zero_le _⟩
 case round=>
  obtain⟨i,cur,rfl,rfl,hk,hB,hj,hcs⟩:=hrel;clear hF hA;have hA:=hB;clear hB
  by_cases hi:i < ws.length
  · obtain⟨g,c,rfl,_,hcm,hcl,hct,hB⟩:=hA.row_open (ax:=ax) (cap:=cap) (n:=ws.length) (xs:=flatS ws) sR (by omega)
    have c0:c[i]? =some (.string ws[i]):=ZcA hct (List.getElem?_eq_getElem hi);have hxs:ws[i].size≤2000000:=hbd'.out _ (List.getElem_mem hi)
    have hcs2:cur.size≤8000000000000:=by omega
    have hsz1:(cur++(⟨#[47]⟩:ByteArray)++ws[i]).size=cur.size + 1 + ws[i].size:=by rw[ByteArray.size_append,ByteArray.size_append];rfl
    have hsz2:Hid ((cur++(⟨#[47]⟩:ByteArray)++ws[i]).size≤(i + 1) * 2000001):=Hd (by rw[hsz1,Nat.add_mul];omega);clear hsz1;have ht:ws.take (i + 1)=ws.take i++[ws[i]]:=List.take_succ_eq_append_getElem hi;have ht':=Hd ht;have hj':=Hd hj;have hct':=Hd hct;have hcl':=Hd hcl;clear hA ht hj hct hcl;have hA:=hB;clear hB;obtain⟨hA,hF⟩:=fZ hA
    by_cases h0:i=0
    · subst h0
      go_wp2_with fail
      go_roundg (gk - 1)
      case measure=>omega
      case rel=>exact⟨1,_,rfl,rfl,by omega,(ZnA hA sR hcl'.out hcap'.out hcm hct'.out).pick pR,by rw[show bl (cur++ws[0])=bl cur++bl ws[0] by simp[bl],hj'.out,ht'.out];simp[join_one];simp[joinS,Lib.join],by simp;omega⟩
    have hpos:0 < i:=by omega
    go_wp2_with fail
    go_roundg (gk - 1)
    case measure=>omega
    case rel=>exact⟨i + 1,_,rfl,by simp,by omega,(ZnA hA sR hcl'.out hcap'.out hcm hct'.out).pick pR,by rw[show bl (cur++⟨#[47]⟩++ws[i])=bl cur++47::bl ws[i] by simp[bl],hj'.out,ht'.out,List.map_append,List.map_cons,List.map_nil,ZgX _ _ (by intro e;have:=congrArg List.length e;rw[List.length_map,List.length_take,List.length_nil] at this;omega)],hsz2.out⟩
  have hj':=Hd hj;clear hj;obtain⟨hA,hF⟩:=fZ hA
  go_wp2_with fail
  go_ret;exact⟨cur,rfl,by rw[hj'.out,List.take_of_length_le (by omega)],hA⟩
def ZlC (s:ByteArray) (w:World) (e:Ending) (w':World):Prop:=
 ∃q:ByteArray,e=.returned (.tuple #[.string q,.int .i64 (normL (bl s)).2])∧bl q=(normL (bl s)).1∧Ext w w'
theorem ZhS (s:ByteArray) (w:World) (hs:s.size≤2000000):Calls Tryz.prog 134 #[.string s] w (ZlC s w):=by
 have hA:=At.start (w0:=w) (L0:=[]) trivial;have hF:=hA.facts
 go_enter Tryz.func134,Tryz.ntmps134
 go_wp2_with fail
 refine(Ze6 s w (by omega)).mono ?_;rintro e w1 ⟨v,ws,rfl,hT,hres,hlen⟩;replace hA:=hA.call0 hT;clear hF hT;simp only[List.append_nil] at hA;obtain⟨ax,cap,hv,hax0,hcap0,_⟩:=hA.row_form (v:=v) (n:=ws.length) (xs:=flatS ws) sR;subst hv;clear hax0 hcap0
 have hn:normL (bl s)=(match walkL [] (Zag (bl s)) with
  |none=>([],30)
  |some l=>if l=[] then([],13) else if 8 < l.length then([],31) else if 64 < (joinS l).length then([],11) else(joinS l,0)):=rfl
 rcases hres with hre|⟨hre,hw0⟩
 · rw[hre] at hn
   simp only at hn
   have hbd:∀x ∈ ws,x.size≤2000000:=fun x hx=>by
    have h1:bl x ∈ Zag (bl s):=by
     rcases ZfB hre (bl x) (List.mem_map.2 ⟨x,hx,rfl⟩) with h|h
     · simp at h
     exact h
    have h2:=ZbR (bl s) _ h1
    have h3:(bl x).length=x.size:=by simp
    have h4:(bl s).length=s.size:=by simp
    omega
   rw[hre];simp only[ZbA];simp only[List.length_map] at hn
   by_cases e1:ws=[]
   · subst e1
     simp only[List.map_nil,if_pos] at hn;have hn':=Hd hn;clear hn hre hlen hbd;obtain⟨hA,hF⟩:=fZ hA
     go_wp2_with fail
     go_ret2;exact⟨⟨#[]⟩,by rw[hn'.out];rfl,by rw[hn'.out],hA.toExt⟩
   rw[if_neg (by simpa using e1)] at hn
   have hl0:((ws.length:Int)==0)=false:=by simpa using e1
   by_cases e2:8 < ws.length
   · rw[if_pos e2] at hn
     have hn':=Hd hn;clear hn hre hlen hbd e1;obtain⟨hA,hF⟩:=fZ hA
     go_wp2_with fail
     go_ret2;exact⟨⟨#[]⟩,by rw[hn'.out];rfl,by rw[hn'.out],hA.toExt⟩
   rw[if_neg e2] at hn;have hj1:=ZgY (hA.sep1 (A:=rowS (.slice ax ws.length cap) ws) sR) (by omega) hbd;have hn':=Hd hn;have hbd':=Hd hbd;clear hn hre hlen e1 hbd;obtain⟨hA,hF⟩:=fZ hA
   go_wp2_with fail
   refine hj1.mono ?_;clear hj1;rintro e w2 ⟨q,rfl,hq,hT⟩;replace hA:=hA.call1 sR hT;clear hF hT;simp only[uA] at hA
   have hjs:(joinS (ws.map bl)).length=q.size:=by rw[←hq];simp
   have hn2:=hn'.out;rw[hjs] at hn2;have hq':=Hd hq;clear hn' hjs hq;obtain⟨hA,hF⟩:=fZ hA
   by_cases e3:64 < q.size
   · rw[if_pos e3] at hn2
     have hn3:=Hd hn2;clear hn2
     go_wp2_with fail
     go_ret2;exact⟨⟨#[]⟩,by rw[hn3.out];rfl,by rw[hn3.out],hA.toExt⟩
   rw[if_neg e3] at hn2;have hn3:=Hd hn2;have hj2:=ZgY (hA.sep1 (A:=rowS (.slice ax ws.length cap) ws) sR) (by omega) hbd'.out;clear hn2
   go_wp2_with fail
   refine hj2.mono ?_;clear hj2;rintro e w3 ⟨q2,rfl,hq2,hT⟩;have hB:=hA.call1 sR hT;clear hF hA hT
   go_wp2_with fail
   go_ret2;exact⟨q2,by rw[hn3.out];rfl,by rw[hn3.out];exact hq2,hB.toExt⟩
 rw[hre] at hn;simp only at hn;subst hw0;rw[hre];simp only[ZbA];have hn':=Hd hn;clear hn hre hlen;obtain⟨hA,hF⟩:=fZ hA
 go_wp2_with fail
 go_ret2;exact⟨⟨#[]⟩,by rw[hn'.out];rfl,by rw[hn'.out],hA.toExt⟩
theorem ZaO (s:ByteArray) (w:World) (hs:s.size≤2000000):Calls Tryz.prog 62 #[.string s] w fun e w'=>e=.returned (.bool (Zad (bl s)))∧Ext w w':=by
 have hr:=Ze5 (bl s)
 go_enter Tryz.func62,Tryz.ntmps62
 go_wp2_with fail
 refine(ZhS s w hs).mono ?_;rintro e w1 ⟨q,rfl,hq,hx⟩;rw[←hq] at hr;have heq:=eqB q s
 obtain⟨n2,hn2⟩:∃n,(normL (bl s)).2=n:=⟨_,rfl⟩
 rw[hn2] at hr ⊢;clear hn2 hq
 by_cases h0:n2=0
 · subst h0
   by_cases h1:bl q=bl s
   · have hb:Zad (bl s)=true:=hr.1 ⟨rfl,h1⟩
     rw[decide_eq_true h1] at heq;have hb':=Hd hb;clear hb hr h1
     go_wp2_with fail
     go_ret;exact⟨by rw[hb'.out];rfl,hx⟩
   have hb:Zad (bl s)=false:=by
    cases hb:Zad (bl s)
    · rfl
    exact absurd (hr.2 hb).2 h1
   rw[decide_eq_false h1] at heq;have hb':=Hd hb;clear hb hr h1
   go_wp2_with fail
   go_ret;exact⟨by rw[hb'.out];rfl,hx⟩
 have hb:Zad (bl s)=false:=by
  cases hb:Zad (bl s)
  · rfl
  exact absurd (hr.2 hb).1 h0
 have hb':=Hd hb
 have h0':(n2==0)=false:=by simpa using h0
 clear hb hr h0 heq
 go_wp2_with fail
 go_ret;exact⟨by rw[hb'.out];rfl,hx⟩
end Path
end
section
namespace Path
open Go.RowKit
theorem ZdG {s:ByteArray} (w:World) (hs:s.size≤2000000) (hr:Zad (bl s)=true):Calls Tryz.prog 189 #[.string s] w fun e w'=>∃(v:Value) (ws:List ByteArray),e=.returned (.tuple #[v,.int .i64 0])∧At [] w [rowS v ws] w'∧Zag (bl s)=ws.map bl:=
 (Ze6 s w hs).mono fun e w' ⟨v,ws,he,hT,hres,hl⟩=>by
  have h1:=ZhL hr
  rcases hres with h|⟨h,_⟩
  · rw[h1] at h
    rw[h1] at he;exact⟨v,ws,he,hT,Option.some.inj h⟩
  rw[h1] at h;cases h
theorem ZbB {s:ByteArray} {b:Bool} (w:World) (hs:s.size≤2000000) (hb:Zad (bl s)=b):Calls Tryz.prog 62 #[.string s] w fun e w'=>e=.returned (.bool b)∧Ext w w':=hb ▸ ZaO s w hs
def ZlB (s:ByteArray) (w:World) (e:Ending) (w':World):Prop:=∃(v:Value) (ws:List ByteArray),e=.returned (.tuple #[v,.int .i64 0])∧At [] w [rowS v ws] w'∧Zag (bl s)=ws.map bl
def Znx (w:World) (g1 g2:Nat) (c1 c2:List Value) (ws us:List ByteArray) (k:Nat) (u9:Value) (wr:World):Prop:=
 ∃i:Nat,u9=.int .i64 i∧i + k=ws.length∧At [] w [Part.cells g1 c1 9,Part.cells g2 c2 9] wr∧∀j,j < i→(us.map bl)[j]? =(ws.map bl)[j]?
theorem Zdw (p q:ByteArray) (w:World) (hp:p.size≤2000000) (hq:q.size≤2000000):Calls Tryz.prog 141 #[.string p,.string q] w fun e w'=>e=.returned (.bool (Zam (bl p) (bl q)))∧Ext w w':=by
 have hA:=At.start (w0:=w) (L0:=[]) trivial;have hF:=hA.facts;cases h1:Zad (bl p)
 · have hb:=Hd (show Zam (bl p) (bl q)=false by simp[Zam,h1])
   go_enter Tryz.func141,Tryz.ntmps141
   go_wp2_with fail
   refine(ZbB w hp h1).mono ?_;rintro e w1 ⟨rfl,hx⟩
   go_wp2_with fail
   go_ret;exact⟨by rw[hb.out];rfl,hx⟩
 cases h2:Zad (bl q)
 · have hb:=Hd (show Zam (bl p) (bl q)=false by simp[Zam,h1,h2])
   go_enter Tryz.func141,Tryz.ntmps141
   go_wp2_with fail
   refine(ZbB w hp h1).mono ?_;rintro e w1 ⟨rfl,hx⟩
   go_wp2_with fail
   refine(ZbB w1 hq h2).mono ?_;rintro e w2 ⟨rfl,hx2⟩
   go_wp2_with fail
   go_ret;exact⟨by rw[hb.out];rfl,hx.trans hx2⟩
 have hab:Zam (bl p) (bl q)=decide (Zag (bl p) <+:Zag (bl q)):=by rw[ZdO,h1,h2];simp
 have hq2:∀w,Calls Tryz.prog 189 #[.string q] w (ZlB q w):=fun w=>ZdG w (by omega) h2
 have hp2:∀w,Calls Tryz.prog 189 #[.string p] w (ZlB p w):=fun w=>ZdG w (by omega) h1
 go_enter Tryz.func141,Tryz.ntmps141
 go_wp2_with fail
 refine(ZbB w hp h1).mono ?_;rintro e w1 ⟨rfl,hx⟩
 go_wp2_with fail
 refine(ZbB w1 hq h2).mono ?_;rintro e w2 ⟨rfl,hx2⟩;replace hA:=(hA.ext hx).ext hx2;clear hF hx hx2
 go_wp2_with fail
 refine(hp2 w2).mono ?_;clear hp2;rintro e w3 ⟨v,ws,rfl,hT,hws⟩;replace hA:=hA.call0 hT;clear hT;simp only[List.append_nil] at hA
 go_wp2_with fail
 refine(hq2 w3).mono ?_;clear hq2;rintro e w4 ⟨u,us,rfl,hT,hus⟩;replace hA:=hA.call0 hT;clear hT;simp only[uA] at hA;have n1:=Zbk (bl p);have n2:=Zbk (bl q);have m1:=ZaZ (bl p);have m2:=ZaZ (bl q);rw[hws] at hab n1 m1;rw[hus] at hab n2 m2;simp only[List.length_map] at n1 n2 m1 m2
 have z1:(bl p).length=p.size:=by simp
 have z2:(bl q).length=q.size:=by simp
 rw[z1] at m1;rw[z2] at m2;clear hws hus h1 h2 z1 z2;obtain⟨ax,cap,rfl,_,_,_⟩:=hA.row_form (v:=v) (n:=ws.length) (xs:=flatS ws) sR;obtain⟨bx,cbp,rfl,_,_,_⟩:=hA.row_form (v:=u) (n:=us.length) (xs:=flatS us) sR;obtain⟨g1,c1,rfl,_,_,hcl1,hct1,hB⟩:=hA.row_open (ax:=ax) (cap:=cap) (n:=ws.length) (xs:=flatS ws) sR (by omega);obtain⟨g2,c2,rfl,_,_,hcl2,hct2,hB2⟩:=hB.row_open (ax:=bx) (cap:=cbp) (n:=us.length) (xs:=flatS us) sR (by omega);have x1:=Hd (fun(j:Nat) (x:ByteArray) (hx:ws[j]? =some x)=>ZcA hct1 hx);have x2:=Hd (fun(j:Nat) (x:ByteArray) (hx:us[j]? =some x)=>ZcA hct2 hx);clear hA hB hct1 hct2 hcl1 hcl2;have hA:=hB2;clear hB2;have hab':=Hd hab;clear hab;obtain⟨hA,hF⟩:=fZ hA
 by_cases hl:us.length < ws.length
 · have hb:Zam (bl p) (bl q)=false:=by
    rw[hab'.out,decide_eq_false_iff_not];intro h;have:=h.length_le
    simp at this
    omega
   have hb':=Hd hb;clear hb
   go_wp2_with fail
   go_ret;exact⟨by rw[hb'.out];rfl,hA.toExt⟩
 go_wp2_with fail
 go_loopg [9] ws.length (Znx w g1 g2 c1 c2 ws us)
 case atStart=>exact⟨0,rfl,by simp,hA.pick pR,nofun⟩
 case round=>
  obtain⟨i,rfl,hk,hB,heq⟩:=hrel;clear hF hA;have hA:=hB;clear hB
  by_cases hi:i < ws.length
  · have hj:i < us.length:=by omega
    have c1i:c1[i]? =some (.string ws[i]):=x1.out i _ (List.getElem?_eq_getElem hi);have c2i:c2[i]? =some (.string us[i]):=x2.out i _ (List.getElem?_eq_getElem hj)
    have hw1:(ws.map bl)[i]? =some (bl ws[i]):=by simp[hi]
    have hw2:(us.map bl)[i]? =some (bl us[i]):=by simp[hj]
    generalize ws[i]=x at *
    generalize us[i]=y at *
    have hxy:=eqB x y;have heq':=Hd heq;obtain⟨hA,hF⟩:=fZ hA
    by_cases hc:bl x=bl y
    · rw[decide_eq_true hc] at hxy
      have hc':=Hd hc;have hw1':=Hd hw1;have hw2':=Hd hw2;clear hc hw1 hw2 heq
      go_wp2_with fail
      refine cl1 hA ?_;clear hF hA;intro w1 hA hF;(try simp only[uZ] at hA hF)
      go_wp2_with fail
      go_roundg (gk - 1)
      case measure=>omega
      case rel=>
       refine⟨i + 1,by simp,by omega,hA,fun j hj=> ?_⟩
       by_cases e:j=i
       · subst e;rw[hw1'.out,hw2'.out,hc'.out]
       exact heq'.out j (by omega)
    rw[decide_eq_false hc] at hxy
    have hb:Zam (bl p) (bl q)=false:=by
     rw[hab'.out,decide_eq_false_iff_not];intro h;have h3:=List.prefix_iff_getElem?.1 h i (by simpa using hi);rw[hw2] at h3;have h4:=List.getElem?_eq_some_iff.1 hw1;obtain⟨_,h4⟩:=h4;rw[h4] at h3;exact hc (Option.some.inj h3).symm
    have hb':=Hd hb;clear hc hw1 hw2 heq hb
    go_wp2_with fail
    refine cl1 hA ?_;clear hF hA;intro w1 hA hF;(try simp only[uZ] at hA hF)
    go_wp2_with fail
    go_ret;exact⟨by rw[hb'.out];rfl,hA.toExt⟩
  have hb:Zam (bl p) (bl q)=true:=by
   rw[hab'.out,decide_eq_true_eq]
   refine List.prefix_iff_getElem?.2 fun j hj=> ?_
   rw[heq j (by simp at hj;omega)];exact List.getElem?_eq_getElem hj
  have hb':=Hd hb;clear hb heq;obtain⟨hA,hF⟩:=fZ hA
  go_wp2_with fail
  go_ret;exact⟨by rw[hb'.out];rfl,hA.toExt⟩
theorem ZdH (p q:ByteArray) (w:World) (hp:p.size≤2000000) (hq:q.size≤2000000):Calls Tryz.prog 78 #[.string p,.string q] w fun e w'=>e=.returned (.bool (overB (bl p) (bl q)))∧Ext w w':=by
 have h1:=Zdw p q w hp hq
 have h2:=fun w=>Zdw q p w hq hp
 have ho:overB (bl p) (bl q)=(Zam (bl p) (bl q) || Zam (bl q) (bl p)):=rfl;rw[ho];clear ho
 generalize Zam (bl p) (bl q)=b1 at *
 generalize Zam (bl q) (bl p)=b2 at *
 cases b1
 · go_enter Tryz.func78,Tryz.ntmps78
   go_wp2_with fail
   refine h1.mono ?_;clear h1;rintro e w1 ⟨rfl,hx⟩
   go_wp2_with fail
   refine(h2 w1).mono ?_;clear h2;rintro e w2 ⟨rfl,hx2⟩;cases b2
   all_goals
    go_wp2_with fail
    go_ret;exact⟨rfl,hx.trans hx2⟩
 go_enter Tryz.func78,Tryz.ntmps78
 go_wp2_with fail
 refine h1.mono ?_;clear h1;rintro e w1 ⟨rfl,hx⟩
 go_wp2_with fail
 go_ret;exact⟨rfl,hx⟩
end Path
end
section
section
open Go.RowKit
theorem Ziy:∀(vs p q r:List Value),q.length=vs.length→setL (p++(q++r)) p.length vs=p++(vs++r)
 |[],p,q,r,h=>by
  have:q=[]:=List.eq_nil_of_length_eq_zero (by simpa using h);subst this
  rfl
 |v::vs,p,[],r,h=>by simp at h
 |v::vs,p,y::q,r,h=>by
  rw[setL]
  have e:(p++(y::q++r)).set p.length v=(p++[v])++(q++r):=by
   rw[List.set_append_right _ _ (Nat.le_refl _)]
   simp
  have:=Ziy vs (p++[v]) q r (by simpa using h);rw[List.length_append] at this;rw[e];simp only[List.length_cons,List.length_nil,Nat.zero_add] at this;rw[this]
  simp
theorem ZmW {α:Type} (enc:α→List Value) (size:Nat) (hs:∀x,(enc x).length=size) (l:List α) (i:Nat) (hi:i < l.length) (x:α):setL (l.flatMap enc) (i * size) (enc x)=(l.set i x).flatMap enc:=by
 have e1:l=l.take i++l[i]::l.drop (i + 1):=by rw[←List.drop_eq_getElem_cons hi,List.take_append_drop]
 have hl:(l.take i).length=i:=by rw[List.length_take];omega
 have e2:l.set i x=l.take i++x::l.drop (i + 1):=by
  rw[List.set_eq_take_append_cons_drop,if_pos hi]
 have e3:l.flatMap enc=(l.take i).flatMap enc++(enc l[i]++(l.drop (i + 1)).flatMap enc):=by
  have:=congrArg (fun m=>m.flatMap enc) e1;simp only[List.flatMap_append,List.flatMap_cons] at this;exact this
 have hf:((l.take i).flatMap enc).length=i * size:=by rw[Zaz enc size hs,hl]
 rw[e2,e3,←hf,Ziy _ _ _ _ (by rw[hs,hs])]
 simp
theorem Zgx:∀(vs c:List Value) (o m:Nat),(setL c o vs).take m=setL (c.take m) o vs
 |[],_,_,_=>rfl
 |v::vs,c,o,m=>by rw[setL,setL,Zgx vs,List.take_set]
theorem ZjQ {α:Type} {enc:α→List Value} {size:Nat} (hs:∀x,(enc x).length=size) {c:List Value} {l:List α} (ht:c.take (l.length * size)=l.flatMap enc) {i:Nat} (hi:i < l.length) (x:α):
 (setL c (i * size) (enc x)).take ((l.set i x).length * size)=(l.set i x).flatMap enc:=by
 rw[List.length_set,Zgx,ht,ZmW enc size hs l i hi]
section
variable {P:Program} {ops:Array Oper} {rest:List Oper} {o:Oper} {a:Act} {Q:Exit→Act→World→Prop} {L0 L F:List Part} {w0 w:World} {e:TypeId}
end
end
end
end Go.Proofs.YtkdjkngfnapjcaaGreatDoor
