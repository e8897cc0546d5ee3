import Derived.Test.YtknoefbcmomalaaGreatDoorP11
set_option linter.unusedSimpArgs false
set_option linter.unusedVariables false
set_option maxRecDepth 100000
set_option maxHeartbeats 16000000
namespace Go.Proofs.YtknoefbcmomalaaGreatDoor
section
namespace Lock
open Go.RowKit
open Go.Maps (Keyed)
theorem ZaW (e:Ent):e.cells.length=6:=rfl
theorem Zin (e:Ent):∀u ∈ e.cells,u.oneCell'=true:=List.all_eq_true.1 (show e.cells.all (·.oneCell')=true from rfl)
theorem ZhX {L0 K F:List Part} {w0 w:World} {g cap:Nat} {c:List Value} {l:List Ent} (hA:At L0 w0 K w) (s:Sel (Part.cells g c 55) K F) (hcl:c.length=cap * 6) (hcap:l.length≤cap) (hcm:cap≤maxLen) (hct:c.take (l.length * 6)=l.flatMap Ent.cells):
 At L0 w0 (rowL (.slice (some ⟨g,0,none⟩) l.length cap) l::F) w:=hA.row_shut s hcl hcap hcm hct
def CloE (F b3:Nat) (E:Part) (l:List Ent) (f:Ent→Bool):Prop:=∀w1,Sep [E] w1→∀x ∈ l,Calls Tryz.prog F #[x.val,.pointer (some ⟨b3,0,none⟩)] w1 fun e w'=>e=.returned (.bool (f x))∧At [E] w1 [E] w'
def Zoy (w:World) (v:Value) (l:List Ent) (E:Part) (f:Ent→Bool) (k:Nat) (u:Value) (wr:World):Prop:=
 ∃i:Nat,u=.int .i64 i∧i + k=l.length∧At [rowL v l,E] w [rowL v l,E] wr∧∀x ∈ l.take i,f x=false
def Zm6 (w:World) (v:Value) (l:List Ent) (E:Part) (f:Ent→Bool) (e:Ending) (w':World):Prop:=
 ((∃i:Nat,e=.returned (.int .i64 i)∧i < l.length∧(∀h:i < l.length,f l[i]=true)∧∀x ∈ l.take i,f x=false)∨(e=.returned (.int .i64 (-1))∧∀x ∈ l,f x=false))∧At [rowL v l,E] w [rowL v l,E] w'
def keepE (f:Ent→Bool) (l:List Ent):List Ent:=l.filter (fun x=> !f x)
abbrev rowNE (v:Value) (n:Nat) (lc:List Ent):Part:=.row 55 6 v n (lc.flatMap Ent.cells)
theorem Zdj (f:Ent→Bool) (l:List Ent) (x:Ent):keepE f (l++[x])=keepE f l++(if f x then[] else[x]):=by
 unfold keepE;rw[List.filter_append];cases h:f x<;>simp[h]
theorem Zi8 (l:List Ent) (k:Nat):(l.flatMap Ent.cells).take (k * 6)=(l.take k).flatMap Ent.cells:=by
 induction l generalizing k with
 |nil=>simp
 |cons x l ih=>
  cases k with
  |zero=>simp
  |succ k=>
   have:=ih k;rw[List.take_succ_cons,List.flatMap_cons,List.flatMap_cons,←this,List.take_append];have e:(Ent.cells x).length=6:=rfl;rw[List.take_of_length_le (by omega),e,show(k + 1) * 6 - 6=k * 6 by omega]
structure MovedE (f:Ent→Bool) (l lc:List Ent) (i j:Nat):Prop where
 lt:i < j
 len:lc.length=l.length
 head:lc.take i=keepE f (l.take j)
 tail:lc.drop j=l.drop j
theorem MovedE.at {f:Ent→Bool} {l lc:List Ent} {i j:Nat} (h:MovedE f l lc i j) (hj:j < l.length):lc[j]? =some l[j]:=by
 have:=congrArg (fun m=>m[0]?) h.tail;simp only[List.getElem?_drop,Nat.add_zero] at this;rw[this,List.getElem?_eq_getElem hj]
theorem MovedE.tail1 {f:Ent→Bool} {l lc:List Ent} {i j:Nat} (h:MovedE f l lc i j):lc.drop (j + 1)=l.drop (j + 1):=by
 have:=congrArg (fun m=>m.drop 1) h.tail
 simpa [List.drop_drop,Nat.add_comm] using this
theorem MovedE.gone {f:Ent→Bool} {l lc:List Ent} {i j:Nat} (h:MovedE f l lc i j) (hj:j < l.length) (hf:f l[j]=true):MovedE f l lc i (j + 1):=
 ⟨by have:=h.lt;omega,h.len,by rw[h.head,List.take_succ_eq_append_getElem hj,Zdj,hf];exact(List.append_nil _).symm,h.tail1⟩
theorem MovedE.kept {f:Ent→Bool} {l lc:List Ent} {i j:Nat} (h:MovedE f l lc i j) (hj:j < l.length) (hf:f l[j]=false):MovedE f l (lc.set i l[j]) (i + 1) (j + 1):=by
 have hlt:=h.lt;have hil:i < lc.length:=by rw[h.len];omega
 refine⟨by omega,by rw[List.length_set,h.len],?_,?_⟩
 · rw[List.take_succ_eq_append_getElem hj,List.take_succ_eq_append_getElem (by rw[List.length_set];exact hil),List.take_set_of_le (Nat.le_refl _),h.head,Zdj,hf,List.getElem_set_self];rfl
 rw[List.drop_set_of_lt (by omega),h.tail1]
theorem MovedE.first {f:Ent→Bool} {l:List Ent} {i:Nat} (hi:i < l.length) (hf:f l[i]=true) (hn:∀x ∈ l.take i,f x=false):MovedE f l l i (i + 1):=by
 refine⟨by omega,rfl,?_,rfl⟩;rw[List.take_succ_eq_append_getElem hi,Zdj,hf];unfold keepE;rw[List.filter_eq_self.2 (fun x hx=>by rw[hn x hx];rfl)];exact(List.append_nil _).symm
def ZoB (w:World) (v:Value) (l:List Ent) (E:Part) (f:Ent→Bool) (k:Nat) (u5 u6:Value) (wr:World):Prop:=
 ∃(i j:Nat) (lc:List Ent),u5=.int .i64 i∧u6=.int .i64 j∧j + k=l.length∧MovedE f l lc i j∧At [rowL v l,E] w [rowNE v l.length lc,E] wr
def ZdH (w:World) (v:Value) (l:List Ent) (E:Part) (f:Ent→Bool) (e:Ending) (w':World):Prop:=
 ∃v',e=.returned v'∧At [rowL v l,E] w [rowL v' (keepE f l),E] w'
theorem Zmq {w:World} {v:Value} {l:List Ent} {F b3:Nat} {E:Part} {f:Ent→Bool} (h:Sep [rowL v l,E] w) (heg:∀args w,(callFunc F args).run Tryz.prog w=.ok (.enter F args) w) (hc:CloE F b3 E l f) (hmax:l.length≤1000000):
 Calls Tryz.prog 76 #[v,.func (.func F) #[] #[.pointer (some ⟨b3,0,none⟩)]] w (Zm6 w v l E f):=by
 have hA:=At.start h;have hF:=hA.facts;clear h;obtain⟨ax,cap,rfl,hax,hcap,_⟩:=hA.row_form (v:=v) (xs:=l.flatMap Ent.cells) sR;have hc':=Hd hc;clear hc;go_enter Tryz.func76,Tryz.ntmps76;go_wp2_with fail;(try go_frame);go_loopg [8] l.length (Zoy w (.slice ax l.length cap) l E f)
 case atStart=>exact⟨0,rfl,by simp,hA,by simp⟩
 case round=>
  obtain⟨i,rfl,hik,hB,hno⟩:=hrel;have hno':=Hd hno;clear hF hA hno;have hA:=hB;clear hB;by_cases hi:i < l.length
  · obtain⟨g,c,rfl,cp1,hcm,hcl,hct,hB⟩:=hA.row_open (ax:=ax) (cap:=cap) (n:=l.length) (xs:=l.flatMap Ent.cells) sR (by omega);have hx:l[i]? =some l[i]:=List.getElem?_eq_getElem hi;have c0:c[i * 6]? =some (.string l[i].path):=Zag ZaW hct hx 0 (by omega);have c1:c[i * 6 + 1]? =some (.int .u64 l[i].num):=Zag ZaW hct hx 1 (by omega);have c2:c[i * 6 + 2]? =some (.string l[i].foot):=Zag ZaW hct hx 2 (by omega);have c3:c[i * 6 + 3]? =some (.int .i64 l[i].mode):=Zag ZaW hct hx 3 (by omega);have c4:c[i * 6 + 4]? =some (.int .u64 l[i].n):=Zag ZaW hct hx 4 (by omega);have c5:c[i * 6 + 5]? =some (.int .i64 l[i].stamp):=Zag ZaW hct hx 5 (by omega);have hcx:=hc'.out;have hml:=Hd (List.getElem_mem hi);have hts:=Hd (List.take_succ_eq_append_getElem hi)
    obtain⟨x,hxe⟩:∃z,l[i]=z:=⟨_,rfl⟩
    have hxe':=Hd hxe;rw[hxe] at c0 c1 c2 c3 c4 c5 hml hts;have hcx:=fun(w1:World) (q:Sep [E] w1)=>hc'.out w1 q x hml.out
    obtain⟨y,hy⟩:∃z,f x=z:=⟨_,rfl⟩
    have hy':=Hd hy;rw[hy] at hcx;obtain⟨path,num,foot,mode,n,stamp⟩:=x;simp only[Ent.val] at hcx c0 c1 c2 c3 c4 c5;have hcx':=Hd hcx;clear hA hcx hx hxe hy;have hA:=hB;clear hB;obtain⟨hA,hF⟩:=fZ hA;go_wp2_with fail;refine(hcx'.out _ (hA.sep1 (A:=E) sR)).mono ?_;rintro e w2 ⟨rfl,hT⟩;replace hA:=hA.call1 (A:=E) sR hT;clear hF hT;obtain⟨hA,hF⟩:=fZ hA;cases y
    · go_wp2_with fail;go_roundg (gk - 1);case measure=>omega
      case rel=>exact⟨i + 1,by simp,by omega,(ZhX hA sZ hcl (by omega) hcm hct).pick pZ,fun x hx=>by
       rw[hts.out] at hx;rcases List.mem_append.1 hx with hx|hx
       · exact hno'.out x hx
       rw[List.mem_singleton.1 hx];exact hy'.out⟩
    go_wp2_with fail;refine bodyPost_ret (results_tmp rfl _ _ _) rfl ?_;exact⟨.inl ⟨i,rfl,hi,fun _=>by rw[hxe'.out];exact hy'.out,hno'.out⟩,(ZhX hA sZ hcl (by omega) hcm hct).pick pZ⟩
  have hF:=hA.facts;obtain⟨hA,hF⟩:=fZ hA;go_wp2_with fail;go_ret;exact⟨.inr ⟨rfl,fun x hx=>hno'.out x (by rw[List.take_of_length_le (by omega)];exact hx)⟩,hA.pick pZ⟩
theorem ZbQ {w:World} {v:Value} {l:List Ent} {F b3:Nat} {E:Part} {f:Ent→Bool} (h:Sep [rowL v l,E] w) (heg:∀args w,(callFunc F args).run Tryz.prog w=.ok (.enter F args) w) (hc:CloE F b3 E l f) (hmax:l.length≤1000000):
 Calls Tryz.prog 33 #[v,.func (.func F) #[] #[.pointer (some ⟨b3,0,none⟩)]] w (ZdH w v l E f):=by
 have hA:=At.start h;have hF:=hA.facts;clear h;have hc':=Hd hc;clear hc;obtain⟨ax,cap,rfl,hax,hcap,_⟩:=hA.row_form (v:=v) (xs:=l.flatMap Ent.cells) sR;go_enter Tryz.func33,Tryz.ntmps33;go_wp2_with fail;refine(Zmq hA.sep heg hc'.out hmax).mono ?_;rintro e w2 ⟨hr,hT⟩;replace hA:=hA.call2 (A:=rowL (.slice ax l.length cap) l) (B:=E) sR sR hT;clear hF hT;obtain⟨hA,hF⟩:=fZ hA;rcases hr with⟨i0,rfl,hi0,hf0,hno⟩|⟨rfl,hno⟩
 · have hM0:=Hd (MovedE.first hi0 (hf0 hi0) hno);clear hf0 hno;have hne:((i0:Int)== -1)=false:=by simp
   go_wp2_with fail;(try go_frame);go_loopg [5,6] (l.length - (i0 + 1)) (ZoB w (.slice ax l.length cap) l E f)
   case atStart=>exact⟨i0,i0 + 1,l,rfl,by simp,by omega,hM0.out,hA.pick pZ⟩
   case round=>
    obtain⟨i,j,lc,rfl,rfl,hjk,hMv,hB⟩:=hrel;have hMv':=Hd hMv;have hij:=hMv.lt;have hlen:=Hd hMv.len;clear hF hA hMv;have hA:=hB;clear hB;obtain⟨g,c,rfl,cp1,hcm,hcl,hct,hB⟩:=hA.row_open (ax:=ax) (cap:=cap) (n:=l.length) (xs:=lc.flatMap Ent.cells) sR (by omega);have hct':c.take (lc.length * 6)=lc.flatMap Ent.cells:=by rw[hlen.out];exact hct
    have hct2:=Hd hct';clear hA hct';have hA:=hB;clear hB;by_cases hj:j < l.length
    · have hx:lc[j]? =some l[j]:=hMv'.out.at hj;have hml:=Hd (List.getElem_mem hj)
      obtain⟨x,hxe⟩:∃z,l[j]=z:=⟨_,rfl⟩
      have hxe':=Hd hxe;rw[hxe] at hx hml;have c0:c[j * 6]? =some (.string x.path):=Zag ZaW hct2.out hx 0 (by omega);have c1:c[j * 6 + 1]? =some (.int .u64 x.num):=Zag ZaW hct2.out hx 1 (by omega);have c2:c[j * 6 + 2]? =some (.string x.foot):=Zag ZaW hct2.out hx 2 (by omega);have c3:c[j * 6 + 3]? =some (.int .i64 x.mode):=Zag ZaW hct2.out hx 3 (by omega);have c4:c[j * 6 + 4]? =some (.int .u64 x.n):=Zag ZaW hct2.out hx 4 (by omega);have c5:c[j * 6 + 5]? =some (.int .i64 x.stamp):=Zag ZaW hct2.out hx 5 (by omega);have hcx:=fun(w1:World) (q:Sep [E] w1)=>hc'.out w1 q x hml.out
      obtain⟨y,hy⟩:∃z,f x=z:=⟨_,rfl⟩
      rw[hy] at hcx;have hMk:=Hd (fun(q:y=false)=>hxe ▸ hMv'.out.kept hj (by rw[hxe,hy];exact q));have hMg:=Hd (fun(q:y=true)=>hMv'.out.gone hj (by rw[hxe,hy];exact q));have hwr:=Hd (ZcL ZaW hct2.out (i:=i) (by have:=hlen.out;omega) x);have hsl:=Hd (fun(q:List Ent) (hq:q=lc.set i x)=>hq);clear hx hxe hy hsl;obtain⟨path,num,foot,mode,n,stamp⟩:=x;simp only[Ent.val] at hcx c0 c1 c2 c3 c4 c5;have hcx':=Hd hcx;clear hcx;obtain⟨hA,hF⟩:=fZ hA
      go_wp2_with (first|((with_reducible refine gal ?_);refine g11 hA ?_;clear hF hA;intro bE w1 hA hbE hF)|((with_reducible refine gst ?_);refine wTz hA ?_;clear hF hA;intro w1 hA hF))
      refine(hcx'.out _ (hA.sep1 (A:=E) sR)).mono ?_;rintro e w2 ⟨rfl,hT⟩;replace hA:=hA.call1 (A:=E) sR hT;clear hF hT;obtain⟨hA,hF⟩:=fZ hA;cases y
      · go_wp2_with (refine Zam (b:=g) (j:=i * 6) (c:=c) (vs:=[.string path,.int .u64 num,.string foot,.int .i64 mode,.int .u64 n,.int .i64 stamp]) rfl rfl rfl (by(try simp only[Act.eval,eV])<;>exact rfl) (by exact rfl) hA sZ (by kernel_rfl) rfl (by show i * 6 + 6≤c.length;omega) ?_;intro w1 hB;clear hF hA;have hA:=hB;clear hB)
        go_roundg (gk - 1);case measure=>omega
        case rel=>
         have hS:=hA.row_shut (n:=l.length) (cap:=cap) (xs:=(lc.set i ⟨path,num,foot,mode,n,stamp⟩).flatMap Ent.cells) sZ (by rw[Zaj];exact hcl) (by omega) hcm (by have:=hwr.out;rw[List.length_set,hlen.out] at this;exact this);exact⟨i + 1,j + 1,_,by simp,by simp,by omega,hMk.out (by trivial),hS.pick pZ⟩
      go_wp2_with fail;go_roundg (gk - 1);case measure=>omega
      case rel=>
       have hS:=hA.row_shut (n:=l.length) (cap:=cap) (xs:=lc.flatMap Ent.cells) sZ hcl (by omega) hcm hct;exact⟨i,j + 1,lc,rfl,by simp,by omega,hMg.out (by trivial),hS.pick pZ⟩
    have hci:¬cap=i:=by omega
    have hil:i≤l.length:=by omega
    have hkl:(keepE f l).length=i:=by
     have:=congrArg List.length hMv'.out.head;have h2:=hlen.out;rw[List.take_of_length_le (l:=l) (by omega),List.length_take] at this
     omega
    have hfl:(keepE f l).flatMap Ent.cells=(lc.flatMap Ent.cells).take (i * 6):=by
     have:=hMv'.out.head;rw[List.take_of_length_le (l:=l) (by omega)] at this;rw[Zi8,this]
    have hkl':=Hd hkl;have hfl':=Hd hfl;clear hkl hfl;obtain⟨hA,hF⟩:=fZ hA
    go_wp2_with (refine ZdL (e:=55) (z:=.agg #[.string .empty,.int .u64 0,.string .empty,.int .i64 0,.int .u64 0,.int .i64 0]) (b:=g) (off:=i * 6) (m:=l.length - i) (cp:=cap - i) (c:=c) (T:=55) rfl rfl Tryz.underlying52 (fun _=>by kernel_rfl) (Zin ⟨.empty,0,.empty,0,0,0⟩) (by decide) (by(try simp only[Act.eval,eV])<;>exact rfl) (by omega) hA sZ (by show i * 6 + (l.length - i) * 6≤c.length;omega) ?_;intro c' w1 hcl' hct3 hB;replace hA:=hB;clear hF hB;obtain⟨hA,hF⟩:=fZ hA)
    go_ret
    have hS:=hA.row_shut (n:=i) (cap:=cap) (xs:=(keepE f l).flatMap Ent.cells) sZ (hcl'.trans hcl) (by omega) hcm (by
     rw[hfl'.out,hct3,←hct,List.take_take,Nat.min_eq_left (by omega)])
    refine⟨.slice (some ⟨g,0,none⟩) i cap,rfl,?_⟩;show At _ _ [Part.row 55 6 (.slice (some ⟨g,0,none⟩) i cap) (keepE f l).length ((keepE f l).flatMap Ent.cells),E] _;rw[hkl'.out];exact hS.pick pZ
 have hk:keepE f l=l:=List.filter_eq_self.2 (fun x hx=>by rw[hno x hx];rfl);have hk':=Hd hk;clear hno hk;go_wp2_with fail;refine bodyPost_ret (results_tmp rfl _ _ _) rfl ?_;exact⟨_,rfl,by rw[hk'.out];exact hA.pick pZ⟩
end Lock
end
section
namespace Lock
open Go.RowKit
open Go.Maps (Keyed)
attribute [-go_sem] run_eql_struct run_neq_struct run_eqGuard_agg
attribute [local go_sem] Zij eqlE6
def IxERel (w:World) (v:Value) (l:List Ent) (x:Ent) (b3:Nat) (k:Nat) (u:Value) (wr:World):Prop:=
 ∃i:Nat,u=.int .i64 i∧i + k=l.length∧x ∉ l.take i∧At [rowL v l] w [Part.cells b3 x.cells 55,rowL v l] wr
def Zd9 (l:List Ent) (x:Ent):Int:=if x ∈ l then l.idxOf x else -1
theorem Zky {l:List Ent} {x:Ent} {i:Nat} (h:l[i]? =some x) (hn:x ∉ l.take i):Zd9 l x=i:=by
 have hm:x ∈ l:=List.mem_of_getElem? h;unfold Zd9;rw[if_pos hm];obtain⟨hi,hx⟩:=List.getElem?_eq_some_iff.1 h
 have h1:l.idxOf x=i:=by
  have e:l=l.take i++l.drop i:=(List.take_append_drop i l).symm;rw[e,List.idxOf_append,if_neg hn,List.drop_eq_getElem_cons hi,hx,List.idxOf_cons_self,List.length_take];omega
 rw[h1]
theorem Zkx {l:List Ent} {x:Ent} (h:x ∉ l):Zd9 l x= -1:=if_neg h
def Zlo (w:World) (v:Value) (l:List Ent) (x:Ent) (e:Ending) (w':World):Prop:=e=.returned (.int .i64 (Zd9 l x))∧At [rowL v l] w [rowL v l] w'
theorem Zi4 {w:World} {v:Value} {l:List Ent} (h:Sep [rowL v l] w) (x:Ent) (hmax:l.length≤1000000):
 Calls Tryz.prog 106 #[v,x.val] w (Zlo w v l x):=by
 have hA:=At.start h;clear h;obtain⟨ax,cap,rfl,hax,hcap,_⟩:=hA.row_form (v:=v) (xs:=l.flatMap Ent.cells) sR;have hax':=Hd hax;clear hax;have hnox:=Hd (show x ∉ l.take 0 by simp);obtain⟨p1,n1,f1,m1,k1,s1⟩:=x;simp only[Ent.val];obtain⟨hA,hF⟩:=fZ hA;go_enter Tryz.func106,Tryz.ntmps106
 go_wp2_with ((with_reducible refine gbx ?_);refine wHz 55 [.string p1,.int .u64 n1,.string f1,.int .i64 m1,.int .u64 k1,.int .i64 s1] hA ?_;clear hF hA;intro b3 w1 hA hb3 hF)
 (try go_frame);go_loopg [8] l.length (IxERel w (.slice ax l.length cap) l ⟨p1,n1,f1,m1,k1,s1⟩ b3)
 case atStart=>exact⟨0,rfl,by simp,by simp,hA⟩
 case round=>
  obtain⟨i,rfl,hik,hno,hB⟩:=hrel;have hno':=Hd hno;clear hF hA hno;have hA:=hB;clear hB;simp only[Ent.cells] at hA;by_cases hi:i < l.length
  · obtain⟨g,c,rfl,_,hcm,hcl,hct,hB⟩:=hA.row_open (ax:=ax) (cap:=cap) (n:=l.length) (xs:=l.flatMap Ent.cells) sR (by omega);have hx:l[i]? =some l[i]:=List.getElem?_eq_getElem hi
    have he:(c.drop (i * 6)).take 6=l[i].cells:=by
     refine List.ext_getElem? fun k=> ?_;by_cases hk:k < 6
     · rw[List.getElem?_take_of_lt hk,List.getElem?_drop];rw[Zag ZaW hct hx k (by show k < 6;exact hk),List.getElem?_eq_getElem (by show k < 6;exact hk)]
     rw[List.getElem?_take_eq_none (by omega),List.getElem?_eq_none (by show 6≤k;omega)]
    have htk:l.take (i + 1)=l.take i++[l[i]]:=List.take_succ_eq_append_getElem hi;generalize hy:l[i]=y at *
    obtain⟨p0,n0,f0,m0,k0,s0⟩:=y;simp only[Ent.cells] at he;replace hA:=hB;clear hB
    obtain⟨d,hd⟩:∃d,decide ((⟨p1,n1,f1,m1,k1,s1⟩:Ent)=⟨p0,n0,f0,m0,k0,s0⟩)=d:=⟨_,rfl⟩
    have heq:∀w,(binOp .eql 55 (.agg #[.string p1,.int .u64 n1,.string f1,.int .i64 m1,.int .u64 k1,.int .i64 s1]) (.agg #[.string p0,.int .u64 n0,.string f0,.int .i64 m0,.int .u64 k0,.int .i64 s0])).run Tryz.prog w=.ok (.bool d) w:=fun w=>by rw[eqlE6,hd]
    have hd':=Hd hd;have hx':=Hd hx;have htk':=Hd htk;clear hx htk hy hd;obtain⟨hA,hF⟩:=fZ hA;cases d
    · go_wp2_with fail;(try go_frame);refine cl4 hA ?_;clear hF hA;intro w1 hA hF;(try simp only[uZ] at hA hF);go_wp2_with fail;go_roundg (gk - 1);case measure=>omega
      case rel=>
       have hB:=ZhX hA sR hcl hcap hcm hct;refine⟨i + 1,by simp,by omega,?_,hB.pick pZ⟩;rw[htk'.out];intro hm;rcases List.mem_append.1 hm with hm|hm
       · exact hno'.out hm
       exact of_decide_eq_false hd'.out (List.mem_singleton.1 hm)
    go_wp2_with fail;(try go_frame);refine cl4 hA ?_;clear hF hA;intro w1 hA hF;(try simp only[uZ] at hA hF);go_wp2_with fail;go_ret;have e0:=of_decide_eq_true hd'.out;have hx0:=hx'.out;rw[←e0] at hx0;exact⟨by rw[Zky hx0 hno'.out];rfl,(ZhX hA sR hcl hcap hcm hct).only1 sR⟩
  have hF:=hA.facts;obtain⟨hA,hF⟩:=fZ hA;go_wp2_with fail;go_ret;have hno2:=hno'.out;rw[List.take_of_length_le (by omega)] at hno2;exact⟨by rw[Zkx hno2];rfl,hA.only1 sZ⟩
theorem ZgP {w:World} {v:Value} {l:List Ent} (h:Sep [rowL v l] w) (x:Ent) (hmax:l.length≤1000000):
 Calls Tryz.prog 73 #[v,x.val] w fun e w'=>e=.returned (.bool (decide (x ∈ l)))∧At [rowL v l] w [rowL v l] w':=by
 have hA:=At.start h;clear h;have hc:=fun(w1:World) (q:Sep [rowL v l] w1)=>Zi4 q x hmax
 have hdx:decide (x ∈ l)=decide (0≤Zd9 l x):=by
  rw[decide_eq_decide];unfold Zd9;split<;>rename_i q
  · exact⟨fun _=>by omega,fun _=>q⟩
  exact⟨fun h=>absurd h q,fun h=>by omega⟩
 rw[hdx];unfold Zlo at hc;generalize Zd9 l x=ix at *
 obtain⟨p1,n1,f1,m1,k1,s1⟩:=x;simp only[Ent.val] at *
 have hdx':=Hd hdx;clear hdx;obtain⟨hA,hF⟩:=fZ hA;go_enter Tryz.func73,Tryz.ntmps73
 go_wp2_with ((with_reducible refine gbx ?_);refine wHz 55 [.string p1,.int .u64 n1,.string f1,.int .i64 m1,.int .u64 k1,.int .i64 s1] hA ?_;clear hF hA;intro b3 w1 hA hb3 hF)
 refine(hc _ (hA.sep1 (A:=rowL v l) sZ)).mono ?_;rintro e w1 ⟨rfl,hT⟩;replace hA:=hA.call1 (A:=rowL v l) sZ hT;clear hF hT;simp only[uA] at hA;obtain⟨hA,hF⟩:=fZ hA;go_wp2_with fail;go_ret;exact⟨rfl,hA.only1 sZ⟩
theorem wpList_zero_at {P:Program} {ops:Array Oper} {rest:List Oper} {o:Oper} {a:Act} {Q:Exit→Act→World→Prop} {L0 L:List Part} {w0 w:World} {t e:TypeId} {size:Nat} (hg:o.guard=none) (hop:o.op=.buildSlice t 0 #[])
 (hrun:(Instr.buildSlice t 0 #[]).run P w=.ok (.slice (some ⟨w.heap.size,0,none⟩) 0 0) (w.alloc (.cells #[] e))) (h:At L0 w0 L w)
 (hK:∀b w',At L0 w0 (Part.row e size (.slice (some ⟨b,0,none⟩) 0 0) 0 []::L) w'→wpList P ops Q rest (a.put o.dst (.slice (some ⟨b,0,none⟩) 0 0)) w'):wpList P ops Q (o::rest) a w:=by
 refine Zal hg ?_ (hK w.heap.size (w.alloc (.cells #[] e)) ?_)
 · simp[execOp,hop,hrun,Result.andThen]
 exact(h.alloc [] e).row_shut (cap:=0) (n:=0) (xs:=[]) .here (by simp) (Nat.le_refl _) (by unfold maxLen;omega) (by simp)
theorem infoL:(Tryz.prog.info? 55).map (fun i=>(i.zero,i.size,i.bytes))=some (some (.agg #[.string .empty,.int .u64 0,.string .empty,.int .i64 0,.int .u64 0,.int .i64 0]),6,64):=by kernel_rfl
theorem ZeZ {w:World} {v:Value} {l:List Ent} (h:Sep [rowL v l] w) (hmax:l.length≤1000000):
 Calls Tryz.prog 71 #[v] w fun e w'=>∃v',e=.returned v'∧At [rowL v l] w [rowL v' l,rowL v l] w':=by
 obtain⟨i0,hi0,hz0,hz1,hz2⟩:=info_parts infoL;have hA:=At.start h;clear h;obtain⟨ax,cap,rfl,hax,hcap,_⟩:=hA.row_form (v:=v) (xs:=l.flatMap Ent.cells) sR;have hax':=Hd hax;clear hax;obtain⟨hA,hF⟩:=fZ hA
 cases ax with
 |none=>
  have:l=[]:=List.eq_nil_of_length_eq_zero (hax'.out rfl);subst this
  have he:∀w,(binOp .eql 52 (.slice none 0 cap) (.slice none 0 0)).run Tryz.prog w=.ok (.bool true) w:=fun w=>by kernel_rfl
  go_enter Tryz.func71,Tryz.ntmps71;go_wp2_with fail;go_ret;exact⟨_,rfl,hA.row_nil 55 6⟩
 |some ad=>
  have he:∀w,(binOp .eql 52 (.slice (some ad) l.length cap) (.slice none 0 0)).run Tryz.prog w=.ok (.bool false) w:=fun w=>by kernel_rfl
  go_enter Tryz.func71,Tryz.ntmps71
  go_wp2_with (first
   |((with_reducible show wpList _ _ _ ({dst:=_,op:=Op.buildSlice _ _ _,type:=_,pos:=_,after:=_,guard:=_}::_) _ _);refine wpList_zero_at (e:=55) (size:=6) rfl rfl (by kernel_rfl) hA ?_;intro b2 w1 hB)
   |((with_reducible show wpList _ _ _ ({dst:=_,op:=Op.call {callee:=Callee.builtin Builtin.append,args:=_,argTypes:=_},type:=_,pos:=_,after:=_,guard:=_}::_) _ _);refine Zac (e:=55) (size:=6) (v:=.slice (some ⟨b2,0,none⟩) 0 0) (xs:=[]) (n:=0) (m:=l.length) (news:=l.flatMap Ent.cells) rfl _ _ 52 rfl Tryz.underlying52 hi0 hz0 hz1 hz2 rfl (by omega) hB sR (by(try simp only[Act.eval,eV])<;>exact rfl) (by(try simp only[Act.eval,eV])<;>exact rfl) (ZaB _ _ ZaW _) ((hB.drop .here).row_reads .here) (ZaO Zin _) (by unfold maxLen;omega) (by omega) ?_;intro v2 w2 hC))
  go_ret;rw[Nat.zero_add,List.nil_append] at hC;exact⟨v2,rfl,hC⟩
end Lock
end
section
namespace Path
open Go.RowKit
theorem Ze7 {P:Program} {ops:Array Oper} {rest:List Oper} {o:Oper} {a:Act} {Q:Exit→Act→World→Prop} {L0 L G:List Part} {w0 w:World} {t e:TypeId} {i:TypeInfo} {size m0 k:Nat} {v:Value} {xs:List Value} {x hi':Operand}
 (hg:o.guard=none) (hop:o.op=.slice t x none (some hi') none) (ht:P.underlying t=some (.slice e)) (hi:P.info? e=some i) (hsize:i.size=size) (hx:a.eval x=v) (hh:a.eval hi'=.int .i64 k)
 (h:At L0 w0 L w) (s:Sel (Part.row e size v m0 xs) L G) (hk:k≤m0) (hK:∀v',At L0 w0 (Part.row e size v' k (xs.take (k * size))::G) w→wpList P ops Q rest (a.put o.dst v') w):wpList P ops Q (o::rest) a w:=by
 obtain⟨v',hr,h1,h2⟩:=ZdZ (P:=P) ht hi hsize (h.get s:w.ownsRow 0 e size v m0 xs) k hk;refine Zal hg ?_ (hK v' (h.turn s (Part.row e size v' k (xs.take (k * size))) h1 (fun b hb=>.inl (by simpa [Part.row,h2] using hb)) (Exc.refl _ _)));simp[execOp,hop,hx,hh,hr,Result.andThen]
theorem Zd6 (c:UInt8) (w:World):Calls Tryz.prog 162 #[.int .u8 c.toNat] w fun e w'=>e=.returned (.bool (letB c))∧w=w':=by
 have key:∀(n:Int) (b1 b2 b3 b4 b5 b6:Bool),decide (97≤n)=b1→decide (n≤122)=b2→decide (48≤n)=b3→decide (n≤57)=b4→decide (n=45)=b5→decide (n=95)=b6→
  Calls Tryz.prog 162 #[.int .u8 n] w fun e w'=>e=.returned (.bool ((b1&&b2) || (b3&&b4) || b5 || b6))∧w=w':=by
  intro n b1 b2 b3 b4 b5 b6 h1 h2 h3 h4 h5 h6;have h5':(n==45)=b5:=by rw[←h5];rfl
  have h6':(n==95)=b6:=by rw[←h6];rfl
  clear h5 h6;cases b1<;>cases b2<;>cases b3<;>cases b4<;>cases b5<;>cases b6
  all_goals first
   |(exfalso;simp at h1 h2 h3 h4 h5' h6';omega)
   |(go_enter Tryz.func162,Tryz.ntmps162
     go_wp2
     go_ret
     exact⟨rfl,rfl⟩)
 rw[←Zhu];exact key _ _ _ _ _ _ _ rfl rfl rfl rfl rfl rfl
def Zm1 (v:Value) (ws:List ByteArray) (p:ByteArray) (w:World) (e:Ending) (w':World):Prop:=
 ∃(v':Value) (us:List ByteArray),e=.returned (.tuple #[v',.int .i64 (ZbB (stepW (ws.map bl) (bl p)))])∧At [rowS v ws] w [rowS v' us] w'∧(stepW (ws.map bl) (bl p)=some (us.map bl)∨stepW (ws.map bl) (bl p)=none∧us=[])∧us.length≤ws.length + 1
def Zou (v:Value) (ws:List ByteArray) (p:ByteArray) (w:World) (k:Nat) (u6:Value) (wr:World):Prop:=
 ∃i:Nat,u6=.int .i64 i∧i + k=p.size∧At [rowS v ws] w [rowS v ws] wr∧((bl p).take i).all letB=true
theorem ZhT {w:World} {v:Value} {ws:List ByteArray} (h:Sep [rowS v ws] w) (p:ByteArray) (hmax:ws.length≤2000000) (hp:p.size≤2000000):Calls Tryz.prog 139 #[v,.string p] w (Zm1 v ws p w):=by
 have hA:=At.start h;have hF:=hA.facts;obtain⟨i0,hi0,hz0,hz1,hz2⟩:=info_parts Zhx;clear h;by_cases e0:bl p=[]∨bl p=[46]
 · have hk:stepW (ws.map bl) (bl p)=some (ws.map bl):=by rcases e0 with e|e<;>rw[e]<;>first|exact ZhV|exact ZhW
   rcases e0 with e0|e0
   · obtain rfl:p=⟨#[]⟩:=ZbY e0;have hk':=Hd hk;clear hk e0;go_enter Tryz.func139,Tryz.ntmps139;go_wp2_with fail;go_ret2;exact⟨v,ws,by rw[hk'.out];rfl,hA,.inl hk'.out,by omega⟩
   obtain rfl:p=⟨#[46]⟩:=ZbY e0;have hk':=Hd hk;clear hk e0;go_enter Tryz.func139,Tryz.ntmps139;go_wp2_with fail;go_ret2;exact⟨v,ws,by rw[hk'.out];rfl,hA,.inl hk'.out,by omega⟩
 by_cases e1:bl p=[46,46]
 · obtain rfl:p=⟨#[46,46]⟩:=ZbY e1;clear e0;by_cases e2:ws=[]
   · subst e2;obtain⟨ax,cap,rfl,hax,hcap,_⟩:=hA.row_form (v:=v) (xs:=flatS []) sR;clear hax hcap;go_enter Tryz.func139,Tryz.ntmps139;go_wp2_with fail;go_ret2;exact⟨_,[],by rw[show stepW (([]:List ByteArray).map bl) (bl ⟨#[46,46]⟩)=none from Zfo];rfl,(hA.row_nil 9 1).pick pZ,.inr ⟨Zfo,rfl⟩,by simp⟩
   have hl:0 < ws.length:=List.length_pos_iff.2 e2;obtain⟨ax,kn,cap,hv0,hkn⟩:=hA.row_hid (v:=v) (xs:=flatS ws) sR;subst hv0;have ek:=hkn.out;obtain rfl:kn=ws.length:=ek;have hl1:((ws.length:Int)==0)=false:=beq_eq_false_iff_ne.2 (by omega);have hl2:=Hd (show((ws.length:Int) - 1)=((ws.length - 1:Nat):Int) by omega);have hst:=Hd (ZjC (acc:=ws.map bl) (by simpa using e2));clear e2;go_enter Tryz.func139,Tryz.ntmps139
   go_wp2_with (refine Ze7 (k:=ws.length - 1) rfl rfl Tryz.underlying144 hi0 hz1 (by(try simp only[Act.eval,eV])<;>exact rfl) (by exact congrArg (Value.int .i64) hl2.out) hA sR (by omega) ?_;intro v1 hB;obtain⟨ax3,n3,cap3,hv3,hn3⟩:=hB.row_hid .here;subst hv3;replace hA:=hB;clear hF hB;obtain⟨hA,hF⟩:=fZ hA)
   go_ret2
   have e3:(flatS ws).take ((ws.length - 1) * 1)=flatS ws.dropLast:=by
    unfold flatS;rw[Zbl Zdz,List.dropLast_eq_take]
   have e4:ws.length - 1=ws.dropLast.length:=by simp
   rw[e3,e4] at hA;exact⟨.slice ax3 n3 cap3,ws.dropLast,by rw[show stepW (ws.map bl) (bl ⟨#[46,46]⟩)=_ from hst.out];rfl,hA.pick pR,.inl (by rw[show stepW (ws.map bl) (bl ⟨#[46,46]⟩)=_ from hst.out,List.map_dropLast]),by simp;omega⟩
 have n0:p.toList.isEmpty=false:=by
  rw[Lib.toList_data];cases q:p.data.toList
  · exact absurd (Or.inl q) e0
  rfl
 have n1:(p.toList==[46])=false:=by rw[Lib.toList_data];simpa using fun q=>e0 (Or.inr q)
 have n2:(p.toList==[46,46])=false:=by rw[Lib.toList_data];simpa using e1
 have hne:bl p≠[]:=fun q=>e0 (Or.inl q);have hno:partB (bl p)=false→stepW (ws.map bl) (bl p)=none:=ZjD hne (fun q=>e0 (Or.inr q)) e1;have hyes:(bl p).all letB=true→stepW (ws.map bl) (bl p)=some (ws.map bl++[bl p]):=fun q=>ZdV (Zcd.2 ⟨hne,q⟩);have hno':=Hd hno;have hyes':=Hd hyes;clear hno hyes e0 e1 hne;obtain⟨ax,kn,cap,hv0,hkn⟩:=hA.row_hid (v:=v) (xs:=flatS ws) sR;subst hv0;go_enter Tryz.func139,Tryz.ntmps139;go_wp2_with fail;go_loopg [6] p.size (Zou (.slice ax kn cap) ws p w)
 case atStart=>exact⟨0,rfl,by simp,hA,by simp⟩
 case round=>
  obtain⟨i,rfl,hk,hB,hal⟩:=hrel;replace hA:=hB;clear hF hB;obtain⟨hA,hF⟩:=fZ hA;by_cases hi:i < p.size
  · cases hc:letB p[i]
    · have hlt:=Zd6 p[i] wr;rw[hc] at hlt;have hn:=Hd (hno'.out (Znm hi hc));clear hc hal;go_wp2_with fail;((with_reducible refine hlt.mono ?_))
      clear hlt;rintro e _ ⟨rfl,rfl⟩;go_wp2_with fail;go_ret2;exact⟨_,[],by rw[hn.out];rfl,(hA.row_nil 9 1).pick pZ,.inr ⟨hn.out,rfl⟩,by simp⟩
    have hlt:=Zd6 p[i] wr;rw[hc] at hlt;have hs:=Hd (ZiE hi hal hc);clear hc hal;go_wp2_with fail;((with_reducible refine hlt.mono ?_))
    clear hlt;rintro e _ ⟨rfl,rfl⟩;go_wp2_with fail;go_roundg (gk - 1);case measure=>omega
    case rel=>exact⟨i + 1,by simp,by omega,hA,hs.out⟩
  have hst:=Hd (hyes'.out (ZiD hi hal));replace hA:=hA.row_nil 9 1;clear hF hal;obtain⟨hA,hF⟩:=fZ hA;have hd:=Hd hkn.out
  go_wp2_with (first|(refine Zap (e:=9) (vs:=strC p) rfl rfl (by(try simp only[Act.eval,eV])<;>exact rfl) (fun _=>by kernel_rfl) hA ?_;intro b2 w1 hB hb2;replace hA:=hB;clear hF hB;obtain⟨hA,hF⟩:=fZ hA)|(refine Zac (e:=9) (size:=1) (v:=.slice ax3 n3 cap3) (xs:=flatS ws) (n:=0 + ws.length) (m:=1) (news:=strC p) rfl _ _ 144 rfl Tryz.underlying144 hi0 hz0 hz1 hz2 rfl (by omega) hA sR (by(try simp only[Act.eval,eV])<;>exact rfl) (by(try simp only[Act.eval,eV])<;>exact rfl) rfl (hA.cells_reads sR _ _) (Zfn p) (by unfold maxLen;omega) (by omega) ?_;intro v2 w1 hB;obtain⟨ax4,n4,cap4,hv4,hn4⟩:=hB.row_hid .here;subst hv4;replace hA:=hB;clear hF hB;obtain⟨hA,hF⟩:=fZ hA)|(refine Zac (e:=9) (size:=1) (v:=.slice none 0 0) (xs:=[]) (n:=0) (m:=ws.length) (xv:=.slice ax kn cap) (news:=flatS ws) rfl _ _ 144 rfl Tryz.underlying144 hi0 hz0 hz1 hz2 rfl (by omega) hA sR (by(try simp only[Act.eval,eV])<;>exact rfl) (by(try simp only[Act.eval,eV])<;>exact rfl) (ZaB _ _ Zdz _) (hA.row_reads (n:=ws.length) sR) (ZaO Zfn _) (by unfold maxLen;omega) (by omega) ?_;intro v1 w1 hB;obtain⟨ax3,n3,cap3,hv3,hn3⟩:=hB.row_hid .here;subst hv3;replace hA:=hB;clear hF hB;obtain⟨hA,hF⟩:=fZ hA))
  go_ret2;refine⟨.slice ax4 n4 cap4,ws++[p],by rw[hst.out];rfl,?_,.inl (by rw[hst.out];simp),by simp⟩;rw[show flatS ws++strC p=flatS (ws++[p]) by simp[flatS,List.flatMap_append],show 0 + ws.length + 1=(ws++[p]).length by simp] at hA;exact hA.pick pR
end Path
end
section
namespace Path
open Go.RowKit
def leftL (cur t:Bs):List Bs:=(cur++(Zai t).headD [])::(Zai t).tail
theorem Zgx (t:Bs):leftL [] t=Zai t:=by
 unfold leftL
 cases h:Zai t with
 |nil=>exact absurd h (Zbg t)
 |cons a b=>rfl
theorem Zko (cur:Bs):leftL cur []=[cur]:=by simp[leftL,Zai]
theorem Zhv (cur t:Bs):leftL cur (47::t)=cur::Zai t:=by simp[leftL,ZaD]
theorem Zmi (cur t:Bs) (c:UInt8) (h:c≠47):leftL cur (c::t)=leftL (cur++[c]) t:=by simp[leftL,ZaD,h]
def Zli (s:ByteArray) (w:World) (k:Nat) (u4 u5 u6 u7:Value) (wr:World):Prop:=
 ∃(i:Nat) (v:Value) (ws:List ByteArray) (cur:ByteArray),u4=v∧u5=.string cur∧u6=.int .i64 0∧u7=.int .i64 i∧i + k=s.size + 1∧At [] w [rowS v ws] wr∧ws.length≤i∧cur.size≤i∧
  walkL [] (Zai (bl s))=if i≤s.size then walkL (ws.map bl) (leftL (bl cur) ((bl s).drop i)) else some (ws.map bl)
def Zjo (s:ByteArray) (w:World) (e:Ending) (w':World):Prop:=
 ∃(v:Value) (ws:List ByteArray),e=.returned (.tuple #[v,.int .i64 (ZbB (walkL [] (Zai (bl s))))])∧At [] w [rowS v ws] w'∧(walkL [] (Zai (bl s))=some (ws.map bl)∨walkL [] (Zai (bl s))=none∧ws=[])∧ws.length≤s.size + 1
theorem ZeG (s:ByteArray) (w:World) (hs:s.size≤2000000):Calls Tryz.prog 101 #[.string s] w (Zjo s w):=by
 have hA:=(At.start (w0:=w) (L0:=[]) trivial).row_nil 9 1;have hF:=hA.facts;go_enter Tryz.func101,Tryz.ntmps101;go_wp2_with fail;go_loopg [4,5,6,7] (s.size + 1) (Zli s w)
 case atStart=>exact⟨0,_,[],⟨#[]⟩,rfl,rfl,rfl,rfl,by simp,hA,by simp,Nat.le_refl _,by simp[show bl ⟨#[]⟩=[] from rfl,Zgx]⟩
 case round=>
  obtain⟨i,v,ws,cur,rfl,rfl,rfl,rfl,hk,hB,hwl,hcl,hw⟩:=hrel;replace hA:=hB;clear hF hB;obtain⟨ax,kn,cap,hv0,hkn⟩:=hA.row_hid (v:=u4) (xs:=flatS ws) sR;subst hv0;obtain⟨hA,hF⟩:=fZ hA;have hsz:(bl s).length=s.size:=by simp
  by_cases hi:i < s.size
  · rw[if_pos (by omega),List.drop_eq_getElem_cons (by omega)] at hw;by_cases hc:s[i]=47
    · have hc':(bl s)[i]'(by omega)=47:=hc;rw[hc',Zhv] at hw;have hn:((s[i].toNat:Int) != 47)=false:=by rw[hc];rfl
      have htk:=ZhT (hA.sep1 (A:=rowS (.slice ax kn cap) ws) sR) cur (by omega) (by omega);have hw':=Hd hw;clear hw hc hc' hsz;go_wp2_with fail;refine htk.mono ?_;clear htk;rintro e w1 ⟨v',us,rfl,hT,hres,hul⟩;replace hA:=hA.call1 sR hT;clear hF hT;simp only[uA] at hA;obtain⟨ax2,kn2,cap2,hv2,hkn2⟩:=hA.row_hid (v:=v') (xs:=flatS us) sR;subst hv2;obtain⟨hA,hF⟩:=fZ hA;rcases hres with hre|⟨hre,hus⟩
      · rw[hre];have hw2:=hw'.out;rw[walkL,hre] at hw2;simp only at hw2;have hw3:=Hd hw2;simp only[ZbB];clear hw2 hw' hre;go_wp2_with fail;go_roundg (gk - 1);case measure=>omega
        case rel=>exact⟨i + 1,_,us,⟨#[]⟩,rfl,rfl,rfl,by simp,by omega,hA,by omega,Nat.zero_le _,by rw[hw3.out,if_pos (by omega),show bl ⟨#[]⟩=[] from rfl,Zgx]⟩
      rw[hre];have hw2:=hw'.out;rw[walkL,hre] at hw2;simp only at hw2;have hw3:=Hd hw2;simp only[ZbB];clear hw2 hw' hre;go_wp2_with fail;go_ret2;exact⟨.slice none 0 0,[],by rw[hw3.out];rfl,(hA.row_nil 9 1).pick pZ,.inr ⟨hw3.out,rfl⟩,by simp⟩
    have hc':(bl s)[i]'(by omega)≠47:=hc;rw[Zmi _ _ _ hc'] at hw
    have hn:((s[i].toNat:Int) != 47)=true:=by
     rw[bne_iff_ne];intro e;apply hc;apply UInt8.toNat_inj.1;have:s[i].toNat=47:=by omega
     rw[this];rfl
    have hx:bl (cur++s.extract i (i + 1))=bl cur++[(bl s)[i]'(by omega)]:=by
     simp only[bl];simp;rw[List.drop_eq_getElem_cons (by simpa using hi)];simp
    have hxl:(cur++s.extract i (i + 1)).size=cur.size + 1:=by
     have:=congrArg List.length hx;simp only[bl,List.length_append,List.length_cons,List.length_nil,Array.length_toList] at this;exact this
    rw[←hx] at hw;have hw':=Hd hw;have hxl':=Hd hxl;clear hw hc hc' hsz hx hxl;go_wp2_with fail;go_roundg (gk - 1);case measure=>omega
    case rel=>exact⟨i + 1,_,ws,cur++s.extract i (i + 1),rfl,rfl,rfl,by simp,by omega,hA,by omega,by have:=hxl'.out;omega,by rw[if_pos (by omega)];exact hw'.out⟩
  by_cases hi2:i=s.size
  · subst hi2;rw[if_pos (Nat.le_refl _),List.drop_eq_nil_of_le (by omega),Zko] at hw;have htk:=ZhT (hA.sep1 (A:=rowS (.slice ax kn cap) ws) sR) cur (by omega) (by omega);have hw':=Hd hw;have hnlt:¬(s.size:Int) < s.size:=by omega
    clear hw hsz hi;go_wp2_with fail;refine htk.mono ?_;clear htk;rintro e w1 ⟨v',us,rfl,hT,hres,hul⟩;replace hA:=hA.call1 sR hT;clear hF hT;simp only[uA] at hA;obtain⟨ax2,kn2,cap2,hv2,hkn2⟩:=hA.row_hid (v:=v') (xs:=flatS us) sR;subst hv2;obtain⟨hA,hF⟩:=fZ hA;rcases hres with hre|⟨hre,hus⟩
    · rw[hre];have hw2:=hw'.out;rw[walkL,hre] at hw2;simp only at hw2;have hw3:=Hd hw2;simp only[ZbB];clear hw2 hw' hre;go_wp2_with fail;go_roundg (gk - 1);case measure=>omega
      case rel=>exact⟨s.size + 1,_,us,⟨#[]⟩,rfl,rfl,rfl,by simp,by omega,hA,by omega,Nat.zero_le _,by rw[hw3.out,if_neg (by omega),walkL]⟩
    rw[hre];have hw2:=hw'.out;rw[walkL,hre] at hw2;simp only at hw2;have hw3:=Hd hw2;simp only[ZbB];clear hw2 hw' hre;go_wp2_with fail;go_ret2;exact⟨.slice none 0 0,[],by rw[hw3.out];rfl,(hA.row_nil 9 1).pick pZ,.inr ⟨hw3.out,rfl⟩,by simp⟩
  rw[if_neg (by omega)] at hw;have hw':=Hd hw;have hgt:¬(i:Int)≤s.size:=by omega
  clear hw hsz;go_wp2_with fail;go_ret2;exact⟨.slice ax kn cap,ws,by rw[hw'.out];rfl,hA.pick pR,.inl hw'.out,by omega⟩
end Path
end
section
namespace Path
open Go.RowKit
theorem Zgy:∀(l:List Bs) (x:Bs),l≠[]→joinS (l++[x])=joinS l++47::x
 |[],x,h=>absurd rfl h
 |[p],x,_=>by rw[List.cons_append,List.nil_append,ZbH _ _ (by simp),join_one,join_one]
 |p::q::r,x,_=>by
  have ih:=Zgy (q::r) x (by simp);rw[List.cons_append,ZbH p ((q::r)++[x]) (by simp),ih,ZbH p (q::r) (by simp),List.append_assoc,List.cons_append]
theorem Znd {L0 L F:List Part} {w0 w:World} {g cap:Nat} {c:List Value} {ws:List ByteArray} (h:At L0 w0 L w) (s:Sel (Part.cells g c 9) L F) (hl:c.length=cap * 1) (hn:ws.length≤cap) (hm:cap≤maxLen) (ht:c.take (ws.length * 1)=flatS ws):
 At L0 w0 (rowS (.slice (some ⟨g,0,none⟩) ws.length cap) ws::F) w:=h.row_shut s hl hn hm ht
def Zm2 (w:World) (v:Value) (ws:List ByteArray) (k:Nat) (u3 u4:Value) (wr:World):Prop:=
 ∃(i:Nat) (cur:ByteArray),u3=.string cur∧u4=.int .i64 i∧i + k=ws.length∧At [rowS v ws] w [rowS v ws] wr∧bl cur=joinS ((ws.take i).map bl)∧cur.size≤i * 2000001
def Zll (w:World) (v:Value) (ws:List ByteArray) (e:Ending) (w':World):Prop:=∃q:ByteArray,e=.returned (.string q)∧bl q=joinS (ws.map bl)∧At [rowS v ws] w [rowS v ws] w'
theorem Zgz {w:World} {v:Value} {ws:List ByteArray} (h:Sep [rowS v ws] w) (hmax:ws.length≤2000001) (hbd:∀x ∈ ws,x.size≤2000000):Calls Tryz.prog 138 #[v] w (Zll w v ws):=by
 have hA:=At.start h;have hF:=hA.facts;clear h;obtain⟨ax,cap,rfl,hax,hcap,_⟩:=hA.row_form (v:=v) (xs:=flatS ws) sR;have hcap':=Hd hcap;have hbd':=Hd hbd;clear hbd;clear hax hcap;go_enter Tryz.func138,Tryz.ntmps138;go_wp2_with fail;go_loopg [3,4] ws.length (Zm2 w (.slice ax ws.length cap) ws)
 case atStart=>exact⟨0,⟨#[]⟩,rfl,rfl,by simp,hA,rfl,Nat.zero_le _⟩
 case round=>
  obtain⟨i,cur,rfl,rfl,hk,hB,hj,hcs⟩:=hrel;clear hF hA;have hA:=hB;clear hB;by_cases hi:i < ws.length
  · obtain⟨g,c,rfl,_,hcm,hcl,hct,hB⟩:=hA.row_open (ax:=ax) (cap:=cap) (n:=ws.length) (xs:=flatS ws) sR (by omega);have c0:c[i]? =some (.string ws[i]):=Zcs hct (List.getElem?_eq_getElem hi);have hxs:ws[i].size≤2000000:=hbd'.out _ (List.getElem_mem hi);have hcs2:cur.size≤8000000000000:=by omega
    have hsz1:(cur++(⟨#[47]⟩:ByteArray)++ws[i]).size=cur.size + 1 + ws[i].size:=by rw[ByteArray.size_append,ByteArray.size_append];rfl
    have hsz2:Hid ((cur++(⟨#[47]⟩:ByteArray)++ws[i]).size≤(i + 1) * 2000001):=Hd (by rw[hsz1,Nat.add_mul];omega);clear hsz1;have ht:ws.take (i + 1)=ws.take i++[ws[i]]:=List.take_succ_eq_append_getElem hi;have ht':=Hd ht;have hj':=Hd hj;have hct':=Hd hct;have hcl':=Hd hcl;clear hA ht hj hct hcl;have hA:=hB;clear hB;obtain⟨hA,hF⟩:=fZ hA;by_cases h0:i=0
    · subst h0;go_wp2_with fail;go_roundg (gk - 1);case measure=>omega
      case rel=>exact⟨1,_,rfl,rfl,by omega,(Znd hA sR hcl'.out hcap'.out hcm hct'.out).pick pR,by rw[show bl (cur++ws[0])=bl cur++bl ws[0] by simp[bl],hj'.out,ht'.out];simp[join_one];simp[joinS,Lib.join],by simp;omega⟩
    have hpos:0 < i:=by omega
    go_wp2_with fail;go_roundg (gk - 1);case measure=>omega
    case rel=>exact⟨i + 1,_,rfl,by simp,by omega,(Znd hA sR hcl'.out hcap'.out hcm hct'.out).pick pR,by rw[show bl (cur++⟨#[47]⟩++ws[i])=bl cur++47::bl ws[i] by simp[bl],hj'.out,ht'.out,List.map_append,List.map_cons,List.map_nil,Zgy _ _ (by intro e;have:=congrArg List.length e;rw[List.length_map,List.length_take,List.length_nil] at this;omega)],hsz2.out⟩
  have hj':=Hd hj;clear hj;obtain⟨hA,hF⟩:=fZ hA;go_wp2_with fail;go_ret;exact⟨cur,rfl,by rw[hj'.out,List.take_of_length_le (by omega)],hA⟩
def Zlk (s:ByteArray) (w:World) (e:Ending) (w':World):Prop:=
 ∃q:ByteArray,e=.returned (.tuple #[.string q,.int .i64 (normL (bl s)).2])∧bl q=(normL (bl s)).1∧Ext w w'
theorem Zhp (s:ByteArray) (w:World) (hs:s.size≤2000000):Calls Tryz.prog 99 #[.string s] w (Zlk s w):=by
 have hA:=At.start (w0:=w) (L0:=[]) trivial;have hF:=hA.facts;go_enter Tryz.func99,Tryz.ntmps99;go_wp2_with fail;refine(ZeG s w (by omega)).mono ?_;rintro e w1 ⟨v,ws,rfl,hT,hres,hlen⟩;replace hA:=hA.call0 hT;clear hF hT;simp only[List.append_nil] at hA;obtain⟨ax,cap,hv,hax0,hcap0,_⟩:=hA.row_form (v:=v) (n:=ws.length) (xs:=flatS ws) sR;subst hv;clear hax0 hcap0
 have hn:normL (bl s)=(match walkL [] (Zai (bl s)) with
  |none=>([],30)
  |some l=>if l=[] then([],13) else if 8 < l.length then([],31) else if 64 < (joinS l).length then([],11) else(joinS l,0)):=rfl
 rcases hres with hre|⟨hre,hw0⟩
 · rw[hre] at hn;simp only at hn
   have hbd:∀x ∈ ws,x.size≤2000000:=fun x hx=>by
    have h1:bl x ∈ Zai (bl s):=by
     rcases Zfe hre (bl x) (List.mem_map.2 ⟨x,hx,rfl⟩) with h|h
     · simp at h
     exact h
    have h2:=ZbS (bl s) _ h1;have h3:(bl x).length=x.size:=by simp
    have h4:(bl s).length=s.size:=by simp
    omega
   rw[hre];simp only[ZbB];simp only[List.length_map] at hn;by_cases e1:ws=[]
   · subst e1;simp only[List.map_nil,if_pos] at hn;have hn':=Hd hn;clear hn hre hlen hbd;obtain⟨hA,hF⟩:=fZ hA;go_wp2_with fail;go_ret2;exact⟨⟨#[]⟩,by rw[hn'.out];rfl,by rw[hn'.out],hA.toExt⟩
   rw[if_neg (by simpa using e1)] at hn;have hl0:((ws.length:Int)==0)=false:=by simpa using e1
   by_cases e2:8 < ws.length
   · rw[if_pos e2] at hn;have hn':=Hd hn;clear hn hre hlen hbd e1;obtain⟨hA,hF⟩:=fZ hA;go_wp2_with fail;go_ret2;exact⟨⟨#[]⟩,by rw[hn'.out];rfl,by rw[hn'.out],hA.toExt⟩
   rw[if_neg e2] at hn;have hj1:=Zgz (hA.sep1 (A:=rowS (.slice ax ws.length cap) ws) sR) (by omega) hbd;have hn':=Hd hn;have hbd':=Hd hbd;clear hn hre hlen e1 hbd;obtain⟨hA,hF⟩:=fZ hA;go_wp2_with fail;refine hj1.mono ?_;clear hj1;rintro e w2 ⟨q,rfl,hq,hT⟩;replace hA:=hA.call1 sR hT;clear hF hT;simp only[uA] at hA;have hjs:(joinS (ws.map bl)).length=q.size:=by rw[←hq];simp
   have hn2:=hn'.out;rw[hjs] at hn2;have hq':=Hd hq;clear hn' hjs hq;obtain⟨hA,hF⟩:=fZ hA;by_cases e3:64 < q.size
   · rw[if_pos e3] at hn2;have hn3:=Hd hn2;clear hn2;go_wp2_with fail;go_ret2;exact⟨⟨#[]⟩,by rw[hn3.out];rfl,by rw[hn3.out],hA.toExt⟩
   rw[if_neg e3] at hn2;have hn3:=Hd hn2;have hj2:=Zgz (hA.sep1 (A:=rowS (.slice ax ws.length cap) ws) sR) (by omega) hbd'.out;clear hn2;go_wp2_with fail;refine hj2.mono ?_;clear hj2;rintro e w3 ⟨q2,rfl,hq2,hT⟩;have hB:=hA.call1 sR hT;clear hF hA hT;go_wp2_with fail;go_ret2;exact⟨q2,by rw[hn3.out];rfl,by rw[hn3.out];exact hq2,hB.toExt⟩
 rw[hre] at hn;simp only at hn;subst hw0;rw[hre];simp only[ZbB];have hn':=Hd hn;clear hn hre hlen;obtain⟨hA,hF⟩:=fZ hA;go_wp2_with fail;go_ret2;exact⟨⟨#[]⟩,by rw[hn'.out];rfl,by rw[hn'.out],hA.toExt⟩
theorem ZaI (s:ByteArray) (w:World) (hs:s.size≤2000000):Calls Tryz.prog 62 #[.string s] w fun e w'=>e=.returned (.bool (Zaf (bl s)))∧Ext w w':=by
 have hr:=ZeF (bl s);go_enter Tryz.func62,Tryz.ntmps62;go_wp2_with fail;refine(Zhp s w hs).mono ?_;rintro e w1 ⟨q,rfl,hq,hx⟩;rw[←hq] at hr;have heq:=eqB q s
 obtain⟨n2,hn2⟩:∃n,(normL (bl s)).2=n:=⟨_,rfl⟩
 rw[hn2] at hr ⊢;clear hn2 hq;by_cases h0:n2=0
 · subst h0;by_cases h1:bl q=bl s
   · have hb:Zaf (bl s)=true:=hr.1 ⟨rfl,h1⟩;rw[decide_eq_true h1] at heq;have hb':=Hd hb;clear hb hr h1;go_wp2_with fail;go_ret;exact⟨by rw[hb'.out];rfl,hx⟩
   have hb:Zaf (bl s)=false:=by
    cases hb:Zaf (bl s)
    · rfl
    exact absurd (hr.2 hb).2 h1
   rw[decide_eq_false h1] at heq;have hb':=Hd hb;clear hb hr h1;go_wp2_with fail;go_ret;exact⟨by rw[hb'.out];rfl,hx⟩
 have hb:Zaf (bl s)=false:=by
  cases hb:Zaf (bl s)
  · rfl
  exact absurd (hr.2 hb).1 h0
 have hb':=Hd hb;have h0':(n2==0)=false:=by simpa using h0
 clear hb hr h0 heq;go_wp2_with fail;go_ret;exact⟨by rw[hb'.out];rfl,hx⟩
end Path
end
section
namespace Path
open Go.RowKit
theorem Zdu {s:ByteArray} (w:World) (hs:s.size≤2000000) (hr:Zaf (bl s)=true):Calls Tryz.prog 101 #[.string s] w fun e w'=>∃(v:Value) (ws:List ByteArray),e=.returned (.tuple #[v,.int .i64 0])∧At [] w [rowS v ws] w'∧Zai (bl s)=ws.map bl:=
 (ZeG s w hs).mono fun e w' ⟨v,ws,he,hT,hres,hl⟩=>by
  have h1:=Zhn hr;rcases hres with h|⟨h,_⟩
  · rw[h1] at h;rw[h1] at he;exact⟨v,ws,he,hT,Option.some.inj h⟩
  rw[h1] at h;cases h
theorem ZbC {s:ByteArray} {b:Bool} (w:World) (hs:s.size≤2000000) (hb:Zaf (bl s)=b):Calls Tryz.prog 62 #[.string s] w fun e w'=>e=.returned (.bool b)∧Ext w w':=hb ▸ ZaI s w hs
def Zlj (s:ByteArray) (w:World) (e:Ending) (w':World):Prop:=∃(v:Value) (ws:List ByteArray),e=.returned (.tuple #[v,.int .i64 0])∧At [] w [rowS v ws] w'∧Zai (bl s)=ws.map bl
def Zna (w:World) (g1 g2:Nat) (c1 c2:List Value) (ws us:List ByteArray) (k:Nat) (u9:Value) (wr:World):Prop:=
 ∃i:Nat,u9=.int .i64 i∧i + k=ws.length∧At [] w [Part.cells g1 c1 9,Part.cells g2 c2 9] wr∧∀j,j < i→(us.map bl)[j]? =(ws.map bl)[j]?
theorem Zdn (p q:ByteArray) (w:World) (hp:p.size≤2000000) (hq:q.size≤2000000):Calls Tryz.prog 67 #[.string p,.string q] w fun e w'=>e=.returned (.bool (Zan (bl p) (bl q)))∧Ext w w':=by
 have hA:=At.start (w0:=w) (L0:=[]) trivial;have hF:=hA.facts;cases h1:Zaf (bl p)
 · have hb:=Hd (show Zan (bl p) (bl q)=false by simp[Zan,h1]);go_enter Tryz.func67,Tryz.ntmps67;go_wp2_with fail;refine(ZbC w hp h1).mono ?_;rintro e w1 ⟨rfl,hx⟩;go_wp2_with fail;go_ret;exact⟨by rw[hb.out];rfl,hx⟩
 cases h2:Zaf (bl q)
 · have hb:=Hd (show Zan (bl p) (bl q)=false by simp[Zan,h1,h2]);go_enter Tryz.func67,Tryz.ntmps67;go_wp2_with fail;refine(ZbC w hp h1).mono ?_;rintro e w1 ⟨rfl,hx⟩;go_wp2_with fail;refine(ZbC w1 hq h2).mono ?_;rintro e w2 ⟨rfl,hx2⟩;go_wp2_with fail;go_ret;exact⟨by rw[hb.out];rfl,hx.trans hx2⟩
 have hab:Zan (bl p) (bl q)=decide (Zai (bl p) <+:Zai (bl q)):=by rw[ZgZ,h1,h2];simp
 have hq2:∀w,Calls Tryz.prog 101 #[.string q] w (Zlj q w):=fun w=>Zdu w (by omega) h2;have hp2:∀w,Calls Tryz.prog 101 #[.string p] w (Zlj p w):=fun w=>Zdu w (by omega) h1;go_enter Tryz.func67,Tryz.ntmps67;go_wp2_with fail;refine(ZbC w hp h1).mono ?_;rintro e w1 ⟨rfl,hx⟩;go_wp2_with fail;refine(ZbC w1 hq h2).mono ?_;rintro e w2 ⟨rfl,hx2⟩;replace hA:=(hA.ext hx).ext hx2;clear hF hx hx2;go_wp2_with fail;refine(hp2 w2).mono ?_;clear hp2;rintro e w3 ⟨v,ws,rfl,hT,hws⟩;replace hA:=hA.call0 hT;clear hT;simp only[List.append_nil] at hA;go_wp2_with fail;refine(hq2 w3).mono ?_;clear hq2;rintro e w4 ⟨u,us,rfl,hT,hus⟩;replace hA:=hA.call0 hT;clear hT;simp only[uA] at hA;have n1:=Zbo (bl p);have n2:=Zbo (bl q);have m1:=ZaV (bl p);have m2:=ZaV (bl q);rw[hws] at hab n1 m1;rw[hus] at hab n2 m2;simp only[List.length_map] at n1 n2 m1 m2;have z1:(bl p).length=p.size:=by simp
 have z2:(bl q).length=q.size:=by simp
 rw[z1] at m1;rw[z2] at m2;clear hws hus h1 h2 z1 z2;obtain⟨ax,cap,rfl,_,_,_⟩:=hA.row_form (v:=v) (n:=ws.length) (xs:=flatS ws) sR;obtain⟨bx,cbp,rfl,_,_,_⟩:=hA.row_form (v:=u) (n:=us.length) (xs:=flatS us) sR;obtain⟨g1,c1,rfl,_,_,hcl1,hct1,hB⟩:=hA.row_open (ax:=ax) (cap:=cap) (n:=ws.length) (xs:=flatS ws) sR (by omega);obtain⟨g2,c2,rfl,_,_,hcl2,hct2,hB2⟩:=hB.row_open (ax:=bx) (cap:=cbp) (n:=us.length) (xs:=flatS us) sR (by omega);have x1:=Hd (fun(j:Nat) (x:ByteArray) (hx:ws[j]? =some x)=>Zcs hct1 hx);have x2:=Hd (fun(j:Nat) (x:ByteArray) (hx:us[j]? =some x)=>Zcs hct2 hx);clear hA hB hct1 hct2 hcl1 hcl2;have hA:=hB2;clear hB2;have hab':=Hd hab;clear hab;obtain⟨hA,hF⟩:=fZ hA;by_cases hl:us.length < ws.length
 · have hb:Zan (bl p) (bl q)=false:=by
    rw[hab'.out,decide_eq_false_iff_not];intro h;have:=h.length_le;simp at this
    omega
   have hb':=Hd hb;clear hb;go_wp2_with fail;go_ret;exact⟨by rw[hb'.out];rfl,hA.toExt⟩
 go_wp2_with fail;go_loopg [9] ws.length (Zna w g1 g2 c1 c2 ws us)
 case atStart=>exact⟨0,rfl,by simp,hA.pick pR,nofun⟩
 case round=>
  obtain⟨i,rfl,hk,hB,heq⟩:=hrel;clear hF hA;have hA:=hB;clear hB;by_cases hi:i < ws.length
  · have hj:i < us.length:=by omega
    have c1i:c1[i]? =some (.string ws[i]):=x1.out i _ (List.getElem?_eq_getElem hi);have c2i:c2[i]? =some (.string us[i]):=x2.out i _ (List.getElem?_eq_getElem hj);have hw1:(ws.map bl)[i]? =some (bl ws[i]):=by simp[hi]
    have hw2:(us.map bl)[i]? =some (bl us[i]):=by simp[hj]
    generalize ws[i]=x at *
    generalize us[i]=y at *
    have hxy:=eqB x y;have heq':=Hd heq;obtain⟨hA,hF⟩:=fZ hA;by_cases hc:bl x=bl y
    · rw[decide_eq_true hc] at hxy;have hc':=Hd hc;have hw1':=Hd hw1;have hw2':=Hd hw2;clear hc hw1 hw2 heq;go_wp2_with fail;refine cl0 hA ?_;clear hF hA;intro w1 hA hF;(try simp only[uZ] at hA hF);go_wp2_with fail;go_roundg (gk - 1);case measure=>omega
      case rel=>
       refine⟨i + 1,by simp,by omega,hA,fun j hj=> ?_⟩
       by_cases e:j=i
       · subst e;rw[hw1'.out,hw2'.out,hc'.out]
       exact heq'.out j (by omega)
    rw[decide_eq_false hc] at hxy
    have hb:Zan (bl p) (bl q)=false:=by
     rw[hab'.out,decide_eq_false_iff_not];intro h;have h3:=List.prefix_iff_getElem?.1 h i (by simpa using hi);rw[hw2] at h3;have h4:=List.getElem?_eq_some_iff.1 hw1;obtain⟨_,h4⟩:=h4;rw[h4] at h3;exact hc (Option.some.inj h3).symm
    have hb':=Hd hb;clear hc hw1 hw2 heq hb;go_wp2_with fail;refine cl0 hA ?_;clear hF hA;intro w1 hA hF;(try simp only[uZ] at hA hF);go_wp2_with fail;go_ret;exact⟨by rw[hb'.out];rfl,hA.toExt⟩
  have hb:Zan (bl p) (bl q)=true:=by
   rw[hab'.out,decide_eq_true_eq];refine List.prefix_iff_getElem?.2 fun j hj=> ?_;rw[heq j (by simp at hj;omega)];exact List.getElem?_eq_getElem hj
  have hb':=Hd hb;clear hb heq;obtain⟨hA,hF⟩:=fZ hA;go_wp2_with fail;go_ret;exact⟨by rw[hb'.out];rfl,hA.toExt⟩
theorem Zce (p q:ByteArray) (w:World) (hp:p.size≤2000000) (hq:q.size≤2000000):Calls Tryz.prog 42 #[.string p,.string q] w fun e w'=>e=.returned (.bool (overB (bl p) (bl q)))∧Ext w w':=by
 have h1:=Zdn p q w hp hq;have h2:=fun w=>Zdn q p w hq hp;have ho:overB (bl p) (bl q)=(Zan (bl p) (bl q) || Zan (bl q) (bl p)):=rfl;rw[ho];clear ho;generalize Zan (bl p) (bl q)=b1 at *
 generalize Zan (bl q) (bl p)=b2 at *
 cases b1
 · go_enter Tryz.func42,Tryz.ntmps42;go_wp2_with fail;refine h1.mono ?_;clear h1;rintro e w1 ⟨rfl,hx⟩;go_wp2_with fail;refine(h2 w1).mono ?_;clear h2;rintro e w2 ⟨rfl,hx2⟩;cases b2
   all_goals
    go_wp2_with fail;go_ret;exact⟨rfl,hx.trans hx2⟩
 go_enter Tryz.func42,Tryz.ntmps42;go_wp2_with fail;refine h1.mono ?_;clear h1;rintro e w1 ⟨rfl,hx⟩;go_wp2_with fail;go_ret;exact⟨rfl,hx⟩
end Path
end
section
namespace Lock
open Go.RowKit
open Go.Maps (Keyed)
open Path (bl Zaf overB)
theorem Ent.cells_len (e:Ent):e.cells.length=6:=rfl
theorem Ent.ones (e:Ent):e.cells.all (·.oneCell')=true:=rfl
theorem Ent.one (e:Ent):∀u ∈ e.cells,u.oneCell'=true:=List.all_eq_true.1 e.ones
def ctrL (c:ByteArray × Int):List Value:=[.string c.1,.int .u64 c.2]
theorem Zct (c:ByteArray × Int):(ctrL c).length=2:=rfl
theorem Zit (c:ByteArray × Int):∀u ∈ ctrL c,u.oneCell'=true:=List.all_eq_true.1 (show(ctrL c).all (·.oneCell')=true from rfl)
def flatE (L:List Ent):List Value:=L.flatMap Ent.cells
def flatC (L:List (ByteArray × Int)):List Value:=L.flatMap ctrL
abbrev rowE (v:Value) (L:List Ent):Part:=.row 82 6 v L.length (flatE L)
abbrev rowC (v:Value) (L:List (ByteArray × Int)):Part:=.row 226 2 v L.length (flatC L)
theorem Zbq {L0 K F:List Part} {w0 w:World} {g cap:Nat} {c:List Value} {L:List Ent} (hA:At L0 w0 K w) (s:Sel (Part.cells g c 82) K F) (hcl:c.length=cap * 6) (hcap:L.length≤cap) (hcm:cap≤maxLen) (hct:c.take (L.length * 6)=flatE L):
 At L0 w0 (rowE (.slice (some ⟨g,0,none⟩) L.length cap) L::F) w:=hA.row_shut s hcl hcap hcm hct
theorem ZhZ {L0 K F:List Part} {w0 w:World} {g cap:Nat} {c:List Value} {L:List (ByteArray × Int)} (hA:At L0 w0 K w) (s:Sel (Part.cells g c 226) K F) (hcl:c.length=cap * 2) (hcap:L.length≤cap) (hcm:cap≤maxLen) (hct:c.take (L.length * 2)=flatC L):
 At L0 w0 (rowC (.slice (some ⟨g,0,none⟩) L.length cap) L::F) w:=hA.row_shut s hcl hcap hcm hct
theorem Zgh {α:Type} {enc:α→List Value} {size:Nat} (hs:∀x,(enc x).length=size) {c:List Value} {l:List α} (ht:c.take (l.length * size)=l.flatMap enc) {k:Nat} {x:α} (hx:l[k]? =some x):(c.drop (k * size)).take size=enc x:=by
 apply List.ext_getElem?;intro j;by_cases hj:j < size
 · rw[List.getElem?_take_of_lt hj,List.getElem?_drop];exact Zag hs ht hx j hj
 rw[List.getElem?_eq_none (by rw[List.length_take];omega),List.getElem?_eq_none (by rw[hs];omega)]
theorem infoE:(Tryz.prog.info? 82).map (fun i=>(i.zero,i.size,i.bytes))=some (some (.agg #[.string .empty,.int .u64 0,.string .empty,.int .i64 0,.int .u64 0,.int .i64 0]),6,64):=by kernel_rfl
theorem infoC:(Tryz.prog.info? 226).map (fun i=>(i.zero,i.size,i.bytes))=some (some (.agg #[.string .empty,.int .u64 0]),2,24):=by kernel_rfl
theorem Za7 {L0 L:List Part} {w0 w:World} (h:At L0 w0 L w):At L0 w0 (rowE (.slice none 0 0) []::L) w:=h.row_nil 82 6
theorem Zh1 {L0 L:List Part} {w0 w:World} (h:At L0 w0 L w):At L0 w0 (rowC (.slice none 0 0) []::L) w:=h.row_nil 226 2
theorem Zbh (v:Value) (l:List Ent) (x:Ent):Part.row 82 6 v (l.length + 1) (flatE l++x.cells)=rowE v (l++[x]):=Zgg (enc:=Ent.cells) _ v l x
theorem ZjO (v:Value) (l:List (ByteArray × Int)) (x:ByteArray × Int):Part.row 226 2 v (l.length + 1) (flatC l++ctrL x)=rowC v (l++[x]):=Zgg (enc:=ctrL) _ v l x
theorem ZjN (v:Value) (l:List Ent):Part.row 82 6 v (([]:List Ent).length + l.length) (flatE []++flatE l)=rowE v l:=by simp[rowE,flatE]
theorem ZjP (v:Value) (l:List (ByteArray × Int)):Part.row 226 2 v (([]:List (ByteArray × Int)).length + l.length) (flatC []++flatC l)=rowC v l:=by simp[rowC,flatC]
theorem ZkD (l:List Ent):∀u ∈ flatE l,u.oneCell'=true:=ZaO Ent.one l
theorem ZkF (l:List (ByteArray × Int)):∀u ∈ flatC l,u.oneCell'=true:=ZaO Zit l
theorem ZkE (l:List Ent):(flatE l).length=l.length * 6:=ZaB _ _ Ent.cells_len l
theorem ZkG (l:List (ByteArray × Int)):(flatC l).length=l.length * 2:=ZaB _ _ Zct l
theorem ZhP (x y:Ent) (w:World) (hx:x.path.size≤1000) (hy:y.path.size≤1000):Calls Tryz.prog 70 #[x.val,y.val] w fun e w'=>e=.returned (.bool (wayB x y))∧Ext w w':=by
 have ho:=fun w=>Path.Zce x.path y.path w (by omega) (by omega);unfold wayB;generalize overB (bl x.path) (bl y.path)=ob at *
 have hA:At [] w [] w:=At.start (L0:=[]) trivial;have hF:=hA.facts;obtain⟨p1,n1,f1,m1,k1,s1⟩:=x;obtain⟨p2,n2,f2,m2,k2,s2⟩:=y;simp only[Ent.val] at *
 by_cases h1:m1=2
 · subst h1;go_enter Tryz.func70,Tryz.ntmps70
   go_wp2_with ((with_reducible refine gbx ?_);refine wCz hA ?_;clear hF hA;intro b1 w1 hA hb1 hF)
   refine(ho _).mono ?_;clear ho;rintro e w2 ⟨rfl,hx2⟩;cases ob
   all_goals
    go_wp2_with fail;go_ret;exact⟨rfl,hA.toExt.trans hx2⟩
 have e1:(m1==2)=false:=by simpa using h1
 have d1:=Hd (decide_eq_false h1);clear h1;by_cases h2:m2=2
 · subst h2;go_enter Tryz.func70,Tryz.ntmps70
   go_wp2_with ((with_reducible refine gbx ?_);refine wCz hA ?_;clear hF hA;intro b1 w1 hA hb1 hF)
   refine(ho _).mono ?_;clear ho;rintro e w2 ⟨rfl,hx2⟩;cases ob
   all_goals
    go_wp2_with fail;go_ret;exact⟨by rw[d1.out];rfl,hA.toExt.trans hx2⟩
 have e2:(m2==2)=false:=by simpa using h2
 have d2:=Hd (decide_eq_false h2);clear h2 ho;go_enter Tryz.func70,Tryz.ntmps70
 go_wp2_with ((with_reducible refine gbx ?_);refine wCz hA ?_;clear hF hA;intro b1 w1 hA hb1 hF)
 go_ret;exact⟨by rw[d1.out,d2.out];rfl,hA.toExt⟩
def idxD (L:List Ent) (p:ByteArray) (n:Int) (f:ByteArray):Int:=match Zh8 L p n f with|some k=>k|none=> -1
theorem idx_at {L:List Ent} {p:ByteArray} {n:Int} {f:ByteArray} {i:Nat} (hi:i < L.length) (hn:∀x ∈ L.take i,x.is p n f=false) (hy:L[i].is p n f=true):idxD L p n f=i:=by
 unfold idxD Zh8
 rw[List.findIdx?_eq_some_iff_getElem.2 ⟨hi,hy,fun j hj=>by
  have:=hn L[j] (List.mem_take_iff_getElem.2 ⟨j,by omega,rfl⟩)
  simp[this]⟩]
theorem idx_none {L:List Ent} {p:ByteArray} {n:Int} {f:ByteArray} (hn:∀x ∈ L,x.is p n f=false):idxD L p n f= -1:=by
 unfold idxD Zh8;rw[List.findIdx?_eq_none_iff.2 hn]
abbrev boxB (b:Nat) (first:Int) (vL vC:Value):Part:=.cells b [.int .u64 first,vL,vC] 38
def Zoz (w:World) (first:Int) (v vC:Value) (L:List Ent) (p:ByteArray) (n:Int) (f:ByteArray) (b1:Nat) (k:Nat) (u:Value) (wr:World):Prop:=
 ∃i:Nat,u=.int .i64 i∧i + k=L.length∧At [rowE v L] w [boxB b1 first v vC,rowE v L] wr∧∀x ∈ L.take i,x.is p n f=false
theorem ZbT {L:List Ent} {P:Ent→Bool} {i:Nat} (hi:i < L.length) (h:∀x ∈ L.take i,P x=false) (h1:P L[i]=false):∀x ∈ L.take (i + 1),P x=false:=fun x hx=>by
 rw[List.take_succ_eq_append_getElem hi] at hx;rcases List.mem_append.1 hx with hx|hx
 · exact h x hx
 rw[List.mem_singleton.1 hx,h1]
theorem findR_any {w:World} {v:Value} {L:List Ent} (h:Sep [rowE v L] w) (first:Int) (vC:Value) (hvC:∃ax k cap,vC=.slice ax k cap) (p:ByteArray) (n:Int) (f:ByteArray) (hmax:L.length≤1000000):
 Calls Tryz.prog 104 #[.agg #[.int .u64 first,v,vC],.string p,.int .u64 n,.string f] w fun e w'=>e=.returned (.int .i64 (idxD L p n f))∧At [rowE v L] w [rowE v L] w':=by
 obtain⟨cx,ck,cc,rfl⟩:=hvC;have hA:=At.start h;have hF:=hA.facts;clear h;obtain⟨ax,cap,rfl,hax,hcap,_⟩:=hA.row_form (v:=v) (xs:=flatE L) sR;obtain⟨hA,hF⟩:=fZ hA;go_enter Tryz.func104,Tryz.ntmps104
 go_wp2_with ((with_reducible refine gbx ?_);refine wCz (E:=38) hA ?_;clear hF hA;intro bB w1 hA hbB hF)
 (try go_frame);go_loopg [9] L.length (Zoz w first (.slice ax L.length cap) (.slice cx ck cc) L p n f bB)
 case atStart=>exact⟨0,rfl,by simp,hA,by simp⟩
 case round=>
  obtain⟨i,rfl,hik,hB,hno⟩:=hrel;have hno':=Hd hno;clear hF hA hno;have hA:=hB;clear hB;by_cases hi:i < L.length
  · obtain⟨g,c,rfl,_,hcm,hcl,hct,hB⟩:=hA.row_open (ax:=ax) (cap:=cap) (n:=L.length) (xs:=flatE L) sR (by omega);have hx:L[i]? =some L[i]:=List.getElem?_eq_getElem hi;(have c0:c[i * 6]? =some (.string L[i].path):=Zag Ent.cells_len hct hx 0 (by omega));(have c1:c[i * 6 + 1]? =some (.int .u64 L[i].num):=Zag Ent.cells_len hct hx 1 (by omega));(have c2:c[i * 6 + 2]? =some (.string L[i].foot):=Zag Ent.cells_len hct hx 2 (by omega));(have c3:c[i * 6 + 3]? =some (.int .i64 L[i].mode):=Zag Ent.cells_len hct hx 3 (by omega));(have c4:c[i * 6 + 4]? =some (.int .u64 L[i].n):=Zag Ent.cells_len hct hx 4 (by omega));(have c5:c[i * 6 + 5]? =some (.int .i64 L[i].stamp):=Zag Ent.cells_len hct hx 5 (by omega))
    clear hA;have hA:=hB;clear hB;obtain⟨hA,hF⟩:=fZ hA;by_cases h1:L[i].path=p
    · have e1:(L[i].path.toList==p.toList)=true:=by rw[same_ba];exact decide_eq_true h1
      by_cases h2:L[i].num=n
      · have e2:(L[i].num==n)=true:=by simpa using h2
        by_cases h3:L[i].foot=f
        · have e3:(L[i].foot.toList==f.toList)=true:=by rw[same_ba];exact decide_eq_true h3
          have hd:=Hd (idx_at hi hno'.out (by simp[Ent.is,h1,h2,h3]));clear h1 h2 h3 hx;go_wp2_with fail;go_ret;exact⟨by rw[hd.out];rfl,(Zbq hA sR hcl hcap hcm hct).only1 sR⟩
        have e3:(L[i].foot.toList==f.toList)=false:=by rw[same_ba];exact decide_eq_false h3
        have hm:=Hd (ZbT hi hno'.out (P:=fun x=>x.is p n f) (by simp[Ent.is,h3]));clear h1 h2 h3 hx;go_wp2_with fail;go_roundg (gk - 1);case measure=>omega
        case rel=>exact⟨i + 1,by simp,by omega,(Zbq hA sR hcl hcap hcm hct).pick pR,hm.out⟩
      have e2:(L[i].num==n)=false:=by simpa using h2
      have hm:=Hd (ZbT hi hno'.out (P:=fun x=>x.is p n f) (by simp[Ent.is,h2]));clear h1 h2 hx;go_wp2_with fail;go_roundg (gk - 1);case measure=>omega
      case rel=>exact⟨i + 1,by simp,by omega,(Zbq hA sR hcl hcap hcm hct).pick pR,hm.out⟩
    have e1:(L[i].path.toList==p.toList)=false:=by rw[same_ba];exact decide_eq_false h1
    have hm:=Hd (ZbT hi hno'.out (P:=fun x=>x.is p n f) (by simp[Ent.is,h1]));clear h1 hx;go_wp2_with fail;go_roundg (gk - 1);case measure=>omega
    case rel=>exact⟨i + 1,by simp,by omega,(Zbq hA sR hcl hcap hcm hct).pick pR,hm.out⟩
  have hd:=Hd (idx_none (fun x hx=>hno'.out x (by rw[List.take_of_length_le (by omega)];exact hx)));obtain⟨hA,hF⟩:=fZ hA;go_wp2_with fail;go_ret;exact⟨by rw[hd.out];rfl,hA.only1 sR⟩
end Lock
end
end Go.Proofs.YtknoefbcmomalaaGreatDoor
