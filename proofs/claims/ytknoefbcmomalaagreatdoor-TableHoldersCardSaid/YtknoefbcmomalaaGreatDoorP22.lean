import Derived.Test.YtknoefbcmomalaaGreatDoorP21
set_option linter.unusedSimpArgs false
set_option linter.unusedVariables false
set_option maxRecDepth 100000
set_option maxHeartbeats 16000000
namespace Go.Proofs.YtknoefbcmomalaaGreatDoor
section
namespace Tab
open Go.RowKit
open Lock (S3 Ent rowL rowE flatE grantedB Zbd infoE Za7 Zbh Zcg)
attribute [-go_sem] run_eql_struct run_neq_struct run_eqGuard_agg
attribute [local go_sem] Lock.Zij Lock.eqlE6
theorem Zb2 (v:Value) (l:List Ent):RdE (rowE v l) v l:=fun w h=>ZbF h
theorem Zfx (v:Value) (l:List Ent):RdE (rowL v l) v l:=fun w h=>ZbF h
theorem Zed {f:Ent→Bool} {l:List Ent} {i:Nat} (hi:i < l.length):(l.take (i + 1)).filter f=(l.take i).filter f++if f l[i]=true then[l[i]] else[]:=by
 rw[List.take_succ_eq_append_getElem hi,List.filter_append];by_cases h:f l[i]=true<;>simp[h]
theorem ZfP (f:Ent→Bool) (l:List Ent) (i:Nat):((l.take i).filter f).length≤l.length:=Nat.le_trans (List.length_filter_le _ _) (by rw[List.length_take];omega)
def GtRel (w:World) (vE:Value) (L:List Ent) (b1:Nat) (c:List Value) (k:Nat) (u3 u10:Value) (wr:World):Prop:=
 ∃i:Nat,u10=.int .i64 i∧i + k=L.length∧At [rowE vE L] w [rowE u3 ((L.take i).filter (grantedB L)),Part.cells b1 c 40,rowE vE L] wr
theorem Zi5 {w:World} {vS vE vC:Value} {L:List Ent} (h:Sep [rowE vE L] w) (first:Int) (hS:∃ax k cap,vS=.slice ax k cap) (hC:∃ax k cap,vC=.slice ax k cap) (hg:∀i (hi:i < L.length),Zbd L i=grantedB L L[i]) (hmax:L.length≤1000000) (hsz:∀x ∈ L,x.path.size≤1000):
 Calls Tryz.prog 10 #[.agg #[vS,.int .u64 first,vE,vC]] w fun e w'=>∃v',e=.returned v'∧At [rowE vE L] w [rowE v' (grA L),rowE vE L] w':=by
 obtain⟨i0,hi0,hz0,hz1,hz2⟩:=info_parts infoE;obtain⟨sx,sn,sc,rfl⟩:=hS;obtain⟨cx,cn,cc,rfl⟩:=hC;obtain⟨ax,cap,rfl⟩:=(Zb2 vE L).form h;have hA:=Za7 (At.start h);clear h;have hg':=Hd hg;clear hg;obtain⟨hA,hF⟩:=fZ hA;go_enter Tryz.func10,Tryz.ntmps10
 go_wp2_with ((with_reducible refine gbx ?_);refine wHz 40 [.slice sx sn sc,.int .u64 first,.slice ax L.length cap,.slice cx cn cc] hA ?_;clear hF hA;intro b1 w1 hA hb1 hF)
 (try go_frame);go_loopg [3,10] L.length (GtRel w (.slice ax L.length cap) L b1 [.slice sx sn sc,.int .u64 first,.slice ax L.length cap,.slice cx cn cc])
 case atStart=>exact⟨0,rfl,by simp,by rw[show(L.take 0).filter (grantedB L)=[] by simp];exact hA.pick pZ⟩
 case round=>
  obtain⟨i,rfl,hik,hB⟩:=hrel;replace hA:=hB;clear hF hB;have hlen:=ZfP (grantedB L) L i;by_cases hi:i < L.length
  · obtain⟨bk,off,rfl,hel⟩:=(Zb2 (.slice ax L.length cap) L).at (hA.get (A:=rowE (.slice ax L.length cap) L) sZ) hi;have hst:=Zed (f:=grantedB L) hi;have hgr:=fun(w1:World) (q:Sep [rowE (.slice (some ⟨bk,off,none⟩) L.length cap) L] w1)=>Zcg q first (.slice cx cn cc) ⟨_,_,_,rfl⟩ i hi hmax hsz
    rw[hg'.out i hi] at hgr;generalize (L.take i).filter (grantedB L)=D at *
    generalize grantedB L L[i]=d at *
    generalize L[i]=y at *
    obtain⟨p0,n0,f0,m0,k0,s0⟩:=y;have hel':=Hd (show ∀w',(rowE (.slice (some ⟨bk,off,none⟩) L.length cap) L).holds w'→∀(k:Nat) u,([.string p0,.int .u64 n0,.string f0,.int .i64 m0,.int .u64 k0,.int .i64 s0]:List Value)[k]? =some u→w'.cell? ⟨bk,off + i * 6 + k,none⟩=some u from hel);have hst':=Hd hst;have hgr':=Hd hgr;clear hst hgr hel;obtain⟨hA,hF⟩:=fZ hA;cases d
    · go_wp2_with (first|((with_reducible refine gal ?_);refine g3 hA ?_;clear hF hA;intro b7 w1 hA hb7 hF)|((with_reducible show wpList _ _ _ ({dst:=some 14,op:=Op.load _ _,type:=_,pos:=_,after:=_,guard:=_}::_) _ _);refine Zad (vs:=[.string p0,.int .u64 n0,.string f0,.int .i64 m0,.int .u64 k0,.int .i64 s0]) rfl rfl (by(try simp only[Act.eval,eV])<;>exact rfl) (hel'.out _ (hA.get (A:=rowE (.slice (some ⟨bk,off,none⟩) L.length cap) L) sZ)) (by kernel_rfl) (by kernel_rfl) ?_)|((with_reducible refine gst ?_);refine wTz hA ?_;clear hF hA;intro w1 hA hF))
      refine(hgr'.out _ (hA.sep1 (A:=rowE (.slice (some ⟨bk,off,none⟩) L.length cap) L) sZ)).mono ?_;rintro e w3 ⟨rfl,hT⟩;replace hA:=hA.call1 (A:=rowE (.slice (some ⟨bk,off,none⟩) L.length cap) L) sZ hT;clear hF hT hgr';obtain⟨hA,hF⟩:=fZ hA;go_wp2_with fail;go_roundg (gk - 1);case measure=>omega
      case rel=>exact⟨i + 1,by simp,by omega,by rw[hst'.out,if_neg (by decide),List.append_nil];exact hA.pick pZ⟩
    go_wp2_with (first|((with_reducible refine gal ?_);refine g3 hA ?_;clear hF hA;intro b7 w1 hA hb7 hF)|((with_reducible show wpList _ _ _ ({dst:=some 14,op:=Op.load _ _,type:=_,pos:=_,after:=_,guard:=_}::_) _ _);refine Zad (vs:=[.string p0,.int .u64 n0,.string f0,.int .i64 m0,.int .u64 k0,.int .i64 s0]) rfl rfl (by(try simp only[Act.eval,eV])<;>exact rfl) (hel'.out _ (hA.get (A:=rowE (.slice (some ⟨bk,off,none⟩) L.length cap) L) sZ)) (by kernel_rfl) (by kernel_rfl) ?_)|((with_reducible refine gst ?_);refine wTz hA ?_;clear hF hA;intro w1 hA hF))
    refine(hgr'.out _ (hA.sep1 (A:=rowE (.slice (some ⟨bk,off,none⟩) L.length cap) L) sZ)).mono ?_;rintro e w3 ⟨rfl,hT⟩;replace hA:=hA.call1 (A:=rowE (.slice (some ⟨bk,off,none⟩) L.length cap) L) sZ hT;clear hF hT hgr';obtain⟨hA,hF⟩:=fZ hA
    go_wp2_with (first
     |((with_reducible show wpList _ _ _ ({dst:=_,op:=Op.buildSlice _ _ _,type:=_,pos:=_,after:=_,guard:=_}::_) _ _);refine Zap (e:=82) (vs:=Ent.cells ⟨p0,n0,f0,m0,k0,s0⟩) rfl rfl (by(try simp only[Act.eval,eV])<;>exact rfl) (fun _=>ZfD p0 n0 f0 m0 k0 s0 _) hA ?_;intro b2 w1 hB hb2;replace hA:=hB;clear hF hB;obtain⟨hA,hF⟩:=fZ hA)
     |((with_reducible show wpList _ _ _ ({dst:=_,op:=Op.call {callee:=Callee.builtin Builtin.append,args:=_,argTypes:=_},type:=_,pos:=_,after:=_,guard:=_}::_) _ _);refine Zac (e:=82) (size:=6) (v:=u3) (xs:=flatE D) (n:=D.length) (m:=1) (news:=Ent.cells ⟨p0,n0,f0,m0,k0,s0⟩) rfl _ _ 35 rfl Tryz.underlying35 hi0 hz0 hz1 hz2 rfl (by omega) hA sZ (by(try simp only[Act.eval,eV])<;>exact rfl) (by(try simp only[Act.eval,eV])<;>exact rfl) rfl (hA.cells_reads sZ _ _) (Ent.one _) (by unfold maxLen;omega) (by omega) ?_;intro v2 w1 hB;rw[Zbh] at hB;replace hA:=hB;clear hF hB;obtain⟨hA,hF⟩:=fZ hA)
     |((with_reducible refine gst ?_);refine wTz hA ?_;clear hF hA;intro w1 hA hF)|((with_reducible refine gbx ?_);refine wCz hA ?_;clear hF hA;intro b1 w1 hA hb1 hF))
    go_roundg (gk - 1);case measure=>omega
    case rel=>exact⟨i + 1,by simp,by omega,by rw[hst'.out,if_pos (by decide)];exact hA.pick pZ⟩
  have eL:L.take i=L:=List.take_of_length_le (by omega);rw[eL] at hA;obtain⟨hA,hF⟩:=fZ hA;go_wp2_with fail;go_ret;exact⟨_,rfl,hA.pick pZ⟩
section
variable {P:Program} {ops:Array Oper} {o:Oper} {a:Act} {L0 L F:List Part} {w0 w:World} {K:Act→Prop}
theorem quiet_held_at {ty:TypeId} {x:Operand} {b j:Nat} {vs:List Value} (hop:o.op=.load ty x) (hx:a.eval x=.pointer (some ⟨b,j,none⟩)) (hc:∀w',At L0 w0 L w'→∀(k:Nat) u,vs[k]? =some u→w'.cell? ⟨b,j + k,none⟩=some u)
 (hu:(P.underlying ty).map (·.isRow)=some true) (hi:(P.info? ty).map (·.size)=some vs.length) (hK:K (a.put o.dst (.agg vs.toArray))):o.quiet P a (Cl L0 w0 L) K:=Zb3 _ (fun w' hw=>by
 obtain⟨d,hu,hd⟩:=Option.map_eq_some_iff.1 hu
 simp[execOp,hop,hx,run_loadAt_mid w' b j ty vs d (hc w' hw) hu hd hi,Result.andThen]) hK
end
def JuRel (w:World) (R:Part) (l:List Ent) (k:Nat) (u:Value) (wr:World):Prop:=
 ∃i:Nat,u=.int .i64 i∧i + k=l.length∧At [R] w [R] wr
theorem Zmo {w:World} {R:Part} {v1 v2:Value} {l m:List Ent} (h:Sep [R] w) (hr:RdE R v1 l) (hr2:RdE R v2 m) (hp:l.Perm m) (hnd:l.Nodup) (hmax:m.length≤1000000):
 Calls Tryz.prog 12 #[v1,v2] w fun e w'=>e=.returned (.bool true)∧At [R] w [R] w':=by
 obtain⟨ax,cap,rfl⟩:=hr.form h;obtain⟨bx,bcap,rfl⟩:=hr2.form h;have hr':=Hd hr;have hr2':=Hd hr2;have hp':=Hd hp;have hlm':=Hd hp.length_eq;have hlmax:l.length≤1000000:=by rw[hp.length_eq];exact hmax
 have hnd':=Hd hnd;have hA:=At.start h;clear h hr hr2 hp hnd;obtain⟨hA,hF⟩:=fZ hA;go_enter Tryz.func12,Tryz.ntmps12;go_wp2_with fail;(try go_frame);go_loopg [9] l.length (JuRel w R l)
 case atStart=>exact⟨0,rfl,by simp,hA⟩
 case round=>
  obtain⟨i,rfl,hik,hB⟩:=hrel;clear hF hA;have hA:=hB;clear hB;by_cases hi:i < l.length
  · obtain⟨bk,off,rfl,hel⟩:=hr'.out.at (hA.get (A:=R) sZ) hi;have hin:l[i] ∈ m:=hp'.out.mem_iff.1 (List.getElem_mem hi);have ham:=fun(w1:World) (q:Sep [R] w1)=>ZgY q hr2'.out l[i] hmax;have hen:=fun(w1:World)=>ZkN l[i] w1;rw[decide_eq_true hin] at ham;rcases Nat.eq_zero_or_pos i with hz|hz
    · subst hz;have hg0:(decide ((0:Int) < 0))=false:=by decide
      generalize l[0]=y at *
      obtain⟨p0,n0,f0,m0,k0,s0⟩:=y;simp only[Ent.val] at ham hen;have hel':=Hd (show ∀w',R.holds w'→∀(k:Nat) u,([.string p0,.int .u64 n0,.string f0,.int .i64 m0,.int .u64 k0,.int .i64 s0]:List Value)[k]? =some u→w'.cell? ⟨bk,off + 0 * 6 + k,none⟩=some u from hel);have ham':=Hd ham;have hen':=Hd hen;clear ham hen hel hin;obtain⟨hA,hF⟩:=fZ hA
      go_wp2_with (first|((with_reducible refine gal ?_);refine g11 hA ?_;clear hF hA;intro b6 w1 hA hb6 hF)|((with_reducible show wpList _ _ _ ({dst:=some 13,op:=Op.load _ _,type:=_,pos:=_,after:=_,guard:=_}::_) _ _);refine Zad (vs:=[.string p0,.int .u64 n0,.string f0,.int .i64 m0,.int .u64 k0,.int .i64 s0]) rfl rfl (by(try simp only[Act.eval,eV])<;>exact rfl) (hel'.out _ (hA.get (A:=R) sZ)) (by kernel_rfl) (by kernel_rfl) ?_)|((with_reducible refine gst ?_);refine wTz hA ?_;clear hF hA;intro w1 hA hF))
      (try go_frame);(refine cA hA ?_);(have hn1:=Cl.none hA);(have hn2:=Cl.none2 hA);(repeat(first|go_big_quiet_skip|(go_big_quiet_want;(first|(refine qM 55 6 ?_;go_frame;go_big_quiet_on)|(refine qL ?_;go_frame;go_big_quiet_on)|(go_big_quiet_op;(first|go_big_quiet_on|((apply Exists.intro);(refine⟨fun w1 hw=> ?_,?_⟩);(focus((have hw:=Cl.out hw);(first|exact Lock.through0 hw (hen'.out _)|exact Lock.through1 hw (A:=R) sZ (ham'.out _))));(go_big_quiet_on))))))))
      (refine wpQuiet_nil ?_);(intro w1 hB);(clear hF hA hn1 hn2);(have hA:=Cl.out hB);(clear hB);obtain⟨hA,hF⟩:=fZ hA
      go_wp2_with fail;go_roundg (gk - 1);case measure=>omega
      case rel=>exact⟨1,by simp,by omega,hA.pick pZ⟩
    have hi1:i - 1 < l.length:=by omega
    obtain⟨bk',off',e',hel2⟩:=hr'.out.at (hA.get (A:=R) sZ) hi1;cases e'
    have hne:l[i - 1]≠l[i]:=fun q=>by
     have:=(List.getElem_inj hnd'.out).1 q
     omega
    generalize l[i - 1]=z at *
    generalize l[i]=y at *
    obtain⟨p0,n0,f0,m0,k0,s0⟩:=y;obtain⟨p1,n1,f1,m1,k1,s1⟩:=z;simp only[Ent.val] at ham hen;have heq:∀w,(binOp .eql 55 (.agg #[.string p1,.int .u64 n1,.string f1,.int .i64 m1,.int .u64 k1,.int .i64 s1]) (.agg #[.string p0,.int .u64 n0,.string f0,.int .i64 m0,.int .u64 k0,.int .i64 s0])).run Tryz.prog w=.ok (.bool false) w:=fun w=>by rw[Lock.eqlE6,decide_eq_false hne]
    have hel':=Hd (show ∀w',R.holds w'→∀(k:Nat) u,([.string p0,.int .u64 n0,.string f0,.int .i64 m0,.int .u64 k0,.int .i64 s0]:List Value)[k]? =some u→w'.cell? ⟨bk,off + i * 6 + k,none⟩=some u from hel);have hel2':=Hd (show ∀w',R.holds w'→∀(k:Nat) u,([.string p1,.int .u64 n1,.string f1,.int .i64 m1,.int .u64 k1,.int .i64 s1]:List Value)[k]? =some u→w'.cell? ⟨bk,off + (i - 1) * 6 + k,none⟩=some u from hel2);have ham':=Hd ham;have hen':=Hd hen
    obtain⟨j,rfl⟩:∃j,i=j + 1:=⟨i - 1,by omega⟩
    simp only[Nat.add_sub_cancel] at hel2' hi1;have hsub:(((j + 1:Nat):Int) - 1)=(j:Int):=by omega
    clear ham hen hel hel2 hin hne;obtain⟨hA,hF⟩:=fZ hA
    go_wp2_with (first|((with_reducible refine gal ?_);refine g11 hA ?_;clear hF hA;intro b6 w1 hA hb6 hF)|((with_reducible show wpList _ _ _ ({dst:=some 13,op:=Op.load _ _,type:=_,pos:=_,after:=_,guard:=_}::_) _ _);refine Zad (vs:=[.string p0,.int .u64 n0,.string f0,.int .i64 m0,.int .u64 k0,.int .i64 s0]) rfl rfl (by(try simp only[Act.eval,eV])<;>exact rfl) (hel'.out _ (hA.get (A:=R) sZ)) (by kernel_rfl) (by kernel_rfl) ?_)|((with_reducible refine gst ?_);refine wTz hA ?_;clear hF hA;intro w1 hA hF))
    (try go_frame);(refine cA hA ?_);(have hn1:=Cl.none hA);(have hn2:=Cl.none2 hA);(repeat(first|go_big_quiet_skip|(go_big_quiet_want;(first|(refine qM 55 6 ?_;go_frame;go_big_quiet_on)|((((with_reducible show Oper.quiet _ {dst:=some 27,op:=Op.load _ _,type:=_,pos:=_,after:=_,guard:=_} _ _ _);refine quiet_held_at (b:=bk) (j:=off + j * 6) (vs:=[.string p1,.int .u64 n1,.string f1,.int .i64 m1,.int .u64 k1,.int .i64 s1]) rfl rfl (fun w' hw k u hk=>hel2'.out w' (hw.get (A:=R) sZ) k u hk) (by kernel_rfl) (by kernel_rfl) ?_));go_frame;go_big_quiet_on)|(refine qL ?_;go_frame;go_big_quiet_on)|(go_big_quiet_op;(first|go_big_quiet_on|((apply Exists.intro);(refine⟨fun w1 hw=> ?_,?_⟩);(focus((have hw:=Cl.out hw);(first|exact Lock.through0 hw (hen'.out _)|exact Lock.through1 hw (A:=R) sZ (ham'.out _))));(go_big_quiet_on))))))))
    (refine wpQuiet_nil ?_);(intro w1 hB);(clear hF hA hn1 hn2);(have hA:=Cl.out hB);(clear hB);obtain⟨hA,hF⟩:=fZ hA
    go_wp2_with fail;go_roundg (gk - 1);case measure=>omega
    case rel=>exact⟨j + 1 + 1,by simp,by omega,hA.pick pZ⟩
  have hle:((l.length:Int)==(m.length:Int))=true:=by simp[hlm'.out]
  obtain⟨hA,hF⟩:=fZ hA;go_wp2_with fail;go_ret;exact⟨rfl,hA.pick pZ⟩
end Tab
end
section
namespace Tab
open Go.RowKit
open Path (bl overB)
open Lock (S3 Ent rowL rowE flatE infoE Za7 Zbh)
def FlRel (w:World) (R Q:Part) (f:Ent→Bool) (l:List Ent) (k:Nat) (u5 u10:Value) (wr:World):Prop:=
 ∃i:Nat,u10=.int .i64 i∧i + k=l.length∧At [R] w [rowE u5 ((l.take i).filter f),Q,R] wr
def FlRel0 (w:World) (R:Part) (f:Ent→Bool) (l:List Ent) (k:Nat) (u5 u10:Value) (wr:World):Prop:=
 ∃i:Nat,u10=.int .i64 i∧i + k=l.length∧At [R] w [rowE u5 ((l.take i).filter f),R] wr
theorem Zib {w:World} {R:Part} {v:Value} {l:List Ent} (h:Sep [R] w) (hr:RdE R v l) (q:ByteArray) (hl:l.length≤1000000) (hq:q.size≤1000000) (hp:∀x ∈ l,x.path.size≤1000000):
 Calls Tryz.prog 14 #[v,.string q] w fun e w'=>∃v',e=.returned v'∧At [R] w [rowE v' (l.filter fun e=>overB (bl e.path) (bl q)),R] w':=by
 obtain⟨i0,hi0,hz0,hz1,hz2⟩:=info_parts infoE;obtain⟨ax,cap,rfl⟩:=hr.form h;have hr':=Hd hr;have hp':=Hd hp;have hA:=Za7 (At.start h);clear h hr hp
 obtain⟨fl,hfl⟩:∃f:Ent→Bool,(fun e=>overB (bl e.path) (bl q))=f:=⟨_,rfl⟩
 rw[hfl];have hfl':=Hd hfl;clear hfl;obtain⟨hA,hF⟩:=fZ hA;go_enter Tryz.func14,Tryz.ntmps14;go_wp2_with fail;(try go_frame);go_loopg [5,10] l.length (FlRel0 w R fl l)
 case atStart=>exact⟨0,rfl,by simp,by rw[show(l.take 0).filter fl=[] by simp];exact hA.pick pZ⟩
 case round=>
  obtain⟨i,rfl,hik,hB⟩:=hrel;replace hA:=hB;clear hF hB;have hlen:=ZfP fl l i;by_cases hi:i < l.length
  · obtain⟨bk,off,rfl,hel⟩:=hr'.out.at (hA.get (A:=R) sZ) hi;have hst:=Zed (f:=fl) hi;have hpx:=hp'.out _ (List.getElem_mem hi);generalize (l.take i).filter fl=D at *
    generalize l[i]=y at *
    obtain⟨p0,n0,f0,m0,k0,s0⟩:=y;have hel':=Hd (show ∀w',R.holds w'→∀(k:Nat) u,([.string p0,.int .u64 n0,.string f0,.int .i64 m0,.int .u64 k0,.int .i64 s0]:List Value)[k]? =some u→w'.cell? ⟨bk,off + i * 6 + k,none⟩=some u from hel);have hov:=fun w=>Path.Zce p0 q w (by simpa using Nat.le_trans hpx (by omega)) (by omega);have hfy:overB (bl p0) (bl q)=fl ⟨p0,n0,f0,m0,k0,s0⟩:=by rw[←hfl'.out]
    rw[hfy] at hov;clear hfy hpx;generalize fl ⟨p0,n0,f0,m0,k0,s0⟩=d at *
    have hst':=Hd hst;have hov':=Hd hov;clear hst hov hel;obtain⟨hA,hF⟩:=fZ hA
    go_wp2_with (first|((with_reducible refine gal ?_);refine g3 hA ?_;clear hF hA;intro b7 w1 hA hb7 hF)|((with_reducible show wpList _ _ _ ({dst:=some 13,op:=Op.load _ _,type:=_,pos:=_,after:=_,guard:=_}::_) _ _);refine Zad (vs:=[.string p0,.int .u64 n0,.string f0,.int .i64 m0,.int .u64 k0,.int .i64 s0]) rfl rfl (by(try simp only[Act.eval,eV])<;>exact rfl) (hel'.out _ (hA.get (A:=R) sZ)) (by kernel_rfl) (by kernel_rfl) ?_)|((with_reducible refine gst ?_);refine wTz hA ?_;clear hF hA;intro w1 hA hF))
    refine(hov'.out _).mono ?_;rintro e w3 ⟨rfl,hx⟩;replace hA:=hA.ext hx;clear hF hx hov';obtain⟨hA,hF⟩:=fZ hA;cases d
    · go_wp2_with fail;go_roundg (gk - 1);case measure=>omega
      case rel=>exact⟨i + 1,by simp,by omega,by rw[hst'.out,if_neg (by decide),List.append_nil];exact hA.pick pZ⟩
    go_wp2_with (first
     |((with_reducible show wpList _ _ _ ({dst:=_,op:=Op.buildSlice _ _ _,type:=_,pos:=_,after:=_,guard:=_}::_) _ _);refine Zap (e:=82) (vs:=Ent.cells ⟨p0,n0,f0,m0,k0,s0⟩) rfl rfl (by(try simp only[Act.eval,eV])<;>exact rfl) (fun _=>ZfD p0 n0 f0 m0 k0 s0 _) hA ?_;intro b2 w1 hB hb2;replace hA:=hB;clear hF hB;obtain⟨hA,hF⟩:=fZ hA)
     |((with_reducible show wpList _ _ _ ({dst:=_,op:=Op.call {callee:=Callee.builtin Builtin.append,args:=_,argTypes:=_},type:=_,pos:=_,after:=_,guard:=_}::_) _ _);refine Zac (e:=82) (size:=6) (v:=u5) (xs:=flatE D) (n:=D.length) (m:=1) (news:=Ent.cells ⟨p0,n0,f0,m0,k0,s0⟩) rfl _ _ 35 rfl Tryz.underlying35 hi0 hz0 hz1 hz2 rfl (by omega) hA sZ (by(try simp only[Act.eval,eV])<;>exact rfl) (by(try simp only[Act.eval,eV])<;>exact rfl) rfl (hA.cells_reads sZ _ _) (Ent.one _) (by unfold maxLen;omega) (by omega) ?_;intro v2 w1 hB;rw[Zbh] at hB;replace hA:=hB;clear hF hB;obtain⟨hA,hF⟩:=fZ hA)
     |((with_reducible refine gst ?_);refine wTz hA ?_;clear hF hA;intro w1 hA hF)|((with_reducible refine gbx ?_);refine wCz hA ?_;clear hF hA;intro b1 w1 hA hb1 hF))
    go_roundg (gk - 1);case measure=>omega
    case rel=>exact⟨i + 1,by simp,by omega,by rw[hst'.out,if_pos (by decide)];exact hA.pick pZ⟩
  have eL:l.take i=l:=List.take_of_length_le (by omega);rw[eL] at hA;obtain⟨hA,hF⟩:=fZ hA;go_wp2_with fail;go_ret;exact⟨_,rfl,hA.pick pZ⟩
theorem Zgn {w:World} {R:Part} {v:Value} {l:List Ent} (h:Sep [R] w) (hr:RdE R v l) (n:Int) (f:ByteArray) (hl:l.length≤1000000):
 Calls Tryz.prog 18 #[v,.agg #[.int .u64 n,.string f]] w fun e w'=>∃v',e=.returned v'∧At [R] w [rowE v' (l.filter fun e=>e.of n f),R] w':=by
 obtain⟨i0,hi0,hz0,hz1,hz2⟩:=info_parts infoE;obtain⟨ax,cap,rfl⟩:=hr.form h;have hr':=Hd hr;have hA:=Za7 (At.start h);clear h hr
 obtain⟨fl,hfl⟩:∃g:Ent→Bool,(fun e=>e.of n f)=g:=⟨_,rfl⟩
 rw[hfl];have hfl':=Hd hfl;clear hfl;obtain⟨hA,hF⟩:=fZ hA;go_enter Tryz.func18,Tryz.ntmps18
 go_wp2_with ((with_reducible refine gbx ?_);refine wHz 25 [.int .u64 n,.string f] hA ?_;clear hF hA;intro b3 w1 hA hb3 hF)
 (try go_frame);go_loopg [5,10] l.length (FlRel w R (Part.cells b3 [.int .u64 n,.string f] 25) fl l)
 case atStart=>exact⟨0,rfl,by simp,by rw[show(l.take 0).filter fl=[] by simp];exact hA.pick pZ⟩
 case round=>
  obtain⟨i,rfl,hik,hB⟩:=hrel;replace hA:=hB;clear hF hB;have hlen:=ZfP fl l i;by_cases hi:i < l.length
  · obtain⟨bk,off,rfl,hel⟩:=hr'.out.at (hA.get (A:=R) sZ) hi;have hst:=Zed (f:=fl) hi;generalize (l.take i).filter fl=D at *
    generalize l[i]=y at *
    obtain⟨p0,n0,f0,m0,k0,s0⟩:=y;have hel':=Hd (show ∀w',R.holds w'→∀(k:Nat) u,([.string p0,.int .u64 n0,.string f0,.int .i64 m0,.int .u64 k0,.int .i64 s0]:List Value)[k]? =some u→w'.cell? ⟨bk,off + i * 6 + k,none⟩=some u from hel)
    have hcs:((n0==n)=false∧Hid (fl ⟨p0,n0,f0,m0,k0,s0⟩=false))∨((n0==n)=true∧(f0.toList==f.toList)=false∧Hid (fl ⟨p0,n0,f0,m0,k0,s0⟩=false))∨((n0==n)=true∧(f0.toList==f.toList)=true∧Hid (fl ⟨p0,n0,f0,m0,k0,s0⟩=true)):=by
     rw[←hfl'.out];by_cases h1:n0=n
     · by_cases h2:f0=f
       · right;right
         exact⟨by simp[h1],by simp[h2],Hd (by simp[Lock.Ent.of,h1,h2])⟩
       right;left
       exact⟨by simp[h1],by rw[Lock.same_ba];exact decide_eq_false h2,Hd (by simp[Lock.Ent.of,h2])⟩
     left;exact⟨by simp[h1],Hd (by simp[Lock.Ent.of,h1])⟩
    have hst':=Hd hst;clear hst hel;obtain⟨hA,hF⟩:=fZ hA;rcases hcs with⟨e1,hof⟩|⟨e1,e2,hof⟩|⟨e1,e2,hof⟩
    · go_wp2_with (first|((with_reducible refine gal ?_);refine g3 hA ?_;clear hF hA;intro b7 w1 hA hb7 hF)|((with_reducible show wpList _ _ _ ({dst:=some 13,op:=Op.load _ _,type:=_,pos:=_,after:=_,guard:=_}::_) _ _);refine Zad (vs:=[.string p0,.int .u64 n0,.string f0,.int .i64 m0,.int .u64 k0,.int .i64 s0]) rfl rfl (by(try simp only[Act.eval,eV])<;>exact rfl) (hel'.out _ (hA.get (A:=R) sZ)) (by kernel_rfl) (by kernel_rfl) ?_)|((with_reducible refine gst ?_);refine wTz hA ?_;clear hF hA;intro w1 hA hF))
      go_roundg (gk - 1);case measure=>omega
      case rel=>exact⟨i + 1,by simp,by omega,by rw[hst'.out,if_neg (by rw[hof.out];decide),List.append_nil];exact hA.pick pZ⟩
    · go_wp2_with (first|((with_reducible refine gal ?_);refine g3 hA ?_;clear hF hA;intro b7 w1 hA hb7 hF)|((with_reducible show wpList _ _ _ ({dst:=some 13,op:=Op.load _ _,type:=_,pos:=_,after:=_,guard:=_}::_) _ _);refine Zad (vs:=[.string p0,.int .u64 n0,.string f0,.int .i64 m0,.int .u64 k0,.int .i64 s0]) rfl rfl (by(try simp only[Act.eval,eV])<;>exact rfl) (hel'.out _ (hA.get (A:=R) sZ)) (by kernel_rfl) (by kernel_rfl) ?_)|((with_reducible refine gst ?_);refine wTz hA ?_;clear hF hA;intro w1 hA hF))
      go_roundg (gk - 1);case measure=>omega
      case rel=>exact⟨i + 1,by simp,by omega,by rw[hst'.out,if_neg (by rw[hof.out];decide),List.append_nil];exact hA.pick pZ⟩
    go_wp2_with (first
     |((with_reducible refine gal ?_);refine g3 hA ?_;clear hF hA;intro b7 w1 hA hb7 hF)
     |((with_reducible show wpList _ _ _ ({dst:=some 13,op:=Op.load _ _,type:=_,pos:=_,after:=_,guard:=_}::_) _ _);refine Zad (vs:=[.string p0,.int .u64 n0,.string f0,.int .i64 m0,.int .u64 k0,.int .i64 s0]) rfl rfl (by(try simp only[Act.eval,eV])<;>exact rfl) (hel'.out _ (hA.get (A:=R) sZ)) (by kernel_rfl) (by kernel_rfl) ?_)
     |((with_reducible show wpList _ _ _ ({dst:=_,op:=Op.buildSlice _ _ _,type:=_,pos:=_,after:=_,guard:=_}::_) _ _);refine Zap (e:=82) (vs:=Ent.cells ⟨p0,n0,f0,m0,k0,s0⟩) rfl rfl (by(try simp only[Act.eval,eV])<;>exact rfl) (fun _=>ZfD p0 n0 f0 m0 k0 s0 _) hA ?_;intro b2 w1 hB hb2;replace hA:=hB;clear hF hB;obtain⟨hA,hF⟩:=fZ hA)
     |((with_reducible show wpList _ _ _ ({dst:=_,op:=Op.call {callee:=Callee.builtin Builtin.append,args:=_,argTypes:=_},type:=_,pos:=_,after:=_,guard:=_}::_) _ _);refine Zac (e:=82) (size:=6) (v:=u5) (xs:=flatE D) (n:=D.length) (m:=1) (news:=Ent.cells ⟨p0,n0,f0,m0,k0,s0⟩) rfl _ _ 35 rfl Tryz.underlying35 hi0 hz0 hz1 hz2 rfl (by omega) hA sZ (by(try simp only[Act.eval,eV])<;>exact rfl) (by(try simp only[Act.eval,eV])<;>exact rfl) rfl (hA.cells_reads sZ _ _) (Ent.one _) (by unfold maxLen;omega) (by omega) ?_;intro v2 w1 hB;rw[Zbh] at hB;replace hA:=hB;clear hF hB;obtain⟨hA,hF⟩:=fZ hA)
     |((with_reducible refine gst ?_);refine wTz hA ?_;clear hF hA;intro w1 hA hF)|((with_reducible refine gbx ?_);refine wCz hA ?_;clear hF hA;intro b1 w1 hA hb1 hF))
    go_roundg (gk - 1);case measure=>omega
    case rel=>exact⟨i + 1,by simp,by omega,by rw[hst'.out,if_pos hof.out];exact hA.pick pZ⟩
  have eL:l.take i=l:=List.take_of_length_le (by omega);rw[eL] at hA;obtain⟨hA,hF⟩:=fZ hA;go_wp2_with fail;go_ret;exact⟨_,rfl,hA.pick pZ⟩
end Tab
end
section
namespace Tab
open Path (bl overB)
open Lock (S3 Ent grantedB Zbd ZaL wayB counter maxS)
open Cmd (Cm)
open Lease (Ses)
theorem Zmt {L:S3} {k:Nat} (h:Lock.Inv L k) (i:Nat) (hi:i < L.es.length):Zbd L.es i=grantedB L.es L.es[i]:=by
 unfold grantedB;rw[ZmA h.keys (List.getElem_mem hi),decide_eq_true rfl,Bool.true_and];exact(Lock.ZcK h.order (List.getElem?_eq_getElem hi)).symm
theorem Zks {L:S3} {k:Nat} (h:Lock.Inv L k):L.es.Nodup:=h.keys.imp fun {a b} q e=>q (by rw[e];exact⟨rfl,rfl,rfl⟩)
end Tab
end
section
namespace Tab
open Path (bl overB)
open Lock (S3 Ent grantedB Zbd ZaL wayB counter maxS)
open Cmd (Cm Zao)
open Lease (Ses fresh)
theorem ZfI {g:Ses→Ses} {n m:Int} {f k:ByteArray} (hg:∀s,keyE (g s)=keyE s) (hne:¬(n=m∧f=k)):∀S:List Ses,lookA (updA g m k S) n f=lookA S n f
 |[]=>by
  have h:(g (fresh m k 0 0)).is n f=false:=Bool.eq_false_iff.2 fun q=>hne (by
   have e:=(is_key.1 q).symm.trans (hg _)
   exact⟨congrArg Prod.fst e,congrArg Prod.snd e⟩)
  simp[lookA,updA,Lease.find,h]
 |s::S=>by
  unfold updA;have ih:=ZfI (n:=n) (f:=f) hg hne S
  cases hq:s.is m k with
  |true=>
   have e1:=is_key.1 hq
   have h1:s.is n f=false:=Bool.eq_false_iff.2 fun q=>hne (by
    have e:=(is_key.1 q).symm.trans e1
    exact⟨congrArg Prod.fst e,congrArg Prod.snd e⟩)
   have h2:(g s).is n f=false:=Bool.eq_false_iff.2 fun q=>hne (by
    have e:=(is_key.1 q).symm.trans ((hg s).trans e1)
    exact⟨congrArg Prod.fst e,congrArg Prod.snd e⟩)
   simp[lookA,Lease.find,h1,h2]
  |false=>
   simp only[Bool.false_eq_true,if_false]
   cases h1:s.is n f with
   |true=>simp[lookA,Lease.find,h1]
   |false=>
    unfold lookA at ih ⊢;simpa [Lease.find,h1] using ih
def OpIn (T:TS):Prop:=∀e ∈ T.L.es,(lookA T.S e.num e.foot).op=true
theorem op_upd {T:TS} (h:OpIn T) {g:Ses→Ses} (hg:∀s,keyE (g s)=keyE s) (ho:∀s,s.op=true→(g s).op=true) (n:Int) (f:ByteArray):OpIn ⟨updA g n f T.S,T.L⟩:=fun e he=>by
 have h1:=h e he;show(lookA (updA g n f T.S) e.num e.foot).op=true;by_cases q:e.num=n∧e.foot=f
 · rw[q.1,q.2] at h1 ⊢;rw[ZfG hg];exact ho _ h1
 rw[ZfI hg q];exact h1
theorem Zj9 {T:TS} (h:OpIn T) (c:Cm) {g:Ses→Ses} (e:Int) (hg:∀s,keyE (g s)=keyE s) (ho:∀s,s.op=true→(g s).op=true):OpIn (opT T c g e):=by
 unfold opT;split
 · exact op_upd h hg ho _ _
 exact h
theorem Zka {T:TS} (h:OpIn T) (c:Cm) (e:Int):OpIn (endT T c e):=by
 unfold endT;split
 · intro x hx;obtain⟨hx,hq⟩:=List.mem_filter.1 (show x ∈ T.L.es.filter (fun e=> !e.of c.num c.foot) from hx);have q:¬(x.num=c.num∧x.foot=c.foot):=fun h=>by rw[show x.of c.num c.foot=true from decide_eq_true h] at hq;cases hq
   show(lookA (updA Ses.ended c.num c.foot T.S) x.num x.foot).op=true;rw[ZfI (g:=Ses.ended) (fun s=>rfl) q];exact h x hx
 exact h
theorem Znf {T:TS} (h:OpIn T) (c:Cm) (ho:(lookA T.S c.num c.foot).op=true):OpIn (addT T c).1:=by
 intro x hx;have hx:x ∈ (T.L.add c.path c.num c.foot c.mode).es:=hx;show(lookA T.S x.num x.foot).op=true;unfold S3.add at hx;split at hx
 · rcases List.mem_append.1 (show x ∈ T.L.es++[T.L.newE c.path c.num c.foot c.mode] from hx) with hx|hx
   · exact h x hx
   rw[List.mem_singleton.1 hx];exact ho
 exact h x hx
theorem op_do {T:TS} (h:OpIn T) (c:Cm):OpIn (doT T c).1:=by
 unfold doT;split
 · exact Zj9 h c _ (fun s=>rfl) fun s _=>rfl
 split
 · exact Zka h c _
 split
 · exact Zj9 h c _ (fun s=>rfl) fun s q=>q
 unfold ZaX;split
 · exact h
 rename_i hm
 have ho:(lookA T.S c.num c.foot).op=true:=by
  cases q:(lookA T.S c.num c.foot).op
  · exact absurd (by simp[mayT,q]) hm
  rfl
 split
 · exact Znf h c ho
 split
 · unfold tryT;split
   · exact Znf h c ho
   split<;>exact h
 split
 · intro x hx;exact h x (List.mem_filter.1 (show x ∈ T.L.es.filter (fun e=> !e.is c.path c.num c.foot) from hx)).1
 exact h
theorem Zl8 {T:TS} (h:OpIn T) (c:Cm):OpIn (Zav T c).1:=by
 unfold Zav;split
 · exact h
 split
 · exact Zka h c _
 split
 · exact h
 split
 · exact h
 exact Zj9 (op_do h c) c _ (fun s=>rfl) fun s q=>q
theorem ZnQ (l:List Cm):∀{T:TS},OpIn T→OpIn (playT T l):=by
 induction l with
 |nil=>exact fun h=>h
 |cons c l ih=>exact fun h=>ih (Zl8 h c)
theorem heldN_perm {l m:List Ent} (h:l.Perm m) (n:Int) (f:ByteArray):Lock.heldN l n f=Lock.heldN m n f:=(h.filter _).length_eq
theorem heldN_le (l:List Ent) (n:Int) (f:ByteArray):Lock.heldN l n f≤l.length:=List.length_filter_le _ _
theorem Zc1 (l:List Ent) (e:Ent) (n:Int) (f:ByteArray):Lock.heldN (l++[e]) n f=Lock.heldN l n f + if e.num=n∧e.foot=f then 1 else 0:=by
 unfold Lock.heldN;rw[List.filter_append,List.length_append];by_cases q:e.num=n∧e.foot=f<;>simp[Lock.Ent.of,q]
end Tab
end
section
namespace Tab
open Go.RowKit
open Lease (Ses Ans fresh rowSe Zbj mapC)
open Lock (S3 Ent rowL heldN grantedB)
open Sess (seV seL sortS)
theorem rds_at {ax:Option Addr} {cap i:Nat} {l:List (Int × ByteArray)} {x:Int × ByteArray} (hx:l[i]? =some x) {w:World} (h:(rowSe (.slice ax l.length cap) l).holds w):
 ∃b off,ax=some ⟨b,off,none⟩∧∀w',(rowSe (.slice ax l.length cap) l).holds w'→∀(k:Nat) u,(seL x)[k]? =some u→w'.cell? ⟨b,off + i * 2 + k,none⟩=some u:=by
 have go:∀w',(rowSe (.slice ax l.length cap) l).holds w'→∃b off,ax=some ⟨b,off,none⟩∧∀(k:Nat) u,(seL x)[k]? =some u→w'.cell? ⟨b,off + i * 2 + k,none⟩=some u:=by
  intro w' h';obtain⟨ax',c,e,_,hq⟩:=ZbF h';cases e;have hat:=Zbs seL 2 (fun _=>rfl) l i _ hx;obtain⟨b,off,e2,_⟩:=hq (i * 2) (.int .u64 x.1) (by have:=hat 0 (by omega);simpa [seL] using this);refine⟨b,off,e2,fun k u hk=> ?_⟩;have hk2:k < 2:=(List.getElem?_eq_some_iff.1 hk).1;obtain⟨b',off',e3,hc⟩:=hq (i * 2 + k) u (by rw[hat k hk2];exact hk);rw[e2] at e3;cases e3;rw[Nat.add_assoc];exact hc
 obtain⟨b,off,e,_⟩:=go w h;refine⟨b,off,e,fun w' h'=> ?_⟩;obtain⟨b',off',e',hc⟩:=go w' h';rw[e] at e';cases e';exact hc
def pairV (a b:Nat):Value:=.agg #[.int .i64 a,.int .i64 b]
def rchA (f:Ent→Bool) (D:List Ent) (KS:List (Int × ByteArray)):List (Value × Value):=KS.map fun k=>(seV k,pairV (heldN D k.1 k.2) (heldN (D.filter f) k.1 k.2))
theorem ZjZ (f:Ent→Bool) (KS:List (Int × ByteArray)) (k:Int × ByteArray):rchA f [] (KS++[k])=rchA f [] KS++[(seV k,pairV 0 0)]:=by simp[rchA,heldN]
theorem seV_inj {x y:Int × ByteArray} (h:seV x=seV y):x=y:=by
 unfold seV at h;injection h with h
 obtain⟨a,b⟩:=x;obtain⟨c,d⟩:=y;simp at h
 rw[h.1,h.2]
theorem ZnL {f:Ent→Bool} {D:List Ent} {KS:List (Int × ByteArray)} {k:Int × ByteArray} (h:k ∉ KS):∀p ∈ rchA f D KS,p.1≠seV k:=by
 intro p hp e;obtain⟨x,hx,rfl⟩:=List.mem_map.1 hp;exact h (seV_inj e ▸ hx)
theorem ZnM {f:Ent→Bool} {D:List Ent} {KS:List (Int × ByteArray)} {k:Int × ByteArray} (h:k ∈ KS):(seV k,pairV (heldN D k.1 k.2) (heldN (D.filter f) k.1 k.2)) ∈ rchA f D KS:=List.mem_map.2 ⟨k,h,rfl⟩
theorem ZlX {f:Ent→Bool} {D:List Ent} {KS:List (Int × ByteArray)} (hn:KS.Nodup) {e:Ent} (h:(e.num,e.foot) ∈ KS):
 ∃l1 l2,rchA f D KS=l1++(seV (e.num,e.foot),pairV (heldN D e.num e.foot) (heldN (D.filter f) e.num e.foot))::l2∧rchA f (D++[e]) KS=l1++(seV (e.num,e.foot),pairV (heldN D e.num e.foot + 1) (heldN (D.filter f) e.num e.foot + if f e=true then 1 else 0))::l2:=by
 obtain⟨K1,K2,rfl⟩:=List.append_of_mem h
 have far:∀k:Int × ByteArray,k≠(e.num,e.foot)→(seV k,pairV (heldN (D++[e]) k.1 k.2) (heldN ((D++[e]).filter f) k.1 k.2))=(seV k,pairV (heldN D k.1 k.2) (heldN (D.filter f) k.1 k.2)):=by
  intro k hk;have q:¬(e.num=k.1∧e.foot=k.2):=fun q=>hk (by obtain⟨a,b⟩:=k;simp at q;rw[q.1,q.2]);rw[Zc1,if_neg q,List.filter_append];cases hf:f e
  · simp[hf]
  rw[show[e].filter f=[e] by simp[hf],Zc1,if_neg q];rfl
 have h1:∀k ∈ K1,k≠(e.num,e.foot):=fun k hk q=>by
  have:=(List.nodup_append.1 hn).2.2 k hk (e.num,e.foot) (by simp);exact this q
 have h2:∀k ∈ K2,k≠(e.num,e.foot):=fun k hk q=>by
  have:=(List.nodup_cons.1 (List.nodup_append.1 hn).2.1).1;exact this (q ▸ hk)
 refine⟨rchA f D K1,rchA f D K2,by simp[rchA],?_⟩;unfold rchA;rw[List.map_append,List.map_cons,List.map_congr_left (fun k hk=>far k (h1 k hk)),List.map_congr_left (fun k hk=>far k (h2 k hk))]
 congr 3
 rw[Zc1,if_pos ⟨rfl,rfl⟩,List.filter_append];cases hf:f e
 · simp[hf]
 rw[show[e].filter f=[e] by simp[hf],Zc1,if_pos ⟨rfl,rfl⟩];simp
def R1Rel (w:World) (t p m:Nat) (ss:List Ses) (b:Lock.Bk) (v:Value) (SL:List (Int × ByteArray)) (op:Int × ByteArray→Bool) (mb:Nat) (k:Nat) (u:Value) (wr:World):Prop:=
 ∃i:Nat,u=.int .i64 i∧i + k=SL.length∧At [TabP t p m ss b] w [mapC mb (rchA (grantedB b.es) [] ((SL.take i).filter op)),rowSe v SL,headT t p b.p,Lease.BookP p m ss,Lock.BookP b] wr
def R2Rel (w:World) (t p m:Nat) (ss:List Ses) (b:Lock.Bk) (v:Value) (D:List Ent) (KS:List (Int × ByteArray)) (mb:Nat) (k:Nat) (u:Value) (wr:World):Prop:=
 ∃i:Nat,u=.int .i64 i∧i + k=D.length∧At [TabP t p m ss b] w [mapC mb (rchA (grantedB b.es) (D.take i) KS),rowL v D,headT t p b.p,Lease.BookP p m ss,Lock.BookP b] wr
def RchP (w:World) (t p m:Nat) (ss:List Ses) (b:Lock.Bk) (e:Ending) (w':World):Prop:=
 ∃mb KS D,e=.returned (.map (some mb))∧D.Perm b.es∧KS.Perm ((Zbj ss).filter fun k=>(Lease.look ss k.1 k.2).op)∧At [TabP t p m ss b] w [mapC mb (rchA (grantedB b.es) D KS),TabP t p m ss b] w'
theorem ZjX {w:World} {t p m:Nat} {ss:List Ses} {b:Lock.Bk} {k:Nat} (h:Sep [TabP t p m ss b] w) (hi:Lock.Inv b.st k) (hk:k≤40) (hf:∀e ∈ b.es,e.path.size≤1000∧0≤e.num∧e.num < Lock.big64∧e.foot.size≤maxLen)
 (hs:∀s ∈ ss,0≤s.num∧s.num < Lease.big64∧s.foot.size≤1000) (hkn:(Zbj ss).Nodup) (hsl:ss.length≤1000000) (ho:∀e ∈ b.es,(e.num,e.foot) ∈ Zbj ss∧(Lease.look ss e.num e.foot).op=true):
 Calls Tryz.prog 43 #[.pointer (some ⟨t,0,none⟩)] w (RchP w t p m ss b):=by
 have hA:=Zbf h;clear h;have hi':=Hd hi;have hf':=Hd hf;have hs':=Hd hs;have hkn':=Hd hkn;have ho':=Hd ho;have hen:b.es.length≤40:=Nat.le_trans hi.len hk;clear hi hf hs hkn ho;obtain⟨hA,hF⟩:=fZ hA;go_enter Tryz.func43,Tryz.ntmps43
 go_wp2_with (refine ZaR Tryz.prog 25 rfl rfl hA ?_;intro mb w1 hB hb1;replace hA:=hB;clear hF hB;obtain⟨hA,hF⟩:=fZ hA)
 refine(Lease.Zgd (hA.sep1 (A:=Lease.BookP p m ss) sZ) hsl).mono ?_;rintro e w2 ⟨vs,rfl,hT⟩;have hB:=hA.call1 (A:=Lease.BookP p m ss) sZ hT;clear hF hA hT;simp only[uA] at hB
 obtain⟨SL,hSL⟩:∃l,sortS (Zbj ss)=l:=⟨_,rfl⟩
 rw[hSL] at hB;have hSp:SL.Perm (Zbj ss):=by rw[←hSL];exact List.mergeSort_perm _ _
 obtain⟨op,hop⟩:∃f:Int × ByteArray→Bool,(fun k=>(Lease.look ss k.1 k.2).op)=f:=⟨_,rfl⟩
 have hop':=Hd hop;have hSp':=Hd hSp
 have hSb:∀x ∈ SL,0≤x.1∧x.1 < Lease.big64∧x.2.size≤1000:=fun x hx=>by
  obtain⟨s,hsm,rfl⟩:=List.mem_map.1 (hSp.mem_iff.1 hx);exact hs'.out s hsm
 have hSb':=Hd hSb;have hSl:SL.length≤1000000:=by rw[hSp.length_eq];simpa [Zbj] using hsl
 have hSn:=Hd (hSp.nodup_iff.2 hkn'.out);clear hSL hSp hop hSb;obtain⟨sax,scap,rfl⟩:=Zbb hB (v:=vs) (xs:=SL.flatMap seL) sZ;have hA:=hB.pick (K:=[rowSe (.slice sax SL.length scap) SL,mapC mb [],headT t p b.p,Lease.BookP p m ss,Lock.BookP b]) pZ;clear hB;obtain⟨hA,hF⟩:=fZ hA;go_wp2_with fail;(try go_frame);go_loopg [16] SL.length (R1Rel w t p m ss b (.slice sax SL.length scap) SL op mb)
 case atStart=>exact⟨0,rfl,by simp,hA.pick pZ⟩
 case round=>
  clear hA hF;obtain⟨i,rfl,hik,hA⟩:=hrel;by_cases hil:i < SL.length
  · obtain⟨⟨n,f⟩,hx⟩:∃x,SL[i]? =some x:=⟨_,List.getElem?_eq_getElem hil⟩
    obtain⟨bk,off,rfl,hel⟩:=rds_at hx (hA.get (A:=rowSe (.slice sax SL.length scap) SL) sZ);have hel':=Hd (show ∀w',(rowSe (.slice (some ⟨bk,off,none⟩) SL.length scap) SL).holds w'→∀(k:Nat) u,([.int .u64 n,.string f]:List Value)[k]? =some u→w'.cell? ⟨bk,off + i * 2 + k,none⟩=some u from hel);have htk:SL.take (i + 1)=SL.take i++[(n,f)]:=by rw[List.take_add_one,hx];rfl
    have hbx:=hSb'.out _ (List.mem_of_getElem? hx);simp only at hbx
    have hni:(n,f) ∉ (SL.take i).filter op:=fun hm=>by
     obtain⟨j,hj,ej⟩:=List.mem_take_iff_getElem.1 (List.mem_filter.1 hm).1;have hj2:SL[j]? =some (n,f):=by rw[←ej];exact List.getElem?_eq_getElem (by omega)
     obtain⟨h3,e3⟩:=List.getElem?_eq_some_iff.1 hx;obtain⟨h4,e4⟩:=List.getElem?_eq_some_iff.1 hj2;have:=(List.getElem_inj hSn.out).1 (e4.trans e3.symm);omega
    have hopx:op (n,f)=(Lease.look ss n f).op:=by rw[←hop'.out]
    have hni':=Hd hni;have htk':=Hd htk;have hin:=fun(w1:World) (q:Sep [Lease.BookP p m ss] w1)=>Lease.ZaN q hbx.1 hbx.2.1 (Nat.le_trans hbx.2.2 (by unfold maxLen;omega));obtain⟨kl,hkl⟩:=Lease.keyS hbx.1 hbx.2.1 (Nat.le_trans hbx.2.2 (by unfold maxLen;omega));unfold Lease.Ses.info at hin;generalize (Lease.look ss n f).op=d at *
    generalize (Lease.look ss n f).dead=d2 at *
    generalize (Lease.look ss n f).dl=d3 at *
    generalize (Lease.look ss n f).ttl=d4 at *
    generalize (Lease.look ss n f).told.length=d5 at *
    unfold Lease.keyV at hkl;have hin':=Hd hin;have hopx':=Hd hopx;have hfd:∀w1:World,(Instr.field 137 (.agg #[.bool d,.bool d2,.int .i64 d3,.int .i64 d4,.int .i64 (d5:Nat)]) 0).run Tryz.prog w1=.ok (.bool d) w1:=fun _=>by kernel_rfl
    clear hin hopx hni htk hbx hx hel;obtain⟨hA,hF⟩:=fZ hA;cases d
    · go_wp2_with (first|((with_reducible refine gal ?_);refine wGz 25 [.int .u64 0,.string .empty] hA ?_;clear hF hA;intro b5 w1 hA hb5 hF)|((with_reducible show wpList _ _ _ ({dst:=some 19,op:=Op.load _ _,type:=_,pos:=_,after:=_,guard:=_}::_) _ _);refine Zad (vs:=[.int .u64 n,.string f]) rfl rfl (by(try simp only[Act.eval,eV])<;>exact rfl) (hel'.out _ (hA.get (A:=rowSe (.slice (some ⟨bk,off,none⟩) SL.length scap) SL) sZ)) (by kernel_rfl) (by kernel_rfl) ?_)|((with_reducible refine gst ?_);refine wTz hA ?_;clear hF hA;intro w1 hA hF))
      (try go_frame);refine cl6 hA ?_;clear hF hA;intro w1 hA hF;(try simp only[uZ] at hA hF);go_wp2_with fail;go_roundg (gk - 1);case measure=>omega
      case rel=>exact⟨i + 1,by simp,by omega,by rw[htk'.out,List.filter_append,show[(n,f)].filter op=[] by simp[hopx'.out],List.append_nil];exact hA.pick pZ⟩
    go_wp2_with (first|((with_reducible refine gal ?_);refine wGz 25 [.int .u64 0,.string .empty] hA ?_;clear hF hA;intro b5 w1 hA hb5 hF)|((with_reducible show wpList _ _ _ ({dst:=some 19,op:=Op.load _ _,type:=_,pos:=_,after:=_,guard:=_}::_) _ _);refine Zad (vs:=[.int .u64 n,.string f]) rfl rfl (by(try simp only[Act.eval,eV])<;>exact rfl) (hel'.out _ (hA.get (A:=rowSe (.slice (some ⟨bk,off,none⟩) SL.length scap) SL) sZ)) (by kernel_rfl) (by kernel_rfl) ?_)|((with_reducible refine gst ?_);refine wTz hA ?_;clear hF hA;intro w1 hA hF))
    (try go_frame);refine cl6 hA ?_;clear hF hA;intro w1 hA hF;(try simp only[uZ] at hA hF)
    go_wp2_with ((with_reducible show wpList _ _ _ ({dst:=none,op:=Op.mapUpdate _ _ _ _,type:=_,pos:=_,after:=_,guard:=_}::_) _ _);refine Zaz (b:=mb) (key:=.agg #[.int .u64 n,.string f]) (val:=.agg #[.int .i64 0,.int .i64 0]) (es:=rchA (grantedB b.es) [] ((SL.take i).filter op)) rfl rfl (by(try simp only[Act.eval,eV])<;>exact rfl) (by(try simp only[Act.eval,eV])<;>exact rfl) (by(try simp only[Act.eval,eV])<;>exact rfl) hA sZ Lease.lawS Tryz.underlying96 hkl (ZnL hni'.out) ?_;intro w1 hB;replace hA:=hB;clear hF hB;obtain⟨hA,hF⟩:=fZ hA)
    go_roundg (gk - 1);case measure=>omega
    case rel=>exact⟨i + 1,by simp,by omega,by rw[htk'.out,List.filter_append,show[(n,f)].filter op=[(n,f)] by simp[hopx'.out],ZjZ];exact hA.pick pZ⟩
  have eL:SL.take i=SL:=List.take_of_length_le (by omega);rw[eL] at hA
  obtain⟨KS,hKS⟩:∃K,SL.filter op=K:=⟨_,rfl⟩
  have hKp':=Hd (show KS.Perm ((Zbj ss).filter fun k=>(Lease.look ss k.1 k.2).op) by rw[←hKS,hop'.out];exact hSp'.out.filter _);have hKn':=Hd (show KS.Nodup by rw[←hKS];exact hSn.out.filter _);have hKe':=Hd (show ∀e ∈ b.es,(e.num,e.foot) ∈ KS from fun e he=>by rw[←hKS];exact List.mem_filter.2 ⟨hSp'.out.mem_iff.2 (ho'.out e he).1,by rw[←hop'.out];exact(ho'.out e he).2⟩);rw[hKS] at hA;clear hKS hSn hSb' hSp';obtain⟨hA,hF⟩:=fZ hA;go_wp2_with fail;refine(Lock.ZdD (hA.sep1 (A:=Lock.BookP b) sZ) hi'.out.sortable (Nat.le_trans hen (by omega)) (fun x hx=>Nat.le_trans (hi'.out.path x hx) (by omega))).mono ?_;rintro e w3 ⟨vD,D,rfl,hpD,_,hT⟩;have hB:=hA.call1 (A:=Lock.BookP b) sZ hT;have hpD':=Hd hpD;have hDl:D.length≤40:=by rw[hpD.length_eq];exact hen
  clear hF hA hT hpD;simp only[uA] at hB;obtain⟨dax,dcap,rfl⟩:=Zbb hB (v:=vD) (xs:=D.flatMap Ent.cells) sZ;have hA:=hB.pick (K:=[rowL (.slice dax D.length dcap) D,mapC mb (rchA (grantedB b.es) [] KS),headT t p b.p,Lease.BookP p m ss,Lock.BookP b]) pZ;clear hB;obtain⟨hA,hF⟩:=fZ hA;go_wp2_with fail;(try go_frame);clear hik hil eL;go_loopg [37] D.length (R2Rel w t p m ss b (.slice dax D.length dcap) D KS mb)
  case atStart=>exact⟨0,rfl,by simp,hA.pick pZ⟩
  case round=>
   clear hA hF;obtain⟨j,rfl,hjk,hA⟩:=hrel;by_cases hjl:j < D.length
   · obtain⟨bk2,off2,rfl,hel2⟩:=(Zfx (.slice dax D.length dcap) D).at (hA.get (A:=rowL (.slice dax D.length dcap) D) sZ) hjl;have hme:D[j] ∈ b.es:=hpD'.out.mem_iff.1 (List.getElem_mem hjl);have hxl:=hf'.out _ hme;obtain⟨l1,l2,hr1,hr2⟩:=ZlX (f:=grantedB b.es) (D:=D.take j) hKn'.out (hKe'.out _ hme);rw[←List.take_succ_eq_append_getElem hjl] at hr2;have hb0:heldN (D.take j) D[j].num D[j].foot≤40:=Nat.le_trans (heldN_le _ _ _) (by rw[List.length_take];omega);have hb2:heldN ((D.take j).filter (grantedB b.es)) D[j].num D[j].foot≤40:=Nat.le_trans (heldN_le _ _ _) (Nat.le_trans (List.length_filter_le _ _) (by rw[List.length_take];omega));have hgr:=fun(w1:World) (q:Sep [Lock.BookP b] w1)=>Lock.Zea q (e:=D[j]) (Nat.le_trans hxl.1 (by omega)) hxl.2.1 hxl.2.2.1 hxl.2.2.2 (fun x hx=>Nat.le_trans (hi'.out.path x hx) (by omega));rw[hr1] at hA;generalize heldN (D.take j) D[j].num D[j].foot=c0 at *
     generalize heldN ((D.take j).filter (grantedB b.es)) D[j].num D[j].foot=c1 at *
     generalize grantedB b.es D[j]=d at *
     generalize D[j]=y at *
     obtain⟨p0,n0,f0,m0,k0,s0⟩:=y;obtain⟨kl2,hkl2⟩:=Lease.keyS hxl.2.1 hxl.2.2.1 hxl.2.2.2;unfold Lease.keyV at hkl2;have hel2':=Hd (show ∀w',(rowL (.slice (some ⟨bk2,off2,none⟩) D.length dcap) D).holds w'→∀(k:Nat) u,([.string p0,.int .u64 n0,.string f0,.int .i64 m0,.int .u64 k0,.int .i64 s0]:List Value)[k]? =some u→w'.cell? ⟨bk2,off2 + j * 6 + k,none⟩=some u from hel2)
     obtain⟨x0,hx0⟩:∃x,c0 + 1=x:=⟨_,rfl⟩
     obtain⟨x1,hx1⟩:∃x,(c1 + if d=true then 1 else 0)=x:=⟨_,rfl⟩
     rw[hx0,hx1] at hr2;have hw1:IntKind.i64.wrap ((c0:Int) + 1)=(x0:Int):=by rw[IntKind.wrap_i64]<;>omega
     simp only[seV,pairV,Ent.val] at hr2 hA hgr;have hr2':=Hd hr2;have hgr':=Hd hgr;clear hr1 hr2 hgr hel2 hme hxl;cases d
     · have hx2:c1=x1:=by simpa using hx1
       subst hx2;clear hx1;obtain⟨hA,hF⟩:=fZ hA
       go_wp2_with (first|((with_reducible refine gal ?_);refine g11 hA ?_;clear hF hA;intro b7 w1 hA hb7 hF)|((with_reducible refine gal ?_);refine wGz 98 [.int .i64 0,.int .i64 0] hA ?_;clear hF hA;intro b8 w1 hA hb8 hF)|((with_reducible show wpList _ _ _ ({dst:=some 40,op:=Op.load _ _,type:=_,pos:=_,after:=_,guard:=_}::_) _ _);refine Zad (vs:=[.string p0,.int .u64 n0,.string f0,.int .i64 m0,.int .u64 k0,.int .i64 s0]) rfl rfl (by(try simp only[Act.eval,eV])<;>exact rfl) (hel2'.out _ (hA.get (A:=rowL (.slice (some ⟨bk2,off2,none⟩) D.length dcap) D) sZ)) (by kernel_rfl) (by kernel_rfl) ?_)|((with_reducible show wpList _ _ _ ({dst:=some 44,op:=Op.lookup _ _ _ _,type:=_,pos:=_,after:=_,guard:=_}::_) _ _);refine Zbv (b:=mb) (key:=.agg #[.int .u64 n0,.string f0]) (v:=.agg #[.int .i64 c0,.int .i64 c1]) rfl rfl (by(try simp only[Act.eval,eV])<;>exact rfl) (by(try simp only[Act.eval,eV])<;>exact rfl) hA sZ Lease.lawS Tryz.underlying96 hkl2 (by simp) ?_)|((with_reducible refine gst ?_);refine wTz hA ?_;clear hF hA;intro w1 hA hF))
       (try go_frame);refine cl7 hA ?_;clear hF hA;intro w1 hA hF;(try simp only[uZ] at hA hF)
       go_wp2_with ((with_reducible show wpList _ _ _ ({dst:=none,op:=Op.mapUpdate _ _ _ _,type:=_,pos:=_,after:=_,guard:=_}::_) _ _);refine Za9 (b:=mb) (key:=.agg #[.int .u64 n0,.string f0]) (val:=.agg #[.int .i64 x0,.int .i64 c1]) (u:=.agg #[.int .i64 c0,.int .i64 c1]) (l1:=l1) (l2:=l2) rfl rfl (by(try simp only[Act.eval,eV])<;>exact rfl) (by(try simp only[Act.eval,eV])<;>exact rfl) (by(try simp only[Act.eval,eV])<;>exact rfl) hA sZ Lease.lawS Tryz.underlying96 hkl2 ?_;intro w1 hB;replace hA:=hB;clear hF hB;obtain⟨hA,hF⟩:=fZ hA)
       rw[←hr2'.out] at hA;go_roundg (gk - 1);case measure=>omega
       case rel=>exact⟨j + 1,by simp,by omega,hA.pick pZ⟩
     have hw2:IntKind.i64.wrap ((c1:Int) + 1)=(x1:Int):=by
      simp only[if_true] at hx1;rw[IntKind.wrap_i64]<;>omega
     clear hx1;obtain⟨hA,hF⟩:=fZ hA
     go_wp2_with (first|((with_reducible refine gal ?_);refine g11 hA ?_;clear hF hA;intro b7 w1 hA hb7 hF)|((with_reducible refine gal ?_);refine wGz 98 [.int .i64 0,.int .i64 0] hA ?_;clear hF hA;intro b8 w1 hA hb8 hF)|((with_reducible show wpList _ _ _ ({dst:=some 40,op:=Op.load _ _,type:=_,pos:=_,after:=_,guard:=_}::_) _ _);refine Zad (vs:=[.string p0,.int .u64 n0,.string f0,.int .i64 m0,.int .u64 k0,.int .i64 s0]) rfl rfl (by(try simp only[Act.eval,eV])<;>exact rfl) (hel2'.out _ (hA.get (A:=rowL (.slice (some ⟨bk2,off2,none⟩) D.length dcap) D) sZ)) (by kernel_rfl) (by kernel_rfl) ?_)|((with_reducible show wpList _ _ _ ({dst:=some 44,op:=Op.lookup _ _ _ _,type:=_,pos:=_,after:=_,guard:=_}::_) _ _);refine Zbv (b:=mb) (key:=.agg #[.int .u64 n0,.string f0]) (v:=.agg #[.int .i64 c0,.int .i64 c1]) rfl rfl (by(try simp only[Act.eval,eV])<;>exact rfl) (by(try simp only[Act.eval,eV])<;>exact rfl) hA sZ Lease.lawS Tryz.underlying96 hkl2 (by simp) ?_)|((with_reducible refine gst ?_);refine wTz hA ?_;clear hF hA;intro w1 hA hF))
     (try go_frame);refine cl7 hA ?_;clear hF hA;intro w1 hA hF;(try simp only[uZ] at hA hF)
     go_wp2_with (first|((with_reducible show wpList _ _ _ ({dst:=none,op:=Op.mapUpdate _ _ _ _,type:=_,pos:=_,after:=_,guard:=_}::_) _ _);refine Za9 (b:=mb) (key:=.agg #[.int .u64 n0,.string f0]) (val:=.agg #[.int .i64 x0,.int .i64 x1]) (u:=.agg #[.int .i64 c0,.int .i64 c1]) (l1:=l1) (l2:=l2) rfl rfl (by(try simp only[Act.eval,eV])<;>exact rfl) (by(try simp only[Act.eval,eV])<;>exact rfl) (by(try simp only[Act.eval,eV])<;>exact rfl) hA sZ Lease.lawS Tryz.underlying96 hkl2 ?_;intro w1 hB;replace hA:=hB;clear hF hB;obtain⟨hA,hF⟩:=fZ hA)|((with_reducible refine gst ?_);refine wTz hA ?_;clear hF hA;intro w1 hA hF))
     rw[←hr2'.out] at hA;go_roundg (gk - 1);case measure=>omega
     case rel=>exact⟨j + 1,by simp,by omega,hA.pick pZ⟩
   have eD:D.take j=D:=List.take_of_length_le (by omega);rw[eD] at hA;obtain⟨hA,hF⟩:=fZ hA;go_wp2_with fail;go_ret;exact⟨mb,KS,D,rfl,hpD'.out,hKp'.out,((hA.pick (K:=[headT t p b.p,Lease.BookP p m ss,Lock.BookP b,mapC mb (rchA (grantedB b.es) D KS)]) pZ).to (ZcG t p m ss b [mapC mb (rchA (grantedB b.es) D KS)]).symm).pick pZ⟩
end Tab
end
section
namespace Tab
open Go.RowKit
open Path (bl overB)
open Lock (S3 Ent rowL rowE grantedB Zbd)
open Lease (Ses Ans SR AR rowR poolP)
open Cmd (Cm)
def twoR (A B:Part):Part:=Part.all [A,B]
theorem Zfh (A B:Part) (F:List Part):Eqv (twoR A B::F) (A::B::F):=Eqv.all [A,B] F
theorem ZjY {A B:Part} {v:Value} {l:List Ent} (h:RdE A v l):RdE (twoR A B) v l:=fun w q=>h w (show Sep [A,B] w from q).1
theorem Zh2 {A B:Part} {v:Value} {l:List Ent} (h:RdE B v l):RdE (twoR A B) v l:=fun w q=>h w (show Sep [A,B] w from q).2.1.1
theorem Zmg {w:World} {v1 v2:Value} {l m:List Ent} (h:Sep [rowE v1 l,rowE v2 m] w) (hl:l.length≤1000000) (hm:m.length≤1000000):
 Calls Tryz.prog 15 #[v1,v2] w fun e w'=>∃v',e=.returned v'∧At [rowE v1 l,rowE v2 m] w [rowE v' (lessE l m),rowE v1 l,rowE v2 m] w':=by
 have hA:=(At.start h).to (Zfh (rowE v1 l) (rowE v2 m) []).symm;refine(Zmh (hA.sep1 (A:=twoR (rowE v1 l) (rowE v2 m)) .here) (ZjY (Zb2 v1 l)) (Zh2 (Zb2 v2 m)) hl hm).mono ?_;rintro e w1 ⟨v',he,hT⟩;have hB:=hA.call1 (A:=twoR (rowE v1 l) (rowE v2 m)) .here hT;simp only[uA] at hB;have hC:=(hB.pick (K:=[twoR (rowE v1 l) (rowE v2 m),rowE v' (lessE l m)]) pR).to (Zfh _ _ _);exact⟨v',he,hC.pick pR⟩
theorem ZfK {w:World} {v1 v2:Value} {l m:List Ent} (h:Sep [rowL v1 l,rowE v2 m] w) (hp:l.Perm m) (hnd:l.Nodup) (hm:m.length≤1000000):
 Calls Tryz.prog 12 #[v1,v2] w fun e w'=>e=.returned (.bool true)∧At [rowL v1 l,rowE v2 m] w [rowL v1 l,rowE v2 m] w':=by
 have hA:=(At.start h).to (Zfh (rowL v1 l) (rowE v2 m) []).symm;refine(Zmo (hA.sep1 (A:=twoR (rowL v1 l) (rowE v2 m)) .here) (ZjY (Zfx v1 l)) (Zh2 (Zb2 v2 m)) hp hnd hm).mono ?_;rintro e w1 ⟨he,hT⟩;have hB:=hA.call1 (A:=twoR (rowL v1 l) (rowE v2 m)) .here hT;simp only[uA] at hB;exact⟨he,(hB.pick (K:=[twoR (rowL v1 l) (rowE v2 m)]) pR).to (Zfh _ _ _)⟩
theorem Zhi {Q:PE} {v:Value} {l:List Ent} (hm:(v,l) ∈ Q):RdE (poolE Q) v l:=fun w q=>by
 obtain⟨R,hR⟩:=outE hm;have hA:=(At.start (show Sep [poolE Q] w from⟨q,trivial,nofun⟩)).to (hR []);exact Zb2 v l w (hA.get .here)
theorem Zhz {w:World} {Q:PE} {vS vE vC:Value} {L:List Ent} (h:Sep [poolE Q] w) (hm:(vE,L) ∈ Q) (first:Int) (hS:∃ax k cap,vS=.slice ax k cap) (hC:∃ax k cap,vC=.slice ax k cap) (hg:∀i (hi:i < L.length),Zbd L i=grantedB L L[i]) (hmax:L.length≤1000000) (hsz:∀x ∈ L,x.path.size≤1000):
 Calls Tryz.prog 10 #[.agg #[vS,.int .u64 first,vE,vC]] w fun e w'=>∃v',e=.returned v'∧At [poolE Q] w [rowE v' (grA L),poolE Q] w':=by
 obtain⟨R,hR⟩:=outE hm;have hA:=(At.start h).to (hR []);refine(Zi5 (hA.sep1 (A:=rowE vE L) .here) first hS hC hg hmax hsz).mono ?_;rintro e w1 ⟨v',he,hT⟩;have hB:=hA.call1 (A:=rowE vE L) .here hT;simp only[uA] at hB;have hC:=(hB.pick (K:=[rowE vE L,R,rowE v' (grA L)]) pR).to (hR [rowE v' (grA L)]).symm;exact⟨v',he,hC.pick pR⟩
end Tab
end
end Go.Proofs.YtknoefbcmomalaaGreatDoor
