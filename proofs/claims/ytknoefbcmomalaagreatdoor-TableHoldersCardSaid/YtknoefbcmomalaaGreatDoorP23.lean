import Derived.Test.YtknoefbcmomalaaGreatDoorP22
set_option linter.unusedSimpArgs false
set_option linter.unusedVariables false
set_option maxRecDepth 100000
set_option maxHeartbeats 16000000
namespace Go.Proofs.YtknoefbcmomalaaGreatDoor
section
namespace Tab
open Go.RowKit
open Path (bl Zaf overB Zan)
open Lease (Ses Ans fresh ZaE SR AR rowR Rel RelS Zbj keyR mapC)
open Lock (S3 Ent rowE rowL heldN)
open Cmd (Cm Zao)
open Sess (seV)
attribute [-go_sem] run_eql_struct run_neq_struct run_eqGuard_agg
theorem ZlU {ss:List Ses} {L:List SR} (h:Rel ss L) {x:SR} (hx:x ∈ L):RelS (Lease.look ss x.num x.foot) x:=by
 rcases h.both x.num x.foot with⟨_,h2,_⟩|⟨s,a,h1,_⟩
 · have:=h2 x hx
   simp[SR.is] at this
 obtain⟨l1,l2,e,en,ef,_⟩:=Lease.find_split h1;have e2:Lease.look ss x.num x.foot=s:=by unfold Lease.look;rw[h1];rfl
 rw[e2];exact h.each s (by rw[e];simp) x hx (by simp[Lease.keyE,keyR,en,ef])
theorem Zkp {ss:List Ses} {L:List SR} (h:Rel ss L):((Zbj ss).filter fun k=>(Lease.look ss k.1 k.2).op).Perm ((L.filter (·.op)).map keyR):=by
 have h1:(Zbj ss).Perm (L.map keyR):=h.keys;refine(h1.filter _).trans ?_;rw[List.filter_map];have:L.filter ((fun k:Int × ByteArray=>(Lease.look ss k.1 k.2).op) ∘ keyR)=L.filter (·.op):=List.filter_congr fun a ha=>(ZlU h ha).op
 rw[this]
theorem Zj4 {R:Part} {v:Value} {w:World} {l:List Ent} (h:Sep [R] w) (hr:RdE R v l) (n:Int) (f:ByteArray) (hl:l.length≤1000000) {N:Nat} (hN:heldN l n f=N):
 Calls Tryz.prog 18 #[v,.agg #[.int .u64 n,.string f]] w fun e w'=>∃u,e=.returned u∧∃(ax:Option Addr) (cap:Nat),u=.slice ax N cap∧At [R] w [R] w':=by
 refine(Zgn h hr n f hl).mono ?_;rintro e w1 ⟨v',rfl,hT⟩;obtain⟨ax,cap,rfl⟩:=Zbb hT .here;exact⟨_,rfl,ax,cap,by rw[←hN];rfl,hT.pick pR⟩
theorem Zn7 (op:BinOp) (x y:Operand) (c1 c2 e1 e2:Value) (w:World):(eqGuard op 98 x y (.agg #[c1,c2]) (.agg #[e1,e2])).run Tryz.prog w=.ok () w:=run_eqGuard_agg _ _ _ _ _ _ _ (by kernel_rfl)
theorem sameP2 (d0 d1:Int) (w:World):(Go.Op.equalIn 10000 98 (.agg #[.int .i64 d0,.int .i64 d1]) (.agg #[.int .i64 d0,.int .i64 d1])).run Tryz.prog w=.ok true w:=by
 obtain⟨i,hi⟩:∃i,Tryz.prog.info? 3=some i:=by
  have h:(Tryz.prog.info? 3).isSome=true:=by kernel_rfl
  exact Option.isSome_iff_exists.1 h
 have hc:Tryz.prog.cellsOf 3=1:=by kernel_rfl
 rw[Go.run_equalIn_array _ 9999 _ _ Tryz.underlying98 hi,hc,show List.range 2=[0,1] from rfl];simp[Go.Op.eqItems,go_sem,hi]
theorem neqP2 (d0 d1:Int) (w:World):(binOp .neq 98 (.agg #[.int .i64 d0,.int .i64 d1]) (.agg #[.int .i64 d0,.int .i64 d1])).run Tryz.prog w=.ok (.bool false) w:=by
 rw[run_neq_struct,sameP2];rfl
attribute [local go_sem] Zn7 neqP2
def RsRel (w:World) (L0:List Part) (B:Part) (L:List SR) (k:Nat) (u8 u20:Value) (wr:World):Prop:=
 ∃i n:Nat,u8=.int .i64 n∧u20=.int .i64 i∧i + k=L.length∧((L.take i).filter (·.op)).length=n∧At L0 w (B::L0) wr
theorem Zhh {w:World} {t p m:Nat} {ss:List Ses} {b:Lock.Bk} {k:Nat} {vS vE vC vh:Value} {L:List SR} {QE:PE} (first:Int) (h:Sep [TabP t p m ss b,rowR vS L,poolE QE,rowE vh (grA b.es)] w) (hi:Lock.Inv b.st k) (hk:k≤40) (hf:∀e ∈ b.es,e.path.size≤1000∧0≤e.num∧e.num < Lock.big64∧e.foot.size≤maxLen)
 (hs:∀s ∈ ss,0≤s.num∧s.num < Lease.big64∧s.foot.size≤1000) (hsl:ss.length≤1000000) (ho:∀e ∈ b.es,(Lease.look ss e.num e.foot).op=true) (hQ:(vE,b.es) ∈ QE) (hC:∃ax k cap,vC=.slice ax k cap) (hR:Rel ss L):
 Calls Tryz.prog 16 #[.pointer (some ⟨t,0,none⟩),.agg #[vS,.int .u64 first,vE,vC],vh] w fun e w'=>e=.returned (.bool true)∧At [TabP t p m ss b,rowR vS L,poolE QE,rowE vh (grA b.es)] w [TabP t p m ss b,rowR vS L,poolE QE,rowE vh (grA b.es)] w':=by
 have hm:Tryz.prog.follows .mixedOrders=true:=by kernel_rfl
 have hA:=At.start h;clear h;obtain⟨cx,cn,cc,rfl⟩:=hC;obtain⟨sx,sc,rfl⟩:=Zbb hA (v:=vS) (xs:=Lease.flatR L) sZ;obtain⟨hx,hc,rfl⟩:=Zbb hA (v:=vh) (xs:=Lock.flatE (grA b.es)) sZ;obtain⟨ex,ec,rfl⟩:=(Zhi hQ).form (hA.sep1 (A:=poolE QE) sZ);have hen:b.es.length≤40:=Nat.le_trans hi.len hk;have hLl:L.length≤1000000:=by rw[←hR.len];exact hsl
 have hkn:(Zbj ss).Nodup:=hR.nodupS
 have ho2:∀e ∈ b.es,(e.num,e.foot) ∈ Zbj ss∧(Lease.look ss e.num e.foot).op=true:=fun e he=>by
  refine⟨?_,ho e he⟩;have h1:=ho e he;unfold Lease.look at h1
  cases hq:Lease.find ss e.num e.foot with
  |none=>rw[hq] at h1;cases h1
  |some s=>
   obtain⟨l1,l2,e1,en,ef,_⟩:=Lease.find_split hq;exact List.mem_map.2 ⟨s,by rw[e1];simp,by rw[en,ef]⟩
 have hrc:=fun(w1:World) (q:Sep [TabP t p m ss b] w1)=>ZjX q hi hk hf hs hkn hsl ho2;have hrc':=Hd hrc;have hR':=Hd hR;have hQ':=Hd hQ;have hs':=Hd hs;clear hrc hR hQ hs hi hf ho ho2 hkn;obtain⟨hA,hF⟩:=fZ hA;go_enter Tryz.func16,Tryz.ntmps16
 go_wp2_with ((with_reducible refine gbx ?_);refine wHz 40 [.slice sx L.length sc,.int .u64 first,.slice ex b.es.length ec,.slice cx cn cc] hA ?_;clear hF hA;intro b4 w1 hA hb4 hF)
 refine(hrc'.out _ (hA.sep1 (A:=TabP t p m ss b) sZ)).mono ?_;rintro e w2 ⟨mb,KS,D,rfl,hD,hK,hT⟩;have hB:=hA.call1 (A:=TabP t p m ss b) sZ hT;have hK2:=hK.trans (Zkp hR'.out);have hD':=Hd hD;have hK':=Hd hK2;have hlr:(rchA (Lock.grantedB b.es) D KS).length=KS.length:=by simp[rchA]
 have hKl:=Hd (show KS.length=(L.filter (·.op)).length by rw[hK2.length_eq,List.length_map]);clear hF hA hT hD hK hK2 hrc';simp only[uA] at hB;have hA:=hB;clear hB;obtain⟨hA,hF⟩:=fZ hA;go_wp2_with fail;(try go_frame);go_loopg [8,20] L.length (RsRel w [TabP t p m ss b,rowR (.slice sx L.length sc) L,poolE QE,rowE (.slice hx (grA b.es).length hc) (grA b.es)] (Part.all [Part.cells b4 [.slice sx L.length sc,.int .u64 first,.slice ex b.es.length ec,.slice cx cn cc] 40,mapC mb (rchA (Lock.grantedB b.es) D KS)]) L)
 case atStart=>exact⟨0,0,rfl,rfl,by omega,by simp,(show At _ w (Part.cells b4 [.slice sx L.length sc,.int .u64 first,.slice ex b.es.length ec,.slice cx cn cc] 40::mapC mb (rchA (Lock.grantedB b.es) D KS)::[TabP t p m ss b,rowR (.slice sx L.length sc) L,poolE QE,rowE (.slice hx (grA b.es).length hc) (grA b.es)]) _ from hA.pick pZ).to (Eqv.all [Part.cells b4 [.slice sx L.length sc,.int .u64 first,.slice ex b.es.length ec,.slice cx cn cc] 40,mapC mb (rchA (Lock.grantedB b.es) D KS)] _).symm⟩
 case round=>
  obtain⟨i,n,rfl,rfl,hik,hn,hB⟩:=hrel;clear hF hA;have hA:At _ w (Part.cells b4 [.slice sx L.length sc,.int .u64 first,.slice ex b.es.length ec,.slice cx cn cc] 40::mapC mb (rchA (Lock.grantedB b.es) D KS)::[TabP t p m ss b,rowR (.slice sx L.length sc) L,poolE QE,rowE (.slice hx (grA b.es).length hc) (grA b.es)]) wr:=hB.to (Eqv.all [Part.cells b4 [.slice sx L.length sc,.int .u64 first,.slice ex b.es.length ec,.slice cx cn cc] 40,mapC mb (rchA (Lock.grantedB b.es) D KS)] _);clear hB;have hnl:n≤L.length:=by rw[←hn];exact Nat.le_trans (List.length_filter_le _ _) (by rw[List.length_take];omega)
  have hn':=Hd hn;clear hn;by_cases hj:i < L.length
  · obtain⟨x,hx⟩:∃x,L[i]? =some x:=⟨_,List.getElem?_eq_getElem hj⟩
    have hxm:=List.mem_of_getElem? hx;obtain⟨rb,ro,rc,e,hcell⟩:=row_at Lease.SR.cells_len (by omega) (hA.get (A:=rowR (.slice sx L.length sc) L) sZ) hx;cases e
    have hst:((L.take (i + 1)).filter (·.op)).length=n + if x.op then 1 else 0:=by
     rw[List.take_add_one,hx,Option.toList_some,List.filter_append,List.length_append,hn'.out];cases hq:x.op<;>simp[hq]
    have hke:x.op=true→(x.num,x.foot) ∈ KS:=fun q=>hK'.out.mem_iff.2 (List.mem_map.2 ⟨x,List.mem_filter.2 ⟨hxm,q⟩,rfl⟩)
    have hbd:0≤x.num∧x.num < Lease.big64∧x.foot.size≤1000:=by
     obtain⟨s,hs1,hs2⟩:=List.mem_map.1 (hR'.out.keys.mem_iff.2 (List.mem_map.2 ⟨x,hxm,rfl⟩));have h1:s.num=x.num:=congrArg Prod.fst hs2;have h2:s.foot=x.foot:=congrArg Prod.snd hs2;rw[←h1,←h2];exact hs'.out s hs1
    clear hx hxm;obtain⟨yn,yf,yo,yd,ydl,ytt,yax,ycap,ytold⟩:=x;simp only[SR.cells,SR.tv] at hcell hst hke hbd;have hcell':=Hd hcell;have hst':=Hd hst;clear hcell hst;cases yo
    · clear hke hbd;obtain⟨hA,hF⟩:=fZ hA
      go_wp2_with (first|((with_reducible refine gal ?_);refine g9 hA ?_;clear hF hA;intro b10 w1 hA hb10 hF)|((with_reducible show wpList _ _ _ ({dst:=some 23,op:=Op.load _ _,type:=_,pos:=_,after:=_,guard:=_}::_) _ _);refine Zad (vs:=[.int .u64 yn,.string yf,.bool false,.bool yd,.int .i64 ydl,.int .i64 ytt,.slice yax ytold.length ycap]) rfl rfl (by(try simp only[Act.eval,eV])<;>exact rfl) hcell'.out (by kernel_rfl) (by kernel_rfl) ?_)|((with_reducible refine gst ?_);refine wTz hA ?_;clear hF hA;intro w1 hA hF))
      go_roundg (L.length - (i + 1));case measure=>omega
      case rel=>exact⟨i + 1,n,by simp,by simp,by omega,by rw[hst'.out];simp,(show At _ w (Part.cells b4 [.slice (some ⟨rb,ro,none⟩) L.length sc,.int .u64 first,.slice ex b.es.length ec,.slice cx cn cc] 40::mapC mb (rchA (Lock.grantedB b.es) D KS)::[TabP t p m ss b,rowR (.slice (some ⟨rb,ro,none⟩) L.length sc) L,poolE QE,rowE (.slice hx (grA b.es).length hc) (grA b.es)]) _ from hA.pick pZ).to (Eqv.all [Part.cells b4 [.slice (some ⟨rb,ro,none⟩) L.length sc,.int .u64 first,.slice ex b.es.length ec,.slice cx cn cc] 40,mapC mb (rchA (Lock.grantedB b.es) D KS)] _).symm⟩
    have hky:=hke rfl;obtain⟨kl,hkl⟩:=Lease.keyS hbd.1 hbd.2.1 (Nat.le_trans hbd.2.2 (by unfold maxLen;omega));unfold Lease.keyV at hkl;have hat:=ZnM (f:=Lock.grantedB b.es) (D:=D) hky;have hc0:heldN b.es yn yf=heldN D yn yf:=(heldN_perm hD'.out yn yf).symm;have hc1:heldN (grA b.es) yn yf=heldN (D.filter (Lock.grantedB b.es)) yn yf:=(heldN_perm (hD'.out.filter _) yn yf).symm;have hw1:=fun(w1:World) (q:Sep [poolE QE] w1)=>Zj4 q (Zhi hQ'.out) yn yf (Nat.le_trans hen (by omega)) hc0;have hw2:=fun(w1:World) (q:Sep [rowE (.slice hx (grA b.es).length hc) (grA b.es)] w1)=>Zj4 q (Zb2 _ _) yn yf (Nat.le_trans (List.length_filter_le _ _) (Nat.le_trans hen (by omega))) hc1;simp only[seV,pairV] at hat;clear hc0 hc1;generalize heldN D yn yf=c0 at *
    generalize heldN (D.filter (Lock.grantedB b.es)) yn yf=c1 at *
    have hat':=Hd hat;have hw1':=Hd hw1;have hw2':=Hd hw2;clear hat hw1 hw2 hke hbd hky;obtain⟨hA,hF⟩:=fZ hA
    go_upto_region 10 with(first|((with_reducible refine gal ?_);refine g9 hA ?_;clear hF hA;intro b10 w1 hA hb10 hF)|((with_reducible refine gal ?_);refine wGz 25 [.int .u64 0,.string .empty] hA ?_;clear hF hA;intro b11 w1 hA hb11 hF)|((with_reducible refine gal ?_);refine wGz 98 [.int .i64 0,.int .i64 0] hA ?_;clear hF hA;intro b12 w1 hA hb12 hF)|((with_reducible show wpList _ _ _ ({dst:=some 23,op:=Op.load _ _,type:=_,pos:=_,after:=_,guard:=_}::_) _ _);refine Zad (vs:=[.int .u64 yn,.string yf,.bool true,.bool yd,.int .i64 ydl,.int .i64 ytt,.slice yax ytold.length ycap]) rfl rfl (by(try simp only[Act.eval,eV])<;>exact rfl) hcell'.out (by kernel_rfl) (by kernel_rfl) ?_)|((with_reducible show wpList _ _ _ ({dst:=some 37,op:=Op.lookup _ _ _ _,type:=_,pos:=_,after:=_,guard:=_}::_) _ _);refine Zba (b:=mb) (key:=.agg #[.int .u64 yn,.string yf]) (v:=.agg #[.int .i64 ((c0:Nat):Int),.int .i64 ((c1:Nat):Int)]) rfl rfl (by(try simp only[Act.eval,eV])<;>exact rfl) (by(try simp only[Act.eval,eV])<;>exact rfl) hA sZ Lease.lawS Tryz.underlying96 hkl hat'.out ?_)|((with_reducible refine gst ?_);refine wTz hA ?_;clear hF hA;intro w1 hA hF))
    (try go_frame);replace hA:=hA.drew;clear hF;refine wp_region_held (S:=fun w'=>Zaa w' b4 [.slice (some ⟨rb,ro,none⟩) L.length sc,.int .u64 first,.slice ex b.es.length ec,.slice cx cn cc] 40∧Zaa w' b11 [.int .u64 yn,.string yf] 25∧Zaa w' b12 [.int .i64 ((c0:Nat):Int),.int .i64 ((c1:Nat):Int)] 98) hm ?_;change wpAnyH _ _ _ _ _ 17 _ _ (World.drew _);generalize World.drew _=wd at *
    have hS0:=(⟨hA.get (A:=Part.cells b4 [.slice (some ⟨rb,ro,none⟩) L.length sc,.int .u64 first,.slice ex b.es.length ec,.slice cx cn cc] 40) sZ,hA.get (A:=Part.cells b11 [.int .u64 yn,.string yf] 25) sZ,hA.get (A:=Part.cells b12 [.int .i64 ((c0:Nat):Int),.int .i64 ((c1:Nat):Int)] 98) sZ⟩:(fun w'=>Zaa w' b4 [.slice (some ⟨rb,ro,none⟩) L.length sc,.int .u64 first,.slice ex b.es.length ec,.slice cx cn cc] 40∧Zaa w' b11 [.int .u64 yn,.string yf] 25∧Zaa w' b12 [.int .i64 ((c0:Nat):Int),.int .i64 ((c1:Nat):Int)] 98) wd)
    refine tP 0 40 (.bool true) (s:=hS0) (h:= ?_);(try go_frame);refine tP 1 41 (.bool false) (s:=hS0) (h:= ?_);(try go_frame);refine tP 2 42 (.bool false) (s:=hS0) (h:= ?_);(try go_frame);refine tZ 3 43 (.agg #[.int .i64 ((c0:Nat):Int),.int .i64 ((c1:Nat):Int)]) (r:=(fun w' hS=>Zah (ty:=98) (n:=2) (b:=b12) (j:=0) rfl (by exact rfl) hS.2.2 (by kernel_rfl) (by kernel_rfl) rfl rfl)) (s:=hS0) (h:= ?_);(try go_frame);refine tP 4 44 (.pointer (some ⟨b4,1,none⟩)) (s:=hS0) (h:= ?_);(try go_frame);refine tP 5 45 (.pointer (some ⟨b4,2,none⟩)) (s:=hS0) (h:= ?_);(try go_frame);refine tZ 6 46 (.slice ex b.es.length ec) (r:=(fun w' hS=>Zae (ty:=35) (b:=b4) (j:=2) rfl (by exact rfl) hS.1 (by kernel_rfl) rfl)) (s:=hS0) (h:= ?_);(try go_frame);refine tZ 7 47 (.agg #[.int .u64 yn,.string yf]) (r:=(fun w' hS=>Zah (ty:=25) (n:=2) (b:=b11) (j:=0) rfl (by exact rfl) hS.2.1 (by kernel_rfl) (by kernel_rfl) rfl rfl)) (s:=hS0) (h:= ?_);(try go_frame);refine tP 10 50 (.slice hx (grA b.es).length hc) (s:=hS0) (h:= ?_);(try go_frame);refine tZ 11 51 (.agg #[.int .u64 yn,.string yf]) (r:=(fun w' hS=>Zah (ty:=25) (n:=2) (b:=b11) (j:=0) rfl (by exact rfl) hS.2.1 (by kernel_rfl) (by kernel_rfl) rfl rfl)) (s:=hS0) (h:= ?_);(try go_frame);refine Zab (i:=8) (by kernel_rfl) ?_;refine cZ 8 48 (hw1'.out _ (hA.sep1 (A:=poolE QE) sZ)) ?_;rintro u w3 ⟨qx1,qc1,rfl,hT⟩;have hB:=hA.call1 (A:=poolE QE) sZ hT;clear hT;simp only[uA] at hB;refine andH ⟨hB.ci,hB.ci,hB.ci⟩ fun hS0=> ?_;replace hA:=hB;clear hB;(try go_frame);refine tP 9 49 (.int .i64 ((c0:Nat):Int)) (s:=hS0) (h:= ?_);(try go_frame);refine Zab (i:=12) (by kernel_rfl) ?_;refine cZ 12 52 (hw2'.out _ (hA.sep1 (A:=rowE (.slice hx (grA b.es).length hc) (grA b.es)) sZ)) ?_;rintro u w3 ⟨qx2,qc2,rfl,hT⟩;have hB:=hA.call1 (A:=rowE (.slice hx (grA b.es).length hc) (grA b.es)) sZ hT;clear hT;simp only[uA] at hB;refine andH ⟨hB.ci,hB.ci,hB.ci⟩ fun hS0=> ?_;replace hA:=hB;clear hB;(try go_frame);refine tP 13 53 (.int .i64 ((c1:Nat):Int)) (s:=hS0) (h:= ?_);(try go_frame);refine tP 14 54 (.agg #[.int .i64 ((c0:Nat):Int),.int .i64 ((c1:Nat):Int)]) (s:=hS0) (h:= ?_);(try go_frame);refine tP 15 55 (.bool false) (s:=hS0) (h:= ?_);(try go_frame);refine tP 16 56 (.bool false) (s:=hS0) (h:= ?_);(try go_frame);refine wpAnyH_done (by kernel_rfl) ?_ _;(try go_frame);clear hS0;obtain⟨hA,hF⟩:=fZ hA;go_wp2_with fail;go_roundg (L.length - (i + 1));case measure=>omega
    case rel=>exact⟨i + 1,n + 1,by simp,by simp,by omega,by rw[hst'.out];simp,(show At _ w (Part.cells b4 [.slice (some ⟨rb,ro,none⟩) L.length sc,.int .u64 first,.slice ex b.es.length ec,.slice cx cn cc] 40::mapC mb (rchA (Lock.grantedB b.es) D KS)::[TabP t p m ss b,rowR (.slice (some ⟨rb,ro,none⟩) L.length sc) L,poolE QE,rowE (.slice hx (grA b.es).length hc) (grA b.es)]) _ from hA.pick pZ).to (Eqv.all [Part.cells b4 [.slice (some ⟨rb,ro,none⟩) L.length sc,.int .u64 first,.slice ex b.es.length ec,.slice cx cn cc] 40,mapC mb (rchA (Lock.grantedB b.es) D KS)] _).symm⟩
  have eL:L.take i=L:=List.take_of_length_le (by omega);have hnn:KS.length=n:=by rw[hKl.out,←hn'.out,eL]
  subst hnn;clear eL;obtain⟨hA,hF⟩:=fZ hA
  go_wp2_with ((with_reducible show wpList _ _ _ ({dst:=some 59,op:=Op.call _,type:=_,pos:=_,after:=_,guard:=_}::_) _ _);refine Za2 (b:=mb) (es:=rchA (Lock.grantedB b.es) D KS) rfl rfl (by(try simp only[Act.eval,eV])<;>exact rfl) hA sZ Tryz.underlying96 ?_;rw[hlr])
  go_ret;exact⟨rfl,hA.pick pZ⟩
end Tab
end
section
namespace Tab
open Go.RowKit
open Lease (Ses Ans fresh ZaE)
open Lock (S3 Ent rowL CloE keepE ZbQ ZdH)
open Path (bl overB)
attribute [-go_sem] run_eql_struct run_neq_struct run_eqGuard_agg
abbrev boxO (b3:Nat) (p:ByteArray):Part:=Part.cells b3 [.string p] 9
abbrev boxN (b3:Nat) (n:Int) (f:ByteArray):Part:=Part.cells b3 [.int .u64 n,.string f] 25
theorem cloH {b3:Nat} {p:ByteArray} {l:List Ent} (hp:p.size≤1000000) (hl:∀x ∈ l,x.path.size≤1000000):CloE 41 b3 (boxO b3 p) l (fun e=> !overB (bl e.path) (bl p)):=by
 intro w1 h x hx;have hA:=At.start h;have hxl:=hl x hx;clear h hx hl;have ho:=fun w=>Path.Zb4 x.path p w (by omega) (by omega);show Calls _ _ _ _ (fun e w'=>e=.returned (.bool (!overB (bl x.path) (bl p)))∧_);generalize overB (bl x.path) (bl p)=ob at *
 obtain⟨p1,n1,f1,m1,k1,s1⟩:=x;simp only[Ent.val] at *
 obtain⟨hA,hF⟩:=fZ hA;go_enter Tryz.func41,Tryz.ntmps41
 go_wp2_with ((with_reducible refine gbx ?_);refine wHz 55 [.string p1,.int .u64 n1,.string f1,.int .i64 m1,.int .u64 k1,.int .i64 s1] hA ?_;clear hF hA;intro b4 w1 hA hb4 hF)
 refine(ho _).mono ?_;clear ho;rintro e w2 ⟨rfl,hx⟩;replace hA:=hA.ext hx;clear hF hx;obtain⟨hA,hF⟩:=fZ hA;go_wp2_with fail;go_ret;exact⟨rfl,hA.pick pZ⟩
theorem cloWt {b3:Nat} {p:ByteArray} {l:List Ent} (hp:p.size≤1000000) (hl:∀x ∈ l,x.path.size≤1000000):CloE 34 b3 (boxO b3 p) l (fun e=> !overB (bl e.path) (bl p)):=by
 intro w1 h x hx;have hA:=At.start h;have hxl:=hl x hx;clear h hx hl;have ho:=fun w=>Path.Zb4 x.path p w (by omega) (by omega);show Calls _ _ _ _ (fun e w'=>e=.returned (.bool (!overB (bl x.path) (bl p)))∧_);generalize overB (bl x.path) (bl p)=ob at *
 obtain⟨p1,n1,f1,m1,k1,s1⟩:=x;simp only[Ent.val] at *
 obtain⟨hA,hF⟩:=fZ hA;go_enter Tryz.func34,Tryz.ntmps34
 go_wp2_with ((with_reducible refine gbx ?_);refine wHz 55 [.string p1,.int .u64 n1,.string f1,.int .i64 m1,.int .u64 k1,.int .i64 s1] hA ?_;clear hF hA;intro b4 w1 hA hb4 hF)
 refine(ho _).mono ?_;clear ho;rintro e w2 ⟨rfl,hx⟩;replace hA:=hA.ext hx;clear hF hx;obtain⟨hA,hF⟩:=fZ hA;go_wp2_with fail;go_ret;exact⟨rfl,hA.pick pZ⟩
theorem neqS (a c:Int) (f g:ByteArray) (w:World):(binOp .neq 25 (.agg #[.int .u64 a,.string f]) (.agg #[.int .u64 c,.string g])).run Tryz.prog w=.ok (.bool (!decide (a=c∧f=g))) w:=by
 rw[run_neq_struct,Lock.sameS];rfl
attribute [local go_sem] Lock.ZkB
theorem cloHd {b3:Nat} {n:Int} {f:ByteArray} {l:List Ent}:CloE 44 b3 (boxN b3 n f) l (fun e=> !e.of n f):=by
 intro w1 h x hx;have hA:=At.start h;clear h hx;show Calls _ _ _ _ (fun e w'=>e=.returned (.bool (!x.of n f))∧_);obtain⟨p1,n1,f1,m1,k1,s1⟩:=x;have hne:=fun w=>neqS n1 n f1 f w;unfold Lock.Ent.of;simp only[Ent.val] at *
 generalize decide (n1=n∧f1=f)=d at *
 obtain⟨hA,hF⟩:=fZ hA;go_enter Tryz.func44,Tryz.ntmps44
 go_wp2_with ((with_reducible refine gbx ?_);refine wHz 55 [.string p1,.int .u64 n1,.string f1,.int .i64 m1,.int .u64 k1,.int .i64 s1] hA ?_;clear hF hA;intro b4 w1 hA hb4 hF)
 go_ret;exact⟨rfl,hA.pick pZ⟩
def HolP (t p m:Nat) (ss:List Ses) (b:Lock.Bk) (f:Ent→Bool) (w:World) (e:Ending) (w':World):Prop:=
 ∃v l,e=.returned v∧l.Perm ((b.es.filter (Lock.grantedB b.es)).filter f)∧l.Pairwise Lock.ltE∧At [TabP t p m ss b] w [rowL v l,TabP t p m ss b] w'
theorem ZfJ (f:Ent→Bool) (l:List Ent):keepE (fun e=> !f e) l=l.filter f:=by unfold keepE;simp
theorem Zhy {w:World} {t p m:Nat} {ss:List Ses} {b:Lock.Bk} {k:Nat} (h:Sep [TabP t p m ss b] w) (hi:Lock.Inv b.st k) (hk:k≤1000000) (hf:∀e ∈ b.es,e.path.size≤1000∧0≤e.num∧e.num < Lock.big64∧e.foot.size≤maxLen) (q:ByteArray) (hq:q.size≤1000000):
 Calls Tryz.prog 13 #[.pointer (some ⟨t,0,none⟩),.string q] w (HolP t p m ss b (fun e=>overB (bl e.path) (bl q)) w):=by
 have hA:=At.start h;clear h;have hi':=Hd hi;have hf':=Hd hf;clear hi hf;obtain⟨hA,hF⟩:=fZ hA;go_enter Tryz.func13,Tryz.ntmps13
 go_wp2_with ((with_reducible refine gbx ?_);refine wX 9 (.string q) [.string q] hA ?_;clear hF hA;intro b3 w1 hA hb3;obtain⟨hA,hF⟩:=fZ hA)
 refine(Zca (hA.sep1 (A:=TabP t p m ss b) sZ) hi'.out hk hf'.out).mono ?_;rintro e w2 ⟨v,l,rfl,hp,hs,hT⟩;have hB:=hA.call1 (A:=TabP t p m ss b) sZ hT;have hp':=Hd hp;have hs':=Hd hs;have hln:l.length≤1000000:=by rw[hp.length_eq];exact Nat.le_trans (List.length_filter_le _ _) (Nat.le_trans hi'.out.len hk)
 clear hF hA hT hp hs;have hA:=hB;clear hB;simp only[uA] at hA;obtain⟨hA,hF⟩:=fZ hA;go_wp2_with fail;refine(ZbQ (hA.sep2 (A:=rowL v l) (B:=boxO b3 q) sZ sZ) (enters_of Tryz.func41 (by kernel_rfl) rfl) (cloH hq (fun x hx=>Nat.le_trans (hf'.out x (List.mem_filter.1 (hp'.out.mem_iff.1 hx)).1).1 (by omega))) hln).mono ?_;rintro e w3 ⟨v3,rfl,hT⟩;replace hA:=hA.call2 (A:=rowL v l) (B:=boxO b3 q) sZ sZ hT;clear hF hT;simp only[uA] at hA;rw[ZfJ (fun e=>overB (bl e.path) (bl q))] at hA;obtain⟨hA,hF⟩:=fZ hA;go_wp2_with fail;go_ret;exact⟨_,_,rfl,hp'.out.filter _,hs'.out.filter _,hA.pick pZ⟩
theorem held_any {w:World} {t p m:Nat} {ss:List Ses} {b:Lock.Bk} {k:Nat} (h:Sep [TabP t p m ss b] w) (hi:Lock.Inv b.st k) (hk:k≤1000000) (hf:∀e ∈ b.es,e.path.size≤1000∧0≤e.num∧e.num < Lock.big64∧e.foot.size≤maxLen) (n:Int) (f:ByteArray):
 Calls Tryz.prog 17 #[.pointer (some ⟨t,0,none⟩),.agg #[.int .u64 n,.string f]] w (HolP t p m ss b (fun e=>e.of n f) w):=by
 have hA:=At.start h;clear h;have hi':=Hd hi;have hf':=Hd hf;clear hi hf;obtain⟨hA,hF⟩:=fZ hA;go_enter Tryz.func17,Tryz.ntmps17
 go_wp2_with ((with_reducible refine gbx ?_);refine wHz 25 [.int .u64 n,.string f] hA ?_;clear hF hA;intro b3 w1 hA hb3 hF)
 refine(Zca (hA.sep1 (A:=TabP t p m ss b) sZ) hi'.out hk hf'.out).mono ?_;rintro e w2 ⟨v,l,rfl,hp,hs,hT⟩;have hB:=hA.call1 (A:=TabP t p m ss b) sZ hT;have hp':=Hd hp;have hs':=Hd hs;have hln:l.length≤1000000:=by rw[hp.length_eq];exact Nat.le_trans (List.length_filter_le _ _) (Nat.le_trans hi'.out.len hk)
 clear hF hA hT hp hs;have hA:=hB;clear hB;simp only[uA] at hA;obtain⟨hA,hF⟩:=fZ hA;go_wp2_with fail;refine(ZbQ (hA.sep2 (A:=rowL v l) (B:=boxN b3 n f) sZ sZ) (enters_of Tryz.func44 (by kernel_rfl) rfl) cloHd hln).mono ?_;rintro e w3 ⟨v3,rfl,hT⟩;replace hA:=hA.call2 (A:=rowL v l) (B:=boxN b3 n f) sZ sZ hT;clear hF hT;simp only[uA] at hA;rw[ZfJ (fun e=>e.of n f)] at hA;obtain⟨hA,hF⟩:=fZ hA;go_wp2_with fail;go_ret;exact⟨_,_,rfl,hp'.out.filter _,hs'.out.filter _,hA.pick pZ⟩
end Tab
end
section
namespace Sta
open Go.RowKit
open Lock (Ent rowL)
theorem Zcn {c:List Value} {l:List Ent} {p q:Nat} {x y:Ent} (hct:c.take (l.length * 6)=l.flatMap Ent.cells) (hx:l[p]? =some x) (hy:l[q]? =some y):
 (setL (setL c (p * 6) y.cells) (q * 6) x.cells).take (l.length * 6)=(swp l p q).flatMap Ent.cells:=by
 have h1:=(List.getElem?_eq_some_iff.1 hx).1;have h2:=(List.getElem?_eq_some_iff.1 hy).1;have h3:=ZcL Ent.cells_len hct h1 y;have h4:=ZcL Ent.cells_len h3 (i:=q) (by rw[List.length_set];exact h2) x;rw[List.length_set,List.length_set] at h4;unfold swp;rw[hx,hy];exact h4
theorem Zbe {c:List Value} {l:List Ent} {k:Nat} {x:Ent} (ht:c.take (l.length * 6)=l.flatMap Ent.cells) (hx:l[k]? =some x):(c.drop (k * 6)).take 6=x.cells:=by
 apply List.ext_getElem?;intro j;by_cases hj:j < 6
 · rw[List.getElem?_take,if_pos hj,List.getElem?_drop,Zag Ent.cells_len ht hx j hj]
 rw[List.getElem?_eq_none (by simp;omega),List.getElem?_eq_none (by rw[Ent.cells_len];omega)]
def swR (l:List Ent) (a b:Nat):Nat→List Ent
 |0=>l
 |n + 1=>swp (swR l a b n) (a + n) (b + n)
theorem ZjB (l:List Ent) (a b:Nat):∀n,(swR l a b n).length=l.length
 |0=>rfl
 |n + 1=>by unfold swR;rw[ZcH,ZjB l a b n]
def SrRel (w:World) (v:Value) (l:List Ent) (a b n:Nat) (k:Nat) (u:Value) (wr:World):Prop:=∃i:Nat,u=.int .i64 i∧i + k=n∧At [rowL v l] w [rowL v (swR l a b i)] wr
theorem Zfl {w:World} {v:Value} {l:List Ent} (h:Sep [rowL v l] w) (a b n:Nat) (fv:Value) (hab:a + n≤b) (hb:b + n≤l.length) (hl:l.length≤1000000):
 Calls Tryz.prog 163 #[v,.int .i64 a,.int .i64 b,.int .i64 n,fv] w fun e w'=>e=.returned (.tuple #[])∧At [rowL v l] w [rowL v (swR l a b n)] w':=by
 have hm:Tryz.prog.follows .mixedOrders=true:=by kernel_rfl
 have hA:=At.start h;clear h;obtain⟨ax,cap,rfl,hax,hcp,_⟩:=hA.row_form (v:=v) (xs:=l.flatMap Ent.cells) sZ;obtain⟨hA,hF⟩:=fZ hA;go_enter Tryz.func163,Tryz.ntmps163;go_wp2_with fail;(try go_frame);go_loopg [10] n (SrRel w (.slice ax l.length cap) l a b n)
 case atStart=>exact⟨0,rfl,by omega,hA.pick pZ⟩
 case round=>
  obtain⟨i,rfl,hik,hB⟩:=hrel;clear hF hA;have hA:=hB;clear hB;by_cases hi:i < n
  · have hsw:=Hd (show swR l a b (i + 1)=swp (swR l a b i) (a + i) (b + i) from rfl);have hLl:=ZjB l a b i;generalize swR l a b i=L at *
    rw[show rowL (.slice ax l.length cap) L=Part.row 55 6 (.slice ax l.length cap) l.length (L.flatMap Ent.cells) by rw[←hLl]] at hA;obtain⟨g,c,rfl,_,hcm,hcl,hct,hB⟩:=hA.row_open (e:=55) (size:=6) (ax:=ax) (cap:=cap) (n:=l.length) (xs:=L.flatMap Ent.cells) sZ (by omega);replace hA:=hB;clear hB
    obtain⟨p,hp⟩:∃p,a + i=p:=⟨_,rfl⟩
    obtain⟨q,hq⟩:∃q,b + i=q:=⟨_,rfl⟩
    have hw1:IntKind.i64.wrap ((a:Int) + (i:Int))=(p:Int):=by rw[IntKind.wrap_i64]<;>omega
    have hw2:IntKind.i64.wrap ((b:Int) + (i:Int))=(q:Int):=by rw[IntKind.wrap_i64]<;>omega
    have hpl:p < l.length:=by omega
    have hql:q < l.length:=by omega
    obtain⟨x,hx⟩:∃x,L[p]? =some x:=⟨_,List.getElem?_eq_getElem (by omega)⟩
    obtain⟨y,hy⟩:∃y,L[q]? =some y:=⟨_,List.getElem?_eq_getElem (by omega)⟩
    rw[←hLl] at hct;have hv0:=Zbe hct hx;have hv1:=Zbe hct hy;have hnew0:=Zcn hct hx hy;rw[hLl] at hnew0;rw[hp,hq] at hsw;have hnew:=Hd hnew0;have hswl:=ZcH L p q;rw[hLl] at hswl;have hswl':=Hd hswl;clear hct hx hy hnew0 hswl hp hq;have hLl':=Hd hLl;clear hLl;obtain⟨hA,hF⟩:=fZ hA;go_wp2_with fail;(try go_frame);replace hA:=hA.drew;clear hF;refine wp_region_held (S:=fun _=>True) hm ?_;change wpAnyH _ _ _ _ _ 24 _ _ (World.drew _);generalize World.drew _=wd at *
    refine tZ 0 16 (.slice (some ⟨g,0,none⟩) l.length cap) (r:=(fun w' hS=>by simp[execOp,go_sem,Act.eval,Act.put])) (s:=trivial) (h:= ?_);go_frame;refine tZ 1 17 (.int .i64 ((a:Nat):Int)) (r:=(fun w' hS=>by simp[execOp,go_sem,Act.eval,Act.put])) (s:=trivial) (h:= ?_);go_frame;refine tZ 2 18 (.int .i64 ((i:Nat):Int)) (r:=(fun w' hS=>by simp[execOp,go_sem,Act.eval,Act.put])) (s:=trivial) (h:= ?_);go_frame;refine tZ 3 19 (.int .i64 ((p:Nat):Int)) (r:=(fun w' hS=>by simp[execOp,go_sem,Act.eval,Act.put,hw1])) (s:=trivial) (h:= ?_);go_frame;refine tZ 4 20 (.slice (some ⟨g,0,none⟩) l.length cap) (r:=(fun w' hS=>by simp[execOp,go_sem,Act.eval,Act.put])) (s:=trivial) (h:= ?_);go_frame;refine tZ 5 21 (.int .i64 ((b:Nat):Int)) (r:=(fun w' hS=>by simp[execOp,go_sem,Act.eval,Act.put])) (s:=trivial) (h:= ?_);go_frame;refine tZ 6 22 (.int .i64 ((i:Nat):Int)) (r:=(fun w' hS=>by simp[execOp,go_sem,Act.eval,Act.put])) (s:=trivial) (h:= ?_);go_frame;refine tZ 7 23 (.int .i64 ((q:Nat):Int)) (r:=(fun w' hS=>by simp[execOp,go_sem,Act.eval,Act.put,hw2])) (s:=trivial) (h:= ?_);go_frame;refine tZ 8 24 (.slice (some ⟨g,0,none⟩) l.length cap) (r:=(fun w' hS=>by simp[execOp,go_sem,Act.eval,Act.put])) (s:=trivial) (h:= ?_);go_frame;refine tZ 9 25 (.int .i64 ((b:Nat):Int)) (r:=(fun w' hS=>by simp[execOp,go_sem,Act.eval,Act.put])) (s:=trivial) (h:= ?_);go_frame;refine tZ 10 26 (.int .i64 ((i:Nat):Int)) (r:=(fun w' hS=>by simp[execOp,go_sem,Act.eval,Act.put])) (s:=trivial) (h:= ?_);go_frame;refine tZ 11 27 (.int .i64 ((q:Nat):Int)) (r:=(fun w' hS=>by simp[execOp,go_sem,Act.eval,Act.put,hw2])) (s:=trivial) (h:= ?_);go_frame;refine tZ 12 28 (.pointer (some ⟨g,q * 6,none⟩)) (r:=(fun w' hS=>by simp[execOp,go_sem,Act.eval,Act.put];intro h;omega)) (s:=trivial) (h:= ?_);go_frame;refine tZ 14 30 (.slice (some ⟨g,0,none⟩) l.length cap) (r:=(fun w' hS=>by simp[execOp,go_sem,Act.eval,Act.put])) (s:=trivial) (h:= ?_);go_frame;refine tZ 15 31 (.int .i64 ((a:Nat):Int)) (r:=(fun w' hS=>by simp[execOp,go_sem,Act.eval,Act.put])) (s:=trivial) (h:= ?_);go_frame;refine tZ 16 32 (.int .i64 ((i:Nat):Int)) (r:=(fun w' hS=>by simp[execOp,go_sem,Act.eval,Act.put])) (s:=trivial) (h:= ?_);go_frame;refine tZ 17 33 (.int .i64 ((p:Nat):Int)) (r:=(fun w' hS=>by simp[execOp,go_sem,Act.eval,Act.put,hw1])) (s:=trivial) (h:= ?_);go_frame;refine tZ 18 34 (.pointer (some ⟨g,p * 6,none⟩)) (r:=(fun w' hS=>by simp[execOp,go_sem,Act.eval,Act.put];intro h;omega)) (s:=trivial) (h:= ?_);go_frame;refine ZaY (i:=13) (j:=19) (by kernel_rfl) ?_ ?_
    · refine Zak (i:=13) (d:=some 29) (n:=6) (b:=g) (j:=q * 6) (vs:=y.cells) rfl rfl (by kernel_rfl) rfl (by exact rfl) hA sZ (by kernel_rfl) (by kernel_rfl) hv1 rfl ?_;refine⟨trivial,?_⟩;go_frame;refine Zab (i:=19) (by kernel_rfl) ?_;refine Zak (i:=19) (d:=some 35) (n:=6) (b:=g) (j:=p * 6) (vs:=x.cells) rfl rfl (by kernel_rfl) rfl (by exact rfl) hA sZ (by kernel_rfl) (by kernel_rfl) hv0 rfl ?_;refine⟨trivial,?_⟩;go_frame;refine tZ 20 36 (.pointer (some ⟨g,p * 6,none⟩)) (r:=(fun w' hS=>by simp[execOp,go_sem,Act.eval,Act.put];intro h;omega)) (s:=trivial) (h:= ?_);go_frame;refine Zab (i:=21) (by kernel_rfl) ?_;refine Zaw (i:=21) (b:=g) (j:=p * 6) (vs:=y.cells) rfl rfl (by kernel_rfl) rfl (by exact rfl) (by exact rfl) rfl hA sZ (by kernel_rfl) (List.all_eq_true.2 (Ent.one _)) (by rw[Ent.cells_len,hcl];omega) ?_;intro w3 hB;clear hA;have hA:=hB;clear hB;refine⟨trivial,?_⟩;go_frame;refine tZ 22 37 (.pointer (some ⟨g,q * 6,none⟩)) (r:=(fun w' hS=>by simp[execOp,go_sem,Act.eval,Act.put];intro h;omega)) (s:=trivial) (h:= ?_);go_frame;refine Zab (i:=23) (by kernel_rfl) ?_;refine Zaw (i:=23) (b:=g) (j:=q * 6) (vs:=x.cells) rfl rfl (by kernel_rfl) rfl (by exact rfl) (by exact rfl) rfl hA sZ (by kernel_rfl) (List.all_eq_true.2 (Ent.one _)) (by rw[Ent.cells_len,Zaj,hcl];omega) ?_;intro w3 hB;clear hA;have hA:=hB;clear hB;refine⟨trivial,?_⟩;go_frame;refine wpAnyH_done (by kernel_rfl) ?_ _
      (try go_frame);clear hv0 hv1;have hC:=hA.row_shut (e:=55) (size:=6) (g:=g) (n:=l.length) (cap:=cap) (xs:=(swp L p q).flatMap Ent.cells) sZ (by rw[Zaj,Zaj,hcl]) hcp hcm hnew.out;rw[show Part.row 55 6 (.slice (some ⟨g,0,none⟩) l.length cap) l.length ((swp L p q).flatMap Ent.cells)=rowL (.slice (some ⟨g,0,none⟩) l.length cap) (swp L p q) by rw[←hswl'.out]] at hC;clear hA;have hA:=hC;clear hC;obtain⟨hA,hF⟩:=fZ hA;go_wp2_with fail;go_roundg (gk - 1);case measure=>omega
      case rel=>exact⟨i + 1,by simp,by omega,by rw[hsw.out];exact hA.pick pZ⟩
    refine Zak (i:=19) (d:=some 35) (n:=6) (b:=g) (j:=p * 6) (vs:=x.cells) rfl rfl (by kernel_rfl) rfl (by exact rfl) hA sZ (by kernel_rfl) (by kernel_rfl) hv0 rfl ?_;refine⟨trivial,?_⟩;go_frame;refine Zab (i:=13) (by kernel_rfl) ?_;refine Zak (i:=13) (d:=some 29) (n:=6) (b:=g) (j:=q * 6) (vs:=y.cells) rfl rfl (by kernel_rfl) rfl (by exact rfl) hA sZ (by kernel_rfl) (by kernel_rfl) hv1 rfl ?_;refine⟨trivial,?_⟩;go_frame;refine tZ 20 36 (.pointer (some ⟨g,p * 6,none⟩)) (r:=(fun w' hS=>by simp[execOp,go_sem,Act.eval,Act.put];intro h;omega)) (s:=trivial) (h:= ?_);go_frame;refine Zab (i:=21) (by kernel_rfl) ?_;refine Zaw (i:=21) (b:=g) (j:=p * 6) (vs:=y.cells) rfl rfl (by kernel_rfl) rfl (by exact rfl) (by exact rfl) rfl hA sZ (by kernel_rfl) (List.all_eq_true.2 (Ent.one _)) (by rw[Ent.cells_len,hcl];omega) ?_;intro w3 hB;clear hA;have hA:=hB;clear hB;refine⟨trivial,?_⟩;go_frame;refine tZ 22 37 (.pointer (some ⟨g,q * 6,none⟩)) (r:=(fun w' hS=>by simp[execOp,go_sem,Act.eval,Act.put];intro h;omega)) (s:=trivial) (h:= ?_);go_frame;refine Zab (i:=23) (by kernel_rfl) ?_;refine Zaw (i:=23) (b:=g) (j:=q * 6) (vs:=x.cells) rfl rfl (by kernel_rfl) rfl (by exact rfl) (by exact rfl) rfl hA sZ (by kernel_rfl) (List.all_eq_true.2 (Ent.one _)) (by rw[Ent.cells_len,Zaj,hcl];omega) ?_;intro w3 hB;clear hA;have hA:=hB;clear hB;refine⟨trivial,?_⟩;go_frame;refine wpAnyH_done (by kernel_rfl) ?_ _
    (try go_frame);clear hv0 hv1;have hC:=hA.row_shut (e:=55) (size:=6) (g:=g) (n:=l.length) (cap:=cap) (xs:=(swp L p q).flatMap Ent.cells) sZ (by rw[Zaj,Zaj,hcl]) hcp hcm hnew.out;rw[show Part.row 55 6 (.slice (some ⟨g,0,none⟩) l.length cap) l.length ((swp L p q).flatMap Ent.cells)=rowL (.slice (some ⟨g,0,none⟩) l.length cap) (swp L p q) by rw[←hswl'.out]] at hC;clear hA;have hA:=hC;clear hC;obtain⟨hA,hF⟩:=fZ hA;go_wp2_with fail;go_roundg (gk - 1);case measure=>omega
    case rel=>exact⟨i + 1,by simp,by omega,by rw[hsw.out];exact hA.pick pZ⟩
  have hF:=hA.facts;obtain⟨hA,hF⟩:=fZ hA;go_wp2_with fail;go_end0
  have e:i=n:=by omega
  subst e;exact⟨rfl,hA.pick pZ⟩
end Sta
end
section
namespace Sta
open Go.RowKit
open Lock (Ent rowL)
theorem Zfm:∀(n:Nat) (X Y:List Ent),X.length=n→Y.length=n→∀(Q M R:List Ent) {a b:Nat},Q.length=a→a + n + M.length=b→swR (Q++(X++(M++(Y++R)))) a b n=Q++(Y++(M++(X++R)))
 |0,X,Y,hx,hy,Q,M,R,a,b,hq,hb=>by
  rw[List.eq_nil_of_length_eq_zero hx,List.eq_nil_of_length_eq_zero hy];rfl
 |n + 1,X,Y,hx,hy,Q,M,R,a,b,hq,hb=>by
  rcases List.eq_nil_or_concat X with rfl|⟨X',x,rfl⟩
  · simp at hx
  rcases List.eq_nil_or_concat Y with rfl|⟨Y',y,rfl⟩
  · simp at hy
  have hx':X'.length=n:=by simpa using hx
  have hy':Y'.length=n:=by simpa using hy
  have ih:=Zfm n X' Y' hx' hy' Q ([x]++M) ([y]++R) hq (b:=b) (by simp;omega);have e1:Q++((X'++[x])++(M++((Y'++[y])++R)))=Q++(X'++(([x]++M)++(Y'++([y]++R)))):=by simp
  unfold swR;rw[List.concat_eq_append,List.concat_eq_append,e1,ih];have e2:Q++(Y'++(([x]++M)++(X'++([y]++R))))=(Q++Y')++x::((M++X')++y::R):=by simp
  rw[e2,Zfk (a:=a + n) (b:=b + n) (Q++Y') (M++X') R x y (by simp;omega) (by simp;omega)];simp
def RoRel (w:World) (v:Value) (P X Y S:List Ent) (m:Nat) (k:Nat) (u10 u11:Value) (wr:World):Prop:=
 ∃(A X' Y' B:List Ent),u10=.int .i64 (X'.length:Nat)∧u11=.int .i64 (Y'.length:Nat)∧0 < X'.length∧0 < Y'.length∧X'.length + Y'.length=k∧(P++A).length + X'.length=m∧Y++X=A++(Y'++(X'++B))∧
  At [rowL v (P++(X++(Y++S)))] w [rowL v (P++(A++(X'++(Y'++(B++S)))))] wr
theorem ZnA {P A B S X1 X2 Y:List Ent} (h:X1.length=Y.length) {a b:Nat} (ha:(P++A).length=a) (hb:a + Y.length + X2.length=b):
 swR (P++(A++((X1++X2)++(Y++(B++S))))) a b Y.length=P++((A++Y)++(X2++(X1++(B++S)))):=by
 have:=Zfm Y.length X1 Y h rfl (P++A) X2 (B++S) ha hb
 simpa using this
theorem ZnB {P A B S X Y1 Y2:List Ent} (h:X.length=Y2.length) {a b:Nat} (ha:(P++A).length=a) (hb:a + X.length + Y1.length=b):
 swR (P++(A++(X++((Y1++Y2)++(B++S))))) a b X.length=P++(A++(Y2++(Y1++((X++B)++S)))):=by
 have:=Zfm X.length X Y2 rfl h.symm (P++A) Y1 (B++S) ha hb
 simpa using this
theorem ro_end {P A B S X Y:List Ent} (h:X.length=Y.length) {a b:Nat} (ha:(P++A).length=a) (hb:a + X.length=b):
 swR (P++(A++(X++(Y++(B++S))))) a b X.length=P++((A++(Y++(X++B)))++S):=by
 have:=Zfm X.length X Y rfl h.symm (P++A) [] (B++S) ha (b:=b) (by simpa using hb)
 simpa using this
theorem ZiP {w:World} {v:Value} {P X Y S:List Ent} (h:Sep [rowL v (P++(X++(Y++S)))] w) (a m b:Nat) (fv:Value) (ha:P.length=a) (hm:a + X.length=m) (hb:m + Y.length=b) (hx:0 < X.length) (hy:0 < Y.length) (hl:(P++(X++(Y++S))).length≤1000000):
 Calls Tryz.prog 144 #[v,.int .i64 a,.int .i64 m,.int .i64 b,fv] w fun e w'=>e=.returned (.tuple #[])∧At [rowL v (P++(X++(Y++S)))] w [rowL v (P++(Y++(X++S)))] w':=by
 have hA:=At.start h;clear h;have hlen:P.length + X.length + Y.length≤1000000:=by simp at hl;omega
 have hw1:IntKind.i64.wrap ((m:Int) - (a:Int))=(X.length:Int):=by rw[IntKind.wrap_i64]<;>omega
 have hw2:IntKind.i64.wrap ((b:Int) - (m:Int))=(Y.length:Int):=by rw[IntKind.wrap_i64]<;>omega
 obtain⟨hA,hF⟩:=fZ hA;go_enter Tryz.func144,Tryz.ntmps144;go_wp2_with fail;(try go_frame);clear hw1 hw2;have hl':=Hd hl;clear hl;go_loopg [10,11] (X.length + Y.length) (RoRel w v P X Y S m)
 case atStart=>exact⟨[],X,Y,[],rfl,rfl,hx,hy,rfl,by simp;omega,by simp,by simpa using hA⟩
 case round=>
  obtain⟨A,X',Y',B,rfl,rfl,hx',hy',hk,hmA,hYX,hB⟩:=hrel;replace hA:=hB;clear hF hB;have hYX':=Hd hYX
  have hll:(P++(A++(X'++(Y'++(B++S))))).length=(P++(X++(Y++S))).length:=by
   have e:=congrArg List.length hYX;simp only[List.length_append] at e ⊢;omega
  have hlm:(P++(A++(X'++(Y'++(B++S))))).length≤1000000:=by rw[hll];exact hl'.out
  have hmA':=Hd hmA
  have hcl:∀(p q n:Nat),p + n≤q→q + n≤m + Y'.length→∀w1,Sep [rowL v (P++(A++(X'++(Y'++(B++S)))))] w1→Calls Tryz.prog 163 #[v,.int .i64 p,.int .i64 q,.int .i64 n,fv] w1 fun e w'=>e=.returned (.tuple #[])∧At [rowL v (P++(A++(X'++(Y'++(B++S)))))] w1 [rowL v (swR (P++(A++(X'++(Y'++(B++S))))) p q n)] w':=
   fun p q n h1 h2 w1 hs=>Zfl hs p q n fv h1 (by simp only[List.length_append] at hmA ⊢;omega) hlm
  have hcl':=Hd hcl;have hbnd:m + Y'.length≤1000000:=by simp only[List.length_append] at hlm hmA;omega
  obtain⟨i,hi⟩:∃i,X'.length=i:=⟨_,rfl⟩
  obtain⟨j,hj⟩:∃j,Y'.length=j:=⟨_,rfl⟩
  obtain⟨p,hp⟩:∃p,p + i=m:=⟨(P++A).length,by omega⟩
  have hpA:=Hd (show(P++A).length=p by omega);rw[hi] at hx' hk ⊢;rw[hj] at hy' hk hbnd ⊢;have hi':=Hd hi;have hj':=Hd hj;have hw3:IntKind.i64.wrap ((m:Int) - (i:Int))=(p:Int):=by rw[IntKind.wrap_i64]<;>omega
  clear hll hlm hcl hYX hmA hi hj;by_cases hij:i=j
  · subst hij;have hne:((i:Int) != (i:Int))=false:=by simp
    obtain⟨hA,hF⟩:=fZ hA;go_wp2_with fail;refine(hcl'.out p m i (by omega) (by have:=hj'.out;omega) _ (hA.sep1 (A:=rowL v _) sZ)).mono ?_;rintro e w2 ⟨rfl,hT⟩;have hB:=hA.call1 (A:=rowL v _) sZ hT;clear hT;simp only[uA] at hB;have e2:=ro_end (B:=B) (S:=S) (hi'.out.trans hj'.out.symm) hpA.out (b:=m) (by rw[hi'.out];omega);rw[hi'.out] at e2;rw[e2,←hYX'.out] at hB;clear hF hA;go_wp2_with fail;go_end0
    exact⟨rfl,by simpa using hB⟩
  have hne:((i:Int) != (j:Int))=true:=by rw[bne_iff_ne];omega
  by_cases hgt:j < i
  · obtain⟨r,hr⟩:∃r,r + j=i:=⟨i - j,by omega⟩
    have hw4:IntKind.i64.wrap ((i:Int) - (j:Int))=(r:Int):=by rw[IntKind.wrap_i64]<;>omega
    have hcl2:=hcl'.out p m j (by omega) (by have:=hj'.out;omega)
    obtain⟨X1,X2,rfl,h1⟩:∃X1 X2,X'=X1++X2∧X1.length=j:=⟨X'.take j,X'.drop j,(List.take_append_drop j X').symm,by rw[List.length_take,hi'.out];omega⟩
    have h2:X2.length=r:=by have:=hi'.out;rw[List.length_append,h1] at this;omega
    have e2:=ZnA (X1:=X1) (X2:=X2) (B:=B) (S:=S) (h1.trans hj'.out.symm) hpA.out (b:=m) (by rw[hj'.out,h2];omega);rw[hj'.out] at e2;rw[e2] at hcl2;have hcl3:=Hd hcl2;have h1':=Hd h1;have h2':=Hd h2;clear hcl' hcl2 e2 h1 h2;obtain⟨hA,hF⟩:=fZ hA;go_wp2_with fail;refine(hcl3.out _ (hA.sep1 (A:=rowL v _) sZ)).mono ?_;rintro e w2 ⟨rfl,hT⟩;have hB:=hA.call1 (A:=rowL v _) sZ hT;clear hT;simp only[uA] at hB;clear hF hA;go_wp2_with fail;go_roundg (gk - j);case measure=>omega
    case rel=>
     refine⟨A++Y',X2,X1,B,by rw[h2'.out],by rw[h1'.out],by rw[h2'.out];omega,by rw[h1'.out];omega,by rw[h1'.out,h2'.out];omega,?_,by rw[hYX'.out];simp,hB⟩;have:=hpA.out;rw[←List.append_assoc,List.length_append,this,hj'.out,h2'.out]
     omega
  obtain⟨r,hr⟩:∃r,r + i=j:=⟨j - i,by omega⟩
  obtain⟨t,ht⟩:∃t,m + j=t:=⟨_,rfl⟩
  obtain⟨q,hq⟩:∃q,q + i=t:=⟨m + r,by omega⟩
  have hw4:IntKind.i64.wrap ((j:Int) - (i:Int))=(r:Int):=by rw[IntKind.wrap_i64]<;>omega
  have hw5:IntKind.i64.wrap ((m:Int) + (j:Int))=(t:Int):=by rw[IntKind.wrap_i64]<;>omega
  have hw6:IntKind.i64.wrap ((t:Int) - (i:Int))=(q:Int):=by rw[IntKind.wrap_i64]<;>omega
  have hcl2:=hcl'.out p q i (by omega) (by have:=hj'.out;omega)
  obtain⟨Y1,Y2,rfl,h1⟩:∃Y1 Y2,Y'=Y1++Y2∧Y1.length=r:=⟨Y'.take r,Y'.drop r,(List.take_append_drop r Y').symm,by rw[List.length_take,hj'.out];omega⟩
  have h2:Y2.length=i:=by have:=hj'.out;rw[List.length_append,h1] at this;omega
  have e2:=ZnB (Y1:=Y1) (Y2:=Y2) (B:=B) (S:=S) (hi'.out.trans h2.symm) hpA.out (b:=q) (by rw[hi'.out,h1];omega);rw[hi'.out] at e2;rw[e2] at hcl2;have hcl3:=Hd hcl2;have h1':=Hd h1;have h2':=Hd h2;clear hcl' hcl2 e2 h1 h2;obtain⟨hA,hF⟩:=fZ hA;go_wp2_with fail;refine(hcl3.out _ (hA.sep1 (A:=rowL v _) sZ)).mono ?_;rintro e w2 ⟨rfl,hT⟩;have hB:=hA.call1 (A:=rowL v _) sZ hT;clear hT;simp only[uA] at hB;clear hF hA;go_wp2_with fail;go_roundg (gk - i);case measure=>omega
  case rel=>
   refine⟨A,Y2,Y1,X'++B,by rw[h2'.out],by rw[h1'.out],by rw[h2'.out];omega,by rw[h1'.out];omega,by rw[h1'.out,h2'.out];omega,by rw[h2'.out,hpA.out];omega,by rw[hYX'.out];simp,hB⟩
end Sta
end
section
namespace Sta
open Go.RowKit
open Lock (Ent rowL)
def cmpT (x y:Ent):Int:=Go.Lib.compareInt x.stamp y.stamp
theorem ZfX (x y:Ent):decide (cmpT x y < 0)=decide (x.stamp < y.stamp):=by
 unfold cmpT Go.Lib.compareInt;by_cases h:x.stamp < y.stamp
 · simp[h]
 by_cases h2:y.stamp < x.stamp<;>simp[h,h2]
theorem ZdF (x y:Ent) (w:World):Calls Tryz.prog 37 #[x.val,y.val] w fun e w'=>e=.returned (.int .i64 (cmpT x y))∧Ext w w':=by
 have hA:At [] w [] w:=At.start (L0:=[]) trivial;have hF:=hA.facts;unfold cmpT;have hcc:=fun(w1:World)=>Tryz.cmp_Compare_int x.stamp y.stamp w1;generalize Go.Lib.compareInt x.stamp y.stamp=cs at *
 obtain⟨p1,n1,f1,m1,k1,s1⟩:=x;obtain⟨p2,n2,f2,m2,k2,s2⟩:=y;simp only[Ent.val] at *
 obtain⟨hA,hF⟩:=fZ hA;go_enter Tryz.func37,Tryz.ntmps37
 go_wp2_with (first|(((with_reducible refine gbxD 2 ?_);refine wHz 55 [.string p1,.int .u64 n1,.string f1,.int .i64 m1,.int .u64 k1,.int .i64 s1] hA ?_;clear hF hA;intro b2 w1 hA hb2 hF))|(((with_reducible refine gbxD 3 ?_);refine wHz 55 [.string p2,.int .u64 n2,.string f2,.int .i64 m2,.int .u64 k2,.int .i64 s2] hA ?_;clear hF hA;intro b3 w1 hA hb3 hF)))
 refine(hcc _).mono ?_;rintro e w1 ⟨rfl,hq⟩;subst hq;go_wp2_with fail;go_ret;exact⟨rfl,hA.toExt⟩
theorem ZhU (l:List Ent) (i j:Nat) (h:i≠j):swp l i j=swp l j i:=by
 unfold swp
 cases h1:l[i]? with
 |none=>cases l[j]? <;>rfl
 |some x=>cases h2:l[j]? with
  |none=>rfl
  |some y=>exact List.set_comm _ _ h
theorem Zdt {g n cap i:Nat} {l:List Ent} {x:Ent} (hx:l[i]? =some x):∀w',(rowL (.slice (some ⟨g,0,none⟩) n cap) l).holds w'→∀(k:Nat) u,x.cells[k]? =some u→w'.cell? ⟨g,i * 6 + k,none⟩=some u:=by
 intro w' h k u hk;obtain⟨ax,c,e,_,hq⟩:=ZbF h;cases e;have hk6:k < 6:=(List.getElem?_eq_some_iff.1 hk).1;obtain⟨b,off,e,hc⟩:=hq (i * 6 + k) u (by rw[Zbs Ent.cells 6 (fun _=>rfl) l i _ hx k hk6];exact hk);cases e;simpa using hc
section
variable {P:Program} {ops:Array Oper} {o:Oper} {a:Act} {L0 L F:List Part} {w0 w:World} {K:Act→Prop}
theorem quiet_held_at {ty:TypeId} {x:Operand} {b j:Nat} {vs:List Value} (hop:o.op=.load ty x) (hx:a.eval x=.pointer (some ⟨b,j,none⟩)) (hc:∀w',At L0 w0 L w'→∀(k:Nat) u,vs[k]? =some u→w'.cell? ⟨b,j + k,none⟩=some u)
 (hu:(P.underlying ty).map (·.isRow)=some true) (hi:(P.info? ty).map (·.size)=some vs.length) (hK:K (a.put o.dst (.agg vs.toArray))):o.quiet P a (Cl L0 w0 L) K:=Zb3 _ (fun w' hw=>by
 obtain⟨d,hu,hd⟩:=Option.map_eq_some_iff.1 hu
 simp[execOp,hop,hx,run_loadAt_mid w' b j ty vs d (hc w' hw) hu hd hi,Result.andThen]) hK
end
def stp (e:Ent):Int:=e.stamp
def InRel (w:World) (v:Value) (P D S0:List Ent) (l0:List Ent) (x:Ent) (k:Nat) (u:Value) (wr:World):Prop:=
 ∃(D1 D2:List Ent) (j:Nat),u=.int .i64 j∧P.length + D1.length=j∧D1.length=k∧(D1++D2).Perm D∧Srt stp (D1++D2)∧(∀y ∈ D2,x.stamp < y.stamp)∧At [rowL v l0] w [rowL v (P++(D1++(x::(D2++S0))))] wr
theorem Zn6 {P D1 D2 S0:List Ent} {x y:Ent} {j p:Nat} (hp:P.length + D1.length=p) (hj:p + 1=j):swp (P++((D1++[y])++(x::(D2++S0)))) j p=P++(D1++(x::((y::D2)++S0))):=by
 rw[ZhU _ _ _ (by omega)];have:=Zfk (P++D1) [] (D2++S0) y x (a:=p) (b:=j) (by simp;omega) (by simpa using hj);simpa using this
def IoRel (w:World) (v:Value) (P X S:List Ent) (k:Nat) (u:Value) (wr:World):Prop:=
 ∃(D R:List Ent) (i:Nat),u=.int .i64 i∧P.length + D.length=i∧0 < D.length∧R.length=k∧(D++R).Perm X∧Srt stp D∧At [rowL v (P++(X++S))] w [rowL v (P++(D++(R++S)))] wr
def InsP (w:World) (v:Value) (P X S:List Ent) (e:Ending) (w':World):Prop:=e=.returned (.tuple #[])∧∃Z:List Ent,Z.Perm X∧Srt stp Z∧At [rowL v (P++(X++S))] w [rowL v (P++(Z++S))] w'
theorem Zly {D1:List Ent} {y x:Ent} (h:Srt stp (D1++[y])) (hy:y.stamp≤x.stamp):∀z ∈ D1++[y],stp z≤stp x:=fun z hz=>by
 rcases List.mem_append.1 hz with hz|hz
 · have:=(ZaZ.1 h).2.2 z hz y (by simp)
   unfold stp at *
   omega
 rw[List.mem_singleton.1 hz];exact hy
theorem Zbz {w:World} {v:Value} {P X S:List Ent} (h:Sep [rowL v (P++(X++S))] w) (a b:Nat) (ha:P.length=a) (hb:a + X.length=b) (hl:(P++(X++S)).length≤1000000):
 Calls Tryz.prog 110 #[v,.int .i64 a,.int .i64 b,.func (.func 37) #[] #[]] w (InsP w v P X S):=by
 have hm:Tryz.prog.follows .mixedOrders=true:=by kernel_rfl
 have hA:=At.start h;clear h
 obtain⟨N,hN⟩:∃N,(P++(X++S)).length=N:=⟨_,rfl⟩
 obtain⟨ax,cap,hv,hax,hcp,_⟩:=hA.row_form (v:=v) (xs:=(P++(X++S)).flatMap Ent.cells) sZ;rw[hN] at hv hcp hl;subst hv;have hlen:P.length + X.length + S.length=N:=by rw[←hN];simp;omega
 have hlen':=Hd hlen;have hN':=Hd hN;clear hN hax;have hw0:IntKind.i64.wrap ((a:Int) + 1)=((a + 1:Nat):Int):=by rw[IntKind.wrap_i64]<;>omega
 by_cases hX:X.length=0
 · have hX0:X=[]:=List.eq_nil_of_length_eq_zero hX;subst hX0;have hlt:¬((a:Int) + 1 < b):=by simp at hb;omega
   obtain⟨hA,hF⟩:=fZ hA;go_enter Tryz.func110,Tryz.ntmps110;go_wp2_with fail;(try go_frame);refine wp_loop_rounds 1 ?_;rw[rounds_succ];go_wp2_with fail;go_end0
   exact⟨rfl,[],List.Perm.refl _,ZjF _,hA.pick pZ⟩
 obtain⟨x0,X',rfl⟩:∃x0 X',X=x0::X':=by
  cases X with
  |nil=>simp at hX
  |cons x X'=>exact⟨_,_,rfl⟩
 obtain⟨g,_,rfl,_,_,_,_,_⟩:=hA.row_open (e:=55) (size:=6) (ax:=ax) (cap:=cap) (n:=N) (xs:=(P++((x0::X')++S)).flatMap Ent.cells) (by rw[←hN'.out];exact Sel.here) (by simp at hlen;omega);obtain⟨hA,hF⟩:=fZ hA;go_enter Tryz.func110,Tryz.ntmps110;go_wp2_with fail;(try go_frame);clear hw0;go_loopg [8] X'.length (IoRel w (.slice (some ⟨g,0,none⟩) N cap) P (x0::X') S)
 case atStart=>exact⟨[x0],X',a + 1,rfl,by simp;omega,by simp,rfl,List.Perm.refl _,Znv _ _,hA.pick pZ⟩
 case round=>
  obtain⟨D,R,i,rfl,hDi,hD0,hRk,hpD,hsD,hB⟩:=hrel;replace hA:=hB;clear hF hB;have hcnt:=hpD.length_eq;simp only[List.length_append,List.length_cons] at hcnt hb hlen;have hpD':=Hd hpD;have hsD':=Hd hsD;clear hpD hsD
  cases R with
  |nil=>
   have hnb:¬((i:Int) < b):=by simp at hRk hcnt;omega
   obtain⟨hA,hF⟩:=fZ hA;go_wp2_with fail;go_end0
   exact⟨rfl,D,by simpa using hpD'.out,hsD'.out,hA.pick pZ⟩
  |cons x R'=>
   simp only[List.length_cons] at hcnt hRk;have hib:(i:Int) < b:=by omega
   have hpR:=Hd (show(D++(x::R')).Perm (x0::X') from hpD'.out);have hA0:=hA;obtain⟨hA,hF⟩:=fZ hA;go_wp2_with fail;(try go_frame)
   obtain⟨G,hG⟩:∃G,gk - 1=G:=⟨_,rfl⟩
   have hGk:=Hd (show G < gk∧R'.length=G by omega);clear hG hRk hF hA0;go_loopg [9] D.length (InRel w (.slice (some ⟨g,0,none⟩) N cap) P D (R'++S) (P++((x0::X')++S)) x)
   case atStart=>exact⟨D,[],i,rfl,hDi,rfl,by simp,by simpa using hsD'.out,nofun,by simpa using hA⟩
   case round=>
    obtain⟨D1,D2,j,rfl,hDj,hDk,hp2,hs2,hlo,hB⟩:=hrel;clear hA;have hA:=hB;clear hB;have hc2:=hp2.length_eq;simp only[List.length_append] at hc2;have hp2':=Hd hp2;have hs2':=Hd hs2;have hlo':=Hd hlo;clear hp2 hs2 hlo;rcases List.eq_nil_or_concat D1 with rfl|⟨D1,y,rfl⟩
    · have hja:¬(a < j):=by simp at hDj;omega
      have hpe:=Hd (show(([]++(x::D2))++R').Perm (x0::X') from((List.Perm.cons x (by simpa using hp2'.out)).append_right R').trans ((List.perm_middle (l₁:=D) (l₂:=R') (a:=x)).symm.trans hpR.out));have hse:=Hd (show Srt stp ([]++(x::D2)) from Zhj (ZjF _) (by simpa using hs2'.out) nofun (fun z hz=>Int.le_of_lt (hlo'.out z hz)));obtain⟨hA,hF⟩:=fZ hA;go_wp2_with fail;(try go_frame);refine cl0 hA ?_;clear hF hA;intro w1 hA hF;(try simp only[uZ] at hA hF);go_wp2_with fail;go_roundg G;case measure=>exact hGk.out.1
      case rel=>exact⟨[]++(x::D2),R',i + 1,by simp,by have:=hc2;simp at this hDi ⊢;omega,by simp<;>omega,hGk.out.2,hpe.out,hse.out,by simpa using hA⟩
    simp only[List.concat_eq_append] at hDj hDk hc2 hp2' hs2' hA ⊢
    obtain⟨p,hp⟩:∃p,P.length + D1.length=p:=⟨_,rfl⟩
    have hpj:p + 1=j:=by simp at hDj;omega
    have hlj:j < N:=by simp at hDj hc2;omega
    have hpN:p < N:=by omega
    have haj:a < j:=by omega
    have hD1k:D1.length + 1=gk:=by simpa using hDk
    obtain⟨L,hL⟩:∃L,P++((D1++[y])++(x::(D2++(R'++S))))=L:=⟨_,rfl⟩
    have hLl:L.length=N:=by rw[←hL];simp at hc2 ⊢;omega
    have hx:L[j]? =some x:=by
     rw[←hL,show P++((D1++[y])++(x::(D2++(R'++S))))=(P++(D1++[y]))++(x::(D2++(R'++S))) by simp,List.getElem?_append_right (by simp;omega)];rw[show j - (P++(D1++[y])).length=0 by simp;omega];rfl
    have hy:L[p]? =some y:=by
     rw[←hL,show P++((D1++[y])++(x::(D2++(R'++S))))=(P++D1)++(y::(x::(D2++(R'++S)))) by simp,List.getElem?_append_right (by simp;omega)];rw[show p - (P++D1).length=0 by simp;omega];rfl
    have hsw:=Hd (show swp L j p=P++(D1++(x::((y::D2)++(R'++S)))) by rw[←hL];exact Zn6 hp hpj);rw[hL] at hA;have hDp:=Hd hp;have hv0:=Hd (Zdt (g:=g) (n:=N) (cap:=cap) hx);have hv1:=Hd (Zdt (g:=g) (n:=N) (cap:=cap) hy);have hx':=Hd hx;have hy':=Hd hy;have hL':=Hd hL;have hLl':=Hd hLl;have hw1:IntKind.i64.wrap ((j:Int) - 1)=(p:Int):=by rw[IntKind.wrap_i64]<;>omega
    have hcm:=fun(w1:World)=>ZdF x y w1;have hlt:=ZfX x y;generalize cmpT x y=cv at *
    have hlt':=Hd hlt;have hcm':=Hd hcm;clear hx hy hL hLl hp hcm hlt;by_cases hd:cv < 0
    · have hxy:x.stamp < y.stamp:=by have:=hlt'.out;rw[decide_eq_true hd] at this;exact of_decide_eq_true this.symm
      have hperm:=Hd (show(D1++(y::D2)).Perm D by have:=hp2'.out;simpa using this);have hsrt:=Hd (show Srt stp (D1++(y::D2)) by have:=hs2'.out;simpa using this)
      have hlow:=Hd (show ∀z ∈ y::D2,x.stamp < z.stamp from fun z hz=>by
       rcases List.mem_cons.1 hz with rfl|hz
       · exact hxy
       exact hlo'.out z hz)
      clear hlt';obtain⟨hA,hF⟩:=fZ hA;go_wp2_with fail;(try go_frame);refine cl8 hA ?_;clear hF hA;intro w1 hA hF;(try simp only[uZ] at hA hF);rw[show rowL (.slice (some ⟨g,0,none⟩) N cap) L=Part.row 55 6 (.slice (some ⟨g,0,none⟩) N cap) N (L.flatMap Ent.cells) by rw[←hLl'.out]] at hA;obtain⟨g',c,e',_,hcm,hcl,hct,hB⟩:=hA.row_open (e:=55) (size:=6) (ax:=some ⟨g,0,none⟩) (cap:=cap) (n:=N) (xs:=L.flatMap Ent.cells) sZ (by omega);cases e';clear hA hv0 hv1;have hA:=hB;clear hB;rw[←hLl'.out] at hct;have hv0:=Zbe hct hx'.out;have hv1:=Zbe hct hy'.out;have hnew0:=Zcn hct hx'.out hy'.out;rw[hLl'.out] at hnew0;have hnew:=Hd hnew0;have hswl':=Hd (show(swp L j p).length=N by rw[ZcH];exact hLl'.out);clear hct hnew0;obtain⟨hA,hF⟩:=fZ hA;go_wp2_with fail;(try go_frame);replace hA:=hA.drew;clear hF;refine wp_region_held (S:=fun _=>True) hm ?_;change wpAnyH _ _ _ _ _ 18 _ _ (World.drew _);generalize World.drew _=wd at *
      refine tZ 0 37 (.slice (some ⟨g,0,none⟩) N cap) (r:=(fun w' hS=>by simp[execOp,go_sem,Act.eval,Act.put])) (s:=trivial) (h:= ?_);go_frame;refine tZ 1 38 (.int .i64 ((j:Nat):Int)) (r:=(fun w' hS=>by simp[execOp,go_sem,Act.eval,Act.put])) (s:=trivial) (h:= ?_);go_frame;refine tZ 2 39 (.slice (some ⟨g,0,none⟩) N cap) (r:=(fun w' hS=>by simp[execOp,go_sem,Act.eval,Act.put])) (s:=trivial) (h:= ?_);go_frame;refine tZ 3 40 (.int .i64 ((j:Nat):Int)) (r:=(fun w' hS=>by simp[execOp,go_sem,Act.eval,Act.put])) (s:=trivial) (h:= ?_);go_frame;refine tZ 4 41 (.int .i64 ((p:Nat):Int)) (r:=(fun w' hS=>by simp[execOp,go_sem,Act.eval,Act.put,hw1])) (s:=trivial) (h:= ?_);go_frame;refine tZ 5 42 (.slice (some ⟨g,0,none⟩) N cap) (r:=(fun w' hS=>by simp[execOp,go_sem,Act.eval,Act.put])) (s:=trivial) (h:= ?_);go_frame;refine tZ 6 43 (.int .i64 ((j:Nat):Int)) (r:=(fun w' hS=>by simp[execOp,go_sem,Act.eval,Act.put])) (s:=trivial) (h:= ?_);go_frame;refine tZ 7 44 (.int .i64 ((p:Nat):Int)) (r:=(fun w' hS=>by simp[execOp,go_sem,Act.eval,Act.put,hw1])) (s:=trivial) (h:= ?_);go_frame;refine tZ 8 45 (.pointer (some ⟨g,p * 6,none⟩)) (r:=(fun w' hS=>by simp[execOp,go_sem,Act.eval,Act.put];intro h;omega)) (s:=trivial) (h:= ?_);go_frame;refine tZ 10 47 (.slice (some ⟨g,0,none⟩) N cap) (r:=(fun w' hS=>by simp[execOp,go_sem,Act.eval,Act.put])) (s:=trivial) (h:= ?_);go_frame;refine tZ 11 48 (.int .i64 ((j:Nat):Int)) (r:=(fun w' hS=>by simp[execOp,go_sem,Act.eval,Act.put])) (s:=trivial) (h:= ?_);go_frame;refine tZ 12 49 (.pointer (some ⟨g,j * 6,none⟩)) (r:=(fun w' hS=>by simp[execOp,go_sem,Act.eval,Act.put];intro h;omega)) (s:=trivial) (h:= ?_);go_frame;refine ZaY (i:=9) (j:=13) (by kernel_rfl) ?_ ?_
      · refine Zak (i:=9) (d:=some 46) (n:=6) (b:=g) (j:=p * 6) (vs:=y.cells) rfl rfl (by kernel_rfl) rfl (by exact rfl) hA sZ (by kernel_rfl) (by kernel_rfl) hv1 rfl ?_;refine⟨trivial,?_⟩;go_frame;refine Zab (i:=13) (by kernel_rfl) ?_;refine Zak (i:=13) (d:=some 50) (n:=6) (b:=g) (j:=j * 6) (vs:=x.cells) rfl rfl (by kernel_rfl) rfl (by exact rfl) hA sZ (by kernel_rfl) (by kernel_rfl) hv0 rfl ?_;refine⟨trivial,?_⟩;go_frame;refine tZ 14 51 (.pointer (some ⟨g,j * 6,none⟩)) (r:=(fun w' hS=>by simp[execOp,go_sem,Act.eval,Act.put];intro h;omega)) (s:=trivial) (h:= ?_);go_frame;refine Zab (i:=15) (by kernel_rfl) ?_;refine Zaw (i:=15) (b:=g) (j:=j * 6) (vs:=y.cells) rfl rfl (by kernel_rfl) rfl (by exact rfl) (by exact rfl) rfl hA sZ (by kernel_rfl) (List.all_eq_true.2 (Ent.one _)) (by rw[Ent.cells_len,hcl];omega) ?_;intro w3 hB;clear hA;have hA:=hB;clear hB;refine⟨trivial,?_⟩;go_frame;refine tZ 16 52 (.pointer (some ⟨g,p * 6,none⟩)) (r:=(fun w' hS=>by simp[execOp,go_sem,Act.eval,Act.put];intro h;omega)) (s:=trivial) (h:= ?_);go_frame;refine Zab (i:=17) (by kernel_rfl) ?_;refine Zaw (i:=17) (b:=g) (j:=p * 6) (vs:=x.cells) rfl rfl (by kernel_rfl) rfl (by exact rfl) (by exact rfl) rfl hA sZ (by kernel_rfl) (List.all_eq_true.2 (Ent.one _)) (by rw[Ent.cells_len,Zaj,hcl];omega) ?_;intro w3 hB;clear hA;have hA:=hB;clear hB;refine⟨trivial,?_⟩;go_frame;refine wpAnyH_done (by kernel_rfl) ?_ _
        (try go_frame);clear hv0 hv1;have hC:=hA.row_shut (e:=55) (size:=6) (g:=g) (n:=N) (cap:=cap) (xs:=(swp L j p).flatMap Ent.cells) sZ (by rw[Zaj,Zaj,hcl]) hcp hcm hnew.out;rw[show Part.row 55 6 (.slice (some ⟨g,0,none⟩) N cap) N ((swp L j p).flatMap Ent.cells)=rowL (.slice (some ⟨g,0,none⟩) N cap) (swp L j p) by rw[←hswl'.out]] at hC;clear hA;have hA:=hC;clear hC;rw[hsw.out] at hA;obtain⟨hA,hF⟩:=fZ hA;go_wp2_with fail;go_roundg (gk - 1);case measure=>omega
        case rel=>exact⟨D1,y::D2,p,rfl,hDp.out,by omega,hperm.out,hsrt.out,hlow.out,hA.pick pZ⟩
      refine Zak (i:=13) (d:=some 50) (n:=6) (b:=g) (j:=j * 6) (vs:=x.cells) rfl rfl (by kernel_rfl) rfl (by exact rfl) hA sZ (by kernel_rfl) (by kernel_rfl) hv0 rfl ?_;refine⟨trivial,?_⟩;go_frame;refine Zab (i:=9) (by kernel_rfl) ?_;refine Zak (i:=9) (d:=some 46) (n:=6) (b:=g) (j:=p * 6) (vs:=y.cells) rfl rfl (by kernel_rfl) rfl (by exact rfl) hA sZ (by kernel_rfl) (by kernel_rfl) hv1 rfl ?_;refine⟨trivial,?_⟩;go_frame;refine tZ 14 51 (.pointer (some ⟨g,j * 6,none⟩)) (r:=(fun w' hS=>by simp[execOp,go_sem,Act.eval,Act.put];intro h;omega)) (s:=trivial) (h:= ?_);go_frame;refine Zab (i:=15) (by kernel_rfl) ?_;refine Zaw (i:=15) (b:=g) (j:=j * 6) (vs:=y.cells) rfl rfl (by kernel_rfl) rfl (by exact rfl) (by exact rfl) rfl hA sZ (by kernel_rfl) (List.all_eq_true.2 (Ent.one _)) (by rw[Ent.cells_len,hcl];omega) ?_;intro w3 hB;clear hA;have hA:=hB;clear hB;refine⟨trivial,?_⟩;go_frame;refine tZ 16 52 (.pointer (some ⟨g,p * 6,none⟩)) (r:=(fun w' hS=>by simp[execOp,go_sem,Act.eval,Act.put];intro h;omega)) (s:=trivial) (h:= ?_);go_frame;refine Zab (i:=17) (by kernel_rfl) ?_;refine Zaw (i:=17) (b:=g) (j:=p * 6) (vs:=x.cells) rfl rfl (by kernel_rfl) rfl (by exact rfl) (by exact rfl) rfl hA sZ (by kernel_rfl) (List.all_eq_true.2 (Ent.one _)) (by rw[Ent.cells_len,Zaj,hcl];omega) ?_;intro w3 hB;clear hA;have hA:=hB;clear hB;refine⟨trivial,?_⟩;go_frame;refine wpAnyH_done (by kernel_rfl) ?_ _
      (try go_frame);clear hv0 hv1;have hC:=hA.row_shut (e:=55) (size:=6) (g:=g) (n:=N) (cap:=cap) (xs:=(swp L j p).flatMap Ent.cells) sZ (by rw[Zaj,Zaj,hcl]) hcp hcm hnew.out;rw[show Part.row 55 6 (.slice (some ⟨g,0,none⟩) N cap) N ((swp L j p).flatMap Ent.cells)=rowL (.slice (some ⟨g,0,none⟩) N cap) (swp L j p) by rw[←hswl'.out]] at hC;clear hA;have hA:=hC;clear hC;rw[hsw.out] at hA;obtain⟨hA,hF⟩:=fZ hA;go_wp2_with fail;go_roundg (gk - 1);case measure=>omega
      case rel=>exact⟨D1,y::D2,p,rfl,hDp.out,by omega,hperm.out,hsrt.out,hlow.out,hA.pick pZ⟩
    have hxy:y.stamp≤x.stamp:=by have:=hlt'.out;rw[decide_eq_false hd] at this;have:=of_decide_eq_false this.symm;omega
    have hs3:=ZaZ.1 hs2'.out;have hpe:=Hd (show(((D1++[y])++(x::D2))++R').Perm (x0::X') from((List.perm_middle.trans (List.Perm.cons x hp2'.out)).append_right R').trans ((List.perm_middle (l₁:=D) (l₂:=R') (a:=x)).symm.trans hpR.out));have hse:=Hd (show Srt stp ((D1++[y])++(x::D2)) from Zhj hs3.1 hs3.2.1 (Zly hs3.1 hxy) (fun z hz=>Int.le_of_lt (hlo'.out z hz)));clear hlt' hs3;obtain⟨hA,hF⟩:=fZ hA;go_wp2_with fail;(try go_frame);refine cl8 hA ?_;clear hF hA;intro w1 hA hF;(try simp only[uZ] at hA hF);rw[←hL'.out] at hA;go_wp2_with fail;go_roundg G;case measure=>exact hGk.out.1
    case rel=>exact⟨(D1++[y])++(x::D2),R',i + 1,by simp,by have:=hc2;simp at this hDi ⊢;omega,by simp<;>omega,hGk.out.2,hpe.out,hse.out,by simpa using hA⟩
end Sta
end
end Go.Proofs.YtknoefbcmomalaaGreatDoor
