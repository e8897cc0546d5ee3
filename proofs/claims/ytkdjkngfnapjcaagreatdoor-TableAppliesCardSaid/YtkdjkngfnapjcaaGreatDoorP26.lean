/- TabEe, joined. -/
import Derived.Test.YtkdjkngfnapjcaaGreatDoorP21
import Derived.Test.YtkdjkngfnapjcaaGreatDoorP23
import Derived.Test.YtkdjkngfnapjcaaGreatDoorP25
import Derived.Test.YtkdjkngfnapjcaaGreatDoorP16
set_option linter.unusedSimpArgs false
set_option linter.unusedVariables false
set_option maxRecDepth 100000
set_option maxHeartbeats 16000000
namespace Go.Proofs.YtkdjkngfnapjcaaGreatDoor
section
namespace Tab
open Go.RowKit
open Path (bl Zad overB Zam)
open Lease (Ses Ans fresh ZaP SR AR arP rowR poolP Rel RelS findR okA)
open Lock (S3 Ent rowE rowC)
open Cmd (Cm Zao)
attribute [-go_sem] run_eql_struct run_neq_struct run_eqGuard_agg
theorem Zoq {t:TS} (h:Ab t):Lock.Feet t.L:=fun e he=>by
 have h1:=h e he;rw[Path.ZdO] at h1;simp only[Bool.and_eq_true] at h1;have h2:=h1.1.1;unfold Path.Zad at h2;simp only[Bool.and_eq_true,decide_eq_true_eq] at h2
 have h3:(bl e.foot).length=e.foot.size:=by unfold Path.bl;exact Array.length_toList
 omega
theorem TPost.q {P:Program} {f:FuncId} {args:Array Value} {t p m:Nat} {ss:List Ses} {b:Lock.Bk} {w:World} {T:TS} {x1 x2:Int} {x3:Bool} (h:Calls P f args w (TPost t p m ss b w T ⟨x1,x2,x3⟩)):Calls P f args w fun e w'=>∃u,e=.returned u∧∃(ss':List Ses) (b':Lock.Bk),u=.agg #[.int .i64 x1,.int .u64 x2,.bool x3]∧TRel ss' b' T∧At [TabP t p m ss b] w [TabP t p m ss' b'] w':=
 h.mono fun e w' ⟨ss',b',he,hR,hT⟩=>⟨_,he,ss',b',rfl,hR,hT⟩
theorem ZmF {R:Part} {w:World} (h:Sep [R] w) (first:Int):Calls Tryz.prog 30 #[.int .u64 first] w fun e w'=>e=.returned (.agg #[.slice none 0 0,.int .u64 first,.slice none 0 0,.slice none 0 0])∧At [R] w [R] w':=by
 have hA:=At.start h;clear h;obtain⟨hA,hF⟩:=fZ hA
 go_enter Tryz.func30,Tryz.ntmps30
 go_wp2_with (first|(((with_reducible show wpList _ _ _ ({dst:=some 2,op:=Op.alloc _,type:=_,pos:=_,after:=_,guard:=_}::_) _ _));((with_reducible refine gal ?_);refine g3 hA ?_;clear hF hA;intro bT w1 hA hbT hF))|(((with_reducible show wpList _ _ _ ({dst:=some 3,op:=Op.alloc _,type:=_,pos:=_,after:=_,guard:=_}::_) _ _));((with_reducible refine gal ?_);refine g3 hA ?_;clear hF hA;intro bU w1 hA hbU hF))|((with_reducible refine gst ?_);refine wTz hA ?_;clear hF hA;intro w1 hA hF))
 refine bodyPost_ret (v:=.agg #[.slice none 0 0,.int .u64 first,.slice none 0 0,.slice none 0 0]) (by simp[results,Tryz.results30,go_sem,hF]) rfl ⟨rfl,hA.pick pZ⟩
theorem told_any {R:Part} {w:World} (h:Sep [R] w) (xe xn:Int) (xg:Bool) (r:Int):Calls Tryz.prog 44 #[.agg #[.int .i64 xe,.int .u64 xn,.bool xg],.agg #[.int .u64 r,.int .i64 xe,.int .u64 xn,.bool xg]] w fun e w'=>e=.returned (.bool true)∧At [R] w [R] w':=by
 have hA:=At.start h;clear h;obtain⟨hA,hF⟩:=fZ hA
 go_enter Tryz.func44,Tryz.ntmps44
 go_wp2_with (first|(((with_reducible show wpList _ _ _ ({dst:=some 2,op:=Op.box _ _,type:=_,pos:=_,after:=_,guard:=_}::_) _ _));((with_reducible refine gbx ?_);refine wHz 107 [.int .i64 xe,.int .u64 xn,.bool xg] hA ?_;clear hF hA;intro b2 w1 hA hb2 hF))|(((with_reducible show wpList _ _ _ ({dst:=some 3,op:=Op.box _ _,type:=_,pos:=_,after:=_,guard:=_}::_) _ _));((with_reducible refine gbx ?_);refine wHz 90 [.int .u64 r,.int .i64 xe,.int .u64 xn,.bool xg] hA ?_;clear hF hA;intro b3 w1 hA hb3 hF)))
 go_ret;exact⟨by simp,hA.pick pZ⟩
def nilV:Value:=.slice none 0 0
def D0:DS:=⟨nilV,[],[(nilV,[])],nilV,[(nilV,[])],nilV,[(nilV,[])]⟩
theorem d0_in (first:Int):DIn ⟨[],⟨first,[],[]⟩⟩ D0:=
 ⟨⟨Lease.Rel.nil,nofun,List.mem_singleton.2 rfl,nofun⟩,List.mem_singleton.2 rfl,List.mem_singleton.2 rfl⟩
theorem d0_at {L0 L:List Part} {w0 w:World} (h:At L0 w0 L w):At L0 w0 (D0.parts++L) w:=by
 have h1:=(Lock.Ziz h).to (Eqv.all [rowC (.slice none 0 0) []] L).symm;have h2:=(Lock.ZfO h1).to (Eqv.all [rowE (.slice none 0 0) []] _).symm;have h3:=(Lease.ZfP h2).to (Eqv.all [Lease.rowA (.slice none 0 0) []] _).symm;exact Lease.ZcZ h3
theorem Zn3 {T0:TS} {k:Nat} (h0:Good T0 k) (hs:SAll T0.S) {l:List Cm} (hok:∀c ∈ l,CmIn c):Good (playT T0 l) (k + l.length)∧SAll (playT T0 l).S:=
 ⟨h0.play fun x hx=>(hok x hx).ok,Zmq (fun x hx=>⟨(hok x hx).ok,(hok x hx).r0,(hok x hx).r1⟩) h0 hs⟩
theorem Zjp (T0:TS):∀l:List Cm,(playT T0 l).L.first=T0.L.first:=fun l=>by
 refine ZlY (P:=fun l=>(playT T0 l).L.first=T0.L.first) rfl (fun l x h=> ?_) l;rw[Zdk,Zii,h]
theorem ok_ar {T:TS} {k:Nat} (hi:Lock.Inv T.L k) (hs:SAll T.S) (c:Cm):okA (arA c.req (doT T c).2):=⟨(Zk9 hi hs c).1.e,(Zk9 hi hs c).1.n⟩
theorem Zb5 {L0 L F:List Part} {w0 w:World} {E:TypeId} {size n:Nat} {v:Value} {xs:List Value} (h:At L0 w0 L w) (s:Sel (Part.row E size v n xs) L F):∃ax cap,v=.slice ax n cap:=by
 obtain⟨ax,cap,e,_⟩:=h.row_form s;exact⟨ax,cap,e⟩
def AQ (first:Int) (w:World) (P0:List Part) (T:TS) (xe xn:Int) (xg:Bool) (u:Value) (w':World):Prop:=
 ∃(sx:Option Addr) (sc:Nat) (ex:Option Addr) (ec:Nat) (cx:Option Addr) (cn cc:Nat) (L:List SR) (PL:List (Value × List AR)) (QE:PE) (QC:PC) (r:Int),
  u=.tuple #[.agg #[.slice sx L.length sc,.int .u64 first,.slice ex T.L.es.length ec,.slice cx cn cc],.agg #[.int .u64 r,.int .i64 xe,.int .u64 xn,.bool xg]]∧DIn T ⟨.slice sx L.length sc,L,PL,.slice ex T.L.es.length ec,QE,.slice cx cn cc,QC⟩∧At P0 w [rowR (.slice sx L.length sc) L,poolP PL,poolE QE,poolC QC] w'
theorem ZoB {first:Int} {w:World} {D:DS} {T:TS} {xe xn:Int} {xg:Bool} {f:FuncId} {args:Array Value} (h:Calls Tryz.prog f args w (APost first w D T ⟨xe,xn,xg⟩)):Calls Tryz.prog f args w fun e w'=>∃u,e=.returned u∧AQ first w D.parts T xe xn xg u w':=by
 refine h.mono ?_;rintro e w1 ⟨⟨vS,L,PL,vE,QE,vC,QC⟩,⟨r,ye,yn,yg⟩,he,ha,hD,_,hT⟩;cases ha;have hT:At D.parts w [rowR vS L,poolP PL,poolE QE,poolC QC] w1:=hT;obtain⟨_,_,⟨cx,cn,cc,z3⟩⟩:=ZbH (D:=⟨vS,L,PL,vE,QE,vC,QC⟩) hT hD;obtain⟨RE,hRE⟩:=outE hD.le;obtain⟨sx,sc,rfl⟩:=Zb5 hT .here;obtain⟨ex,ec,rfl⟩:=Zb5 ((hT.pick (K:=[poolE QE]) pR).to (hRE [])) .here;simp only at z3;subst z3;exact⟨_,he,sx,sc,ex,ec,cx,cn,cc,L,PL,QE,QC,r,rfl,hD,hT⟩
section
variable {w:World} {t p m:Nat} {ss:List Ses} {b:Lock.Bk} (h:Sep [TabP t p m ss b] w)
include h
theorem ZlP {k:Nat} (hi:Lock.Inv b.st k) (hk:k≤1000000) {N:Nat} (hN:b.es.length=N):
 Calls Tryz.prog 46 #[.pointer (some ⟨b.p,0,none⟩)] w fun e w'=>∃u,e=.returned u∧∃(ax:Option Addr) (cap:Nat),u=.slice ax N cap∧At [TabP t p m ss b] w [TabP t p m ss b] w':=by
 refine(ZjZ h hi hk).mono ?_;rintro e w1 ⟨v,l,rfl,hp,hT⟩;obtain⟨ax,cap,rfl⟩:=Zb5 hT .here;exact⟨_,rfl,ax,cap,by rw[hp.length_eq,hN],hT.pick pR⟩
theorem ZjX (hm:ss.length≤1000000) {N:Nat} (hN:ss.length=N):
 Calls Tryz.prog 48 #[.pointer (some ⟨p,0,none⟩)] w fun e w'=>∃u,e=.returned u∧∃(ax:Option Addr) (cap:Nat),u=.slice ax N cap∧At [TabP t p m ss b] w [TabP t p m ss b] w':=by
 have hA:=ZaX h;refine(Lease.ZdE (hA.sep1 (A:=Lease.BookP p m ss) sZ) hm).mono ?_;rintro e w1 ⟨v,rfl,hT⟩;have hB:=hA.call1 (A:=Lease.BookP p m ss) sZ hT;simp only[uA] at hB;obtain⟨ax,cap,rfl⟩:=Zb5 hB .here
 have e1:(Sess.sortS (Lease.Zc5 ss)).length=N:=by
  unfold Sess.sortS Lease.Zc5;rw[List.length_mergeSort,List.length_map,hN]
 exact⟨_,rfl,ax,cap,by rw[e1],(Zcd (ss:=ss) hB sZ sZ sZ).pick pZ⟩
theorem Zjd {k:Nat} (hi:Lock.Inv b.st k) {e:Ent} (hp:e.path.size≤1000) (h0:0≤e.num) (h1:e.num < Lock.big64) (hf:e.foot.size≤maxLen):
 Calls Tryz.prog 51 #[.pointer (some ⟨b.p,0,none⟩),e.val] w fun o w'=>o=.returned (.bool (Lock.Zc8 b.es e))∧At [TabP t p m ss b] w [TabP t p m ss b] w':=by
 have hA:=ZaX h;refine(Lock.Zh3 (hA.sep1 (A:=Lock.BookP b) sZ) (Nat.le_trans hp (by omega)) h0 h1 hf (fun x hx=>Nat.le_trans (hi.path x hx) (by omega))).mono ?_;rintro o w1 ⟨rfl,hT⟩;have hB:=hA.call1 (A:=Lock.BookP b) sZ hT;simp only[uA] at hB;exact⟨rfl,Zav (hB.pick pZ)⟩
theorem Zjc {L:List SR} (hL:Rel ss L) {x:SR} (hx:x ∈ L) (h0:0≤x.num) (h1:x.num < Lease.big64) (hf:x.foot.size≤maxLen):
 Calls Tryz.prog 49 #[.pointer (some ⟨p,0,none⟩),.agg #[.int .u64 x.num,.string x.foot]] w fun e w'=>e=.returned (.agg #[.bool x.op,.bool x.dead,.int .i64 x.dl,.int .i64 x.ttl,.int .i64 x.told.length])∧At [TabP t p m ss b] w [TabP t p m ss b] w':=by
 have hA:=ZaX h;refine(Lease.Zg1 (hA.sep1 (A:=Lease.BookP p m ss) sZ) h0 h1 hf (hL.mine hx)).mono ?_;rintro e w1 ⟨rfl,hT⟩;have hB:=hA.call1 (A:=Lease.BookP p m ss) sZ hT;simp only[uA] at hB;exact⟨rfl,Zav (hB.pick pZ)⟩
end
theorem ZmX {es:List Ent} (hk:es.Pairwise (fun a b=>¬(a.path=b.path∧a.num=b.num∧a.foot=b.foot))) {e:Ent} (he:e ∈ es):Lock.find es e.path e.num e.foot=some e:=by
 unfold Lock.find
 induction es with
 |nil=>cases he
 |cons x es ih=>
  rw[List.pairwise_cons] at hk;rw[List.find?_cons]
  rcases List.mem_cons.1 he with rfl|he
  · have:e.is e.path e.num e.foot=true:=by simp[Lock.Ent.is]
    rw[this]
  have:x.is e.path e.num e.foot=false:=by
   have:=hk.1 e he;simp[Lock.Ent.is];intro q1 q2 q3;exact this ⟨q1,q2,q3⟩
  rw[this];exact ih hk.2 he
theorem Zok (op:BinOp) (x y:Operand) (a b:Bool) (c d e:Int) (w:World):(eqGuard op 121 x y (.agg #[.bool a,.bool b,.int .i64 c,.int .i64 d,.int .i64 e]) (.agg #[.bool a,.bool b,.int .i64 c,.int .i64 d,.int .i64 e])).run Tryz.prog w=.ok () w:=run_eqGuard_agg _ _ _ _ _ _ _ (by kernel_rfl)
theorem sameIn (a b:Bool) (c d e:Int) (w:World):(Op.equalIn 10000 121 (.agg #[.bool a,.bool b,.int .i64 c,.int .i64 d,.int .i64 e]) (.agg #[.bool a,.bool b,.int .i64 c,.int .i64 d,.int .i64 e])).run Tryz.prog w=.ok true w:=by
 rw[run_equalIn_agg _ 9999 _ _ _ (by kernel_rfl) (by kernel_rfl)];simp[go_sem,Op.eqFields]
theorem neqIn (a b:Bool) (c d e:Int) (w:World):(binOp .neq 121 (.agg #[.bool a,.bool b,.int .i64 c,.int .i64 d,.int .i64 e]) (.agg #[.bool a,.bool b,.int .i64 c,.int .i64 d,.int .i64 e])).run Tryz.prog w=.ok (.bool false) w:=by
 rw[run_neq_struct,sameIn];rfl
end Tab
end
end Go.Proofs.YtkdjkngfnapjcaaGreatDoor
