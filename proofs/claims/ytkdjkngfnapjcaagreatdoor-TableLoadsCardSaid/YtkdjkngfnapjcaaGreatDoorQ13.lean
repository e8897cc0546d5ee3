/- WinE, LockS, WinF, WinB, WinC, joined. -/
import Derived.Test.YtkdjkngfnapjcaaGreatDoorQ4
import Derived.Test.YtkdjkngfnapjcaaGreatDoorQ10
import Derived.Test.YtkdjkngfnapjcaaGreatDoorQ12
import Derived.Test.YtkdjkngfnapjcaaGreatDoorQ9
import Derived.Laws.Bits64b
import Derived.Laws.BitsAllLaws
import Derived.Laws.IdiomStrings
set_option linter.unusedSimpArgs false
set_option linter.unusedVariables false
set_option maxRecDepth 100000
set_option maxHeartbeats 16000000
namespace Go.Proofs.YtkdjkngfnapjcaaGreatDoor
section
namespace Wire
open Go.RowKit
open Lease (SR AR encA encS encL wrN bB keyR ltR)
open _root_.Go.Proofs.YtkdjkngfnapjcaaGreatDoor.Sess (ltS cmpS cbS Zf7 Zbn)
open Lock (Ent encE encC encB)
def ansV (s:InS):AR:=⟨(s.shortV 18446744073709551615:Nat),((s.shortS 18446744073709551615).shortV 1048576:Nat),(((s.shortS 18446744073709551615).shortS 1048576).fixV:Nat),(((s.shortS 18446744073709551615).shortS 1048576).takeS 8).truthV⟩
def ansS (s:InS):InS:=(((s.shortS 18446744073709551615).shortS 1048576).takeS 8).truthS
theorem ZfV (s:InS):Goes s (ansS s):=(((Zas s _).trans (Zas _ _)).trans (ZaL _ 8)).trans (Zbv _)
theorem Zh7 {k:Nat} (h:k < 18446744073709551616):wrN (k:Int)=k:=by unfold wrN;omega
theorem ans_ok {s:InS} (hb:Byt s.b) (h:(ansS s).e=0):s.b=encA (ansV s)++(ansS s).b∧(ansV s).r < 18446744073709551616∧0≤(ansV s).r∧0≤(ansV s).e∧(ansV s).e≤1048576∧0≤(ansV s).n∧(ansV s).n < 18446744073709551616:=by
 unfold ansS at h;have g1:=Zas s 18446744073709551615;have g2:=Zas (s.shortS 18446744073709551615) 1048576;have g3:=ZaL ((s.shortS 18446744073709551615).shortS 1048576) 8;have g4:=Zbv (((s.shortS 18446744073709551615).shortS 1048576).takeS 8);have h3:=g4.ok h;have h2:=g3.ok h3;have h1:=g2.ok h2;have b1:=g1.byt hb;have b2:=g2.byt b1;have b3:=g3.byt b2;obtain⟨e1,l1,m1⟩:=Zbd hb h1;obtain⟨e2,l2,m2⟩:=Zbd b1 h2;obtain⟨e3,l3⟩:=ZgS b2 h3;have e4:=Zfn b3 h;refine⟨?_,by unfold ansV;simp only;omega,by unfold ansV;simp only;omega,by unfold ansV;simp only;omega,by unfold ansV;simp only;omega,by unfold ansV;simp only;omega,by unfold ansV;simp only;omega⟩;unfold ansS encA ansV bB;simp only[Int.toNat_natCast];rw[Zh7 m2]
 calc s.b=_:=e1
  _=_:=by rw[e2,e3,e4];simp only[List.append_assoc]
def ansD:Nat→Option Int→InS→List AR × InS
 |0,_,s=>([],s)
 |n + 1,last,s=>
  let s5:=if last.any (fun q=>decide ((ansV s).r≤q)) then(ansS s).fail 10 else ansS s
  if s5.e≠0 then([],s5) else((ansV s)::(ansD n (some (ansV s).r) s5).1,(ansD n (some (ansV s).r) s5).2)
theorem Zk9:∀(n:Nat) (last:Option Int) (s:InS),Byt s.b→(ansD n last s).2.e=0→(ansD n last s).1.length=n∧s.b=(ansD n last s).1.flatMap encA++(ansD n last s).2.b∧Byt (ansD n last s).2.b∧s.e=0∧(ansD n last s).2.b.length≤s.b.length∧
 (ansD n last s).1.Pairwise (fun a b=>a.r < b.r)∧(∀q,last=some q→∀a ∈ (ansD n last s).1,q < a.r)∧(∀a ∈ (ansD n last s).1,0≤a.r∧a.r < 18446744073709551616∧0≤a.e∧a.e≤1048576∧0≤a.n∧a.n < 18446744073709551616)
 |0,last,s,hb,h=>⟨rfl,rfl,hb,h,Nat.le_refl _,List.Pairwise.nil,fun _ _ _ h=>by simp[ansD] at h,fun _ h=>by simp[ansD] at h⟩
 |n + 1,last,s,hb,h=>by
  unfold ansD at h ⊢;simp only at h ⊢
  by_cases hl:last.any (fun q=>decide ((ansV s).r≤q))=true
  · rw[if_pos hl,if_pos (Zbj (by decide))] at h
    exact absurd h (Zbj (by decide))
  rw[if_neg hl] at h ⊢
  by_cases he:(ansS s).e≠0
  · rw[if_pos he] at h
    exact absurd h he
  rw[if_neg he] at h ⊢;simp only at h ⊢
  have he0:(ansS s).e=0:=by omega
  obtain⟨e1,f1,f2,f3,f4,f5,f6⟩:=ans_ok hb he0;have gg:=ZfV s;obtain⟨i1,i2,i3,i4,i5,i6,i7,i8⟩:=Zk9 n (some (ansV s).r) (ansS s) (gg.byt hb) h;refine⟨by rw[List.length_cons,i1],?_,i3,gg.ok he0,Nat.le_trans i5 gg.len,List.pairwise_cons.2 ⟨i7 _ rfl,i6⟩,?_,?_⟩
  · rw[List.flatMap_cons,List.append_assoc,←i2];exact e1
  · intro q hq a ha
    subst hq
    have hq2:q < (ansV s).r:=by simpa using hl
    rcases List.mem_cons.1 ha with rfl|ha
    · exact hq2
    exact Int.lt_trans hq2 (i7 _ rfl a ha)
  intro a ha
  rcases List.mem_cons.1 ha with rfl|ha
  · exact⟨f2,f1,f3,f4,f5,f6⟩
  exact i8 a ha
def badI (op dead:Bool) (dl ttl:Nat):Bool:=(op&&dead) || (!op&&(dl != 0 || ttl != 0))
def s1 (s:InS):InS:=(s.takeS 8).textS 64
def s2 (s:InS):InS:=(s1 s).truthS
def s3 (s:InS):InS:=(s2 s).truthS
def s4 (s:InS):InS:=(s3 s).shortS 2199023255552
def s5 (s:InS):InS:=(s4 s).shortS 2199023255552
def s6 (s:InS):InS:=if badI (s1 s).truthV (s2 s).truthV ((s3 s).shortV 2199023255552) ((s4 s).shortV 2199023255552) then(s5 s).fail 10 else s5 s
def s7 (s:InS):InS:=(s6 s).shortS 256
def sesV (s:InS):SR:=⟨(s.fixV:Nat),(s.takeS 8).textV 64,(s1 s).truthV,(s2 s).truthV,((s3 s).shortV 2199023255552:Nat),((s4 s).shortV 2199023255552:Nat),none,0,(ansD ((s6 s).shortV 256) none (s7 s)).1⟩
def sesS (s:InS):InS:=(ansD ((s6 s).shortV 256) none (s7 s)).2
theorem ses_ok {s:InS} (hb:Byt s.b) (h:(sesS s).e=0):s.b=encS (sesV s)++(sesS s).b∧Byt (sesS s).b∧s.e=0∧(sesS s).b.length < s.b.length∧
 0≤(sesV s).num∧(sesV s).num < 18446744073709551616∧(sesV s).foot.size≤64∧0≤(sesV s).dl∧(sesV s).dl≤2199023255552∧0≤(sesV s).ttl∧(sesV s).ttl≤2199023255552∧(sesV s).told.length≤256∧
 (sesV s).told.Pairwise (fun a b=>a.r < b.r)∧(∀a ∈ (sesV s).told,0≤a.r∧a.r < 18446744073709551616∧0≤a.e∧a.e≤1048576∧0≤a.n∧a.n < 18446744073709551616)∧badI (sesV s).op (sesV s).dead (sesV s).dl.toNat (sesV s).ttl.toNat=false:=by
 have ga:=ZaL s 8;have gb:=Zcj (s.takeS 8) 64;have gc:=Zbv (s1 s);have gd:=Zbv (s2 s);have ge:=Zas (s3 s) 2199023255552;have gf:=Zas (s4 s) 2199023255552
 have gg:Goes (s5 s) (s6 s):=by unfold s6;split;exact ZbU _ (by decide);exact Goes.refl _
 have gh:=Zas (s6 s) 256;have ba:=ga.byt hb;have bb:=gb.byt ba;have bc:=gc.byt bb;have bd:=gd.byt bc;have be:=ge.byt bd;have bf:=gf.byt be;have bg:=gg.byt bf;have bh:=gh.byt bg;obtain⟨i1,i2,i3,i4,i5,i6,_,i8⟩:=Zk9 _ none (s7 s) bh h;have h6:(s6 s).e=0:=gh.ok i4;have h5:(s5 s).e=0:=gg.ok h6;have h4:(s4 s).e=0:=gf.ok h5;have h3:(s3 s).e=0:=ge.ok h4;have h2:(s2 s).e=0:=gd.ok h3;have h1:(s1 s).e=0:=gc.ok h2;have ha:(s.takeS 8).e=0:=gb.ok h1
 have hbad:badI (s1 s).truthV (s2 s).truthV ((s3 s).shortV 2199023255552) ((s4 s).shortV 2199023255552)=false:=by
  cases q:badI (s1 s).truthV (s2 s).truthV ((s3 s).shortV 2199023255552) ((s4 s).shortV 2199023255552) with
  |false=>rfl
  |true=>
   unfold s6 at h6;rw[if_pos q] at h6;exact absurd h6 (Zbj (by decide))
 have h65:s6 s=s5 s:=by unfold s6;rw[if_neg (by rw[hbad];decide)]
 obtain⟨e1,l1⟩:=ZgS hb ha;obtain⟨e2,l2⟩:=Zfr ba h1;have e2:(s.takeS 8).b=textB ((s.takeS 8).textV 64)++(s1 s).b:=e2;have e3:(s1 s).b=[if(s1 s).truthV then 1 else 0]++(s2 s).b:=Zfn bb h2;have e4:(s2 s).b=[if(s2 s).truthV then 1 else 0]++(s3 s).b:=Zfn bc h3;obtain⟨e5,l5,_⟩:=Zbd (s:=s3 s) bd h4;obtain⟨e6,l6,_⟩:=Zbd (s:=s4 s) be h5;obtain⟨e7,l7,_⟩:=Zbd (s:=s6 s) bg i4;have e5:(s3 s).b=Zaf ((s3 s).shortV 2199023255552)++(s4 s).b:=e5;have e6:(s4 s).b=Zaf ((s4 s).shortV 2199023255552)++(s5 s).b:=e6;have e7:(s6 s).b=Zaf ((s6 s).shortV 256)++(s7 s).b:=e7;refine⟨?_,i3,ga.ok ha,?_,by unfold sesV;simp only;omega,by unfold sesV;simp only;omega,l2,by unfold sesV;simp only;omega,by unfold sesV;simp only;omega,by unfold sesV;simp only;omega,by unfold sesV;simp only;omega,by show(ansD _ none (s7 s)).1.length≤256;rw[i1];exact l7,i6,i8,hbad⟩
 · unfold sesS encS sesV bB
   simp only[Int.toNat_natCast];rw[i1]
   calc s.b=_:=e1
    _=_:=by
     rw[e2,e3,e4,e5,e6,←h65,e7,i2];simp only[List.append_assoc]
 have k1:(s.takeS 8).b.length + 8=s.b.length:=by
  obtain⟨o,_,_,q⟩:=ZdZ ha;rw[q,List.length_drop];have:=o.2
  omega
 have:=gb.len;have:=gc.len;have:=gd.len;have:=ge.len;have:=gf.len;have:=gg.len;have:=gh.len
 unfold sesS s7 s6 s5 s4 s3 s2 s1 at *
 omega
def bookD:Nat→Option (Int × ByteArray)→InS→List SR × InS
 |0,_,s=>([],s)
 |n + 1,last,s=>
  let t:=if last.any (fun q=>decide (0≤cmpS q (keyR (sesV s)))) then(sesS s).fail 10 else sesS s
  if t.e≠0 then([],t) else((sesV s)::(bookD n (some (keyR (sesV s))) t).1,(bookD n (some (keyR (sesV s))) t).2)
structure SrOk (x:SR):Prop where
 num:0≤x.num∧x.num < 18446744073709551616
 foot:x.foot.size≤64
 dl:0≤x.dl∧x.dl≤2199023255552
 ttl:0≤x.ttl∧x.ttl≤2199023255552
 len:x.told.length≤256
 told:x.told.Pairwise (fun a b=>a.r < b.r)
 ans:∀a ∈ x.told,0≤a.r∧a.r < 18446744073709551616∧0≤a.e∧a.e≤1048576∧0≤a.n∧a.n < 18446744073709551616
 bad:badI x.op x.dead x.dl.toNat x.ttl.toNat=false
theorem ZkT {x y:Int × ByteArray} (h:¬0≤cmpS x y):ltS x y:=by
 have q:=Zbn x y;unfold ltOf at q;exact of_decide_eq_true (q ▸ decide_eq_true (by omega))
theorem Zi1:∀(n:Nat) (last:Option (Int × ByteArray)) (s:InS),Byt s.b→(bookD n last s).2.e=0→(bookD n last s).1.length=n∧s.b=(bookD n last s).1.flatMap encS++(bookD n last s).2.b∧Byt (bookD n last s).2.b∧s.e=0∧(bookD n last s).2.b.length + n≤s.b.length∧
 (bookD n last s).1.Pairwise ltR∧(∀q,last=some q→∀a ∈ (bookD n last s).1,ltS q (keyR a))∧(∀a ∈ (bookD n last s).1,SrOk a)
 |0,last,s,hb,h=>⟨rfl,rfl,hb,h,Nat.le_refl _,List.Pairwise.nil,fun _ _ _ h=>by simp[bookD] at h,fun _ h=>by simp[bookD] at h⟩
 |n + 1,last,s,hb,h=>by
  unfold bookD at h ⊢;simp only at h ⊢
  by_cases hl:last.any (fun q=>decide (0≤cmpS q (keyR (sesV s))))=true
  · rw[if_pos hl,if_pos (Zbj (by decide))] at h
    exact absurd h (Zbj (by decide))
  rw[if_neg hl] at h ⊢
  by_cases he:(sesS s).e≠0
  · rw[if_pos he] at h
    exact absurd h he
  rw[if_neg he] at h ⊢;simp only at h ⊢
  have he0:(sesS s).e=0:=by omega
  obtain⟨e1,e2,e3,e4,f1,f2,f3,f4,f5,f6,f7,f8,f9,f10,f11⟩:=ses_ok hb he0;obtain⟨i1,i2,i3,i4,i5,i6,i7,i8⟩:=Zi1 n (some (keyR (sesV s))) (sesS s) e2 h;refine⟨by rw[List.length_cons,i1],?_,i3,e3,by omega,List.pairwise_cons.2 ⟨i7 _ rfl,i6⟩,?_,?_⟩
  · rw[List.flatMap_cons,List.append_assoc,←i2];exact e1
  · intro q hq a ha
    subst hq;have hq2:ltS q (keyR (sesV s)):=ZkT (by simpa using hl)
    rcases List.mem_cons.1 ha with rfl|ha
    · exact hq2
    exact Sess.ZaW hq2 (i7 _ rfl a ha)
  intro a ha
  rcases List.mem_cons.1 ha with rfl|ha
  · exact⟨⟨f1,f2⟩,f3,⟨f4,f5⟩,⟨f6,f7⟩,f8,f9,f10,f11⟩
  exact i8 a ha
def ZaX (s:InS):List SR:=(bookD (s.shortV s.left) none (s.shortS s.left)).1
def Zaq (s:InS):InS:=(bookD (s.shortV s.left) none (s.shortS s.left)).2
theorem ZfP {s:InS} (hb:Byt s.b) (h:(Zaq s).e=0):s.b=encL (ZaX s)++(Zaq s).b∧Byt (Zaq s).b∧s.e=0∧(Zaq s).b.length≤s.b.length∧(ZaX s).length≤s.b.length∧(ZaX s).Pairwise ltR∧∀a ∈ ZaX s,SrOk a:=by
 have g:=Zas s s.left;obtain⟨i1,i2,i3,i4,i5,i6,_,i8⟩:=Zi1 _ none (s.shortS s.left) (g.byt hb) h;obtain⟨e1,_,_⟩:=Zbd hb i4;refine⟨?_,i3,g.ok i4,?_,?_,i6,i8⟩
 · unfold encL ZaX Zaq
   rw[i1,List.append_assoc,←i2];exact e1
 · have:=g.len;unfold Zaq;omega
 have:=g.len;unfold ZaX;rw[i1];omega
theorem Zi3:∀(n:Nat) (last:Option Int) (s:InS),Byt s.b→Byt (ansD n last s).2.b
 |0,_,_,hb=>hb
 |n + 1,last,s,hb=>by
  unfold ansD;simp only
  have h1:Byt (if last.any (fun q=>decide ((ansV s).r≤q))=true then(ansS s).fail 10 else ansS s).b:=by
   split
   · exact((ZfV s).trans (ZbU _ (by decide))).byt hb
   exact(ZfV s).byt hb
  revert h1
  generalize (if last.any (fun q=>decide ((ansV s).r≤q))=true then(ansS s).fail 10 else ansS s)=t;intro h1
  split
  · exact h1
  exact Zi3 n _ _ h1
theorem Zij {s:InS} (hb:Byt s.b):Byt (sesS s).b:=by
 have gg:Goes (s5 s) (s6 s):=by unfold s6;split;exact ZbU _ (by decide);exact Goes.refl _
 exact Zi3 _ _ _ (((((((ZaL s 8).trans (Zcj _ 64)).trans (Zbv _)).trans (Zbv _)).trans (Zas _ _)).trans (Zas _ _)).trans gg |>.trans (Zas _ _) |>.byt hb)
theorem Zg9:∀(n:Nat) (last:Option (Int × ByteArray)) (s:InS),Byt s.b→Byt (bookD n last s).2.b
 |0,_,_,hb=>hb
 |n + 1,last,s,hb=>by
  unfold bookD;simp only
  have h1:Byt (if last.any (fun q=>decide (0≤cmpS q (keyR (sesV s))))=true then(sesS s).fail 10 else sesS s).b:=by
   split
   · exact(ZbU _ (by decide)).byt (Zij hb)
   exact Zij hb
  revert h1
  generalize (if last.any (fun q=>decide (0≤cmpS q (keyR (sesV s))))=true then(sesS s).fail 10 else sesS s)=t;intro h1
  split
  · exact h1
  exact Zg9 n _ _ h1
theorem Zdi {s:InS} (hb:Byt s.b):Byt (Zaq s).b:=Zg9 _ _ _ ((Zas s _).byt hb)
end Wire
end
section
namespace Lock
open Go.Sort Go.Shelf
open Go.Lib (compareBytes compareInt)
open _root_.Go.Proofs.YtkdjkngfnapjcaaGreatDoor.Mark (orI)
open Path (bl Zad overB Zae cmpL cmpP)
def keyL (e:Ent):List Path.Bs:=Zae (bl e.path)
def ltE (x y:Ent):Prop:=cmpL (keyL x) (keyL y) < 0∨(keyL x=keyL y∧x.stamp < y.stamp)
instance (x y:Ent):Decidable (ltE x y):=by unfold ltE;infer_instance
def cmpE (x y:Ent):Int:=orI (cmpP (bl x.path) (bl y.path)) (compareInt x.stamp y.stamp)
theorem bl_inj {a b:ByteArray} (h:bl a=bl b):a=b:=by
 unfold bl at h
 have:a.data=b.data:=by rw[←Array.toList_inj];exact h
 cases a;cases b;simp_all
theorem ZdF {x y:Ent} (h:keyL x=keyL y):x.path=y.path:=bl_inj (Path.ZeM h)
theorem ZhR {x y:Ent} (hx:Zad (bl x.path)=true) (hy:Zad (bl y.path)=true):decide (cmpE x y < 0)=decide (ltE x y):=by
 have hcp:cmpP (bl x.path) (bl y.path)=cmpL (Zae (bl x.path)) (Zae (bl y.path)):=by simp[cmpP,hx,hy]
 unfold cmpE orI compareInt ltE;rw[hcp];show _=decide (cmpL (Zae (bl x.path)) (Zae (bl y.path)) < 0∨(Zae (bl x.path)=Zae (bl y.path)∧x.stamp < y.stamp));generalize hp:Zae (bl x.path)=p;generalize hq:Zae (bl y.path)=q
 by_cases h0:cmpL p q=0
 · have e:=Path.cl_eq h0
   subst e;rw[Path.Zb3]
   by_cases h1:x.stamp < y.stamp
   · simp[h1]
   by_cases h2:y.stamp < x.stamp<;>simp[h1,h2]
 have hne:p≠q:=fun e=>h0 (by rw[e];exact Path.Zb3 q)
 simp[h0,hne]
theorem Zdg (x:Ent):¬ltE x x:=by
 unfold ltE;rw[Path.Zb3]
 omega
theorem ZbT {x y z:Ent} (h1:ltE x y) (h2:ltE y z):ltE x z:=by
 unfold ltE at *
 rcases h1 with h1|⟨h1,h1'⟩
 · rcases h2 with h2|⟨h2,_⟩
   · exact .inl (Path.Zc3 h1 h2)
   exact .inl (by rw[←h2];exact h1)
 rcases h2 with h2|⟨h2,h2'⟩
 · exact .inl (by rw[h1];exact h2)
 exact .inr ⟨h1.trans h2,by omega⟩
theorem ZfM (x y:Ent):ltE x y∨(keyL x=keyL y∧x.stamp=y.stamp)∨ltE y x:=by
 unfold ltE;have h:=Path.ZhV (keyL x) (keyL y)
 by_cases h0:cmpL (keyL x) (keyL y)=0
 · have e:=Path.cl_eq h0
   rcases Int.lt_trichotomy x.stamp y.stamp with q|q|q
   · exact .inl (.inr ⟨e,q⟩)
   · exact .inr (.inl ⟨e,q⟩)
   exact .inr (.inr (.inr ⟨e.symm,q⟩))
 by_cases h1:cmpL (keyL x) (keyL y) < 0
 · exact .inl (.inl h1)
 exact .inr (.inr (.inl (by omega)))
abbrev EntI (es:List Ent):={e:Ent // e ∈ es}
def cmpI (es:List Ent) (x y:EntI es):Int:=cmpE x.1 y.1
def encI (es:List Ent) (x:EntI es):List Value:=x.1.cells
structure Sortable (es:List Ent):Prop where
 right:∀e ∈ es,Zad (bl e.path)=true
 one:∀a ∈ es,∀b ∈ es,a.path=b.path→a.stamp=b.stamp→a=b
theorem Inv.sortable {s:S3} {k:Nat} (h:Inv s k):Sortable s.es:=⟨h.right,fun a ha b hb hp hs=>by
 obtain⟨i,hi⟩:=List.mem_iff_getElem?.1 ha;obtain⟨j,hj⟩:=List.mem_iff_getElem?.1 hb;obtain⟨hi1,hi2⟩:=List.getElem?_eq_some_iff.1 hi;obtain⟨hj1,hj2⟩:=List.getElem?_eq_some_iff.1 hj;have hp':=List.pairwise_iff_getElem.1 h.order;have ho:overB (bl a.path) (bl a.path)=true:=Path.ZgA (h.right a ha)
 rcases Nat.lt_trichotomy i j with q|q|q
 · have:=hp' i j hi1 hj1 q
   rw[hi2,hj2,←hp] at this;have:=this ho
   omega
 · subst q;rw[hi] at hj;exact Option.some.inj hj
 have:=hp' j i hj1 hi1 q
 rw[hi2,hj2,←hp] at this;have:=this ho
 omega⟩
section
variable {es:List Ent} (H:Sortable es)
include H
theorem cmpI_lt (x y:EntI es):ltOf (cmpI es) x y=decide (ltE x.1 y.1):=ZhR (H.right _ x.2) (H.right _ y.2)
theorem totI (x y:EntI es) (h1:ltOf (cmpI es) x y=false) (h2:ltOf (cmpI es) y x=false):x=y:=by
 rw[cmpI_lt H] at *
 rcases ZfM x.1 y.1 with q|q|q
 · exact absurd q (of_decide_eq_false h1)
 · exact Subtype.ext (H.one _ x.2 _ y.2 (ZdF q.1) q.2)
 exact absurd q (of_decide_eq_false h2)
theorem swoI:SWO (ltOf (cmpI es)) where
 irrefl x:=by rw[cmpI_lt H];exact decide_eq_false (Zdg _)
 trans x y z h1 h2:=by rw[cmpI_lt H] at *;exact decide_eq_true (ZbT (of_decide_eq_true h1) (of_decide_eq_true h2))
 ntrans x y z h1 h2:=by
  rw[cmpI_lt H] at *
  refine decide_eq_false fun h=> ?_
  have n1:=of_decide_eq_false h1;have n2:=of_decide_eq_false h2
  rcases ZfM x.1 y.1 with q|q|q
  · exact n1 q
  · have e:x=y:=Subtype.ext (H.one _ x.2 _ y.2 (ZdF q.1) q.2)
    subst e;exact n2 h
  exact n2 (ZbT q h)
def sortI (_:Sortable es) (l:List (EntI es)):List (EntI es):=l.mergeSort fun x y=> !ltOf (cmpI es) y x
omit H in
theorem sortI_len (H:Sortable es) (l:List (EntI es)):(sortI H l).length=l.length:=List.length_mergeSort l
omit H in
theorem sortI_perm (H:Sortable es) (l:List (EntI es)):(sortI H l).Perm l:=List.mergeSort_perm l _
omit H in
theorem ZlE (H:Sortable es) (l:List (EntI es)):(sortI H l).Pairwise (fun a b=>(!ltOf (cmpI es) b a)=true):=by
 refine List.pairwise_mergeSort ?_ ?_ l
 · intro a b c h1 h2
   rw[cmpI_lt H] at *
   simp only[Bool.not_eq_true',decide_eq_false_iff_not] at *
   intro h
   rcases ZfM b.1 a.1 with q|q|q
   · exact h1 q
   · have e:b=a:=Subtype.ext (H.one _ b.2 _ a.2 (ZdF q.1) q.2)
     subst e;exact h2 h
   exact h2 (ZbT h q)
 intro a b;rw[cmpI_lt H,cmpI_lt H];simp only[Bool.or_eq_true,Bool.not_eq_true',decide_eq_false_iff_not]
 by_cases h:ltE b.1 a.1
 · right
   intro h';exact Zdg _ (ZbT h h')
 exact .inl h
end
theorem sortI_lt {es:List Ent} (H:Sortable es) (l:List (EntI es)) (hn:l.Nodup):((sortI H l).map (·.1)).Pairwise ltE:=by
 have h2:(sortI H l).Nodup:=(sortI_perm H l).nodup_iff.2 hn;rw[List.pairwise_map];refine((ZlE H l).and h2).imp ?_;rintro a b ⟨h,hne⟩;rw[cmpI_lt H] at h;simp only[Bool.not_eq_true',decide_eq_false_iff_not] at h
 rcases ZfM a.1 b.1 with q|q|q
 · exact q
 · exact absurd (Subtype.ext (H.one _ a.2 _ b.2 (ZdF q.1) q.2)) hne
 exact absurd q h
theorem ZeN {l r:List Ent} (h1:l.Pairwise ltE) (h2:r.Pairwise ltE) (hp:l.Perm r):l=r:=
 hp.eq_of_pairwise (le:=ltE) (fun a b _ _ h3 h4=>absurd (ZbT h3 h4) (Zdg _)) h1 h2
def toI {es:List Ent}:(l:List Ent)→(∀x ∈ l,x ∈ es)→List (EntI es)
 |[],_=>[]
 |x::l,h=>⟨x,h x (by simp)⟩::toI l (fun y hy=>h y (by simp[hy]))
theorem toI_map {es:List Ent}:∀(l:List Ent) (h:∀x ∈ l,x ∈ es),(toI l h).map (·.1)=l
 |[],_=>rfl
 |x::l,h=>by rw[toI,List.map_cons,toI_map l]
theorem encI_flat {es:List Ent} (l:List (EntI es)):l.flatMap (encI es)=(l.map (·.1)).flatMap Ent.cells:=by
 induction l with
 |nil=>rfl
 |cons x l ih=>rw[List.flatMap_cons,List.map_cons,List.flatMap_cons,ih];rfl
end Lock
end
section
namespace Wire
open Go.RowKit
open _root_.Go.Proofs.YtkdjkngfnapjcaaGreatDoor.Path
open Go.Lib (compareBytes compareInt)
open _root_.Go.Proofs.YtkdjkngfnapjcaaGreatDoor.Mark (orI)
open Lock (Ent encE encC encB ZaR ltE ZhR)
def t1 (s:InS):InS:=s.textS 64
def t2 (s:InS):InS:=(t1 s).takeS 8
def t3 (s:InS):InS:=(t2 s).textS 64
def t4 (s:InS):InS:=(t3 s).takeS 1
def t5 (s:InS):InS:=(t4 s).takeS 8
def t6 (s:InS):InS:=(t5 s).shortS 4611686018427387903
def entV (s:InS):Ent:=⟨s.textV 64,((t1 s).fixV:Nat),(t2 s).textV 64,(t3 s).byteV,((t4 s).fixV:Nat),((t5 s).shortV 4611686018427387903:Nat)⟩
theorem ent_ok {s:InS} (hb:Byt s.b) (h:(t6 s).e=0):s.b=encE (entV s)++(t6 s).b∧Byt (t6 s).b∧s.e=0∧(t6 s).b.length < s.b.length∧
 (entV s).path.size≤64∧0≤(entV s).num∧(entV s).num < 18446744073709551616∧(entV s).foot.size≤64∧0≤(entV s).n∧(entV s).n < 18446744073709551616∧0≤(entV s).stamp∧(entV s).stamp≤4611686018427387903:=by
 have ga:=Zcj s 64;have gb:=ZaL (t1 s) 8;have gc:=Zcj (t2 s) 64;have gd:=ZaL (t3 s) 1;have ge:=ZaL (t4 s) 8;have gf:=Zas (t5 s) 4611686018427387903;have ba:=ga.byt hb;have bb:=gb.byt ba;have bc:=gc.byt bb;have bd:=gd.byt bc;have be:=ge.byt bd;have bf:=gf.byt be;have h5:(t5 s).e=0:=gf.ok h;have h4:(t4 s).e=0:=ge.ok h5;have h3:(t3 s).e=0:=gd.ok h4;have h2:(t2 s).e=0:=gc.ok h3;have h1:(t1 s).e=0:=gb.ok h2;obtain⟨e1,l1⟩:=Zfr hb h1;obtain⟨e2,l2⟩:=ZgS (s:=t1 s) ba h2;obtain⟨e3,l3⟩:=Zfr (s:=t2 s) bb h3;have e4:=Zk0 (s:=t3 s) h4;obtain⟨e5,l5⟩:=ZgS (s:=t4 s) bd h5;obtain⟨e6,l6,_⟩:=Zbd (s:=t5 s) be h;have e1:s.b=textB (s.textV 64)++(t1 s).b:=e1;have e2:(t1 s).b=fixL (t1 s).fixV++(t2 s).b:=e2;have e3:(t2 s).b=textB ((t2 s).textV 64)++(t3 s).b:=e3;have e4:(t3 s).b=[(t3 s).byteV]++(t4 s).b:=e4;have e5:(t4 s).b=fixL (t4 s).fixV++(t5 s).b:=e5;have e6:(t5 s).b=Zaf ((t5 s).shortV 4611686018427387903)++(t6 s).b:=e6;refine⟨?_,bf,ga.ok h1,?_,l1,by unfold entV;simp only;omega,by unfold entV;simp only;omega,l3,by unfold entV;simp only;omega,by unfold entV;simp only;omega,by unfold entV;simp only;omega,by unfold entV;simp only;omega⟩
 · unfold encE entV
   simp only[Int.toNat_natCast]
   calc s.b=_:=e1
    _=_:=by rw[e2,e3,e4,e5,e6];simp only[List.append_assoc]
 have k1:(t4 s).b.length + 1=(t3 s).b.length:=by
  rw[e4,List.length_append];simp only[List.length_singleton]
  omega
 have:=ga.len;have:=gb.len;have:=gc.len;have:=ge.len;have:=gf.len
 unfold t6 t5 t4 t3 t2 t1 at *
 omega
def aftB (x y:Ent):Bool:=decide (cmpP (bl x.path) (bl y.path) < 0) || (decide (cmpP (bl x.path) (bl y.path)=0)&&decide (x.stamp < y.stamp))
theorem aft_lt {x y:Ent} (hx:Zad (bl x.path)=true) (hy:Zad (bl y.path)=true) (h:aftB x y=true):ltE x y:=by
 have q:=ZhR hx hy;refine of_decide_eq_true (q ▸ decide_eq_true ?_);unfold Lock.cmpE orI;unfold aftB at h
 rcases Bool.or_eq_true .. ▸ h with h|h
 · have:=of_decide_eq_true h
   rw[if_neg (by omega)];exact this
 obtain⟨h1,h2⟩:=Bool.and_eq_true .. ▸ h
 have h1:=of_decide_eq_true h1;have h2:=of_decide_eq_true h2;rw[if_pos h1];unfold compareInt;rw[if_pos h2]
 decide
def badE (acc:List Ent) (last:Option Ent) (e:Ent):Bool:= !ZaR e.path e.mode || decide (e.stamp=0) || (Lock.find acc e.path e.num e.foot).isSome || last.any (fun q=> !aftB q e)
def entsD:Nat→List Ent→Option Ent→InS→List Ent × InS
 |0,acc,_,s=>(acc,s)
 |n + 1,acc,last,s=>
  let t:=if badE acc last (entV s) then(t6 s).fail 10 else t6 s
  if t.e≠0 then(acc,t) else entsD n (acc++[entV s]) (some (entV s)) t
structure EntOk (e:Ent):Prop where
 right:ZaR e.path e.mode=true
 path:e.path.size≤64
 num:0≤e.num∧e.num < 18446744073709551616
 foot:e.foot.size≤64
 n:0≤e.n∧e.n < 18446744073709551616
 stamp:1≤e.stamp∧e.stamp≤4611686018427387903
theorem ZiQ:∀(n:Nat) (acc:List Ent) (last:Option Ent) (s:InS),Byt s.b→(∀e ∈ acc,EntOk e)→(last=acc.getLast?)→acc.Pairwise ltE→acc.Pairwise (fun a b=>¬(a.path=b.path∧a.num=b.num∧a.foot=b.foot))→(entsD n acc last s).2.e=0→
 ∃l,(entsD n acc last s).1=acc++l∧l.length=n∧s.b=l.flatMap encE++(entsD n acc last s).2.b∧Byt (entsD n acc last s).2.b∧s.e=0∧(entsD n acc last s).2.b.length + n≤s.b.length∧
 (acc++l).Pairwise ltE∧(acc++l).Pairwise (fun a b=>¬(a.path=b.path∧a.num=b.num∧a.foot=b.foot))∧(∀e ∈ acc++l,EntOk e)
 |0,acc,last,s,hb,ha,hl,h1,h2,h=>⟨[],by simp[entsD],rfl,rfl,hb,h,Nat.le_refl _,by rwa [List.append_nil],by rwa [List.append_nil],by rwa [List.append_nil]⟩
 |n + 1,acc,last,s,hb,ha,hl,h1,h2,h=>by
  unfold entsD at h ⊢;simp only at h ⊢
  by_cases hb0:badE acc last (entV s)=true
  · rw[if_pos hb0,if_pos (Zbj (by decide))] at h
    exact absurd h (Zbj (by decide))
  rw[if_neg hb0] at h ⊢
  have hbd:badE acc last (entV s)=false:=by simpa using hb0
  by_cases he:(t6 s).e≠0
  · rw[if_pos he] at h
    exact absurd h he
  rw[if_neg he] at h ⊢
  have he0:(t6 s).e=0:=by omega
  obtain⟨e1,e2,e3,e4,f1,f2,f3,f4,f5,f6,f7,f8⟩:=ent_ok hb he0;unfold badE at hbd;simp only[Bool.or_eq_false_iff,Bool.not_eq_eq_eq_not,Bool.not_false,decide_eq_false_iff_not] at hbd;obtain⟨⟨⟨g1,g2⟩,g3⟩,g4⟩:=hbd
  have hok:EntOk (entV s):=⟨g1,f1,⟨f2,f3⟩,f4,⟨f5,f6⟩,⟨by omega,f8⟩⟩
  have hrt:∀e,EntOk e→Zad (bl e.path)=true:=fun e q=>by
   have:=q.right;unfold ZaR at this;exact(Bool.and_eq_true .. ▸ this).1
  have hlt:∀q ∈ acc,ltE q (entV s):=by
   intro q hq
   obtain⟨z,hz⟩:∃z,acc.getLast? =some z:=by
    cases hx:acc.getLast? with
    |none=>rw[List.getLast?_eq_none_iff.1 hx] at hq;cases hq
    |some z=>exact⟨z,rfl⟩
   rw[hl,hz] at g4
   have g4:aftB z (entV s)=true:=by simpa using g4
   have hz1:z ∈ acc:=List.mem_of_getLast? hz;have hzl:=aft_lt (hrt z (ha z hz1)) (hrt _ hok) g4;obtain⟨pre,hp⟩:=List.getLast?_eq_some_iff.1 hz;rw[hp] at hq h1
   rcases List.mem_append.1 hq with hq|hq
   · exact Lock.ZbT ((List.pairwise_append.1 h1).2.2 q hq z (by simp)) hzl
   rw[List.mem_singleton.1 hq];exact hzl
  have hnk:∀q ∈ acc,¬(q.path=(entV s).path∧q.num=(entV s).num∧q.foot=(entV s).foot):=by
   intro q hq hh
   have:(Lock.find acc (entV s).path (entV s).num (entV s).foot).isSome=true:=by
    unfold Lock.find;rw[List.find?_isSome];exact⟨q,hq,by unfold Ent.is;exact decide_eq_true hh⟩
   rw[g3] at this;cases this
  obtain⟨l,i1,i2,i3,i4,i5,i6,i7,i8,i9⟩:=ZiQ n (acc++[entV s]) (some (entV s)) (t6 s) e2 (by
   intro e q
   rcases List.mem_append.1 q with q|q
   · exact ha e q
   · rw[List.mem_singleton.1 q];exact hok) (by simp) (List.pairwise_append.2 ⟨h1,List.pairwise_singleton _ _,fun a p b q=>by rw[List.mem_singleton.1 q];exact hlt a p⟩)
   (List.pairwise_append.2 ⟨h2,List.pairwise_singleton _ _,fun a p b q=>by rw[List.mem_singleton.1 q];exact hnk a p⟩) h
  refine⟨entV s::l,by rw[i1,List.append_assoc];rfl,by rw[List.length_cons,i2],?_,i4,e3,by omega,by rw[List.append_cons];exact i7,by rw[List.append_cons];exact i8,by rw[List.append_cons];exact i9⟩;rw[List.flatMap_cons,List.append_assoc,←i3];exact e1
def c1 (s:InS):InS:=s.textS 64
def c2 (s:InS):InS:=(c1 s).takeS 8
def cntV (s:InS):ByteArray × Int:=(s.textV 64,((c1 s).fixV:Nat))
theorem cnt_ok {s:InS} (hb:Byt s.b) (h:(c2 s).e=0):s.b=encC (cntV s)++(c2 s).b∧Byt (c2 s).b∧s.e=0∧(c2 s).b.length < s.b.length∧(cntV s).1.size≤64∧0≤(cntV s).2∧(cntV s).2 < 18446744073709551616:=by
 have ga:=Zcj s 64;have gb:=ZaL (c1 s) 8;have ba:=ga.byt hb;have h1:(c1 s).e=0:=gb.ok h;obtain⟨e1,l1⟩:=Zfr hb h1;obtain⟨e2,l2⟩:=ZgS (s:=c1 s) ba h;have e1:s.b=textB (s.textV 64)++(c1 s).b:=e1;have e2:(c1 s).b=fixL (c1 s).fixV++(c2 s).b:=e2;refine⟨?_,gb.byt ba,ga.ok h1,?_,l1,by unfold cntV;simp only;omega,by unfold cntV;simp only;omega⟩
 · unfold encC cntV
   simp only[Int.toNat_natCast]
   calc s.b=_:=e1
    _=_:=by rw[e2];simp only[List.append_assoc]
 have k1:(c2 s).b.length + 8=(c1 s).b.length:=by
  obtain⟨o,_,_,q⟩:=ZdZ (s:=c1 s) h;rw[show c2 s=_ from q,List.length_drop];have:=o.2
  omega
 have:=ga.len
 unfold c1 at *
 omega
def ltC (a b:ByteArray × Int):Prop:=cmpL (Zae (bl a.1)) (Zae (bl b.1)) < 0
def badC (first:Int) (last:Option ByteArray) (c:ByteArray × Int):Bool:= !Zad (bl c.1) || decide (c.2=first) || last.any (fun q=>decide (0≤cmpP (bl q) (bl c.1)))
def cntsD (first:Int):Nat→Option ByteArray→InS→List (ByteArray × Int) × InS
 |0,_,s=>([],s)
 |n + 1,last,s=>
  let t:=if badC first last (cntV s) then(c2 s).fail 10 else c2 s
  if t.e≠0 then([],t) else(cntV s::(cntsD first n (some (cntV s).1) t).1,(cntsD first n (some (cntV s).1) t).2)
structure CntOk (first:Int) (c:ByteArray × Int):Prop where
 right:Zad (bl c.1)=true
 path:c.1.size≤64
 n:0≤c.2∧c.2 < 18446744073709551616
 ne:c.2≠first
theorem ZiX (first:Int):∀(n:Nat) (last:Option ByteArray) (s:InS),Byt s.b→(∀q,last=some q→Zad (bl q)=true)→(cntsD first n last s).2.e=0→(cntsD first n last s).1.length=n∧s.b=(cntsD first n last s).1.flatMap encC++(cntsD first n last s).2.b∧Byt (cntsD first n last s).2.b∧s.e=0∧(cntsD first n last s).2.b.length + n≤s.b.length∧
 (cntsD first n last s).1.Pairwise ltC∧(∀q,last=some q→∀a ∈ (cntsD first n last s).1,cmpL (Zae (bl q)) (Zae (bl a.1)) < 0)∧(∀a ∈ (cntsD first n last s).1,CntOk first a)
 |0,last,s,hb,hr,h=>⟨rfl,rfl,hb,h,Nat.le_refl _,List.Pairwise.nil,fun _ _ _ h=>by simp[cntsD] at h,fun _ h=>by simp[cntsD] at h⟩
 |n + 1,last,s,hb,hr,h=>by
  unfold cntsD at h ⊢;simp only at h ⊢
  by_cases hb0:badC first last (cntV s)=true
  · rw[if_pos hb0,if_pos (Zbj (by decide))] at h
    exact absurd h (Zbj (by decide))
  rw[if_neg hb0] at h ⊢
  have hbd:badC first last (cntV s)=false:=by simpa using hb0
  by_cases he:(c2 s).e≠0
  · rw[if_pos he] at h
    exact absurd h he
  rw[if_neg he] at h ⊢;simp only at h ⊢
  have he0:(c2 s).e=0:=by omega
  obtain⟨e1,e2,e3,e4,f1,f2,f3⟩:=cnt_ok hb he0;unfold badC at hbd;simp only[Bool.or_eq_false_iff,Bool.not_eq_eq_eq_not,Bool.not_false,decide_eq_false_iff_not] at hbd;obtain⟨⟨g1,g2⟩,g3⟩:=hbd
  have hrr:∀q,some (cntV s).1=some q→Zad (bl q)=true:=fun q hq=>by cases hq;exact g1
  obtain⟨i1,i2,i3,i4,i5,i6,i7,i8⟩:=ZiX first n (some (cntV s).1) (c2 s) e2 hrr h
  refine⟨by rw[List.length_cons,i1],?_,i3,e3,by omega,List.pairwise_cons.2 ⟨i7 _ rfl,i6⟩,?_,?_⟩
  · rw[List.flatMap_cons,List.append_assoc,←i2];exact e1
  · intro q hq a ha
    subst hq
    have hq2:cmpL (Zae (bl q)) (Zae (bl (cntV s).1)) < 0:=by
     have h3:¬0≤cmpP (bl q) (bl (cntV s).1):=by simpa using g3
     have hcp:cmpP (bl q) (bl (cntV s).1)=cmpL (Zae (bl q)) (Zae (bl (cntV s).1)):=by simp[cmpP,hr q rfl,g1]
     omega
    rcases List.mem_cons.1 ha with rfl|ha
    · exact hq2
    exact Path.Zc3 hq2 (i7 _ rfl a ha)
  intro a ha
  rcases List.mem_cons.1 ha with rfl|ha
  · exact⟨g1,f1,⟨f2,f3⟩,g2⟩
  exact i8 a ha
def entsV (s:InS):List Ent:=(entsD (s.shortV s.left) [] none (s.shortS s.left)).1
def entsS (s:InS):InS:=(entsD (s.shortV s.left) [] none (s.shortS s.left)).2
def cntsV (first:Int) (s:InS):List (ByteArray × Int):=(cntsD first (s.shortV s.left) none (s.shortS s.left)).1
def cntsS (first:Int) (s:InS):InS:=(cntsD first (s.shortV s.left) none (s.shortS s.left)).2
theorem ZfO {first:Int} {s:InS} (hb:Byt s.b) (h:(cntsS first (entsS s)).e=0):s.b=encB (entsV s) (cntsV first (entsS s))++(cntsS first (entsS s)).b∧s.e=0∧(entsV s).length≤s.b.length∧(cntsV first (entsS s)).length≤s.b.length∧
 (entsV s).Pairwise ltE∧(entsV s).Pairwise (fun a b=>¬(a.path=b.path∧a.num=b.num∧a.foot=b.foot))∧(∀e ∈ entsV s,EntOk e)∧(cntsV first (entsS s)).Pairwise ltC∧∀c ∈ cntsV first (entsS s),CntOk first c:=by
 have g2:=Zas (entsS s) (entsS s).left;have g1:=Zas s s.left;have hshort2:((entsS s).shortS (entsS s).left).e=0→(entsS s).e=0:=g2.ok
 have key:∀(bb:Byt (entsS s).b),_:=fun bb=>ZiX first _ none ((entsS s).shortS (entsS s).left) (g2.byt bb) (fun _ q=>nomatch q) h
 have he2:(entsS s).e=0:=by
  by_cases q:(entsS s).e=0
  · exact q
  have z1:(entsS s).shortV (entsS s).left=0:=by unfold InS.shortV;rw[if_pos q]
  have z2:(entsS s).shortS (entsS s).left=entsS s:=by unfold InS.shortS;rw[if_pos q]
  unfold cntsS at h;rw[z1,z2] at h;exact h
 obtain⟨l,a1,a2,a3,a4,a5,a6,a7,a8,a9⟩:=ZiQ _ [] none (s.shortS s.left) (g1.byt hb) (fun _ q=>by cases q) rfl List.Pairwise.nil List.Pairwise.nil he2;rw[List.nil_append] at a1 a7 a8 a9;obtain⟨i1,i2,i3,i4,i5,i6,_,i8⟩:=key a4;obtain⟨e1,_,_⟩:=Zbd hb a5;obtain⟨e2,_,_⟩:=Zbd (s:=entsS s) a4 i4;have a1:entsV s=l:=a1;have hl1:=g1.len;have hl2:=g2.len;have a6:(entsS s).b.length + s.shortV s.left≤(s.shortS s.left).b.length:=a6;rw[a1];refine⟨?_,g1.ok a5,by omega,?_,a7,a8,a9,i6,i8⟩
 · unfold encB
   rw[a2,show(cntsV first (entsS s)).length=(entsS s).shortV (entsS s).left from i1]
   calc s.b=_:=e1
    _=_:=by
     rw[a3,show(entsD (s.shortV s.left) [] none (s.shortS s.left)).2.b=(entsS s).b from rfl,e2,i2];simp only[List.append_assoc]
     rfl
 rw[show(cntsV first (entsS s)).length=(entsS s).shortV (entsS s).left from i1]
 omega
theorem ZnE {first:Int} {b:List Int} (hb:Byt b) (h:(cntsS first (entsS (Zaq ⟨b,0⟩))).fin=0):b=Lease.encL (ZaX ⟨b,0⟩)++encB (entsV (Zaq ⟨b,0⟩)) (cntsV first (entsS (Zaq ⟨b,0⟩))):=by
 have h0:(cntsS first (entsS (Zaq ⟨b,0⟩))).e=0∧(cntsS first (entsS (Zaq ⟨b,0⟩))).b=[]:=by
  unfold InS.fin InS.left at h
  generalize cntsS first (entsS (Zaq ⟨b,0⟩))=z at h
  by_cases q:z.e=0
  · have e0:(if z.e≠0 then 0 else z.b.length)=z.b.length:=if_neg (fun k=>k q)
    rw[e0] at h
    by_cases k:0 < z.b.length
    · rw[if_pos k] at h;omega
    exact⟨q,List.eq_nil_of_length_eq_zero (by omega)⟩
  have e0:(if z.e≠0 then 0 else z.b.length)=0:=if_pos q;rw[e0,if_neg (by omega)] at h;exact absurd h q
 have hle:(Zaq ⟨b,0⟩).e=0∧Byt (Zaq ⟨b,0⟩).b:=by
  have bb:Byt (Zaq ⟨b,0⟩).b:=Zdi hb;exact⟨(ZfO bb h0.1).2.1,bb⟩
 obtain⟨e1,_⟩:=ZfP (s:=⟨b,0⟩) hb hle.1;obtain⟨e2,_⟩:=ZfO (first:=first) hle.2 h0.1;rw[h0.2,List.append_nil] at e2;rw[←e2];exact e1
end Wire
end
section
namespace Wire
open Go.RowKit
theorem or_add (a b k:Nat) (h:b < 2 ^ k) (ha:a * 2 ^ k < 18446744073709551616) (hs:a * 2 ^ k + b < 18446744073709551616):bits .or .u64 (b:Int) ((a * 2 ^ k:Nat):Int)=((b + a * 2 ^ k:Nat):Int):=by
 rw[bits_or_u64_nat b (a * 2 ^ k) (by omega) ha,Nat.or_comm,←Nat.shiftLeft_eq,←Nat.shiftLeft_add_eq_or_of_lt h,Nat.add_comm]
theorem Znx (a b k:Nat) (h:b < 2 ^ k) (ha:a * 2 ^ k < 18446744073709551616) (hs:a * 2 ^ k + b < 18446744073709551616):bits .or .u64 ((a * 2 ^ k:Nat):Int) (b:Int)=((a * 2 ^ k + b:Nat):Int):=by
 rw[bits_or_u64_nat (a * 2 ^ k) b ha (by omega),←Nat.shiftLeft_eq,←Nat.shiftLeft_add_eq_or_of_lt h]
theorem and127 {x:Int} (h0:0≤x) (h1:x < 256):bits .and .u8 x 127=((x.toNat % 128:Nat):Int):=by
 rw[u8_and x 127 h0 h1 (by omega) (by omega)];exact congrArg _ (Nat.and_two_pow_sub_one_eq_mod x.toNat 7)
def Zhi (b o:Nat) (l:List Int) (w:World):Prop:=∀j (hj:j < l.length),w.cell? ⟨b,o + j,none⟩=some (.int .u8 l[j])
theorem Zha (l:List Int) (x:Int):bigN (l++[x])=bigN l * 256 + x.toNat:=by unfold bigN;rw[List.foldl_append];rfl
theorem bigN_lt:∀(l:List Int),Byt l→bigN l < 256 ^ l.length:=by
 suffices H:∀(k:Nat) (l:List Int),l.length=k→Byt l→bigN l < 256 ^ k from fun l h=>H _ l rfl h
 intro k
 induction k with
 |zero=>intro l hl _;rw[List.eq_nil_of_length_eq_zero hl];decide
 |succ k ih=>
  intro l hl hb
  have hk:k < l.length:=by omega
  have e:l=l.take k++[l[k]]:=by
   rw[←List.take_succ_eq_append_getElem hk,List.take_of_length_le (by omega)]
  rw[e,Zha];have h1:=ih (l.take k) (by rw[List.length_take];omega) (fun x hx=>hb x (List.mem_of_mem_take hx));have h2:=hb _ (List.getElem_mem hk);rw[Nat.pow_succ]
  omega
def RdRel (b o:Nat) (l:List Int) (w:World) (k:Nat) (u4 u25:Value) (wr:World):Prop:=∃i:Nat,u25=.int .i64 i∧i + k=8∧u4=.int .u64 (bigN (l.take i))∧wr=w
theorem Zkc {b o:Nat} {l:List Int} (hl:l.length=8) (hb:Byt l) (w:World) (hc:Zhi b o l w):Calls Tryz.prog 147 #[.slice (some ⟨b,o,none⟩) 8 8,.int .i64 8] w fun e w'=>e=.returned (.tuple #[.int .u64 (bigN l),.int .i64 8,.int .i64 0])∧w'=w:=by
 have hsl:(Instr.sliceAt 62 (.slice (some ⟨b,o,none⟩) 8 8) none (some (.int .i64 8)) none).run Tryz.prog w=.ok (.slice (some ⟨b,o,none⟩) 8 8) w:=by
  have hz:∀w,(sizeOf 5).run Tryz.prog w=.ok 1 w:=fun w=>by kernel_rfl
  simp[Instr.sliceAt,Instr.slice,run_underlying Tryz.underlying62,Instr.sliceBounds,run_sliceBound,hz,Result.andThen,Addr.add]
 go_enter Tryz.func147,Tryz.ntmps147
 go_wp2_with fail
 try go_frame
 go_loopg [4,25] 8 (RdRel b o l w)
 case atStart=>exact⟨0,rfl,rfl,rfl,rfl⟩
 case round=>
  obtain⟨i,rfl,hik,rfl,rfl⟩:=hrel
  by_cases hi:i < 8
  · have hx:=hc i (by omega)
    obtain⟨hx0,hx1⟩:=hb l[i] (List.getElem_mem (by omega));have hv:=bigN_lt (l.take i) (fun y hy=>hb y (List.mem_of_mem_take hy))
    have hvl:(l.take i).length=i:=by rw[List.length_take];omega
    rw[hvl] at hv
    have hn:bigN (l.take (i + 1))=bigN (l.take i) * 256 + (l[i]'(by omega)).toNat:=by rw[List.take_succ_eq_append_getElem (by omega),Zha]
    obtain⟨x,hxx⟩:∃z,l[i]'(by omega)=z:=⟨_,rfl⟩
    rw[hxx] at hx hx0 hx1 hn
    generalize bigN (l.take i)=v at *
    obtain⟨y,rfl⟩:=Int.eq_ofNat_of_zero_le hx0;have hv7:v < 72057594037927936:=Nat.lt_of_lt_of_le hv (Nat.pow_le_pow_right (by decide) (show i≤7 by omega));have hor:=Znx v y 8 (by omega) (by omega) (by omega)
    have hor2:bits .or .u64 ((v:Int) * 256) (y:Int)=(v:Int) * 256 + (y:Int):=by
     have e:((v * 2 ^ 8:Nat):Int)=(v:Int) * 256:=by omega
     rw[←e,hor]
     omega
    have hor2':=Hd hor2;clear hor hor2
    have hw1:IntKind.u64.wrap ((v:Int) * 256)=(v:Int) * 256:=by rw[IntKind.wrap_u64];omega
    have hw2:IntKind.u64.wrap (y:Int)=(y:Int):=by rw[IntKind.wrap_u64];omega
    have hn':=Hd hn;clear hn hxx hvl hv hx0
    go_wp2_with fail
    go_roundg (gk - 1)
    case measure=>omega
    case rel=>exact⟨i + 1,by simp,by omega,by rw[hn'.out];simp[hw1,hor2'.out],rfl⟩
  have hli:l.take i=l:=List.take_of_length_le (by omega)
  go_wp2_with fail
  refine bodyPost_ret (v:=.tuple #[.int .u64 (bigN l),.int .i64 8,.int .i64 0]) (by simp[results,Tryz.results147,go_sem,hli]) rfl ⟨rfl,rfl⟩
theorem Zkd (ax:Option Addr) (c:Nat) (w:World):Calls Tryz.prog 147 #[.slice ax 0 c,.int .i64 8] w fun e w'=>e=.returned (.tuple #[.int .u64 0,.int .i64 0,.int .i64 20])∧w'=w:=by
 go_enter Tryz.func147,Tryz.ntmps147
 go_wp2_with fail
 refine bodyPost_ret (v:=.tuple #[.int .u64 0,.int .i64 0,.int .i64 20]) (by simp[results,Tryz.results147,go_sem]) rfl ⟨rfl,rfl⟩
def ShR (b o:Nat) (l:List Int) (w:World) (k:Nat) (u2 u6:Value) (wr:World):Prop:=∃i v:Nat,u6=.int .i64 i∧i + k=10∧u2=.int .u64 v∧v < 128 ^ i∧rsL i v (l.drop i)=rs l∧wr=w
theorem ZfA {b o cap:Nat} {l:List Int} (hl:l.length≤1000000000000) (hb:Byt l) (w:World) (hc:Zhi b o l w):Calls Tryz.prog 205 #[.slice (some ⟨b,o,none⟩) l.length cap] w fun e w'=>e=.returned (.tuple #[.int .u64 ((rs l).1:Nat),.int .i64 ((rs l).2.1:Nat),.int .i64 (rs l).2.2])∧w'=w:=by
 go_enter Tryz.func205,Tryz.ntmps205
 go_wp2_with fail
 try go_frame
 go_loopg [2,6] 10 (ShR b o l w)
 case atStart=>exact⟨0,0,rfl,by omega,rfl,by omega,rfl,rfl⟩
 case round=>
  obtain⟨i,v,rfl,hik,rfl,hv,hrs,rfl⟩:=hrel
  by_cases hi:i < 10
  · by_cases hn:i < l.length
    · have hx:=hc i hn
      obtain⟨hx0,hx1⟩:=hb l[i] (List.getElem_mem hn);have hdr:l.drop i=l[i]::l.drop (i + 1):=List.drop_eq_getElem_cons hn
      obtain⟨x,hxx⟩:∃z,l[i]=z:=⟨_,rfl⟩
      rw[hxx] at hx hx0 hx1 hdr;clear hxx;obtain⟨y,rfl⟩:=Int.eq_ofNat_of_zero_le hx0
      have hy:y < 256:=by omega
      have ha0:=and127 hx0 hx1
      have ha:bits .and .u8 (y:Int) 127=(y:Int) % 128:=by rw[ha0];omega
      clear ha0 hx0 hx1
      have hp:(128:Nat) ^ i=2 ^ (i * 7):=by rw[Nat.mul_comm,Nat.pow_mul]
      have hstep:¬(i=9∧1 < (y:Int))→bits .or .u64 (v:Int) (IntKind.u64.wrap ((y:Int) % 128 * 2 ^ (i * 7)))=((v + y % 128 * 128 ^ i:Nat):Int):=fun h9=>by
       have h2:(2:Nat) ^ (i * 7)≤9223372036854775808:=Nat.le_trans (Nat.pow_le_pow_right (by decide) (show i * 7≤63 by omega)) (by decide);have hm:y % 128 < 128:=Nat.mod_lt _ (by decide)
       have hv2:v < 2 ^ (i * 7):=by rw[←hp];exact hv
       have hb1:y % 128 * 2 ^ (i * 7)≤9223372036854775808:=by
        by_cases q:i=9
        · have:y≤1:=by
           by_cases z:1 < y
           · exact absurd ⟨q,by omega⟩ h9
           omega
          have hm1:y % 128≤1:=by omega
          exact Nat.le_trans (Nat.mul_le_mul hm1 h2) (by decide)
        have h3:(2:Nat) ^ (i * 7)≤72057594037927936:=Nat.le_trans (Nat.pow_le_pow_right (by decide) (show i * 7≤56 by omega)) (by decide);exact Nat.le_trans (Nat.mul_le_mul (show y % 128≤128 by omega) h3) (by decide)
       have e:(y:Int) % 128 * 2 ^ (i * 7)=((y % 128 * 2 ^ (i * 7):Nat):Int):=by simp
       have hw:IntKind.u64.wrap ((y:Int) % 128 * 2 ^ (i * 7))=((y % 128 * 2 ^ (i * 7):Nat):Int):=by
        rw[e,IntKind.wrap_u64]
        generalize y % 128 * 2 ^ (i * 7)=z at *
        omega
       rw[hw,hp];exact or_add (y % 128) v (i * 7) hv2 (by omega) (by omega)
      have hs0:=hrs;rw[hdr] at hs0;unfold rsL at hs0;rw[if_pos hi] at hs0
      have hv128:¬(i=9∧1 < (y:Int))→v + y % 128 * 128 ^ i < 128 ^ (i + 1):=fun _=>by
       have h1:y % 128 * 128 ^ i≤127 * 128 ^ i:=Nat.mul_le_mul_right _ (by omega)
       have hp2:(128:Nat) ^ (i + 1)=128 * 128 ^ i:=by rw[Nat.pow_succ,Nat.mul_comm]
       rw[hp2]
       omega
      have hle:(i:Int)≤9:=by omega
      have hstep':=Hd hstep;have hv128':=Hd hv128;clear hrs hdr hp hstep hv hv128
      by_cases h9:i=9∧1 < (y:Int)
      · rw[if_pos h9] at hs0
        obtain⟨h91,h92⟩:=h9;subst h91;have hr':=Hd hs0;clear hs0
        go_wp2_with fail
        refine bodyPost_ret (v:=.tuple #[.int .u64 0,.int .i64 0,.int .i64 12]) (by simp[results,Tryz.results205,go_sem]) rfl ⟨by rw[←hr'.out];rfl,rfl⟩
      rw[if_neg h9] at hs0;have hst:=Hd (hstep'.out h9);have hvn:=Hd (hv128'.out h9)
      have hcs:((i:Int)==9)=false∨(i=9∧¬1 < (y:Int)):=by
       by_cases q:i=9
       · exact .inr ⟨q,fun z=>h9 ⟨q,z⟩⟩
       exact .inl (by simp;omega)
      clear hstep' hv128' h9
      by_cases h128:(y:Int) < 128
      · rw[if_pos h128] at hs0
        by_cases h00:(y:Int)=0∧0 < i
        · rw[if_pos h00] at hs0
          obtain⟨h01,h02⟩:=h00
          have hy0:y=0:=by omega
          subst hy0
          have h02':(0:Int) < (i:Int):=by omega
          have hr':=Hd hs0;clear hs0 hst hvn
          rcases hcs with hcs|⟨rfl,hcs⟩
          all_goals
           go_wp2_with fail
           refine bodyPost_ret (v:=.tuple #[.int .u64 0,.int .i64 0,.int .i64 10]) (by simp[results,Tryz.results205,go_sem]) rfl ⟨by rw[←hr'.out];rfl,rfl⟩
        rw[if_neg h00] at hs0;have hr':=Hd hs0
        have hcs2:((y:Int)==0)=false∨(y=0∧¬(0:Int) < (i:Int)):=by
         by_cases q:y=0
         · exact .inr ⟨q,fun z=>h00 ⟨by omega,by omega⟩⟩
         exact .inl (by simp;omega)
        clear hs0 h00
        rcases hcs with hcs|⟨rfl,hcs⟩
        · rcases hcs2 with hcs2|⟨rfl,hi0⟩
          · go_wp2_with fail
            refine bodyPost_ret (v:=.tuple #[.int .u64 (bits .or .u64 (v:Int) (IntKind.u64.wrap ((y:Int) % 128 * 2 ^ (i * 7)))),.int .i64 ((i:Int) + 1),.int .i64 0]) (by simp[results,Tryz.results205,go_sem]) rfl ⟨?_,rfl⟩;rw[←hr'.out,hst.out]
            simp
          go_wp2_with fail
          refine bodyPost_ret (by simp[results,Tryz.results205,go_sem]<;>rfl) rfl ⟨?_,rfl⟩;have hq:=hst.out;rw[←hr'.out];simp[show bits .and .u8 0 127=0 by decide,show IntKind.u64.wrap 0=0 by decide] at hq ⊢;exact hq
        rcases hcs2 with hcs2|⟨rfl,hi0⟩
        · go_wp2_with fail
          refine bodyPost_ret (by simp[results,Tryz.results205,go_sem]<;>rfl) rfl ⟨?_,rfl⟩;have hq:=hst.out;rw[←hr'.out]
          obtain rfl:y=1:=by
           have:¬(y:Int)=0:=by simpa using hcs2
           omega
          simp[IntKind.wrap_u64] at hq ⊢;exact hq
        omega
      rw[if_neg h128] at hs0;have hr':=Hd hs0
      have hcs2:((i:Int)==9)=false:=by
       rcases hcs with q|⟨_,q⟩
       · exact q
       omega
      clear hs0 hcs
      go_wp2_with fail
      go_roundg (gk - 1)
      case measure=>omega
      case rel=>exact⟨i + 1,v + y % 128 * 128 ^ i,by simp,by omega,by simp[hst.out],hvn.out,by rw[←hr'.out];simp,rfl⟩
    have hdr:l.drop i=[]:=List.drop_eq_nil_of_le (by omega)
    have hr:rs l=(0,0,20):=by rw[←hrs,hdr];unfold rsL;rw[if_pos hi]
    have hr':=Hd hr;clear hr hrs hdr hv
    go_wp2_with fail
    refine bodyPost_ret (v:=.tuple #[.int .u64 0,.int .i64 0,.int .i64 20]) (by simp[results,Tryz.results205,go_sem]) rfl ⟨by rw[hr'.out];rfl,rfl⟩
  have hr:rs l=(0,0,12):=by
   rw[←hrs]
   cases l.drop i with
   |nil=>unfold rsL;rw[if_neg hi]
   |cons x r=>unfold rsL;rw[if_neg hi]
  have hr':=Hd hr;clear hr hrs hv
  go_wp2_with fail
  refine bodyPost_ret (v:=.tuple #[.int .u64 0,.int .i64 0,.int .i64 12]) (by simp[results,Tryz.results205,go_sem]) rfl ⟨by rw[hr'.out];rfl,rfl⟩
end Wire
end
section
namespace Wire
open Go.RowKit
structure Rdr where
 v:Value
 l:List Int
 pos:Nat
 u:Value
 e:Int
def Rdr.s (r:Rdr):InS:=⟨r.l.drop r.pos,r.e⟩
def Win (v:Value) (n pos:Nat) (u:Value):Prop:=pos≤n∧∃ax cap bx,v=.slice ax n cap∧n≤cap∧u=.slice bx (n - pos) (cap - pos)∧(ax=none∧bx=none∧cap=0∨∃g o,ax=some ⟨g,0,none⟩∧bx=some ⟨g,o,none⟩∧(pos < cap→o=pos))
structure Rdr.Ok (r:Rdr):Prop where
 win:Win r.v r.l.length r.pos r.u
 byt:Byt r.l
 len:r.l.length≤1000000000000
abbrev inC (i:Nat) (u:Value) (e:Int):Part:=.cells i [u,.int .i64 e] 166
def RdP (i:Nat) (r:Rdr):Part:=Part.all [inC i r.u r.e,rowY r.v r.l]
theorem ZbQ (i:Nat) (r:Rdr) (F:List Part):Eqv (RdP i r::F) (inC i r.u r.e::rowY r.v r.l::F):=Eqv.all [inC i r.u r.e,rowY r.v r.l] F
theorem Zgc {R:Rdr} {w:World} (h:(rowY R.v R.l).holds w) (hw:R.Ok) (hp:R.pos < R.l.length):∃g c,R.u=.slice (some ⟨g,R.pos,none⟩) (R.l.length - R.pos) c∧Zhi g R.pos (R.l.drop R.pos) w:=by
 obtain⟨hpn,ax,cap,bx,hv,hnc,hu,hc⟩:=hw.win;obtain⟨ax2,cap2,hv2,_,_,_,hx⟩:=Ziz h;rw[hv] at hv2;cases hv2
 rcases hc with⟨rfl,rfl,rfl⟩|⟨g,o,rfl,rfl,ho⟩
 · omega
 have hop:=ho (by omega);subst hop
 rcases hx with⟨q,_⟩|⟨g2,hg,hcell⟩
 · cases q
 cases hg
 refine⟨g,_,hu,fun j hj=> ?_⟩;rw[List.length_drop] at hj;rw[List.getElem_drop];exact hcell (R.pos + j) _ (ZbE R.l (R.pos + j) (by omega))
theorem Zit {i:Nat} {r:Rdr} {w:World} (h:(RdP i r).holds w):(rowY r.v r.l).holds w:=Sep.get (L:=[inC i r.u r.e,rowY r.v r.l]) h (by simp)
theorem ZbA {v u:Value} {N pos:Nat} (hw:Win v N pos u) {n:Nat} (hn:n≤N - pos) (w:World):∃bx c ux,u=.slice bx (N - pos) c∧
 (Instr.sliceAt 62 (.slice bx (N - pos) c) none (some (.int .i64 n)) (some (.int .i64 n))).run Tryz.prog w=.ok (.slice bx n n) w∧
 (Instr.sliceAt 62 (.slice bx (N - pos) c) (some (.int .i64 n)) none none).run Tryz.prog w=.ok (.slice ux (N - pos - n) (c - n)) w∧
 Win v N (pos + n) (.slice ux (N - pos - n) (c - n)):=by
 obtain⟨hpn,ax,cap,bx,hv,hnc,rfl,hc⟩:=hw
 have hz:∀w,(sizeOf 5).run Tryz.prog w=.ok 1 w:=fun w=>by kernel_rfl
 refine⟨bx,cap - pos,if cap - pos=n then bx else bx.map (·.add (n * 1)),rfl,?_,?_,?_⟩
 · have e:(if n=0 then bx else bx.map (·.add (0 * 1)))=bx:=by
    split
    · rfl
    rcases hc with⟨_,rfl,_⟩|⟨g,o,_,rfl,_⟩
    · rfl
    simp[Addr.add]
   simp[Instr.sliceAt,Instr.slice,run_underlying Tryz.underlying62,Instr.sliceBounds,run_sliceBound,hz,Result.andThen,show(n:Int)≤((cap - pos:Nat):Int) by omega]
   simpa using e
 · simp[Instr.sliceAt,Instr.slice,run_underlying Tryz.underlying62,Instr.sliceBounds,run_sliceBound,hz,Result.andThen,show(n:Int)≤((N - pos:Nat):Int) by omega]
 refine⟨by omega,ax,cap,_,hv,hnc,by rw[show N - (pos + n)=N - pos - n by omega,show cap - (pos + n)=cap - pos - n by omega],?_⟩
 rcases hc with⟨rfl,rfl,rfl⟩|⟨g,o,rfl,rfl,ho⟩
 · exact .inl ⟨rfl,by split<;>rfl,rfl⟩
 right
 by_cases q:cap - pos=n
 · exact⟨g,o,rfl,by rw[if_pos q],fun z=>by omega⟩
 refine⟨g,o + n,rfl,by rw[if_neg q];simp[Addr.add],fun z=> ?_⟩
 have:=ho (by omega)
 omega
def FailP (w:World) (i:Nat) (r:Rdr) (x:Int) (e:Ending) (w':World):Prop:=e=.returned (.tuple #[])∧At [RdP i r] w [RdP i {r with e:=if r.e=0 then x else r.e}] w'
theorem Zm0 (r:Rdr) (x:Int):({r with e:=if r.e=0 then x else r.e}:Rdr).s=r.s.fail x:=by
 unfold Rdr.s InS.fail
 by_cases h:r.e=0
 · simp[h]
 simp[h]
theorem ok_e {r:Rdr} (h:r.Ok) (x:Int):({r with e:=x}:Rdr).Ok:=⟨h.win,h.byt,h.len⟩
theorem ZfZ {w:World} {i:Nat} {r:Rdr} (h:Sep [RdP i r] w) (x:Int):Calls Tryz.prog 89 #[.pointer (some ⟨i,0,none⟩),.int .i64 x] w (FailP w i r x):=by
 have hA:=(At.start h).to (ZbQ i r []);have hF:=hA.facts;clear h;obtain⟨hA,hF⟩:=fZ hA
 by_cases he:r.e=0
 · rw[he] at hA hF
   go_enter Tryz.func89,Tryz.ntmps89
   go_wp2_with (first|((with_reducible refine gst ?_);refine wTz hA ?_;clear hF hA;intro w1 hA hF)|((with_reducible refine gbx ?_);refine wCz hA ?_;clear hF hA;intro b1 w1 hA hb1 hF))
   refine bodyPost_ret (v:=.tuple #[]) (by simp[results,Tryz.results89,go_sem]) rfl ⟨rfl,?_⟩;rw[if_pos he];exact hA.to (ZbQ i {r with e:=x} []).symm
 have he':(r.e==0)=false:=by simpa using he
 go_enter Tryz.func89,Tryz.ntmps89
 go_wp2_with (first|((with_reducible refine gst ?_);refine wTz hA ?_;clear hF hA;intro w1 hA hF)|((with_reducible refine gbx ?_);refine wCz hA ?_;clear hF hA;intro b1 w1 hA hb1 hF))
 refine bodyPost_ret (v:=.tuple #[]) (by simp[results,Tryz.results89,go_sem]) rfl ⟨rfl,?_⟩;rw[if_neg he];exact hA.to (ZbQ i r []).symm
def TakeP (w:World) (i:Nat) (r:Rdr) (n:Nat) (e:Ending) (w':World):Prop:=
 ∃(xa:Option Addr) (m mc:Nat) (r':Rdr),e=.returned (.slice xa m mc)∧(r.s.takeL n).length=m∧(m≠0→mc=m∧∃g o,xa=some ⟨g,o,none⟩∧∀w1,(RdP i r').holds w1→Zhi g o (r.s.takeL n) w1)∧r'.s=r.s.takeS n∧r'.Ok∧At [RdP i r] w [RdP i r'] w'
theorem ZjS {w w':World} {i:Nat} {r:Rdr} {n:Nat} (hr:r.Ok) (hn:¬r.s.okT n) (hT:At [RdP i r] w [RdP i {r with e:=if r.e=0 then 20 else r.e}] w'):TakeP w i r n (.returned (.slice none 0 0)) w':=by
 have e1:r.s.takeL n=[]:=if_neg hn;have e2:r.s.takeS n=r.s.fail 20:=if_neg hn;exact⟨none,0,0,_,rfl,by rw[e1];rfl,fun q=>absurd rfl q,by rw[e2,Zm0],ok_e hr _,hT⟩
theorem Zdz {w:World} {i:Nat} {r:Rdr} (h:Sep [RdP i r] w) (hr:r.Ok) (n:Nat) (hn:n≤4611686018427387904):Calls Tryz.prog 146 #[.pointer (some ⟨i,0,none⟩),.int .i64 n] w (TakeP w i r n):=by
 have hsl:r.s.b.length=r.l.length - r.pos:=List.length_drop;have hs0:r.s.e=r.e:=rfl;obtain⟨bx0,c0,_,hu0,_⟩:=ZbA hr.win (n:=0) (Nat.zero_le _) w
 by_cases he:r.e=0
 · by_cases hle:n≤r.l.length - r.pos
   · obtain⟨bx,c,ux,hu,h1,h2,hw2⟩:=ZbA hr.win hle w
     have hok:r.s.okT n:=⟨he,by rw[hsl];exact hle⟩
     have e1:r.s.takeL n=r.s.b.take n:=if_pos hok;have e2:r.s.takeS n=⟨r.s.b.drop n,0⟩:=if_pos hok;have hpn:=hr.win.1;obtain⟨v,l,pos,u,e⟩:=r;simp only at he hu hw2 hpn;subst he;subst hu;have hA:=(At.start h).to (ZbQ i ⟨v,l,pos,.slice bx (l.length - pos) c,0⟩ []);have hF:=hA.facts;clear h
     have hle2:¬((l.length - pos:Nat):Int) < (n:Int):=by simp only at hle;omega
     have h3:=hr;have hr':=Hd hr;have hw2':=Hd hw2;have e1':=Hd e1;have e2':=Hd e2;have hle':=Hd hle;have hpn':=Hd hpn;clear hr hw2 e1 e2 hle hok hsl hs0 hu0 hpn h3;obtain⟨hA,hF⟩:=fZ hA
     go_enter Tryz.func146,Tryz.ntmps146
     go_wp2_with (first|((with_reducible refine gst ?_);refine wTz hA ?_;clear hF hA;intro w1 hA hF)|((with_reducible refine gbx ?_);refine wCz hA ?_;clear hF hA;intro b1 w1 hA hb1 hF))
     go_ret;refine⟨bx,n,n,⟨v,l,pos + n,.slice ux (l.length - pos - n) (c - n),0⟩,rfl,?_,fun hm=>⟨rfl,?_⟩,?_,⟨hw2'.out,hr'.out.byt,hr'.out.len⟩,?_⟩
     · rw[e1'.out,List.length_take]
       have:=hle'.out;show min n (l.drop pos).length=n;rw[List.length_drop]
       omega
     · have hlt:pos < l.length:=by have:=hle'.out;omega
       have hax:∃g,bx=some ⟨g,pos,none⟩:=by
        obtain⟨_,ax,cap,bx2,_,hnc,hu2,hc⟩:=hr'.out.win;simp only at hu2 hc hnc;cases hu2
        rcases hc with⟨_,_,q⟩|⟨g,o,_,q,ho⟩
        · omega
        exact⟨g,by rw[q,ho (by omega)]⟩
       obtain⟨g,rfl⟩:=hax;refine⟨g,pos,rfl,fun w1 hw1=> ?_⟩;obtain⟨g2,c2,hu2,hcell⟩:=Zgc (R:=⟨v,l,pos,.slice (some ⟨g,pos,none⟩) (l.length - pos) c,0⟩) (show(rowY v l).holds w1 from Zit hw1) hr'.out hlt;cases hu2;rw[e1'.out];intro j hj
       have hj2:j < (l.drop pos).length:=by
        have q:=hj;rw[List.length_take] at q;exact Nat.lt_of_lt_of_le q (Nat.min_le_right _ _)
       refine(hcell j hj2).trans (congrArg (fun z=>some (Value.int .u8 z)) ?_);exact(List.getElem_take (xs:=l.drop pos) (j:=n) (i:=j) (h:=hj)).symm
     · rw[e2'.out]
       simp only[Rdr.s,List.drop_drop]
     exact hA.to (ZbQ i ⟨v,l,pos + n,.slice ux (l.length - pos - n) (c - n),0⟩ []).symm
   have hno:¬r.s.okT n:=fun q=>hle (by rw[←hsl];exact q.2)
   have hk:=fun(w':World)=>ZjS (w:=w) (w':=w') (i:=i) hr hno
   obtain⟨v,l,pos,u,e⟩:=r;simp only at he hu0 hle;subst he;subst hu0;have hA:=(At.start h).to (ZbQ i ⟨v,l,pos,.slice bx0 (l.length - pos) c0,0⟩ []);have hF:=hA.facts
   have hle2:((l.length - pos:Nat):Int) < (n:Int):=by omega
   have hk':=Hd hk;clear hk hr hsl hs0 hno;obtain⟨hA,hF⟩:=fZ hA
   go_enter Tryz.func146,Tryz.ntmps146
   go_wp2_with (first|((with_reducible refine gst ?_);refine wTz hA ?_;clear hF hA;intro w1 hA hF)|((with_reducible refine gbx ?_);refine wCz hA ?_;clear hF hA;intro b1 w1 hA hb1 hF))
   refine(ZfZ h 20).mono ?_;rintro e w1 ⟨rfl,hT⟩
   go_wp2_with fail
   go_ret;exact hk'.out _ hT
 have hno:¬r.s.okT n:=fun q=>he q.1
 have hk:=fun(w':World)=>ZjS (w:=w) (w':=w') (i:=i) hr hno
 obtain⟨v,l,pos,u,e⟩:=r;simp only at he hu0;subst hu0;have hA:=(At.start h).to (ZbQ i ⟨v,l,pos,.slice bx0 (l.length - pos) c0,e⟩ []);have hF:=hA.facts
 have he':(e != 0)=true:=by simpa using he
 have he2:(e==0)=false:=by simpa using he
 have hk':=Hd hk;clear hk hr hsl hs0 hno;obtain⟨hA,hF⟩:=fZ hA
 go_enter Tryz.func146,Tryz.ntmps146
 go_wp2_with (first|((with_reducible refine gst ?_);refine wTz hA ?_;clear hF hA;intro w1 hA hF)|((with_reducible refine gbx ?_);refine wCz hA ?_;clear hF hA;intro b1 w1 hA hb1 hF))
 refine(ZfZ h 20).mono ?_;rintro e w1 ⟨rfl,hT⟩
 go_wp2_with fail
 go_ret;exact hk'.out _ hT
def InP (w:World) (i:Nat) (r:Rdr) (x:Value) (s':InS) (e:Ending) (w':World):Prop:=∃r':Rdr,e=.returned x∧r'.s=s'∧r'.Ok∧At [RdP i r] w [RdP i r'] w'
theorem Zck {w:World} {i:Nat} {r:Rdr} (h:Sep [RdP i r] w) (hr:r.Ok) (x:Int):Calls Tryz.prog 89 #[.pointer (some ⟨i,0,none⟩),.int .i64 x] w (InP w i r (.tuple #[]) (r.s.fail x)):=by
 refine(ZfZ h x).mono ?_;rintro e w1 ⟨rfl,hT⟩;exact⟨_,rfl,Zm0 r x,ok_e hr _,hT⟩
theorem ZiZ {w:World} {i:Nat} {r:Rdr} (h:Sep [RdP i r] w) (hr:r.Ok):Calls Tryz.prog 242 #[.pointer (some ⟨i,0,none⟩)] w (InP w i r (.int .u8 r.s.byteV) (r.s.takeS 1)):=by
 go_enter Tryz.func242,Tryz.ntmps242
 go_wp2_with fail
 refine(Zdz h hr 1 (by omega)).mono ?_;rintro e w1 ⟨xa,m,mc,r',rfl,hm,hc,hs,hr',hT⟩
 have hle:m≤1:=by
  rw[←hm];unfold InS.takeL
  split
  · rw[List.length_take];omega
  simp
 rcases(show m=0∨m=1 by omega) with rfl|rfl
 · have hv:r.s.byteV=0:=by unfold InS.byteV;rw[List.eq_nil_of_length_eq_zero hm];rfl
   go_wp2_with fail
   go_ret;exact⟨r',by rw[hv];rfl,hs,hr',hT⟩
 obtain⟨rfl,g,o,rfl,hcell⟩:=hc (by omega)
 obtain⟨x,hx⟩:∃x,r.s.takeL 1=[x]:=List.length_eq_one_iff.1 hm
 have hv:r.s.byteV=x:=by unfold InS.byteV;rw[hx];rfl
 have h0:=hcell w1 (hT.get .here) 0 (by rw[hx];simp);simp only[hx,List.getElem_cons_zero,Nat.add_zero] at h0;have hv':=Hd hv;clear hv hcell hc hm hx
 go_wp2_with fail
 go_ret;exact⟨r',by rw[hv'.out];rfl,hs,hr',hT⟩
theorem ZdX {w:World} {i:Nat} {r:Rdr} (h:Sep [RdP i r] w) (hr:r.Ok):Calls Tryz.prog 240 #[.pointer (some ⟨i,0,none⟩)] w (InP w i r (.bool r.s.truthV) r.s.truthS):=by
 go_enter Tryz.func240,Tryz.ntmps240
 go_wp2_with fail
 refine(ZiZ h hr).mono ?_;rintro e w1 ⟨r1,rfl,hs1,hr1,hT1⟩
 have hts:r.s.truthS=if 1 < r.s.byteV then(r.s.takeS 1).fail 10 else r.s.takeS 1:=rfl
 have htv:r.s.truthV=(decide (r.s.truthS.e=0)&&decide (r.s.byteV=1)):=rfl
 obtain⟨x,hx⟩:∃z,r.s.byteV=z:=⟨_,rfl⟩
 rw[hx] at hts htv;rw[hx]
 have fin:∀(r2:Rdr) (w2:World),r2.s=r.s.truthS→r2.Ok→At [RdP i r] w [RdP i r2] w2→(At [RdP i r] w [inC i r2.u r2.e,rowY r2.v r2.l] w2∧r2.e=r.s.truthS.e):=fun r2 w2 q _ hT=>⟨hT.to (ZbQ i r2 []),by rw[←q];rfl⟩
 by_cases h1:1 < x
 · rw[if_pos h1] at hts
   have hx1:(x==1)=false:=by simp;omega
   have hx1':decide (x=1)=false:=decide_eq_false (by omega)
   go_wp2_with fail
   refine(Zck (hT1.seps (K:=[RdP i r1]) pR) hr1 10).mono ?_;rintro e w2 ⟨r2,rfl,hs2,hr2,hT2⟩;have hT:=hT1.call1 .here hT2
   have hq:r2.s=r.s.truthS:=by rw[hs2,hs1,hts]
   obtain⟨hA,he⟩:=fin r2 w2 hq hr2 hT
   have hne:r2.e≠0:=by
    rw[he,hts];exact Zbj (by decide)
   have hne':(r2.e==0)=false:=by simpa using hne
   have hF:=hA.facts;have htv':=Hd htv;have hq':=Hd hq;clear hts htv hs1 hs2 hne he hq fin;obtain⟨hA,hF⟩:=fZ hA
   go_wp2_with fail
   go_ret;exact⟨r2,by rw[htv'.out,hx1',Bool.and_false];rfl,hq'.out,hr2,hT⟩
 rw[if_neg h1] at hts
 have hq:r1.s=r.s.truthS:=by rw[hs1,hts]
 obtain⟨hA,he⟩:=fin r1 w1 hq hr1 hT1;have hF:=hA.facts;rw[←he] at htv;have htv':=Hd htv;have hq':=Hd hq;clear hts htv hs1 he hq fin
 by_cases h0:r1.e=0
 · rw[h0] at hF
   obtain⟨hA,hF⟩:=fZ hA
   go_wp2_with fail
   go_ret;refine⟨r1,?_,hq'.out,hr1,hT1⟩;rw[htv'.out,decide_eq_true h0]
   simp
   rfl
 have h0':(r1.e==0)=false:=by simpa using h0
 obtain⟨hA,hF⟩:=fZ hA
 go_wp2_with fail
 go_ret;refine⟨r1,?_,hq'.out,hr1,hT1⟩;rw[htv'.out,decide_eq_false h0]
 rfl
theorem ZaF {w:World} {i:Nat} {r:Rdr} (h:Sep [RdP i r] w):Calls Tryz.prog 90 #[.pointer (some ⟨i,0,none⟩)] w fun e w'=>e=.returned (.bool (r.s.e != 0))∧At [RdP i r] w [RdP i r] w':=by
 have hA:=(At.start h).to (ZbQ i r []);obtain⟨hA,hF⟩:=fZ hA
 go_enter Tryz.func90,Tryz.ntmps90
 go_wp2_with fail
 go_ret;exact⟨rfl,At.start h⟩
theorem ZdE {w:World} {i:Nat} {r:Rdr} (h:Sep [RdP i r] w) (hr:r.Ok):Calls Tryz.prog 91 #[.pointer (some ⟨i,0,none⟩)] w fun e w'=>e=.returned (.int .i64 (r.s.left:Nat))∧At [RdP i r] w [RdP i r] w':=by
 have hA:=(At.start h).to (ZbQ i r []);obtain⟨bx0,c0,_,hu0,_⟩:=ZbA hr.win (n:=0) (Nat.zero_le _) w
 have hl:r.s.left=if r.e≠0 then 0 else r.l.length - r.pos:=by
  unfold InS.left Rdr.s
  simp
 rw[hu0] at hA;have hF:=hA.facts
 by_cases he:r.e=0
 · rw[if_neg (by simpa using he)] at hl
   rw[he] at hF;obtain⟨hA,hF⟩:=fZ hA
   go_enter Tryz.func91,Tryz.ntmps91
   go_wp2_with fail
   go_ret;exact⟨by rw[hl];rfl,At.start h⟩
 rw[if_pos he] at hl
 have he':(r.e != 0)=true:=by simpa using he
 have he2:(r.e==0)=false:=by simpa using he
 obtain⟨hA,hF⟩:=fZ hA
 go_enter Tryz.func91,Tryz.ntmps91
 go_wp2_with fail
 go_ret;exact⟨by rw[hl];rfl,At.start h⟩
theorem end_any {w:World} {i:Nat} {r:Rdr} (h:Sep [RdP i r] w) (hr:r.Ok):Calls Tryz.prog 26 #[.pointer (some ⟨i,0,none⟩)] w fun e w'=>e=.returned (.int .i64 r.s.fin)∧At [RdP i r] w [RdP i r] w':=by
 go_enter Tryz.func26,Tryz.ntmps26
 go_wp2_with fail
 refine(ZdE h hr).mono ?_;rintro e w1 ⟨rfl,hT⟩
 have hfi:r.s.fin=if 0 < r.s.left then 21 else r.e:=rfl
 have hA:=hT.to (ZbQ i r []);have hF:=hA.facts
 generalize r.s.left=m at *
 by_cases hm:0 < m
 · rw[if_pos hm] at hfi
   have hm':(0:Int) < (m:Int):=by omega
   have hfi':=Hd hfi;clear hfi;obtain⟨hA,hF⟩:=fZ hA
   go_wp2_with fail
   go_ret;exact⟨by rw[hfi'.out];rfl,hT⟩
 rw[if_neg hm] at hfi
 have hm':¬(0:Int) < (m:Int):=by omega
 have hfi':=Hd hfi;clear hfi;obtain⟨hA,hF⟩:=fZ hA
 go_wp2_with fail
 go_ret;exact⟨by rw[hfi'.out];rfl,hT⟩
end Wire
end
end Go.Proofs.YtkdjkngfnapjcaaGreatDoor
