import Derived.Test.YtknoefbcmomalabGreatDoorP4
import Derived.Test.YtknoefbcmomalabGreatDoorP6
set_option linter.unusedSimpArgs false
set_option linter.unusedVariables false
set_option maxRecDepth 100000
set_option maxHeartbeats 16000000
namespace Go.Proofs.YtknoefbcmomalabGreatDoor
section
namespace SortU
open Go.RowKit
open Go.Sort (swp ltInt PermIn)
abbrev intC (b:Nat) (x:Int):Part:=.cells b [.int .i64 x] 3
def O2Post (w:World) (g s:Nat) (d:Array Int) (r:List Value) (x:Nat) (a b:Nat) (e:Ending) (w':World):Prop:=
 ∃(p q y:Nat),e=.returned (.tuple #[.int .i64 p,.int .i64 q])∧(p=a∧q=b∨p=b∧q=a)∧y≤x + 1∧At [blkU g d r,intC s x] w [blkU g d r,intC s y] w'
theorem Zds {w:World} {g s cap n x:Nat} {d:Array Int} {r:List Value} (h:Sep [blkU g d r,intC s x] w) (hn:d.size=n) {a b:Nat} (ha:a < d.size) (hb:b < d.size) (hx:x < 1000) (hsz:d.size < 4611686018427387904):
 Calls Tryz.prog 247 #[.slice (some ⟨g,0,none⟩) n cap,.int .i64 a,.int .i64 b,.pointer (some ⟨s,0,none⟩)] w (O2Post w g s d r x a b):=by
 have hA:=At.start h;have hF:=hA.facts;have e1:=ZaA (r:=r) ha;have e2:=ZaA (r:=r) hb;clear h;obtain⟨hA,hF⟩:=fY hA;cases hl:ltU (atU d b) (atU d a)
 · have hl':=Hd hl;clear hl;go_enter Tryz.func247,Tryz.ntmps247;go_wp2_with fail;refine cl0 hA ?_;clear hF hA;intro w1 hA hF;(try simp only[uY] at hA hF);go_wp2_with fail;refine bodyPost_ret (v:=.tuple #[.int .i64 a,.int .i64 b]) (by simp[results,Tryz.results247,go_sem,hF]) rfl ?_;exact⟨a,b,x,rfl,.inl ⟨rfl,rfl⟩,by omega,hA⟩
 have hl':=Hd hl;clear hl;go_enter Tryz.func247,Tryz.ntmps247;go_wp2_with fail;refine cl0 hA ?_;clear hF hA;intro w1 hA hF;(try simp only[uY] at hA hF)
 go_wp2_with ((with_reducible refine gst ?_);refine wTy hA ?_;clear hF hA;intro w1 hA hF)
 refine bodyPost_ret (v:=.tuple #[.int .i64 b,.int .i64 a]) (by simp[results,Tryz.results247,go_sem,hF]) rfl ?_
 have hA:=(show At _ _ [intC s ((x + 1:Nat):Int),blkU g d r] _ from hA)
 exact⟨b,a,x + 1,rfl,.inr ⟨rfl,rfl⟩,by omega,hA.pick pR⟩
def Zmr (w:World) (g s:Nat) (d:Array Int) (r:List Value) (x:Nat) (a b c:Nat) (e:Ending) (w':World):Prop:=
 ∃(p y:Nat),e=.returned (.int .i64 p)∧(p=a∨p=b∨p=c)∧y≤x + 3∧At [blkU g d r,intC s x] w [blkU g d r,intC s y] w'
theorem Zdt {w:World} {g s cap n x:Nat} {d:Array Int} {r:List Value} (h:Sep [blkU g d r,intC s x] w) (hn:d.size=n) {a b c:Nat} (ha:a < d.size) (hb:b < d.size) (hc:c < d.size) (hx:x < 900) (hsz:d.size < 4611686018427387904):
 Calls Tryz.prog 239 #[.slice (some ⟨g,0,none⟩) n cap,.int .i64 a,.int .i64 b,.int .i64 c,.pointer (some ⟨s,0,none⟩)] w (Zmr w g s d r x a b c):=by
 have hA:=At.start h;have hF:=hA.facts;clear h;go_enter Tryz.func239,Tryz.ntmps239;go_wp2_with fail;refine(Zds (hA.seps pR) hn ha hb (by omega) hsz).mono ?_;rintro e w1 ⟨p1,q1,y1,rfl,h1,hy1,hT⟩;replace hA:=hA.call2 sR sR hT;clear hF hT;simp only[uA] at hA;go_wp2_with fail;refine(Zds (hA.seps pR) hn (a:=q1) (b:=c) (by omega) hc (by omega) hsz).mono ?_;rintro e w1 ⟨p2,q2,y2,rfl,h2,hy2,hT⟩;replace hA:=hA.call2 sR sR hT;clear hT;simp only[uA] at hA;go_wp2_with fail;refine(Zds (hA.seps pR) hn (a:=p1) (b:=p2) (by omega) (by omega) (by omega) hsz).mono ?_;rintro e w1 ⟨p3,q3,y3,rfl,h3,hy3,hT⟩;replace hA:=hA.call2 sR sR hT;clear hT;simp only[uA] at hA;go_wp2_with fail;go_ret;exact⟨q3,y3,rfl,by omega,by omega,hA⟩
theorem Zcb {w:World} {g s cap n x:Nat} {d:Array Int} {r:List Value} (h:Sep [blkU g d r,intC s x] w) (hn:d.size=n) {a:Nat} (ha:0 < a) (ha2:a + 1 < d.size) (hx:x < 900) (hsz:d.size < 4611686018427387904):
 Calls Tryz.prog 238 #[.slice (some ⟨g,0,none⟩) n cap,.int .i64 a,.pointer (some ⟨s,0,none⟩)] w (Zmr w g s d r x (a - 1) a (a + 1)):=by
 have hA:=At.start h;have hF:=hA.facts;clear h
 obtain⟨m,rfl⟩:∃m,a=m + 1:=⟨a - 1,by omega⟩
 go_enter Tryz.func238,Tryz.ntmps238;go_wp2_with fail;refine(Zdt (hA.seps pR) hn (a:=m) (b:=m + 1) (c:=m + 2) (by omega) (by omega) (by omega) hx hsz).mono ?_;rintro e w1 ⟨p,y,rfl,h1,hy,hT⟩;replace hA:=hA.call2 sR sR hT;clear hF hT;simp only[uA] at hA;go_wp2_with fail;go_ret;exact⟨p,y,rfl,by omega,hy,hA⟩
def ZpL (w:World) (g:Nat) (d:Array Int) (r:List Value) (a b:Nat) (e:Ending) (w':World):Prop:=
 ∃(p:Nat) (hv:Int),e=.returned (.tuple #[.int .i64 p,.int .i64 hv])∧a≤p∧p < b∧At [blkU g d r] w [blkU g d r] w'
theorem Zk8 {w:World} {g cap n:Nat} {d:Array Int} {r:List Value} (h:Sep [blkU g d r] w) (hn:d.size=n) {a b:Nat} (hab:a + 12 < b) (hb:b≤d.size) (hsz:d.size < 4611686018427387904):
 Calls Tryz.prog 218 #[.slice (some ⟨g,0,none⟩) n cap,.int .i64 a,.int .i64 b] w (ZpL w g d r a b):=by
 have hA:=At.start h;have hF:=hA.facts;clear h
 obtain⟨l,hl⟩:∃l,b - a=l:=⟨_,rfl⟩
 have el:(b:Int) - (a:Int)=(l:Int):=by omega
 obtain⟨q,hq⟩:∃q,l / 4=q:=⟨_,rfl⟩
 have eq:(l:Int) / 4=(q:Int):=by omega
 obtain⟨i,hi⟩:∃i,a + q=i:=⟨_,rfl⟩
 have ei:(a:Int) + (q:Int)=(i:Int):=by omega
 obtain⟨j,hj⟩:∃j,a + q * 2=j:=⟨_,rfl⟩
 have ej:(a:Int) + (q:Int) * 2=(j:Int):=by omega
 obtain⟨k,hk⟩:∃k,a + q * 3=k:=⟨_,rfl⟩
 have ek:(a:Int) + (q:Int) * 3=(k:Int):=by omega
 have h8:(8:Int)≤(l:Int):=by omega
 have hr1:a < i∧i + 1 < b∧a < j∧j + 1 < b∧a < k∧k < b:=by omega
 have hr2:50≤l→a + 1 < i∧i + 1 < b∧a + 1 < j∧j + 1 < b∧a + 1 < k∧k + 1 < b:=by omega
 have hr1':=Hd hr1;have hr2':=Hd hr2;clear hr1 hr2 hl hq hi hj hk;by_cases h50:50≤l
 · have h50':(50:Int)≤(l:Int):=by omega
   have hr:=hr2'.out h50;go_enter Tryz.func218,Tryz.ntmps218
   go_wp2_with ((with_reducible refine gal ?_);refine wA 3 (.int .i64 0) [.int .i64 0] hA ?_;clear hF hA;intro bS w1 hA hbS;obtain⟨hA,hF⟩:=fY hA)
   refine(Zcb (x:=0) (hA.seps pZ) hn (a:=i) (by omega) (by omega) (by omega) hsz).mono ?_;rintro e w1 ⟨p1,y1,rfl,g1,hy1,hT⟩;replace hA:=hA.call2 sZ sZ hT;clear hF hT;simp only[uA] at hA;go_wp2_with fail;refine(Zcb (x:=y1) (hA.seps pZ) hn (a:=j) (by omega) (by omega) (by omega) hsz).mono ?_;rintro e w1 ⟨p2,y2,rfl,g2,hy2,hT⟩;replace hA:=hA.call2 sZ sZ hT;clear hT;simp only[uA] at hA;go_wp2_with fail;refine(Zcb (x:=y2) (hA.seps pZ) hn (a:=k) (by omega) (by omega) (by omega) hsz).mono ?_;rintro e w1 ⟨p3,y3,rfl,g3,hy3,hT⟩;replace hA:=hA.call2 sZ sZ hT;clear hT;simp only[uA] at hA;go_wp2_with fail;refine(Zdt (x:=y3) (hA.seps pZ) hn (a:=p1) (b:=p2) (c:=p3) (by omega) (by omega) (by omega) (by omega) hsz).mono ?_;rintro e w1 ⟨p4,y4,rfl,g4,hy4,hT⟩;replace hA:=hA.call2 sZ sZ hT;clear hT;simp only[uA] at hA;have hpr:a≤p4∧p4 < b:=by omega
   obtain⟨hA,hF⟩:=fY hA;by_cases h0:(y4:Int)=0
   · rw[h0] at hF;go_wp2_with fail;refine bodyPost_ret (v:=.tuple #[.int .i64 p4,.int .i64 1]) (by simp[results,Tryz.results218,go_sem,hF]) rfl ?_;exact⟨p4,1,rfl,hpr.1,hpr.2,hA.pick pR⟩
   by_cases h12:(y4:Int)=12
   · rw[h12] at hF;go_wp2_with fail;refine bodyPost_ret (v:=.tuple #[.int .i64 p4,.int .i64 2]) (by simp[results,Tryz.results218,go_sem,hF]) rfl ?_;exact⟨p4,2,rfl,hpr.1,hpr.2,hA.pick pR⟩
   go_wp2_with fail;refine bodyPost_ret (v:=.tuple #[.int .i64 p4,.int .i64 0]) (by simp[results,Tryz.results218,go_sem,hF]) rfl ?_;exact⟨p4,0,rfl,hpr.1,hpr.2,hA.pick pR⟩
 have h50':(l:Int) < 50:=by omega
 have hr:=hr1'.out;go_enter Tryz.func218,Tryz.ntmps218
 go_wp2_with ((with_reducible refine gal ?_);refine wA 3 (.int .i64 0) [.int .i64 0] hA ?_;clear hF hA;intro bS w1 hA hbS;obtain⟨hA,hF⟩:=fY hA)
 refine(Zdt (x:=0) (hA.seps pZ) hn (a:=i) (b:=j) (c:=k) (by omega) (by omega) (by omega) (by omega) hsz).mono ?_;rintro e w1 ⟨p4,y4,rfl,g4,hy4,hT⟩;replace hA:=hA.call2 sZ sZ hT;clear hF hT;simp only[uA] at hA;have hpr:a≤p4∧p4 < b:=by omega
 obtain⟨hA,hF⟩:=fY hA;by_cases h0:(y4:Int)=0
 · rw[h0] at hF;go_wp2_with fail;refine bodyPost_ret (v:=.tuple #[.int .i64 p4,.int .i64 1]) (by simp[results,Tryz.results218,go_sem,hF]) rfl ?_;exact⟨p4,1,rfl,hpr.1,hpr.2,hA.pick pR⟩
 have h12:¬(y4:Int)=12:=by omega
 go_wp2_with fail;refine bodyPost_ret (v:=.tuple #[.int .i64 p4,.int .i64 0]) (by simp[results,Tryz.results218,go_sem,hF]) rfl ?_;exact⟨p4,0,rfl,hpr.1,hpr.2,hA.pick pR⟩
abbrev rndC (b:Nat) (x:Int):Part:=.cells b [.int .u64 x] 240
theorem ZhK (x y:Nat) (hx:x < 18446744073709551616) (hy:y < 18446744073709551616):∃z:Nat,bits .xor .u64 (x:Int) (y:Int)=(z:Int)∧z < 18446744073709551616:=
 ⟨_,bits_xor_u64_nat x y hx hy,Nat.xor_lt_two_pow (n:=64) (by omega) (by omega)⟩
theorem Zf3 {L0 F:List Part} {w W:World} {b y:Nat} (z:Nat) (h:At L0 w (rndC b y::F) W):At L0 w (rndC b z::F) (W.setCell ⟨b,0,none⟩ (.int .u64 z)):=h.store .here 0 (.int .u64 z)
theorem ZdY {L0 F:List Part} {w W:World} {b y:Nat} (h:At L0 w (rndC b y::F) W):W.cell? ⟨b,0,none⟩=some (.int .u64 y)∧W.frozen? ⟨b,0,none⟩=false:=
 ⟨(h.get (A:=rndC b y) .here:Zaa W b [.int .u64 y] 240).cell 0,(h.get (A:=rndC b y) .here:Zaa W b [.int .u64 y] 240).free 0⟩
def Zom (w:World) (b:Nat) (x:Nat) (e:Ending) (w':World):Prop:=∃y:Nat,e=.returned (.int .u64 y)∧y < 18446744073709551616∧At [rndC b x] w [rndC b y] w'
theorem Znr {w:World} {b x:Nat} (h:Sep [rndC b x] w) (hx:x < 18446744073709551616):Calls Tryz.prog 165 #[.pointer (some ⟨b,0,none⟩)] w (Zom w b x):=by
 obtain⟨A,e1,lA⟩:=ZhK x (x * 8192 % 18446744073709551616) hx (by omega);obtain⟨B,e2,lB⟩:=ZhK A (A / 128) lA (by omega);obtain⟨C,e3,lC⟩:=ZhK B (B * 131072 % 18446744073709551616) lB (by omega);have e1':bits .xor .u64 (x:Int) (IntKind.u64.wrap ((x:Int) * 8192))=(A:Int):=by rw[IntKind.wrap_u64,←e1];congr 1
 have e2':bits .xor .u64 (A:Int) ((A:Int) / 128)=(B:Int):=by rw[←e2];congr 1
 have e3':bits .xor .u64 (B:Int) (IntKind.u64.wrap ((B:Int) * 131072))=(C:Int):=by rw[IntKind.wrap_u64,←e3];congr 1
 clear e1 e2 e3;have hA:=At.start h;clear h;obtain⟨k1,f1⟩:=ZdY hA;go_enter Tryz.func165,Tryz.ntmps165;go_wp2_with fail;go_region
 replace hA:=(Zf3 A hA).drew;clear k1 f1;generalize World.drew (World.setCell _ _ _)=wz at *
 obtain⟨k1,f1⟩:=ZdY hA;go_wp2_with fail;go_region
 replace hA:=(Zf3 B hA).drew;clear k1 f1;generalize World.drew (World.setCell _ _ _)=wz at *
 obtain⟨k1,f1⟩:=ZdY hA;go_wp2_with fail;go_region
 replace hA:=(Zf3 C hA).drew;clear k1 f1;generalize World.drew (World.setCell _ _ _)=wz at *
 obtain⟨k1,f1⟩:=ZdY hA;go_wp2_with fail;go_ret;exact⟨C,rfl,lC,hA⟩
theorem ZeX (x:Nat) (h:x < 2 ^ 64):2 ^ Lib.bitLen x≤2 * x + 1∧(x < 4611686018427387904→Lib.bitLen x≤62):=by
 have key:∀n x,x < n→x < 2 ^ 64→2 ^ Lib.bitLen x≤2 * x + 1∧(0 < x→2 ^ Lib.bitLen x≤2 * x):=by
  intro n
  induction n with
  |zero=>intro x h;omega
  |succ n ih=>
   intro x h1 h2;by_cases h0:x=0
   · subst h0;exact⟨by decide,by omega⟩
   have:=ih (x / 2) (by omega) (by omega)
   have e:2 ^ Lib.bitLen x=2 * 2 ^ Lib.bitLen (x / 2):=by rw[Lib.bitLen_half x h0 h2,Nat.pow_add]
   by_cases h3:x / 2=0
   · rw[h3] at e;have e0:2 ^ Lib.bitLen 0=1:=by decide
     rw[e0] at e;omega
   have:=this.2 (by omega)
   omega
 have k1:=(key (x + 1) x (by omega) h).1;refine⟨k1,fun h2=> ?_⟩;rcases Nat.lt_or_ge 62 (Lib.bitLen x) with q|q
 · have h3:2 ^ 63≤2 ^ Lib.bitLen x:=Nat.pow_le_pow_right (by decide) q;have k2:=(key (x + 1) x (by omega) h).2;rcases Nat.eq_zero_or_pos x with h0|h0
   · subst h0;simp at k1;omega
   have:=k2 h0;omega
 exact q
theorem ZiF (k:Nat) (hk:k≤62):IntKind.u64.wrap ((2:Int) ^ k)=((2 ^ k:Nat):Int):=by
 have h:(2:Nat) ^ k≤2 ^ 62:=Nat.pow_le_pow_right (by decide) hk;rw[IntKind.wrap_u64,show((2:Int) ^ k)=((2 ^ k:Nat):Int) by push_cast;rfl];generalize (2:Nat) ^ k=p at h;omega
theorem Znp (n:Nat) (hn:n < 4611686018427387904) (w:World):Calls Tryz.prog 164 #[.int .i64 n] w fun e w'=>e=.returned (.int .u64 ((2 ^ Lib.bitLen n:Nat):Int))∧w'=w:=by
 have hLen:∀w,Calls Tryz.prog 92 #[.int .u64 (n:Int)] w fun e w'=>e=.returned (.int .i64 (Lib.bitLen n:Nat))∧w'=w:=fun w=>by
  have h:=Tryz.bits_Len (n:Int) w (by omega) (by omega);rwa [Int.toNat_natCast] at h
 have hk:=(ZeX n (by omega)).2 hn;have hp:IntKind.u64.wrap ((2:Int) ^ min (Lib.bitLen n) 64)=((2 ^ Lib.bitLen n:Nat):Int):=by rw[Nat.min_eq_left (by omega)];exact ZiF (Lib.bitLen n) hk
 go_enter Tryz.func164,Tryz.ntmps164
 go_wp2_with (go_at_call 92;refine(hLen _).mono ?_;rintro e w' ⟨rfl,rfl⟩)
 go_ret;exact⟨congrArg (fun x=>Ending.returned (.int .u64 x)) (ZiF (Lib.bitLen n) hk),rfl⟩
def ZpS (w:World) (g:Nat) (d:Array Int) (r:List Value) (a b:Nat) (e:Ending) (w':World):Prop:=∃d',e=.returned (.tuple #[])∧PermIn a b d d'∧At [blkU g d r] w [blkU g d' r] w'
def BrkRel (w:World) (g:Nat) (d:Array Int) (r:List Value) (a b t bR:Nat) (k:Nat) (u:Value) (wr:World):Prop:=
 ∃(i y:Nat) (dk:Array Int),u=.int .i64 i∧t≤i + 1∧i + k=t + 2∧y < 18446744073709551616∧PermIn a b d dk∧At [blkU g d r] w [rndC bR y,blkU g dk r] wr
theorem Zl9 {w:World} {g cap n:Nat} {d:Array Int} {r:List Value} (h:Sep [blkU g d r] w) (hn:d.size=n) {a b:Nat} (hab:a + 12 < b) (hb:b≤d.size) (hsz:d.size < 4611686018427387904):
 Calls Tryz.prog 217 #[.slice (some ⟨g,0,none⟩) n cap,.int .i64 a,.int .i64 b] w (ZpS w g d r a b):=by
 have hA:=At.start h;have hF:=hA.facts;clear h
 obtain⟨l,hl⟩:∃l,b - a=l:=⟨_,rfl⟩
 have el:(b:Int) - (a:Int)=(l:Int):=by omega
 obtain⟨q,hq⟩:∃q,l / 4=q:=⟨_,rfl⟩
 have eq:(l:Int) / 4=(q:Int):=by omega
 obtain⟨t,ht⟩:∃t,a + q * 2=t:=⟨_,rfl⟩
 have et:(a:Int) + (q:Int) * 2=(t:Int):=by omega
 have h8:(8:Int)≤(l:Int):=by omega
 obtain⟨M,hM⟩:∃M,2 ^ Lib.bitLen l=M:=⟨_,rfl⟩
 have hM2:M≤2 * l + 1∧1≤M:=by rw[←hM];exact⟨(ZeX l (by omega)).1,Nat.one_le_two_pow⟩
 have hlw:IntKind.u64.wrap (l:Int)=(l:Int):=by rw[IntKind.wrap_u64];omega
 have hM1:M≤2 * l:=by
  have h2:2 ^ Lib.bitLen l=2 * 2 ^ Lib.bitLen (l / 2):=by rw[Lib.bitLen_half l (by omega) (by omega),Nat.pow_add]
  omega
 have hM':=Hd hM;have hr:=Hd (show a + 2≤t∧t + 2≤b∧l=b - a by omega);clear hM hl hq ht;go_enter Tryz.func217,Tryz.ntmps217
 go_wp2_with (first|((with_reducible refine gal ?_);refine wA 240 (.int .u64 0) [.int .u64 0] hA ?_;clear hF hA;intro bR w1 hA hbR;obtain⟨hA,hF⟩:=fY hA)|((with_reducible refine gst ?_);refine wTy hA ?_;clear hF hA;intro w1 hA hF))
 refine(Znp l (by omega) _).mono ?_;rintro e _ ⟨rfl,rfl⟩;rw[hM'.out];go_wp2_with fail;go_loopg [9] 3 (BrkRel w g d r a b t bR)
 case atStart=>exact⟨t - 1,l,d,by have:=hr.out;congr 1;omega,by omega,by have:=hr.out;omega,by omega,Sort.permIn_refl d a b,hA⟩
 case round=>
  obtain⟨i,y,dk,rfl,hi1,hik,hy,hp,hB⟩:=hrel;have hp':=Hd hp;have hdk:dk.size=d.size:=hp.1;clear hF hA hp;have hA:=hB;clear hB;obtain⟨hA,hF⟩:=fY hA;rcases Nat.eq_zero_or_pos gk with h0|hpos
  · subst h0;go_wp2_with fail;go_end0
    exact⟨dk,rfl,hp'.out,hA.pick pR⟩
  have hle:(i:Int)≤(t:Int) + 1:=by omega
  go_wp2_with fail;refine(Znr (hA.sep1 .here) hy).mono ?_;rintro e w1 ⟨z,rfl,hz,hT⟩;replace hA:=hA.call1 .here hT;clear hF hT;simp only[uA] at hA;obtain⟨hA,hF⟩:=fY hA
  obtain⟨O,hO⟩:∃O:Nat,O=z&&& (M - 1):=⟨_,rfl⟩
  have lO:O≤M - 1:=by rw[hO];exact Nat.and_le_right
  have eAnd:bits .and .u64 (z:Int) ((M:Int) - 1)=(O:Int):=by
   rw[show((M:Int) - 1)=((M - 1:Nat):Int) by omega,bits_and_u64_nat _ _ hz (by omega),hO]
  clear hO;by_cases hge:(l:Int)≤(O:Int)
  · obtain⟨p,hpp⟩:∃p,a + (O - l)=p:=⟨_,rfl⟩
    have ep:(a:Int) + ((O:Int) - (l:Int))=(p:Int):=by omega
    have hpb:=Hd (show a≤p∧p < b by have:=hr.out;omega);clear hpp;by_cases hip:i=p
    · subst hip;go_wp2_with fail;have hA:=hA.pick (K:=[blkU g dk r,rndC bR z]) pR;have hbb:=hpb.out;(try clear hF);(have k1:=Zak hA .here (i:=i) (by omega));(have k2:=Zak hA .here (i:=i) (by omega));(have f1:=Zaj hA .here (i));(have f2:=Zaj hA .here (i));go_region;(have hB:=(ZaT hA .here (i:=i) (j:=i) (by omega) (by omega)).drew);(clear k1 k2 f1 f2 hA);(have hA:=hB);(clear hB);(generalize World.drew (World.setCell _ _ _)=wz at *)
      go_wp2_with fail;go_roundg (gk - 1);case measure=>omega
      case rel=>exact⟨i + 1,z,swp dk i i,by simp,by omega,by omega,hz,Sort.permIn_trans _ _ _ a b hp'.out (Sort.swp_permIn dk a b i i hbb.1 hbb.2 hbb.1 hbb.2 (by omega)),hA.pick pR⟩
    go_wp2_with fail;have hA:=hA.pick (K:=[blkU g dk r,rndC bR z]) pR;have hbb:=hpb.out;have hr1:=hr.out.1;have hr2:=hr.out.2.1;(try clear hF);(have k1:=Zak hA .here (i:=i) (by omega));(have k2:=Zak hA .here (i:=p) (by omega));(have f1:=Zaj hA .here (i));(have f2:=Zaj hA .here (p));go_region;(have hB:=(ZaT hA .here (i:=i) (j:=p) (by omega) (by omega)).drew);(clear k1 k2 f1 f2 hA);(have hA:=hB);(clear hB);(generalize World.drew (World.setCell _ _ _)=wz at *)
    go_wp2_with fail;go_roundg (gk - 1);case measure=>omega
    case rel=>exact⟨i + 1,z,swp dk i p,by simp,by omega,by omega,hz,Sort.permIn_trans _ _ _ a b hp'.out (Sort.swp_permIn dk a b i p (by omega) (by omega) hbb.1 hbb.2 (by omega)),hA.pick pR⟩
  obtain⟨p,hpp⟩:∃p,a + O=p:=⟨_,rfl⟩
  have ep:(a:Int) + (O:Int)=(p:Int):=by omega
  have hpb:=Hd (show a≤p∧p < b by have:=hr.out;omega);clear hpp;by_cases hip:i=p
  · subst hip;go_wp2_with fail;have hA:=hA.pick (K:=[blkU g dk r,rndC bR z]) pR;have hbb:=hpb.out;(try clear hF);(have k1:=Zak hA .here (i:=i) (by omega));(have k2:=Zak hA .here (i:=i) (by omega));(have f1:=Zaj hA .here (i));(have f2:=Zaj hA .here (i));go_region;(have hB:=(ZaT hA .here (i:=i) (j:=i) (by omega) (by omega)).drew);(clear k1 k2 f1 f2 hA);(have hA:=hB);(clear hB);(generalize World.drew (World.setCell _ _ _)=wz at *)
    go_wp2_with fail;go_roundg (gk - 1);case measure=>omega
    case rel=>exact⟨i + 1,z,swp dk i i,by simp,by omega,by omega,hz,Sort.permIn_trans _ _ _ a b hp'.out (Sort.swp_permIn dk a b i i hbb.1 hbb.2 hbb.1 hbb.2 (by omega)),hA.pick pR⟩
  go_wp2_with fail;have hA:=hA.pick (K:=[blkU g dk r,rndC bR z]) pR;have hbb:=hpb.out;have hr1:=hr.out.1;have hr2:=hr.out.2.1;(try clear hF);(have k1:=Zak hA .here (i:=i) (by omega));(have k2:=Zak hA .here (i:=p) (by omega));(have f1:=Zaj hA .here (i));(have f2:=Zaj hA .here (p));go_region;(have hB:=(ZaT hA .here (i:=i) (j:=p) (by omega) (by omega)).drew);(clear k1 k2 f1 f2 hA);(have hA:=hB);(clear hB);(generalize World.drew (World.setCell _ _ _)=wz at *)
  go_wp2_with fail;go_roundg (gk - 1);case measure=>omega
  case rel=>exact⟨i + 1,z,swp dk i p,by simp,by omega,by omega,hz,Sort.permIn_trans _ _ _ a b hp'.out (Sort.swp_permIn dk a b i p (by omega) (by omega) hbb.1 hbb.2 (by omega)),hA.pick pR⟩
end SortU
end
section
namespace SortU
open Go.RowKit
open Go.Sort (swp ltInt scanUp scanDown partLoop partEqLoop)
theorem Zes {p:Int→Bool} {d:Array Int} {j i:Nat} (h:i≤j) (hp:p d[i]! =true):scanUp p d j i=scanUp p d j (i + 1):=by rw[scanUp,if_pos (by simp[h,hp])]
theorem Zbp {p:Int→Bool} {d:Array Int} {j i:Nat} (h:i≤j→p d[i]! =false):scanUp p d j i=i:=by
 rw[scanUp,if_neg];simp only[Bool.and_eq_true,decide_eq_true_eq,not_and,Bool.not_eq_true];exact h
theorem ZhW {p:Int→Bool} {d:Array Int} {i j:Nat} (h:i≤j + 1) (hp:p d[j + 1]! =true):scanDown p d i (j + 1)=scanDown p d i j:=by rw[scanDown,if_pos (by simp[h,hp])]
theorem Zcp {p:Int→Bool} {d:Array Int} {i x y:Nat} (h:i≤x) (hx:x=y + 1) (hp:p d[x]! =true):scanDown p d i x=scanDown p d i y:=by subst hx;exact ZhW h hp
theorem Za9 {p:Int→Bool} {d:Array Int} {i j:Nat} (h:i≤j→p d[j]! =false):scanDown p d i j=j:=by
 cases j with
 |zero=>rfl
 |succ j=>
  rw[scanDown,if_neg];simp only[Bool.and_eq_true,decide_eq_true_eq,not_and,Bool.not_eq_true];exact h
def ScanU (L0:List Part) (w:World) (g:Nat) (d:Array Int) (r:List Value) (p:Int→Bool) (i0 j:Nat) (k:Nat) (u:Value) (wr:World):Prop:=
 ∃i:Nat,u=.int .i64 i∧i0≤i∧(i≤j + 1∨i=i0)∧j + 1 - i≤k∧At L0 w [blkU g d r] wr∧scanUp p d j i=scanUp p d j i0
def ScanD (L0:List Part) (w:World) (g:Nat) (d:Array Int) (r:List Value) (p:Int→Bool) (i j0:Nat) (k:Nat) (u:Value) (wr:World):Prop:=
 ∃j:Nat,u=.int .i64 j∧j≤j0∧(i≤j + 1∨j=j0)∧j + 1 - i≤k∧At L0 w [blkU g d r] wr∧scanDown p d i j=scanDown p d i j0
def ltP (d:Array Int) (a:Nat):Int→Bool:=fun x=>ltInt x d[a]!
def geP (d:Array Int) (a:Nat):Int→Bool:=fun x=> !ltInt x d[a]!
def leP (d:Array Int) (a:Nat):Int→Bool:=fun x=> !ltInt d[a]! x
def gtP (d:Array Int) (a:Nat):Int→Bool:=fun x=>ltInt d[a]! x
theorem Zgd {a i j i2 j2:Nat} {d:Array Int} (h1:scanUp (ltP d a) d j i=i2) (h2:scanDown (geP d a) d i2 j=j2) (h:j2 < i2):partLoop ltInt a i j d=(j2,d):=by
 unfold ltP at h1;unfold geP at h2;rw[partLoop];simp only[h1,h2];rw[if_pos h]
theorem Zh3 {a i j i2 j2:Nat} {d:Array Int} (h1:scanUp (ltP d a) d j i=i2) (h2:scanDown (geP d a) d i2 j=j2) (h:i2≤j2) (hi:i≤i2) (hj:j2≤j):partLoop ltInt a i j d=partLoop ltInt a (i2 + 1) (j2 - 1) (swp d i2 j2):=by
 unfold ltP at h1;unfold geP at h2;rw[partLoop];simp only[h1,h2];rw[if_neg (by omega),dif_pos (by omega)]
theorem Zh4 {a i j i2 j2:Nat} {d:Array Int} (h1:scanUp (leP d a) d j i=i2) (h2:scanDown (gtP d a) d i2 j=j2) (h:j2 < i2):partEqLoop ltInt a i j d=(i2,d):=by
 unfold leP at h1;unfold gtP at h2;rw[partEqLoop];simp only[h1,h2];rw[if_pos h]
theorem Zla {a i j i2 j2:Nat} {d:Array Int} (h1:scanUp (leP d a) d j i=i2) (h2:scanDown (gtP d a) d i2 j=j2) (h:i2≤j2) (hi:i≤i2) (hj:j2≤j):partEqLoop ltInt a i j d=partEqLoop ltInt a (i2 + 1) (j2 - 1) (swp d i2 j2):=by
 unfold leP at h1;unfold gtP at h2;rw[partEqLoop];simp only[h1,h2];rw[if_neg (by omega),dif_pos (by omega)]
def Zd6 (L0:List Part) (w:World) (g:Nat) (d:Array Int) (r:List Value) (a b p:Nat) (e:Ending) (w':World):Prop:=
 e=.returned (.tuple #[.int .i64 (Sort.partition ltInt d a b p).1,.bool (Sort.partition ltInt d a b p).2.1])∧At L0 w [blkU g (Sort.partition ltInt d a b p).2.2 r] w'
def PartRel (L0:List Part) (w:World) (g:Nat) (d:Array Int) (r:List Value) (a B i0 j0:Nat) (k:Nat) (u v:Value) (wr:World):Prop:=
 ∃(i j:Nat) (dk:Array Int),u=.int .i64 i∧v=.int .i64 j∧a + 1≤i∧i≤B + 1∧a≤j∧j≤B∧j + 1 - i≤k∧dk.size=d.size∧At L0 w [blkU g dk r] wr∧partLoop ltInt a i j dk=partLoop ltInt a i0 j0 d
theorem Zgc {w:World} {g cap n:Nat} {d0:Array Int} {r:List Value} (h:Sep [blkU g d0 r] w) (hn:d0.size=n) {a b p:Nat} (hap:a≤p) (hpb:p < b) (hb:b≤d0.size) (hsz:d0.size < 4611686018427387904):
 Calls Tryz.prog 223 #[.slice (some ⟨g,0,none⟩) n cap,.int .i64 a,.int .i64 b,.int .i64 p] w (Zd6 [blkU g d0 r] w g d0 r a b p):=by
 have hres:=Hd (show Sort.partition ltInt d0 a b p=(let d:=swp d0 a p;let i:=scanUp (ltP d a) d (b - 1) (a + 1);let j:=scanDown (geP d a) d i (b - 1);if i > j then(j,true,swp d j a) else(let q:=partLoop ltInt a (i + 1) (j - 1) (swp d i j);(q.1,false,swp q.2 q.1 a))) from rfl)
 obtain⟨L0,hL0,hA⟩:∃L0,L0=[blkU g d0 r]∧At L0 w [blkU g d0 r] w:=⟨_,rfl,At.start h⟩
 rw[←hL0];clear h hL0
 obtain⟨B,hBb⟩:∃B,b=B + 1:=⟨b - 1,by omega⟩
 have eB:(b:Int) - 1=(B:Int):=by omega
 have gB1:b≤B + 1:=by omega
 have gB2:B + 1≤b:=by omega
 have hBb':=Hd (show b - 1=B by omega);clear hBb
 obtain⟨A1,hA1⟩:∃A1,a + 1=A1:=⟨_,rfl⟩
 have eA1:(a:Int) + 1=(A1:Int):=by omega
 have hA1':=Hd hA1;have gA1:a + 1≤A1∧A1≤a + 1:=by omega
 obtain⟨gA,gA'⟩:=gA1;clear hA1;go_enter Tryz.func223,Tryz.ntmps223;go_upto_region 1 with fail
 go_cut [0] from 12 to 25 (fun u wc=>u=.slice (some ⟨g,0,none⟩) n cap∧At L0 w [blkU g (swp d0 a p) r] wc)
 case first=>
  by_cases hxy:a=p
  · subst hxy;(try clear hF);(have k1:=Zak hA .here (i:=a) (by omega));(have k2:=Zak hA .here (i:=a) (by omega));(have f1:=Zaj hA .here (a));(have f2:=Zaj hA .here (a));go_region;(have hB:=(ZaT hA .here (i:=a) (j:=a) (by omega) (by omega)).drew);(clear k1 k2 f1 f2 hA);(have hA:=hB);(clear hB);(generalize World.drew (World.setCell _ _ _)=wz at *)
    go_wp2_with fail;go_meet;case rel=>exact⟨rfl,hA⟩
  (try clear hF);(have k1:=Zak hA .here (i:=a) (by omega));(have k2:=Zak hA .here (i:=p) (by omega));(have f1:=Zaj hA .here (a));(have f2:=Zaj hA .here (p));go_region;(have hB:=(ZaT hA .here (i:=a) (j:=p) (by omega) (by omega)).drew);(clear k1 k2 f1 f2 hA);(have hA:=hB);(clear hB);(generalize World.drew (World.setCell _ _ _)=wz at *)
  go_wp2_with fail;go_meet;case rel=>exact⟨rfl,hA⟩
 case rest=>
  obtain⟨rfl,hB⟩:=hcut;replace hA:=hB;clear hB
  obtain⟨d1,hd1⟩:∃z,swp d0 a p=z:=⟨_,rfl⟩
  rw[hd1] at hA;have d1s:d1.size=d0.size:=by rw[←hd1];exact Zav _ _ _
  have hd1':=Hd hd1;clear hd1;go_upto_block 0 with fail
  go_cut [10] from 30 to 45 (fun u wc=>∃q:Nat,u=.int .i64 q∧A1≤q∧(q≤B + 1∨q=A1)∧scanUp (ltP d1 a) d1 B A1=q∧At L0 w [blkU g d1 r] wc)
  case first=>
   go_wp2_with fail;go_loopg [10] (B + 1 - A1) (ScanU L0 w g d1 r (ltP d1 a) A1 B)
   case atStart=>exact⟨A1,by first|rfl|simp,Nat.le_refl _,.inr rfl,Nat.le_refl _,hA,rfl⟩
   case round=>
    obtain⟨x,rfl,hx1,hx2,hk,hB,hO⟩:=hrel;have hO':=Hd hO;clear hA hO;have hA:=hB;clear hB;have hF:=hA.facts;have ea:=ZaA (d:=d1) (r:=r) (i:=a) (by omega);obtain⟨hA,hF⟩:=fY hA;by_cases hc:x≤B
    · have hg:decide ((x:Int)≤((B:Nat):Int))=true:=by simp;omega
      have ex:=ZaA (d:=d1) (r:=r) (i:=x) (by omega);cases hl:ltU (atU d1 x) (atU d1 a)
      · have hs:=Hd (Zbp (p:=ltP d1 a) (d:=d1) (j:=B) (fun _=>(show ltP d1 a d1[x]! =false from by unfold ltP;simpa [ltU,atU] using hl)));have hl':=Hd hl;clear hl;go_wp2_with fail;refine cl0 hA ?_;clear hF hA;intro w1 hA hF;(try simp only[uY] at hA hF);go_wp2_with fail;go_meet;case rel=>exact⟨x,rfl,by omega,by omega,by rw[←hO'.out,hs.out],hA⟩
      have hs:=Hd (Zes (p:=ltP d1 a) (d:=d1) (j:=B) hc (show ltP d1 a d1[x]! =true from by unfold ltP;simpa [ltU,atU] using hl));have hl':=Hd hl;clear hl;go_wp2_with fail;refine cl0 hA ?_;clear hF hA;intro w1 hA hF;(try simp only[uY] at hA hF);go_wp2_with fail;go_roundg (gk - 1);case measure=>omega
      case rel=>exact⟨x + 1,by simp,by omega,by omega,by omega,hA,by rw[←hO'.out,hs.out]⟩
    have hg:decide ((x:Int)≤((B:Nat):Int))=false:=by simp;omega
    have hs:=Hd (Zbp (p:=ltP d1 a) (d:=d1) (j:=B) (i:=x) (fun h=>absurd h hc));go_wp2_with fail;refine cl2 hA ?_;clear hF hA;intro w1 hA hF;(try simp only[uY] at hA hF);go_wp2_with fail;go_meet;case rel=>exact⟨x,rfl,by omega,by omega,by rw[←hO'.out,hs.out],hA⟩
  case rest=>
   obtain⟨i2,rfl,i21,i22,i23,hB⟩:=hcut;clear hA;have hA:=hB;clear hB;have i24:=Hd i23;clear i23;go_upto_block 2 with fail
   go_cut [11] from 46 to 62 (fun u wc=>∃q:Nat,u=.int .i64 q∧q≤B∧(i2≤q + 1∨q=B)∧scanDown (geP d1 a) d1 i2 B=q∧At L0 w [blkU g d1 r] wc)
   case first=>
    go_wp2_with fail;go_loopg [11] (B + 1 - i2) (ScanD L0 w g d1 r (geP d1 a) i2 B)
    case atStart=>exact⟨B,by first|rfl|simp,Nat.le_refl _,.inr rfl,Nat.le_refl _,hA,rfl⟩
    case round=>
     obtain⟨x,rfl,hx1,hx2,hk,hB,hO⟩:=hrel;have hO':=Hd hO;clear hA hO;have hA:=hB;clear hB;have hF:=hA.facts;have ea:=ZaA (d:=d1) (r:=r) (i:=a) (by omega);obtain⟨hA,hF⟩:=fY hA;by_cases hc:i2≤x
     · have hg:decide (((i2:Nat):Int)≤(x:Int))=true:=by simp;omega
       obtain⟨y,hy⟩:∃y,x=y + 1:=⟨x - 1,by omega⟩
       have ey:(x:Int) - 1=(y:Int):=by omega
       have gy1:x≤y + 1:=by omega
       have gy2:y + 1≤x:=by omega
       have hy':=Hd hy;clear hy;have ex:=ZaA (d:=d1) (r:=r) (i:=x) (by omega);cases hl:ltU (atU d1 x) (atU d1 a)
       · have hs:=Hd (Zcp (p:=geP d1 a) (d:=d1) (i:=i2) hc hy'.out (show geP d1 a d1[x]! =true from by unfold geP;simpa [ltU,atU] using hl));have hl':=Hd hl;clear hl;go_wp2_with fail;refine cl0 hA ?_;clear hF hA;intro w1 hA hF;(try simp only[uY] at hA hF);go_wp2_with fail;go_roundg (gk - 1);case measure=>omega
         case rel=>exact⟨y,by first|rfl|simp,by omega,by omega,by omega,hA,by rw[←hO'.out,hs.out]⟩
       have hs:=Hd (Za9 (p:=geP d1 a) (d:=d1) (i:=i2) (fun _=>(show geP d1 a d1[x]! =false from by unfold geP;simpa [ltU,atU] using hl)));have hl':=Hd hl;clear hl;go_wp2_with fail;refine cl0 hA ?_;clear hF hA;intro w1 hA hF;(try simp only[uY] at hA hF);go_wp2_with fail;go_meet;case rel=>exact⟨x,rfl,by omega,by omega,by rw[←hO'.out,hs.out],hA⟩
     have hg:decide (((i2:Nat):Int)≤(x:Int))=false:=by simp;omega
     have hs:=Hd (Za9 (p:=geP d1 a) (d:=d1) (i:=i2) (j:=x) (fun h=>absurd h hc));go_wp2_with fail;refine cl2 hA ?_;clear hF hA;intro w1 hA hF;(try simp only[uY] at hA hF);go_wp2_with fail;go_meet;case rel=>exact⟨x,rfl,by omega,by omega,by rw[←hO'.out,hs.out],hA⟩
   case rest=>
    obtain⟨j2,rfl,j21,j22,j23,hB⟩:=hcut;clear hA;have hA:=hB;clear hB;have j24:=Hd j23;clear j23;by_cases hij:j2 < i2
    · go_upto_region 8 with fail
      go_cut [0] from 12 to 94 (fun u wc=>u=.slice (some ⟨g,0,none⟩) n cap∧At L0 w [blkU g (swp d1 j2 a) r] wc)
      case first=>
       by_cases hxy:j2=a
       · subst hxy;(try clear hF);(have k1:=Zak hA .here (i:=j2) (by omega));(have k2:=Zak hA .here (i:=j2) (by omega));(have f1:=Zaj hA .here (j2));(have f2:=Zaj hA .here (j2));go_region;(have hB:=(ZaT hA .here (i:=j2) (j:=j2) (by omega) (by omega)).drew);(clear k1 k2 f1 f2 hA);(have hA:=hB);(clear hB);(generalize World.drew (World.setCell _ _ _)=wz at *)
         go_wp2_with fail;go_meet;case rel=>exact⟨rfl,hA⟩
       (try clear hF);(have k1:=Zak hA .here (i:=j2) (by omega));(have k2:=Zak hA .here (i:=a) (by omega));(have f1:=Zaj hA .here (j2));(have f2:=Zaj hA .here (a));go_region;(have hB:=(ZaT hA .here (i:=j2) (j:=a) (by omega) (by omega)).drew);(clear k1 k2 f1 f2 hA);(have hA:=hB);(clear hB);(generalize World.drew (World.setCell _ _ _)=wz at *)
       go_wp2_with fail;go_meet;case rel=>exact⟨rfl,hA⟩
      case rest=>
       obtain⟨rfl,hB⟩:=hcut;replace hA:=hB;clear hB
       obtain⟨d2,hd2⟩:∃z,swp d1 j2 a=z:=⟨_,rfl⟩
       rw[hd2] at hA;have d2s:d2.size=d1.size:=by rw[←hd2];exact Zav _ _ _
       have hd2':=Hd hd2;clear hd2;have hp:=Hd (show Sort.partition ltInt d0 a b p=(j2,true,d2) by rw[hres.out];simp only[hd1'.out,hBb'.out,hA1'.out,i24.out,j24.out];rw[if_pos hij,hd2'.out]);go_wp2_with fail;refine bodyPost_ret (v:=.tuple #[.int .i64 j2,.bool true]) (by simp[results,Tryz.results223,go_sem]) rfl ?_;unfold Zd6;rw[hp.out];exact⟨rfl,hA⟩
    have hle:i2≤j2:=by omega
    clear hij;go_upto_region 10 with fail
    go_cut [0] from 12 to 94 (fun u wc=>u=.slice (some ⟨g,0,none⟩) n cap∧At L0 w [blkU g (swp d1 i2 j2) r] wc)
    case first=>
     by_cases hxy:i2=j2
     · subst hxy;(try clear hF);(have k1:=Zak hA .here (i:=i2) (by omega));(have k2:=Zak hA .here (i:=i2) (by omega));(have f1:=Zaj hA .here (i2));(have f2:=Zaj hA .here (i2));go_region;(have hB:=(ZaT hA .here (i:=i2) (j:=i2) (by omega) (by omega)).drew);(clear k1 k2 f1 f2 hA);(have hA:=hB);(clear hB);(generalize World.drew (World.setCell _ _ _)=wz at *)
       go_wp2_with fail;go_meet;case rel=>exact⟨rfl,hA⟩
     (try clear hF);(have k1:=Zak hA .here (i:=i2) (by omega));(have k2:=Zak hA .here (i:=j2) (by omega));(have f1:=Zaj hA .here (i2));(have f2:=Zaj hA .here (j2));go_region;(have hB:=(ZaT hA .here (i:=i2) (j:=j2) (by omega) (by omega)).drew);(clear k1 k2 f1 f2 hA);(have hA:=hB);(clear hB);(generalize World.drew (World.setCell _ _ _)=wz at *)
     go_wp2_with fail;go_meet;case rel=>exact⟨rfl,hA⟩
    case rest=>
     obtain⟨rfl,hB⟩:=hcut;replace hA:=hB;clear hB
     obtain⟨d2,hd2⟩:∃z,swp d1 i2 j2=z:=⟨_,rfl⟩
     rw[hd2] at hA;have d2s:d2.size=d1.size:=by rw[←hd2];exact Zav _ _ _
     have hd2':=Hd hd2;clear hd2
     obtain⟨i3,hi3⟩:∃i3,i2 + 1=i3:=⟨_,rfl⟩
     obtain⟨j3,hj3⟩:∃j3,j2 - 1=j3:=⟨_,rfl⟩
     have ei3:(i2:Int) + 1=(i3:Int):=by omega
     have ej3:(j2:Int) - 1=(j3:Int):=by omega
     have hi3':=Hd hi3;have hj3':=Hd hj3;have gi3:A1 + 1≤i3:=by omega
     have gi4:i3≤B + 1:=by omega
     have gj3:a≤j3:=by omega
     have gj4:j3≤B:=by omega
     clear hi3 hj3;go_upto_block 4 with fail
     go_cut [10,11] from 99 to 152 (fun u v wc=>∃(q:Nat) (dq:Array Int),v=.int .i64 q∧a≤q∧q≤B∧dq.size=d0.size∧partLoop ltInt a i3 j3 d2=(q,dq)∧At L0 w [blkU g dq r] wc)
     case first=>
      go_wp2_with fail;go_loopg [10,11] (j3 + 1 - i3) (PartRel L0 w g d2 r a B i3 j3)
      case atStart=>exact⟨i3,j3,d2,rfl,rfl,by omega,by omega,by omega,by omega,Nat.le_refl _,rfl,hA,rfl⟩
      case round=>
       obtain⟨i,j,dk,rfl,rfl,hi1,hi2,hj1,hj2,hk,hsk,hB,hO⟩:=hrel;have hO':=Hd hO;clear hA hO;have hA:=hB;clear hB;go_upto_block 6 with fail
       go_cut [10] from 99 to 114 (fun u wc=>∃q:Nat,u=.int .i64 q∧i≤q∧(q≤j + 1∨q=i)∧scanUp (ltP dk a) dk j i=q∧At L0 w [blkU g dk r] wc)
       case first=>
        go_wp2_with fail;go_loopg [10] (j + 1 - i) (ScanU L0 w g dk r (ltP dk a) i j)
        case atStart=>exact⟨i,by first|rfl|simp,Nat.le_refl _,.inr rfl,Nat.le_refl _,hA,rfl⟩
        case round=>
         obtain⟨x,rfl,hx1,hx2,hk,hB,hO⟩:=hrel;have hO':=Hd hO;clear hA hO;have hA:=hB;clear hB;have hF:=hA.facts;have ea:=ZaA (d:=dk) (r:=r) (i:=a) (by omega);obtain⟨hA,hF⟩:=fY hA;by_cases hc:x≤j
         · have hg:decide ((x:Int)≤((j:Nat):Int))=true:=by simp;omega
           have ex:=ZaA (d:=dk) (r:=r) (i:=x) (by omega);cases hl:ltU (atU dk x) (atU dk a)
           · have hs:=Hd (Zbp (p:=ltP dk a) (d:=dk) (j:=j) (fun _=>(show ltP dk a dk[x]! =false from by unfold ltP;simpa [ltU,atU] using hl)));have hl':=Hd hl;clear hl;go_wp2_with fail;refine cl0 hA ?_;clear hF hA;intro w1 hA hF;(try simp only[uY] at hA hF);go_wp2_with fail;go_meet;case rel=>exact⟨x,rfl,by omega,by omega,by rw[←hO'.out,hs.out],hA⟩
           have hs:=Hd (Zes (p:=ltP dk a) (d:=dk) (j:=j) hc (show ltP dk a dk[x]! =true from by unfold ltP;simpa [ltU,atU] using hl));have hl':=Hd hl;clear hl;go_wp2_with fail;refine cl0 hA ?_;clear hF hA;intro w1 hA hF;(try simp only[uY] at hA hF);go_wp2_with fail;go_roundg (gk - 1);case measure=>omega
           case rel=>exact⟨x + 1,by simp,by omega,by omega,by omega,hA,by rw[←hO'.out,hs.out]⟩
         have hg:decide ((x:Int)≤((j:Nat):Int))=false:=by simp;omega
         have hs:=Hd (Zbp (p:=ltP dk a) (d:=dk) (j:=j) (i:=x) (fun h=>absurd h hc));go_wp2_with fail;refine cl2 hA ?_;clear hF hA;intro w1 hA hF;(try simp only[uY] at hA hF);go_wp2_with fail;go_meet;case rel=>exact⟨x,rfl,by omega,by omega,by rw[←hO'.out,hs.out],hA⟩
       case rest=>
        obtain⟨i4,rfl,i41,i42,i43,hB⟩:=hcut;clear hA;have hA:=hB;clear hB;have i44:=Hd i43;clear i43;go_upto_block 8 with fail
        go_cut [11] from 115 to 131 (fun u wc=>∃q:Nat,u=.int .i64 q∧q≤j∧(i4≤q + 1∨q=j)∧scanDown (geP dk a) dk i4 j=q∧At L0 w [blkU g dk r] wc)
        case first=>
         go_wp2_with fail;go_loopg [11] (j + 1 - i4) (ScanD L0 w g dk r (geP dk a) i4 j)
         case atStart=>exact⟨j,by first|rfl|simp,Nat.le_refl _,.inr rfl,Nat.le_refl _,hA,rfl⟩
         case round=>
          obtain⟨x,rfl,hx1,hx2,hk,hB,hO⟩:=hrel;have hO':=Hd hO;clear hA hO;have hA:=hB;clear hB;have hF:=hA.facts;have ea:=ZaA (d:=dk) (r:=r) (i:=a) (by omega);obtain⟨hA,hF⟩:=fY hA;by_cases hc:i4≤x
          · have hg:decide (((i4:Nat):Int)≤(x:Int))=true:=by simp;omega
            obtain⟨y,hy⟩:∃y,x=y + 1:=⟨x - 1,by omega⟩
            have ey:(x:Int) - 1=(y:Int):=by omega
            have gy1:x≤y + 1:=by omega
            have gy2:y + 1≤x:=by omega
            have hy':=Hd hy;clear hy;have ex:=ZaA (d:=dk) (r:=r) (i:=x) (by omega);cases hl:ltU (atU dk x) (atU dk a)
            · have hs:=Hd (Zcp (p:=geP dk a) (d:=dk) (i:=i4) hc hy'.out (show geP dk a dk[x]! =true from by unfold geP;simpa [ltU,atU] using hl));have hl':=Hd hl;clear hl;go_wp2_with fail;refine cl0 hA ?_;clear hF hA;intro w1 hA hF;(try simp only[uY] at hA hF);go_wp2_with fail;go_roundg (gk - 1);case measure=>omega
              case rel=>exact⟨y,by first|rfl|simp,by omega,by omega,by omega,hA,by rw[←hO'.out,hs.out]⟩
            have hs:=Hd (Za9 (p:=geP dk a) (d:=dk) (i:=i4) (fun _=>(show geP dk a dk[x]! =false from by unfold geP;simpa [ltU,atU] using hl)));have hl':=Hd hl;clear hl;go_wp2_with fail;refine cl0 hA ?_;clear hF hA;intro w1 hA hF;(try simp only[uY] at hA hF);go_wp2_with fail;go_meet;case rel=>exact⟨x,rfl,by omega,by omega,by rw[←hO'.out,hs.out],hA⟩
          have hg:decide (((i4:Nat):Int)≤(x:Int))=false:=by simp;omega
          have hs:=Hd (Za9 (p:=geP dk a) (d:=dk) (i:=i4) (j:=x) (fun h=>absurd h hc));go_wp2_with fail;refine cl2 hA ?_;clear hF hA;intro w1 hA hF;(try simp only[uY] at hA hF);go_wp2_with fail;go_meet;case rel=>exact⟨x,rfl,by omega,by omega,by rw[←hO'.out,hs.out],hA⟩
        case rest=>
         obtain⟨j4,rfl,j41,j42,j43,hB⟩:=hcut;clear hA;have hA:=hB;clear hB;have j44:=Hd j43;clear j43;by_cases hij:j4 < i4
         · have hs:=Hd (Zgd i44.out j44.out hij);go_wp2_with fail;go_meet;case rel=>exact⟨j4,dk,rfl,by omega,by omega,by omega,by rw[←hO'.out,hs.out],hA⟩
         have hle2:i4≤j4:=by omega
         have hs:=Hd (Zh3 i44.out j44.out hle2 (by omega) (by omega));clear hij;go_upto_region 18 with fail
         go_cut [0] from 99 to 152 (fun u wc=>u=.slice (some ⟨g,0,none⟩) n cap∧At L0 w [blkU g (swp dk i4 j4) r] wc)
         case first=>
          by_cases hxy:i4=j4
          · subst hxy;(try clear hF);(have k1:=Zak hA .here (i:=i4) (by omega));(have k2:=Zak hA .here (i:=i4) (by omega));(have f1:=Zaj hA .here (i4));(have f2:=Zaj hA .here (i4));go_region;(have hB:=(ZaT hA .here (i:=i4) (j:=i4) (by omega) (by omega)).drew);(clear k1 k2 f1 f2 hA);(have hA:=hB);(clear hB);(generalize World.drew (World.setCell _ _ _)=wz at *)
            go_wp2_with fail;go_meet;case rel=>exact⟨rfl,hA⟩
          (try clear hF);(have k1:=Zak hA .here (i:=i4) (by omega));(have k2:=Zak hA .here (i:=j4) (by omega));(have f1:=Zaj hA .here (i4));(have f2:=Zaj hA .here (j4));go_region;(have hB:=(ZaT hA .here (i:=i4) (j:=j4) (by omega) (by omega)).drew);(clear k1 k2 f1 f2 hA);(have hA:=hB);(clear hB);(generalize World.drew (World.setCell _ _ _)=wz at *)
          go_wp2_with fail;go_meet;case rel=>exact⟨rfl,hA⟩
         case rest=>
          obtain⟨rfl,hB⟩:=hcut;replace hA:=hB;clear hB
          obtain⟨d5,hd5⟩:∃z,swp dk i4 j4=z:=⟨_,rfl⟩
          rw[hd5] at hA;have d5s:d5.size=dk.size:=by rw[←hd5];exact Zav _ _ _
          have hd5':=Hd hd5;clear hd5;go_wp2_with fail;go_roundg (j4 - 1 + 1 - (i4 + 1));case measure=>omega
          case rel=>exact⟨i4 + 1,j4 - 1,d5,by simp,by congr 1;omega,by omega,by omega,by omega,by omega,Nat.le_refl _,by omega,hA,by rw[←hO'.out,hs.out,hd5'.out]⟩
     case rest=>
      obtain⟨q,dq,rfl,hq1,hq2,hqs,hq3,hB⟩:=hcut;clear hA;have hA:=hB;clear hB;have hq4:=Hd hq3;clear hq3;go_upto_region 21 with fail
      go_cut [0] from 12 to 166 (fun u wc=>u=.slice (some ⟨g,0,none⟩) n cap∧At L0 w [blkU g (swp dq q a) r] wc)
      case first=>
       by_cases hxy:q=a
       · subst hxy;(try clear hF);(have k1:=Zak hA .here (i:=q) (by omega));(have k2:=Zak hA .here (i:=q) (by omega));(have f1:=Zaj hA .here (q));(have f2:=Zaj hA .here (q));go_region;(have hB:=(ZaT hA .here (i:=q) (j:=q) (by omega) (by omega)).drew);(clear k1 k2 f1 f2 hA);(have hA:=hB);(clear hB);(generalize World.drew (World.setCell _ _ _)=wz at *)
         go_wp2_with fail;go_meet;case rel=>exact⟨rfl,hA⟩
       (try clear hF);(have k1:=Zak hA .here (i:=q) (by omega));(have k2:=Zak hA .here (i:=a) (by omega));(have f1:=Zaj hA .here (q));(have f2:=Zaj hA .here (a));go_region;(have hB:=(ZaT hA .here (i:=q) (j:=a) (by omega) (by omega)).drew);(clear k1 k2 f1 f2 hA);(have hA:=hB);(clear hB);(generalize World.drew (World.setCell _ _ _)=wz at *)
       go_wp2_with fail;go_meet;case rel=>exact⟨rfl,hA⟩
      case rest=>
       obtain⟨rfl,hB⟩:=hcut;replace hA:=hB;clear hB
       obtain⟨d6,hd6⟩:∃z,swp dq q a=z:=⟨_,rfl⟩
       rw[hd6] at hA;have d6s:d6.size=dq.size:=by rw[←hd6];exact Zav _ _ _
       have hd6':=Hd hd6;clear hd6;have hp:=Hd (show Sort.partition ltInt d0 a b p=(q,false,d6) by rw[hres.out];simp only[hd1'.out,hBb'.out,hA1'.out,i24.out,j24.out];rw[if_neg (by omega)];simp only[hd2'.out,hi3'.out,hj3'.out,hq4.out,hd6'.out]);go_wp2_with fail;refine bodyPost_ret (v:=.tuple #[.int .i64 q,.bool false]) (by simp[results,Tryz.results223,go_sem]) rfl ?_;unfold Zd6;rw[hp.out];exact⟨rfl,hA⟩
end SortU
end
section
namespace SortU
open Go.RowKit
open Go.Sort (swp ltInt scanUp scanDown partLoop partEqLoop)
def Zmq (L0:List Part) (w:World) (g:Nat) (d:Array Int) (r:List Value) (a B i0 j0:Nat) (k:Nat) (u v:Value) (wr:World):Prop:=
 ∃(i j:Nat) (dk:Array Int),u=.int .i64 i∧v=.int .i64 j∧a + 1≤i∧i≤B + 1∧a≤j∧j≤B∧j + 1 - i≤k∧dk.size=d.size∧At L0 w [blkU g dk r] wr∧partEqLoop ltInt a i j dk=partEqLoop ltInt a i0 j0 d
def ZdE (L0:List Part) (w:World) (g:Nat) (d:Array Int) (r:List Value) (a b p:Nat) (e:Ending) (w':World):Prop:=
 e=.returned (.int .i64 (Sort.partitionEqual ltInt d a b p).1)∧At L0 w [blkU g (Sort.partitionEqual ltInt d a b p).2 r] w'
theorem Zdb {w:World} {g cap n:Nat} {d0:Array Int} {r:List Value} (h:Sep [blkU g d0 r] w) (hn:d0.size=n) {a b p:Nat} (hap:a≤p) (hpb:p < b) (hb:b≤d0.size) (hsz:d0.size < 4611686018427387904):
 Calls Tryz.prog 222 #[.slice (some ⟨g,0,none⟩) n cap,.int .i64 a,.int .i64 b,.int .i64 p] w (ZdE [blkU g d0 r] w g d0 r a b p):=by
 have hres:=Hd (show Sort.partitionEqual ltInt d0 a b p=partEqLoop ltInt a (a + 1) (b - 1) (swp d0 a p) from rfl)
 obtain⟨L0,hL0,hA⟩:∃L0,L0=[blkU g d0 r]∧At L0 w [blkU g d0 r] w:=⟨_,rfl,At.start h⟩
 rw[←hL0];clear h hL0
 obtain⟨B,hBb⟩:∃B,b=B + 1:=⟨b - 1,by omega⟩
 have eB:(b:Int) - 1=(B:Int):=by omega
 have gB1:b≤B + 1:=by omega
 have gB2:B + 1≤b:=by omega
 have hBb':=Hd (show b - 1=B by omega);clear hBb
 obtain⟨A1,hA1⟩:∃A1,a + 1=A1:=⟨_,rfl⟩
 have eA1:(a:Int) + 1=(A1:Int):=by omega
 have hA1':=Hd hA1;have gA1:a + 1≤A1∧A1≤a + 1:=by omega
 obtain⟨gA,gA'⟩:=gA1;clear hA1;go_enter Tryz.func222,Tryz.ntmps222;go_upto_region 1 with fail
 go_cut [0] from 11 to 24 (fun u wc=>u=.slice (some ⟨g,0,none⟩) n cap∧At L0 w [blkU g (swp d0 a p) r] wc)
 case first=>
  by_cases hxy:a=p
  · subst hxy;(try clear hF);(have k1:=Zak hA .here (i:=a) (by omega));(have k2:=Zak hA .here (i:=a) (by omega));(have f1:=Zaj hA .here (a));(have f2:=Zaj hA .here (a));go_region;(have hB:=(ZaT hA .here (i:=a) (j:=a) (by omega) (by omega)).drew);(clear k1 k2 f1 f2 hA);(have hA:=hB);(clear hB);(generalize World.drew (World.setCell _ _ _)=wz at *)
    go_wp2_with fail;go_meet;case rel=>exact⟨rfl,hA⟩
  (try clear hF);(have k1:=Zak hA .here (i:=a) (by omega));(have k2:=Zak hA .here (i:=p) (by omega));(have f1:=Zaj hA .here (a));(have f2:=Zaj hA .here (p));go_region;(have hB:=(ZaT hA .here (i:=a) (j:=p) (by omega) (by omega)).drew);(clear k1 k2 f1 f2 hA);(have hA:=hB);(clear hB);(generalize World.drew (World.setCell _ _ _)=wz at *)
  go_wp2_with fail;go_meet;case rel=>exact⟨rfl,hA⟩
 case rest=>
  obtain⟨rfl,hB⟩:=hcut;replace hA:=hB;clear hB
  obtain⟨d1,hd1⟩:∃z,swp d0 a p=z:=⟨_,rfl⟩
  rw[hd1] at hA;have d1s:d1.size=d0.size:=by rw[←hd1];exact Zav _ _ _
  have hd1':=Hd hd1;clear hd1;go_upto_block 0 with fail
  go_cut [9,10] from 29 to 82 (fun u v wc=>∃(q:Nat) (dq:Array Int),u=.int .i64 q∧partEqLoop ltInt a A1 B d1=(q,dq)∧At L0 w [blkU g dq r] wc)
  case first=>
   go_wp2_with fail;go_loopg [9,10] (B + 1 - A1) (Zmq L0 w g d1 r a B A1 B)
   case atStart=>exact⟨A1,B,d1,rfl,rfl,by omega,by omega,by omega,by omega,Nat.le_refl _,rfl,hA,rfl⟩
   case round=>
    obtain⟨i,j,dk,rfl,rfl,hi1,hi2,hj1,hj2,hk,hsk,hB,hO⟩:=hrel;have hO':=Hd hO;clear hA hO;have hA:=hB;clear hB;go_upto_block 2 with fail
    go_cut [9] from 29 to 45 (fun u wc=>∃q:Nat,u=.int .i64 q∧i≤q∧(q≤j + 1∨q=i)∧scanUp (leP dk a) dk j i=q∧At L0 w [blkU g dk r] wc)
    case first=>
     go_wp2_with fail;go_loopg [9] (j + 1 - i) (ScanU L0 w g dk r (leP dk a) i j)
     case atStart=>exact⟨i,by first|rfl|simp,Nat.le_refl _,.inr rfl,Nat.le_refl _,hA,rfl⟩
     case round=>
      obtain⟨x,rfl,hx1,hx2,hk,hB,hO⟩:=hrel;have hO':=Hd hO;clear hA hO;have hA:=hB;clear hB;have hF:=hA.facts;have ea:=ZaA (d:=dk) (r:=r) (i:=a) (by omega);obtain⟨hA,hF⟩:=fY hA;by_cases hc:x≤j
      · have hg:decide ((x:Int)≤((j:Nat):Int))=true:=by simp;omega
        have ex:=ZaA (d:=dk) (r:=r) (i:=x) (by omega);cases hl:ltU (atU dk a) (atU dk x)
        · have hs:=Hd (Zes (p:=leP dk a) (d:=dk) (j:=j) hc (show leP dk a dk[x]! =true from by unfold leP;simpa [ltU,atU] using hl));have hl':=Hd hl;clear hl;go_wp2_with fail;refine cl0 hA ?_;clear hF hA;intro w1 hA hF;(try simp only[uY] at hA hF);go_wp2_with fail;go_roundg (gk - 1);case measure=>omega
          case rel=>exact⟨x + 1,by simp,by omega,by omega,by omega,hA,by rw[←hO'.out,hs.out]⟩
        have hs:=Hd (Zbp (p:=leP dk a) (d:=dk) (j:=j) (fun _=>(show leP dk a dk[x]! =false from by unfold leP;simpa [ltU,atU] using hl)));have hl':=Hd hl;clear hl;go_wp2_with fail;refine cl0 hA ?_;clear hF hA;intro w1 hA hF;(try simp only[uY] at hA hF);go_wp2_with fail;go_meet;case rel=>exact⟨x,rfl,by omega,by omega,by rw[←hO'.out,hs.out],hA⟩
      have hg:decide ((x:Int)≤((j:Nat):Int))=false:=by simp;omega
      have hs:=Hd (Zbp (p:=leP dk a) (d:=dk) (j:=j) (i:=x) (fun h=>absurd h hc));go_wp2_with fail;refine cl2 hA ?_;clear hF hA;intro w1 hA hF;(try simp only[uY] at hA hF);go_wp2_with fail;go_meet;case rel=>exact⟨x,rfl,by omega,by omega,by rw[←hO'.out,hs.out],hA⟩
    case rest=>
     obtain⟨i4,rfl,i41,i42,i43,hB⟩:=hcut;clear hA;have hA:=hB;clear hB;have i44:=Hd i43;clear i43;go_upto_block 4 with fail
     go_cut [10] from 46 to 61 (fun u wc=>∃q:Nat,u=.int .i64 q∧q≤j∧(i4≤q + 1∨q=j)∧scanDown (gtP dk a) dk i4 j=q∧At L0 w [blkU g dk r] wc)
     case first=>
      go_wp2_with fail;go_loopg [10] (j + 1 - i4) (ScanD L0 w g dk r (gtP dk a) i4 j)
      case atStart=>exact⟨j,by first|rfl|simp,Nat.le_refl _,.inr rfl,Nat.le_refl _,hA,rfl⟩
      case round=>
       obtain⟨x,rfl,hx1,hx2,hk,hB,hO⟩:=hrel;have hO':=Hd hO;clear hA hO;have hA:=hB;clear hB;have hF:=hA.facts;have ea:=ZaA (d:=dk) (r:=r) (i:=a) (by omega);obtain⟨hA,hF⟩:=fY hA;by_cases hc:i4≤x
       · have hg:decide (((i4:Nat):Int)≤(x:Int))=true:=by simp;omega
         obtain⟨y,hy⟩:∃y,x=y + 1:=⟨x - 1,by omega⟩
         have ey:(x:Int) - 1=(y:Int):=by omega
         have gy1:x≤y + 1:=by omega
         have gy2:y + 1≤x:=by omega
         have hy':=Hd hy;clear hy;have ex:=ZaA (d:=dk) (r:=r) (i:=x) (by omega);cases hl:ltU (atU dk a) (atU dk x)
         · have hs:=Hd (Za9 (p:=gtP dk a) (d:=dk) (i:=i4) (fun _=>(show gtP dk a dk[x]! =false from by unfold gtP;simpa [ltU,atU] using hl)));have hl':=Hd hl;clear hl;go_wp2_with fail;refine cl0 hA ?_;clear hF hA;intro w1 hA hF;(try simp only[uY] at hA hF);go_wp2_with fail;go_meet;case rel=>exact⟨x,rfl,by omega,by omega,by rw[←hO'.out,hs.out],hA⟩
         have hs:=Hd (Zcp (p:=gtP dk a) (d:=dk) (i:=i4) hc hy'.out (show gtP dk a dk[x]! =true from by unfold gtP;simpa [ltU,atU] using hl));have hl':=Hd hl;clear hl;go_wp2_with fail;refine cl0 hA ?_;clear hF hA;intro w1 hA hF;(try simp only[uY] at hA hF);go_wp2_with fail;go_roundg (gk - 1);case measure=>omega
         case rel=>exact⟨y,by first|rfl|simp,by omega,by omega,by omega,hA,by rw[←hO'.out,hs.out]⟩
       have hg:decide (((i4:Nat):Int)≤(x:Int))=false:=by simp;omega
       have hs:=Hd (Za9 (p:=gtP dk a) (d:=dk) (i:=i4) (j:=x) (fun h=>absurd h hc));go_wp2_with fail;refine cl2 hA ?_;clear hF hA;intro w1 hA hF;(try simp only[uY] at hA hF);go_wp2_with fail;go_meet;case rel=>exact⟨x,rfl,by omega,by omega,by rw[←hO'.out,hs.out],hA⟩
     case rest=>
      obtain⟨j4,rfl,j41,j42,j43,hB⟩:=hcut;clear hA;have hA:=hB;clear hB;have j44:=Hd j43;clear j43;by_cases hij:j4 < i4
      · have hs:=Hd (Zh4 i44.out j44.out hij);go_wp2_with fail;go_meet;case rel=>exact⟨i4,dk,rfl,by rw[←hO'.out,hs.out],hA⟩
      have hle2:i4≤j4:=by omega
      have hs:=Hd (Zla i44.out j44.out hle2 (by omega) (by omega));clear hij;go_upto_region 8 with fail
      go_cut [0] from 29 to 82 (fun u wc=>u=.slice (some ⟨g,0,none⟩) n cap∧At L0 w [blkU g (swp dk i4 j4) r] wc)
      case first=>
       by_cases hxy:i4=j4
       · subst hxy;(try clear hF);(have k1:=Zak hA .here (i:=i4) (by omega));(have k2:=Zak hA .here (i:=i4) (by omega));(have f1:=Zaj hA .here (i4));(have f2:=Zaj hA .here (i4));go_region;(have hB:=(ZaT hA .here (i:=i4) (j:=i4) (by omega) (by omega)).drew);(clear k1 k2 f1 f2 hA);(have hA:=hB);(clear hB);(generalize World.drew (World.setCell _ _ _)=wz at *)
         go_wp2_with fail;go_meet;case rel=>exact⟨rfl,hA⟩
       (try clear hF);(have k1:=Zak hA .here (i:=i4) (by omega));(have k2:=Zak hA .here (i:=j4) (by omega));(have f1:=Zaj hA .here (i4));(have f2:=Zaj hA .here (j4));go_region;(have hB:=(ZaT hA .here (i:=i4) (j:=j4) (by omega) (by omega)).drew);(clear k1 k2 f1 f2 hA);(have hA:=hB);(clear hB);(generalize World.drew (World.setCell _ _ _)=wz at *)
       go_wp2_with fail;go_meet;case rel=>exact⟨rfl,hA⟩
      case rest=>
       obtain⟨rfl,hB⟩:=hcut;replace hA:=hB;clear hB
       obtain⟨d5,hd5⟩:∃z,swp dk i4 j4=z:=⟨_,rfl⟩
       rw[hd5] at hA;have d5s:d5.size=dk.size:=by rw[←hd5];exact Zav _ _ _
       have hd5':=Hd hd5;clear hd5;go_wp2_with fail;go_roundg (j4 - 1 + 1 - (i4 + 1));case measure=>omega
       case rel=>exact⟨i4 + 1,j4 - 1,d5,by simp,by congr 1;omega,by omega,by omega,by omega,by omega,Nat.le_refl _,by omega,hA,by rw[←hO'.out,hs.out,hd5'.out]⟩
  case rest=>
   obtain⟨q,dq,rfl,hq3,hB⟩:=hcut;clear hA;have hA:=hB;clear hB;have hq4:=Hd hq3;clear hq3;have hp:=Hd (show Sort.partitionEqual ltInt d0 a b p=(q,dq) by rw[hres.out];simp only[hd1'.out,hBb'.out,hA1'.out,hq4.out]);go_wp2_with fail;refine bodyPost_ret (v:=.int .i64 q) (by simp[results,Tryz.results222,go_sem]) rfl ?_;unfold ZdE;rw[hp.out];exact⟨rfl,hA⟩
end SortU
end
section
namespace SortU
open Go.RowKit
open Go.Sort (swp ltInt scanSorted shiftDown shiftUp partialIns)
theorem ZmM {d:Array Int} {b i y:Nat} (hy:i=y + 1) (h:i < b) (hl:ltU (atU d i) (atU d y)=false):scanSorted ltInt d b i=scanSorted ltInt d b (i + 1):=by
 subst hy;have hl':ltInt d[y + 1]! d[y]! =false:=hl;rw[scanSorted,if_pos (by simp[h,hl'])]
theorem Zfi {d:Array Int} {b i:Nat} (h:i < b→∃y,i=y + 1∧ltU (atU d i) (atU d y)=true):scanSorted ltInt d b i=i:=by
 rw[scanSorted,if_neg];simp only[Bool.and_eq_true,decide_eq_true_eq,not_and,Bool.not_eq_true];intro hb;obtain⟨y,rfl,hl⟩:=h hb;have hl':ltInt d[y + 1]! d[y]! =true:=hl;simp[hl']
theorem ZkQ {d:Array Int} {x y:Nat} (hx:x=y + 1) (hl:ltU (atU d x) (atU d y)=true):shiftDown ltInt x d=shiftDown ltInt y (swp d x y):=by
 subst hx;have hl':ltInt d[y + 1]! d[y]! =true:=hl;rw[shiftDown,hl'];rfl
theorem ZhU {d:Array Int} {x y:Nat} (hx:x=y + 1) (hl:ltU (atU d x) (atU d y)=false):shiftDown ltInt x d=d:=by
 subst hx;have hl':ltInt d[y + 1]! d[y]! =false:=hl;rw[shiftDown,hl'];rfl
theorem ZkP {d:Array Int} {b x y:Nat} (hx:x=y + 1) (h:x < b) (hl:ltU (atU d x) (atU d y)=true):shiftUp ltInt b x d=shiftUp ltInt b (x + 1) (swp d x y):=by
 subst hx;have hl':ltInt d[y + 1]! d[y]! =true:=hl;rw[shiftUp,if_pos h,Nat.add_sub_cancel,hl'];rfl
theorem Zeq {d:Array Int} {b x:Nat} (h:x < b→∃y,x=y + 1∧ltU (atU d x) (atU d y)=false):shiftUp ltInt b x d=d:=by
 rw[shiftUp];by_cases hb:x < b
 · obtain⟨y,rfl,hl⟩:=h hb;have hl':ltInt d[y + 1]! d[y]! =false:=hl;rw[if_pos hb,Nat.add_sub_cancel,hl'];rfl
 rw[if_neg hb]
def stepD (d:Array Int) (a i:Nat):Array Int:=if i - a ≥ 2 then shiftDown ltInt (i - 1) (swp d i (i - 1)) else swp d i (i - 1)
def stepU (d:Array Int) (b i:Nat):Array Int:=if b - i ≥ 2 then shiftUp ltInt b (i + 1) d else d
theorem pi_end {a b s i i':Nat} {d:Array Int} (hi:scanSorted ltInt d b i=i') (h:i'=b):partialIns ltInt a b (s + 1) i d=(d,true):=by
 rw[partialIns];simp only[hi];rw[if_pos h]
theorem Znf {a b s i i':Nat} {d:Array Int} (hi:scanSorted ltInt d b i=i') (h:¬i'=b) (h2:b - a < 50):partialIns ltInt a b (s + 1) i d=(d,false):=by
 rw[partialIns];simp only[hi];rw[if_neg h,if_pos h2]
theorem pi_go {a b s i i':Nat} {d:Array Int} (hi:scanSorted ltInt d b i=i') (h:¬i'=b) (h2:¬b - a < 50):partialIns ltInt a b (s + 1) i d=partialIns ltInt a b s i' (stepU (stepD d a i') b i'):=by
 rw[partialIns];simp only[hi];rw[if_neg h,if_neg h2];rfl
theorem ZcM:∀(x:Nat) (d:Array Int),(shiftDown ltInt x d).size=d.size
 |0,d=>rfl
 |x + 1,d=>by
  rw[shiftDown];split
  · rfl
  rw[ZcM x,Zav]
theorem ZjI (d:Array Int) (a i:Nat):(stepD d a i).size=d.size:=by
 unfold stepD;split
 · rw[ZcM,Zav]
 rw[Zav]
def Zjz (L0:List Part) (w:World) (g:Nat) (d:Array Int) (r:List Value) (a b:Nat) (e:Ending) (w':World):Prop:=
 e=.returned (.bool (Sort.partialInsertionSort ltInt d a b).2)∧At L0 w [blkU g (Sort.partialInsertionSort ltInt d a b).1 r] w'
def PIRel (L0:List Part) (w:World) (g:Nat) (d:Array Int) (r:List Value) (a b:Nat) (k:Nat) (u v:Value) (wr:World):Prop:=
 ∃(i:Nat) (dk:Array Int),u=.int .i64 i∧v=.int .i64 (5 - (k:Int))∧k≤5∧a + 1≤i∧i≤b∧dk.size=d.size∧At L0 w [blkU g dk r] wr∧partialIns ltInt a b k i dk=partialIns ltInt a b 5 (a + 1) d
def ScanS (L0:List Part) (w:World) (g:Nat) (d:Array Int) (r:List Value) (b i0:Nat) (k:Nat) (u:Value) (wr:World):Prop:=
 ∃i:Nat,u=.int .i64 i∧i0≤i∧i + k=b∧At L0 w [blkU g d r] wr∧scanSorted ltInt d b i=scanSorted ltInt d b i0
def ShD (L0:List Part) (w:World) (g:Nat) (d:Array Int) (r:List Value) (x0:Nat) (k:Nat) (u:Value) (wr:World):Prop:=
 ∃(x:Nat) (dk:Array Int),u=.int .i64 x∧x≤x0∧x≤k∧dk.size=d.size∧At L0 w [blkU g dk r] wr∧shiftDown ltInt x dk=shiftDown ltInt x0 d
def ShU (L0:List Part) (w:World) (g:Nat) (d:Array Int) (r:List Value) (b x0:Nat) (k:Nat) (u:Value) (wr:World):Prop:=
 ∃(x:Nat) (dk:Array Int),u=.int .i64 x∧x0≤x∧x + k=b∧dk.size=d.size∧At L0 w [blkU g dk r] wr∧shiftUp ltInt b x dk=shiftUp ltInt b x0 d
theorem Zfb {w:World} {g cap n:Nat} {d0:Array Int} {r:List Value} (h:Sep [blkU g d0 r] w) (hn:d0.size=n) {a b:Nat} (hab:a < b) (hb:b≤d0.size) (hsz:d0.size < 4611686018427387904):
 Calls Tryz.prog 220 #[.slice (some ⟨g,0,none⟩) n cap,.int .i64 a,.int .i64 b] w (Zjz [blkU g d0 r] w g d0 r a b):=by
 have hres:=Hd (show Sort.partialInsertionSort ltInt d0 a b=partialIns ltInt a b 5 (a + 1) d0 from rfl)
 obtain⟨L0,hL0,hA⟩:∃L0,L0=[blkU g d0 r]∧At L0 w [blkU g d0 r] w:=⟨_,rfl,At.start h⟩
 rw[←hL0];clear h hL0;go_enter Tryz.func220,Tryz.ntmps220;go_wp2_with fail;go_loopg [7,8] 5 (PIRel L0 w g d0 r a b)
 case atStart=>exact⟨a + 1,d0,by simp,by simp,Nat.le_refl _,Nat.le_refl _,by omega,rfl,hA,rfl⟩
 case round=>
  obtain⟨i,dk,rfl,rfl,hk5,hi1,hi2,hsk,hB,hO⟩:=hrel;have hO':=Hd hO;clear hA hO;have hA:=hB;clear hB;rcases Nat.eq_zero_or_pos gk with h0|hpos
  · subst h0;go_wp2_with fail;refine bodyPost_ret (v:=.bool false) (by simp[results,Tryz.results220,go_sem]) rfl ?_;unfold Zjz;rw[hres.out,←hO'.out];exact⟨rfl,hA⟩
  obtain⟨s,rfl⟩:∃s,gk=s + 1:=⟨gk - 1,by omega⟩
  have hs5:decide ((5:Int) - ((s + 1:Nat):Int) < 5)=true:=by simp;omega
  have hs5':(5:Int) - ((s + 1:Nat):Int) < 5:=by omega
  obtain⟨c,hc⟩:∃c:Int,(5:Int) - ((s + 1:Nat):Int)=c:=⟨_,rfl⟩
  rw[hc] at hs5 hs5';rw[hc];have hcb:0≤c:=by omega
  have hc2:=Hd hc;clear hc;go_upto_block 2 with fail
  go_cut [7] from 17 to 34 (fun u wc=>∃q:Nat,u=.int .i64 q∧i≤q∧q≤b∧scanSorted ltInt dk b i=q∧At L0 w [blkU g dk r] wc)
  case first=>
   go_wp2_with fail;go_loopg [7] (b - i) (ScanS L0 w g dk r b i)
   case atStart=>exact⟨i,rfl,Nat.le_refl _,by omega,hA,rfl⟩
   case round=>
    obtain⟨x,rfl,hx1,hx2,hB,hS⟩:=hrel;have hS':=Hd hS;clear hA hS;have hA:=hB;clear hB;obtain⟨hA,hF⟩:=fY hA;by_cases hxb:x < b
    · have hg:decide ((x:Int) < (b:Int))=true:=by simp;omega
      obtain⟨y,hy⟩:∃y,x=y + 1:=⟨x - 1,by omega⟩
      have ey:(x:Int) - 1=(y:Int):=by omega
      have gy1:x≤y + 1:=by omega
      have gy2:y + 1≤x:=by omega
      have hy':=Hd hy;clear hy;have e1:=ZaA (d:=dk) (r:=r) (i:=x) (by omega);have e2:=ZaA (d:=dk) (r:=r) (i:=y) (by omega);cases hl:ltU (atU dk x) (atU dk y)
      · have hq:=Hd (ZmM hy'.out hxb hl);have hl':=Hd hl;clear hl;go_wp2_with fail;refine cl0 hA ?_;clear hF hA;intro w1 hA hF;(try simp only[uY] at hA hF);go_wp2_with fail;go_roundg (gk - 1);case measure=>omega
        case rel=>exact⟨x + 1,by simp,by omega,by omega,hA,by rw[←hS'.out,hq.out]⟩
      have hq:=Hd (Zfi (d:=dk) (b:=b) (i:=x) (fun _=>⟨y,hy'.out,hl⟩));have hl':=Hd hl;clear hl;go_wp2_with fail;refine cl0 hA ?_;clear hF hA;intro w1 hA hF;(try simp only[uY] at hA hF);go_wp2_with fail;go_meet;case rel=>exact⟨x,rfl,by omega,by omega,by rw[←hS'.out,hq.out],hA⟩
    have hg:decide ((x:Int) < (b:Int))=false:=by simp;omega
    have hq:=Hd (Zfi (d:=dk) (b:=b) (i:=x) (fun h=>absurd h hxb));go_wp2_with fail;refine cl2 hA ?_;clear hF hA;intro w1 hA hF;(try simp only[uY] at hA hF);go_wp2_with fail;go_meet;case rel=>exact⟨x,rfl,by omega,by omega,by rw[←hS'.out,hq.out],hA⟩
  case rest=>
   obtain⟨q,rfl,hq1,hq2,hq3,hB⟩:=hcut;clear hA;have hA:=hB;clear hB;have hq4:=Hd hq3;clear hq3;by_cases hqb:q=b
   · subst hqb;have hp:=Hd (pi_end (a:=a) (s:=s) hq4.out rfl);go_wp2_with fail;refine bodyPost_ret (v:=.bool true) (by simp[results,Tryz.results220,go_sem]) rfl ?_;unfold Zjz;rw[hres.out,←hO'.out,hp.out];exact⟨rfl,hA⟩
   have hqb':¬(q:Int)=(b:Int):=by omega
   by_cases h50:b - a < 50
   · have h50':(b:Int) - (a:Int) < 50:=by omega
     have hp:=Hd (Znf (s:=s) hq4.out hqb h50);go_wp2_with fail;refine bodyPost_ret (v:=.bool false) (by simp[results,Tryz.results220,go_sem]) rfl ?_;unfold Zjz;rw[hres.out,←hO'.out,hp.out];exact⟨rfl,hA⟩
   have h50':¬(b:Int) - (a:Int) < 50:=by omega
   have hp:=Hd (pi_go (s:=s) hq4.out hqb h50)
   obtain⟨y,hy⟩:∃y,q=y + 1:=⟨q - 1,by omega⟩
   have ey:(q:Int) - 1=(y:Int):=by omega
   have gy1:q≤y + 1:=by omega
   have gy2:y + 1≤q:=by omega
   have hy':=Hd (show q - 1=y by omega);clear hy;go_wp2_with fail;(try clear hF);(have k1:=Zak hA .here (i:=q) (by omega));(have k2:=Zak hA .here (i:=y) (by omega));(have f1:=Zaj hA .here (q));(have f2:=Zaj hA .here (y));go_region;(have hB:=(ZaT hA .here (i:=q) (j:=y) (by omega) (by omega)).drew);(clear k1 k2 f1 f2 hA);(have hA:=hB);(clear hB);(generalize World.drew (World.setCell _ _ _)=wz at *)
   obtain⟨d1,hd1⟩:∃z,swp dk q y=z:=⟨_,rfl⟩
   rw[hd1] at hA;have d1s:d1.size=dk.size:=by rw[←hd1];exact Zav _ _ _
   have hd1':=Hd hd1;clear hd1;go_upto_if 61 with fail
   go_cut [9] from 17 to 94 (fun u wc=>∃d2:Array Int,stepD dk a q=d2∧At L0 w [blkU g d2 r] wc)
   case first=>
    by_cases h2:q - a ≥ 2
    · have h2':(2:Int)≤(q:Int) - (a:Int):=by omega
      have hst:=Hd (show stepD dk a q=shiftDown ltInt y d1 by unfold stepD;rw[if_pos h2,hy'.out,hd1'.out]);go_wp2_with fail;go_loopg [9] y (ShD L0 w g d1 r y)
      case atStart=>exact⟨y,d1,rfl,Nat.le_refl _,Nat.le_refl _,rfl,hA,rfl⟩
      case round=>
       obtain⟨x,dj,rfl,hx1,hx2,hsj,hB,hS⟩:=hrel;have hS':=Hd hS;clear hA hS;have hA:=hB;clear hB;obtain⟨hA,hF⟩:=fY hA;by_cases hx0:1≤x
       · obtain⟨z,hz⟩:∃z,x=z + 1:=⟨x - 1,by omega⟩
         have ez:(x:Int) - 1=(z:Int):=by omega
         have gz1:x≤z + 1:=by omega
         have gz2:z + 1≤x:=by omega
         have hz':=Hd hz;clear hz;have e1:=ZaA (d:=dj) (r:=r) (i:=x) (by omega);have e2:=ZaA (d:=dj) (r:=r) (i:=z) (by omega);cases hl:ltU (atU dj x) (atU dj z)
         · have hq:=Hd (ZhU hz'.out hl);have hl':=Hd hl;clear hl;go_wp2_with fail;refine cl0 hA ?_;clear hF hA;intro w1 hA hF;(try simp only[uY] at hA hF);go_wp2_with fail;go_meet;case rel=>exact⟨dj,by rw[hst.out,←hS'.out,hq.out],hA⟩
         have hq:=Hd (ZkQ hz'.out hl);have hl':=Hd hl;clear hl;go_wp2_with fail;refine cl0 hA ?_;clear hF hA;intro w1 hA hF;(try simp only[uY] at hA hF);go_wp2_with fail;(try clear hF);(have k1:=Zak hA .here (i:=x) (by omega));(have k2:=Zak hA .here (i:=z) (by omega));(have f1:=Zaj hA .here (x));(have f2:=Zaj hA .here (z));go_region;(have hB:=(ZaT hA .here (i:=x) (j:=z) (by omega) (by omega)).drew);(clear k1 k2 f1 f2 hA);(have hA:=hB);(clear hB);(generalize World.drew (World.setCell _ _ _)=wz at *)
         go_wp2_with fail;go_roundg z;case measure=>omega
         case rel=>exact⟨z,swp dj x z,rfl,by omega,Nat.le_refl _,by rw[Zav];exact hsj,hA,by rw[←hS'.out,hq.out]⟩
       have hx00:x=0:=by omega
       subst hx00;have hq:=Hd (show shiftDown ltInt 0 dj=dj from rfl);go_wp2_with fail;go_meet;case rel=>exact⟨dj,by rw[hst.out,←hS'.out,hq.out],hA⟩
    have h2':(q:Int) - (a:Int) < 2:=by omega
    have hst:=Hd (show stepD dk a q=d1 by unfold stepD;rw[if_neg h2,hy'.out,hd1'.out]);go_wp2_with fail;go_meet;case rel=>exact⟨d1,hst.out,hA⟩
   case rest=>
    obtain⟨d2,hd2,hB⟩:=hcut;replace hA:=hB;clear hB;have d2s:d2.size=dk.size:=by rw[←hd2];exact ZjI _ _ _
    have hd2':=Hd hd2;clear hd2;by_cases h2:b - q ≥ 2
    · have h2':(2:Int)≤(b:Int) - (q:Int):=by omega
      have hst:=Hd (show stepU d2 b q=shiftUp ltInt b (q + 1) d2 by unfold stepU;rw[if_pos h2]);go_wp2_with fail;go_loopg [10] (b - (q + 1)) (ShU L0 w g d2 r b (q + 1))
      case atStart=>exact⟨q + 1,d2,by simp,Nat.le_refl _,by omega,rfl,hA,rfl⟩
      case round=>
       obtain⟨x,dj,rfl,hx1,hx2,hsj,hB,hS⟩:=hrel;have hS':=Hd hS;clear hA hS;have hA:=hB;clear hB;obtain⟨hA,hF⟩:=fY hA;by_cases hx0:x < b
       · obtain⟨z,hz⟩:∃z,x=z + 1:=⟨x - 1,by omega⟩
         have ez:(x:Int) - 1=(z:Int):=by omega
         have gz1:x≤z + 1:=by omega
         have gz2:z + 1≤x:=by omega
         have hz':=Hd hz;clear hz;have e1:=ZaA (d:=dj) (r:=r) (i:=x) (by omega);have e2:=ZaA (d:=dj) (r:=r) (i:=z) (by omega);cases hl:ltU (atU dj x) (atU dj z)
         · have hq:=Hd (Zeq (d:=dj) (b:=b) (x:=x) (fun _=>⟨z,hz'.out,hl⟩));have hl':=Hd hl;clear hl;go_wp2_with fail;refine cl0 hA ?_;clear hF hA;intro w1 hA hF;(try simp only[uY] at hA hF);go_wp2_with fail;go_roundg s;case measure=>omega
           case rel=>exact⟨q,dj,rfl,by have:=hc2.out;congr 1;omega,by omega,by omega,hq2,by omega,hA,by rw[←hO'.out,hp.out,hd2'.out,hst.out,←hS'.out,hq.out]⟩
         have hq:=Hd (ZkP hz'.out hx0 hl);have hl':=Hd hl;clear hl;go_wp2_with fail;refine cl0 hA ?_;clear hF hA;intro w1 hA hF;(try simp only[uY] at hA hF);go_wp2_with fail;(try clear hF);(have k1:=Zak hA .here (i:=x) (by omega));(have k2:=Zak hA .here (i:=z) (by omega));(have f1:=Zaj hA .here (x));(have f2:=Zaj hA .here (z));go_region;(have hB:=(ZaT hA .here (i:=x) (j:=z) (by omega) (by omega)).drew);(clear k1 k2 f1 f2 hA);(have hA:=hB);(clear hB);(generalize World.drew (World.setCell _ _ _)=wz at *)
         go_wp2_with fail;go_roundg (gk - 1);case measure=>omega
         case rel=>exact⟨x + 1,swp dj x z,by simp,by omega,by omega,by rw[Zav];exact hsj,hA,by rw[←hS'.out,hq.out]⟩
       have hq:=Hd (Zeq (d:=dj) (b:=b) (x:=x) (fun h=>absurd h hx0));go_wp2_with fail;go_roundg s;case measure=>omega
       case rel=>exact⟨q,dj,rfl,by have:=hc2.out;congr 1;omega,by omega,by omega,hq2,by omega,hA,by rw[←hO'.out,hp.out,hd2'.out,hst.out,←hS'.out,hq.out]⟩
    have h2':(b:Int) - (q:Int) < 2:=by omega
    have hst:=Hd (show stepU d2 b q=d2 by unfold stepU;rw[if_neg h2]);go_wp2_with fail;go_roundg s;case measure=>omega
    case rel=>exact⟨q,d2,rfl,by have:=hc2.out;congr 1;omega,by omega,by omega,hq2,by omega,hA,by rw[←hO'.out,hp.out,hd2'.out,hst.out]⟩
end SortU
end
section
namespace SortU
open Go.RowKit
open Go.Sort (swp ltInt PermIn SortedIn)
def ZpM (L0:List Part) (w:World) (g:Nat) (d:Array Int) (r:List Value) (a b:Nat) (e:Ending) (w':World):Prop:=
 ∃R,e=.returned (.tuple #[])∧PermIn a b d R∧SortedIn ltInt a b R∧At L0 w [blkU g R r] w'
def Todo (d:Array Int) (a b:Nat) (dk:Array Int) (a' b':Nat):Prop:=∀R,PermIn a' b' dk R→SortedIn ltInt a' b' R→PermIn a b d R∧SortedIn ltInt a b R
theorem Todo.step {d dk d1:Array Int} {a b a' b':Nat} (h:Todo d a b dk a' b') (hp:PermIn a' b' dk d1):Todo d a b d1 a' b':=fun R h1 h2=>h R (Sort.permIn_trans _ _ _ a' b' hp h1) h2
def PdqRel (L0:List Part) (w:World) (g:Nat) (d:Array Int) (r:List Value) (a b:Nat) (k:Nat) (u1 u2 u3 u8 u9:Value) (wr:World):Prop:=
 ∃(a' b' lim:Nat) (wb wp:Bool) (dk:Array Int),u1=.int .i64 a'∧u2=.int .i64 b'∧u3=.int .i64 lim∧u8=.bool wb∧u9=.bool wp∧a'≤b'∧b'≤d.size∧b' - a'≤k∧k≤b - a∧lim < 4611686018427387904∧dk.size=d.size∧
  Sort.Below ltInt a' b' dk∧At L0 w [blkU g dk r] wr∧Todo d a b dk a' b'
set_option maxRecDepth 1000000 in
theorem Zo7:∀(N:Nat) {w:World} {g cap n:Nat} {d:Array Int} {r:List Value} (h:Sep [blkU g d r] w) (hn:d.size=n) {a b limit:Nat} (hN:b - a < N) (hab:a≤b) (hb:b≤d.size) (hlim:limit < 4611686018427387904) (hsz:d.size < 4611686018427387904) (hBel:Sort.Below ltInt a b d),
 Calls Tryz.prog 186 #[.slice (some ⟨g,0,none⟩) n cap,.int .i64 a,.int .i64 b,.int .i64 limit] w (ZpM [blkU g d r] w g d r a b):=by
 intro N
 induction N with
 |zero=>intro w g cap n d r h hn a b limit hN;omega
 |succ N ih=>
  intro w g cap n d r h hn a b limit hN hab hb hlim hsz hBel
  obtain⟨L0,hL0,hA⟩:∃L0,L0=[blkU g d r]∧At L0 w [blkU g d r] w:=⟨_,rfl,At.start h⟩
  rw[←hL0];clear h hL0;go_enter Tryz.func186,Tryz.ntmps186;go_wp2_with fail;go_loopg [1,2,3,8,9] (b - a) (PdqRel L0 w g d r a b)
  case atStart=>exact⟨a,b,limit,true,true,d,rfl,rfl,rfl,rfl,rfl,hab,hb,Nat.le_refl _,Nat.le_refl _,hlim,rfl,hBel,hA,fun R h1 h2=>⟨h1,h2⟩⟩
  case round=>
   obtain⟨a',b',lim,wb,wp,dk,rfl,rfl,rfl,rfl,rfl,hab',hb',hk,hkb,hlim',hsk,hBk,hB,hT⟩:=hrel;have hT':=Hd hT;have hBk':=Hd hBk;clear hA hT hBel hBk;have hA:=hB;clear hB;by_cases h12:b' - a'≤12
   · have h12':(b':Int) - (a':Int)≤12:=by omega
     have hs:=Sort.insertionSort_holds Sort.swo_ltInt dk a' b' hab' (by omega);have hs':=Hd hs;clear hs;go_wp2_with fail;refine(Zgn (hA.sep1 .here) (hsk.trans hn) hab' (by omega) (by omega)).mono ?_;rintro e w1 ⟨rfl,hT1⟩;have hB:=hA.call1 .here hT1;clear hA hT1;go_wp2_with fail;refine bodyPost_ret (results_none rfl _ _ _) rfl ?_;have hh:=hT'.out _ hs'.out.1 hs'.out.2;exact⟨_,rfl,hh.1,hh.2,hB⟩
   have h12':¬(b':Int) - (a':Int)≤12:=by omega
   by_cases hl0:lim=0
   · subst hl0;have hs:=Sort.heapSort_holds Sort.swo_ltInt dk a' b' hab' (by omega);have hs':=Hd hs;clear hs;go_wp2_with fail;refine(Zhm (hA.sep1 .here) (hsk.trans hn) (a:=a') (b:=b') (by omega) (by omega) (by omega)).mono ?_;rintro e w1 ⟨rfl,hT1⟩;have hB:=hA.call1 .here hT1;clear hA hT1;go_wp2_with fail;refine bodyPost_ret (results_none rfl _ _ _) rfl ?_;have hh:=hT'.out _ hs'.out.1 hs'.out.2;exact⟨_,rfl,hh.1,hh.2,hB⟩
   have hl0':¬(lim:Int)=0:=by omega
   go_upto_if 35 with fail
   go_cut [3] from 19 to 133 (fun u wc=>∃(l2:Nat) (d1:Array Int),u=.int .i64 l2∧l2 < 4611686018427387904∧PermIn a' b' dk d1∧At L0 w [blkU g d1 r] wc)
   case first=>
    cases wb
    · go_wp2_with fail;refine(Zl9 (hA.sep1 .here) (hsk.trans hn) (a:=a') (b:=b') (by omega) (by omega) (by omega)).mono ?_;rintro e w1 ⟨d1,rfl,hp,hT1⟩;have hB:=hA.call1 .here hT1;clear hA hT1;have hp':=Hd hp;clear hp;go_wp2_with fail;go_meet;case rel=>exact⟨lim - 1,d1,by congr 1;omega,by omega,hp'.out,hB⟩
    go_wp2_with fail;go_meet;case rel=>exact⟨lim,dk,rfl,hlim',Sort.permIn_refl _ _ _,hA⟩
   case rest=>
    obtain⟨l2,d1,rfl,hl2,hp1,hB⟩:=hcut;clear hA;have hA:=hB;clear hB;have s1:d1.size=dk.size:=hp1.1;have T1:=Hd (Todo.step hT'.out hp1);have B1:=Hd (Sort.Below.perm hBk'.out (by omega) hp1);clear hp1 hT' hBk'
    go_upto_if 50 with(go_at_call 218;refine(Zk8 (hA.sep1 .here) (s1.trans (hsk.trans hn)) (a:=a') (b:=b') (by omega) (by omega) (by omega)).mono ?_;rintro e w1 ⟨p,hv,rfl,hpa,hpb,hT1⟩;replace hA:=hA.call1 .here hT1;clear hT1)
    go_cut [11,12] from 19 to 133 (fun u v wc=>∃(p2:Nat) (hv2:Int) (d2:Array Int),u=.int .i64 p2∧v=.int .i64 hv2∧a'≤p2∧p2 < b'∧PermIn a' b' d1 d2∧At L0 w [blkU g d2 r] wc)
    case first=>
     by_cases h2:hv=2
     · have hs:=Hd (Sort.reverseRange_holds d1 a' b' hab' (by omega));subst h2;go_wp2_with fail;refine(ZhX (hA.sep1 (by simpa using Sel.here)) (s1.trans (hsk.trans hn)) (a:=a') (b:=b') (by omega) (by omega) (by omega)).mono ?_;rintro e w1 ⟨rfl,hT1⟩;have hB:=hA.call1 (by simpa using Sel.here) hT1;clear hA hT1;go_wp2_with fail;go_meet;case rel=>exact⟨b' - 1 - (p - a'),1,_,by congr 1;omega,rfl,by omega,by omega,hs.out,hB⟩
     have h2':(hv==2)=false:=by simpa using h2
     go_wp2_with fail;go_meet;case rel=>exact⟨p,hv,d1,rfl,rfl,hpa,hpb,Sort.permIn_refl _ _ _,hA⟩
    case rest=>
     obtain⟨p2,hv2,d2,rfl,rfl,hpa2,hpb2,hp2,hB⟩:=hcut;clear hA;have hA:=hB;clear hB;have s2:d2.size=d1.size:=hp2.1;have T2:=Hd (Todo.step T1.out hp2);have B2:=Hd (Sort.Below.perm B1.out (by omega) hp2);clear hp2 T1 B1;go_upto_region 15 with fail
     go_cut [68] from 19 to 133 (fun u wc=>∃c:Bool,u=.bool c∧At L0 w [blkU g d2 r] wc)
     case first=>
      cases wb
      · go_wp2_with fail;go_meet;case rel=>exact⟨false,rfl,hA⟩
      cases wp
      · go_wp2_with fail;go_meet;case rel=>exact⟨false,rfl,hA⟩
      by_cases h1:hv2=1
      · subst h1;go_wp2_with fail;go_meet;case rel=>exact⟨true,rfl,hA⟩
      have h1':(hv2==1)=false:=by simpa using h1
      go_wp2_with fail;go_meet;case rel=>exact⟨false,rfl,hA⟩
     case rest=>
      obtain⟨c,rfl,hB⟩:=hcut;replace hA:=hB;clear hB;go_upto_if 68 with fail
      go_cut [11] from 19 to 133 (fun u wc=>∃d3:Array Int,u=.int .i64 p2∧PermIn a' b' d2 d3∧At L0 w [blkU g d3 r] wc)
      case first=>
       cases c
       · go_wp2_with fail;go_meet;case rel=>exact⟨d2,rfl,Sort.permIn_refl _ _ _,hA⟩
       have hs:=Hd (Sort.partialInsertionSort_holds Sort.swo_ltInt d2 a' b' (by omega) (by omega) B2.out);go_wp2_with fail;refine(Zfb (hA.sep1 .here) (s2.trans (s1.trans (hsk.trans hn))) (a:=a') (b:=b') (by omega) (by omega) (by omega)).mono ?_;rintro e w1 ⟨rfl,hT1⟩;have hB:=hA.call1 .here hT1;clear hA hT1;cases hq:(Sort.partialInsertionSort ltInt d2 a' b').2
       · go_wp2_with fail;go_meet;case rel=>exact⟨_,rfl,hs.out.1,hB⟩
       have hh:=Hd (T2.out _ hs.out.1 (hs.out.2 hq));go_wp2_with fail;refine bodyPost_ret (results_none rfl _ _ _) rfl ?_;exact⟨_,rfl,hh.out.1,hh.out.2,hB⟩
      case rest=>
       obtain⟨d3,rfl,hp3,hB⟩:=hcut;clear hA;have hA:=hB;clear hB;have s3:d3.size=d2.size:=hp3.1;have T3:=Hd (Todo.step T2.out hp3);have B3:=Hd (Sort.Below.perm B2.out (by omega) hp3);clear hp3 T2 B2;go_upto_region 17 with fail
       go_cut [87] from 19 to 133 (fun u wc=>∃c:Bool,u=.bool c∧(c=true→0 < a'∧ltInt d3[a' - 1]! d3[p2]! =false)∧At L0 w [blkU g d3 r] wc)
       case first=>
        obtain⟨hA,hF⟩:=fY hA;by_cases ha0:0 < a'
        · have hg:decide ((0:Int) < (a':Int))=true:=by simp;omega
          obtain⟨y,hy⟩:∃y,a'=y + 1:=⟨a' - 1,by omega⟩
          have ey:(a':Int) - 1=(y:Int):=by omega
          have gy1:a'≤y + 1:=by omega
          have gy2:y + 1≤a':=by omega
          have hy':=Hd (show a' - 1=y by omega);clear hy;have e1:=ZaA (d:=d3) (r:=r) (i:=y) (by omega);have e2:=ZaA (d:=d3) (r:=r) (i:=p2) (by omega);cases hl:ltU (atU d3 y) (atU d3 p2)
          · have hl':=Hd hl;clear hl;go_wp2_with fail;refine cl0 hA ?_;clear hF hA;intro w1 hA hF;(try simp only[uY] at hA hF);go_wp2_with fail;go_meet;case rel=>exact⟨true,rfl,fun _=>⟨ha0,by rw[hy'.out];exact hl'.out⟩,hA⟩
          have hl':=Hd hl;clear hl;go_wp2_with fail;refine cl0 hA ?_;clear hF hA;intro w1 hA hF;(try simp only[uY] at hA hF);go_wp2_with fail;go_meet;case rel=>exact⟨false,rfl,nofun,hA⟩
        have hg:decide ((0:Int) < (a':Int))=false:=by simp;omega
        go_wp2_with fail;refine cl2 hA ?_;clear hF hA;intro w1 hA hF;(try simp only[uY] at hA hF);go_wp2_with fail;go_meet;case rel=>exact⟨false,rfl,nofun,hA⟩
       case rest=>
        obtain⟨c,rfl,hc,hB⟩:=hcut;clear hA;have hA:=hB;clear hB;have hc':=Hd hc;clear hc;cases c
        · rcases hx:Sort.partition ltInt d3 a' b' p2 with⟨mid,ap,d4⟩;have hr:=Sort.round_part Sort.swo_ltInt (Sort.partition_holds ltInt) hpa2 hpb2 (by omega) B3.out hx;obtain⟨m1,m2,s4,BL,BR,RL,RR⟩:=hr;have BL':=Hd BL;have BR':=Hd BR;have RL':=Hd RL;have RR':=Hd RR;clear BL BR RL RR;have hx':=Hd hx;clear hx
          go_wp2_with (go_at_call 223;refine(Zgc (hA.sep1 .here) (s3.trans (s2.trans (s1.trans (hsk.trans hn)))) hpa2 hpb2 (by omega) (by omega)).mono ?_;unfold Zd6;rw[hx'.out];rintro e w1 ⟨rfl,hT1⟩;replace hA:=hA.call1 .here hT1;clear hT1;simp only[])
          · -- the left one is the smaller
            refine(ih (hA.sep1 .here) (s4.trans (s3.trans (s2.trans (s1.trans (hsk.trans hn))))) (a:=a') (b:=mid) (limit:=l2) (by omega) m1 (by omega) hl2 (by omega) BL'.out).mono ?_;rintro e w1 ⟨d5,rfl,hp5,hs5,hT1⟩;replace hA:=hA.call1 .here hT1;clear hT1;have s5:d5.size=d4.size:=hp5.1;have hh:=Hd (RL'.out d5 hp5 hs5);clear hp5 hs5;go_wp2_with fail;go_roundg (b' - (mid + 1));case measure=>omega
            case rel=>exact⟨mid + 1,b',l2,_,_,d5,by simp,rfl,rfl,rfl,rfl,by omega,hb',Nat.le_refl _,by omega,hl2,by omega,hh.out.1,hA,fun R h1 h2=>T3.out R (hh.out.2 R h1 h2).1 (hh.out.2 R h1 h2).2⟩
          have em:(mid:Int) + 1=((mid + 1:Nat):Int):=by omega
          rw[em];refine(ih (hA.sep1 .here) (s4.trans (s3.trans (s2.trans (s1.trans (hsk.trans hn))))) (a:=mid + 1) (b:=b') (limit:=l2) (by omega) (by omega) (by omega) hl2 (by omega) BR'.out).mono ?_;rintro e w1 ⟨d5,rfl,hp5,hs5,hT1⟩;replace hA:=hA.call1 .here hT1;clear hT1;have s5:d5.size=d4.size:=hp5.1;have hh:=Hd (RR'.out d5 hp5 hs5);clear hp5 hs5;go_wp2_with fail;go_roundg (mid - a');case measure=>omega
          case rel=>exact⟨a',mid,l2,_,_,d5,rfl,rfl,rfl,rfl,rfl,m1,by omega,Nat.le_refl _,by omega,hl2,by omega,hh.out.1,hA,fun R h1 h2=>T3.out R (hh.out.2 R h1 h2).1 (hh.out.2 R h1 h2).2⟩
        rcases hx:Sort.partitionEqual ltInt d3 a' b' p2 with⟨mid,d4⟩;have hr:=Sort.round_eq Sort.swo_ltInt (Sort.partitionEqual_holds ltInt) (hc'.out rfl).1 hpa2 hpb2 (by omega) B3.out (hc'.out rfl).2 hx;obtain⟨m1,m2,s4,BR,RR⟩:=hr;have BR':=Hd BR;have RR':=Hd RR;clear BR RR;have hx':=Hd hx;clear hx
        go_wp2_with (go_at_call 222;refine(Zdb (hA.sep1 .here) (s3.trans (s2.trans (s1.trans (hsk.trans hn)))) hpa2 hpb2 (by omega) (by omega)).mono ?_;unfold ZdE;rw[hx'.out];rintro e w1 ⟨rfl,hT1⟩;replace hA:=hA.call1 .here hT1;clear hT1;simp only[])
        go_roundg (b' - mid);case measure=>omega
        case rel=>exact⟨mid,b',l2,_,_,d4,rfl,rfl,rfl,rfl,rfl,m2,hb',Nat.le_refl _,by omega,hl2,by omega,BR'.out,hA,fun R h1 h2=>T3.out R (RR'.out R h1 h2).1 (RR'.out R h1 h2).2⟩
end SortU
end
section
namespace SortU
open Go.RowKit Go.Shelf
open Go.Sort (ltInt PermIn SortedIn)
open Go.Maps (Keyed)
open _root_.Go.Proofs.YtknoefbcmomalabGreatDoor.Unt (seV seL)
def sortI (l:List Int):List Int:=l.mergeSort fun x y=>decide (x≤y)
theorem ZmG {zs:List Int} {R:Array Int} (hP:PermIn 0 zs.length zs.toArray R) (hS:SortedIn ltInt 0 zs.length R):R.toList=sortI zs:=by
 have h:=Sort.sorted_unique_holds Sort.swo_ltInt (fun x y h1 h2=>by simp only[ltInt,decide_eq_false_iff_not] at h1 h2;omega) zs.toArray R (by simpa using hP) (by simpa using hS);rw[h];unfold sortI;simp only[];congr 1
 funext x y
 show(!decide (y < x))=decide (x≤y)
 by_cases h:x≤y
 · have h':¬y < x:=by omega
   simp[h,h']
 have h':y < x:=by omega
 simp[h,h']
theorem sortI_perm {l m:List Int} (h:l.Perm m):sortI l=sortI m:=by
 have hp:(sortI l).Perm (sortI m):=(List.mergeSort_perm l _).trans (h.trans (List.mergeSort_perm m _).symm);have tr:∀a b c:Int,decide (a≤b)=true→decide (b≤c)=true→decide (a≤c)=true:=by intro a b c h1 h2;simp at *;omega
 have tt:∀a b:Int,(decide (a≤b) || decide (b≤a))=true:=by intro a b;simp;omega
 refine List.Perm.eq_of_pairwise (le:=fun a b=>decide (a≤b)=true) ?_ (List.pairwise_mergeSort tr tt l) (List.pairwise_mergeSort tr tt m) hp;intro a b _ _ h1 h2;simp at h1 h2
 omega
theorem sortI_len (l:List Int):(sortI l).length=l.length:=List.length_mergeSort l
theorem Zji (l:List Int):l.flatMap seL=l.map (Value.int .u64):=by
 induction l with
 |nil=>rfl
 |cons x l ih=>rw[List.flatMap_cons,ih];rfl
abbrev rowI (v:Value) (l:List Int):Part:=.row 22 1 v l.length (l.flatMap seL)
theorem ZnD (ax:Option Addr) (cap:Nat) (w:World):Calls Tryz.prog 215 #[.slice ax 0 cap,.int .i64 0,.int .i64 0] w fun e w'=>e=.returned (.tuple #[])∧w'=w:=by
 go_enter Tryz.func215,Tryz.ntmps215;go_wp2_with fail;go_loopg [6] 0 (fun(k:Nat) u wr=>u=.int .i64 1∧wr=w)
 case atStart=>exact⟨rfl,rfl⟩
 case round=>
  obtain⟨rfl,rfl⟩:=hrel;go_wp2_with fail;go_end0
  exact⟨rfl,rfl⟩
theorem Zng (ax:Option Addr) (cap:Nat) (w:World):Calls Tryz.prog 186 #[.slice ax 0 cap,.int .i64 0,.int .i64 0,.int .i64 0] w fun e w'=>e=.returned (.tuple #[])∧w'=w:=by
 go_enter Tryz.func186,Tryz.ntmps186;go_wp2_with fail;go_loopg [1,2,3] 0 (fun(k:Nat) u1 u2 u3 wr=>u1=.int .i64 0∧u2=.int .i64 0∧u3=.int .i64 0∧wr=w)
 case atStart=>exact⟨rfl,rfl,rfl,rfl⟩
 case round=>
  obtain⟨rfl,rfl,rfl,rfl⟩:=hrel;go_wp2_with fail;refine(ZnD _ _ _).mono ?_;rintro e w' ⟨rfl,rfl⟩;go_wp2_with fail;refine bodyPost_ret (results_none rfl _ _ _) rfl ?_;exact⟨rfl,rfl⟩
theorem ZmF {w:World} {v:Value} {l:List Int} (h:Sep [rowI v l] w) (hmax:l.length < 4611686018427387904):
 Calls Tryz.prog 159 #[v] w fun e w'=>e=.returned (.tuple #[])∧At [rowI v l] w [rowI v (sortI l)] w':=by
 have hA:=At.start h;clear h;obtain⟨ax,cap,rfl,hax,hcap,_⟩:=hA.row_form (v:=v) (xs:=l.flatMap seL) .here
 have hLen:∀w,Calls Tryz.prog 92 #[.int .u64 (l.length:Int)] w fun e w'=>e=.returned (.int .i64 (Lib.bitLen l.length:Nat))∧w'=w:=fun w=>by
  have h:=Tryz.bits_Len (l.length:Int) w (by omega) (by omega);rwa [Int.toNat_natCast] at h
 have hk:=(ZeX l.length (by omega)).2 hmax;have hlw:IntKind.u64.wrap (l.length:Int)=(l.length:Int):=by rw[IntKind.wrap_u64];omega
 by_cases hl:0 < l.length
 · obtain⟨g,c,rfl,_,hcm,hcl,hct,hB⟩:=hA.row_open (ax:=ax) (cap:=cap) (n:=l.length) (xs:=l.flatMap seL) .here hl
   have hc:c=rowC l.toArray (c.drop l.length):=by
    unfold rowC;rw[List.toList_toArray,←Zji,←hct,Nat.mul_one,List.take_append_drop]
   obtain⟨r,hr⟩:∃r,c.drop l.length=r:=⟨_,rfl⟩
   rw[hr] at hc;have hrl:r.length=cap - l.length:=by rw[←hr,List.length_drop,hcl];omega
   subst hc;have hrl':=Hd hrl;clear hr hct hcl hrl hA;have hA:=hB;clear hB;go_enter Tryz.func159,Tryz.ntmps159
   go_wp2_with (go_at_call 92;refine(hLen _).mono ?_;rintro e w' ⟨rfl,rfl⟩)
   refine(Zo7 (l.length + 1) (g:=g) (d:=l.toArray) (r:=r) (a:=0) (b:=l.length) (limit:=Lib.bitLen l.length) (hA.sep1 .here) (by simp) (by omega) (by omega) (by simp) (by omega) (by simpa using hmax) (.inl rfl)).mono ?_;rintro e w1 ⟨R,rfl,hp,hs,hT⟩;have hB:=hA.call1 .here hT;clear hA hT;have hR:=Hd (ZmG hp hs);have hsz:R.size=l.length:=by have:=hp.1;simpa using this
   clear hp hs;go_wp2_with fail;go_end0
   refine⟨rfl,?_⟩
   have hC:=hB.row_shut (size:=1) (n:=l.length) (xs:=(sortI l).flatMap seL) .here (cap:=cap) (by rw[ZmR,hrl'.out,hsz];omega) hcap hcm (by
    unfold rowC
    rw[hR.out,←Zji,Nat.mul_one,List.take_append_of_le_length (by rw[Zay seL 1 (fun _=>rfl),sortI_len];omega),List.take_of_length_le (by rw[Zay seL 1 (fun _=>rfl),sortI_len];omega)])
   unfold rowI;rw[sortI_len];exact hC.pick pR
 have h0:l=[]:=List.eq_nil_of_length_eq_zero (by omega);subst h0;have hz:(([]:List Int).length:Int)=0:=rfl;have hbl:Lib.bitLen 0=0:=rfl;simp only[List.length_nil] at *
 go_enter Tryz.func159,Tryz.ntmps159
 go_wp2_with (go_at_call 92;refine(hLen _).mono ?_;rintro e w' ⟨rfl,rfl⟩)
 refine(Zng _ _ _).mono ?_;rintro e w1 ⟨rfl,rfl⟩;go_wp2_with fail;go_end0
 exact⟨rfl,by simpa [sortI] using hA⟩
theorem collect_in (F:Fence) (n:Nat) (hF:F.fn 158) (hF2:F.fn 185) (hro:F.round=none) (hn:4≤n) (gf:Nat) (lb:Array Value) (hFg:F.fn gf) (eg:∀args w,(callFunc gf args).run Tryz.prog w=.ok (.enter gf args) w)
 (S Sp:List Int→Prop) (N:Nat) (hN:N≤100000000) (w:World) (hseq:SeqStopsK F (n - 1 - 1) Tryz.prog gf lb (fun x:Int=> #[seV x]) KeepsWalks S Sp N w):
 CallsIn F n Tryz.prog 158 #[.func (.func gf) #[] lb] w fun e w'=>∃(v:Value) (ss:List Int),e=.returned v∧S ss∧w'.ownsRow w.heap.size 22 1 v ss.length (ss.flatMap seL)∧(v=.slice none 0 0↔ss=[])∧Below w.heap.size w w':=by
 have h1:1≤n:=by omega
 refine callsIn_of_wp Tryz.func158 rfl hF ?_ hro;simp only[Tryz.ntmps158,List.size_toArray,List.length_cons,List.length_nil,Nat.reduceAdd,Nat.reduceSub,Array.replicate_succ,Array.replicate_zero,List.push_toArray,List.append_toArray,List.nil_append,List.cons_append]
 gi_wp2_with (gi_at_call 185;refine(Unt.appendSeq_in F (n - 1) hF2 hro (by omega) gf lb hFg eg S Sp N hN _ hseq).mono ?_;rintro e W ⟨v,ss,rfl,hS,hrow,hnil,hb⟩)
 go_ret;exact⟨v,ss,rfl,hS,hrow,hnil,hb⟩
theorem collect_keys (Bm b:Nat) (es:List (Value × Value)) (ks:List Int) (hes:es.map (·.1)=ks.map seV) (w:World) (hBm:Bm < w.heap.size) (hm:w.cell? ⟨Bm,0,none⟩=some (.map (some b))) (hM:MapAt Tryz.prog 22 w b es) (hN:ks.length≤100000000):
 Calls Tryz.prog 158 #[.func (.func 160) #[] #[.pointer (some ⟨Bm,0,none⟩)]] w fun e w'=>∃(v:Value) (ss:List Int),e=.returned v∧ss.Perm ks∧w'.ownsRow w.heap.size 22 1 v ss.length (ss.flatMap seL)∧(v=.slice none 0 0↔ss=[])∧Below w.heap.size w w':=
 callsIn_wide.1 (collect_in Fence.wide 5 trivial trivial rfl (by omega) _ _ trivial (enters_of Tryz.func160 (by kernel_rfl) rfl) _ _ ks.length hN w
  (Unt.keys_stops Fence.wide _ trivial rfl (by omega) Bm b es ks hes w hBm hm hM))
def Zko (L0:List Part) (w:World) (L:List Part) (ks:List Int) (e:Ending) (w':World):Prop:=∃v,e=.returned v∧At L0 w (rowI v (sortI ks)::L) w'
theorem sorted_any {L0 L F G:List Part} {w0 w:World} {Bm b:Nat} {es:List (Value × Value)} {T:TypeId} (hA:At L0 w0 L w) (s1:Sel (Part.cells Bm [.map (some b)] T) L F) (s2:Sel (Part.map Tryz.prog 22 b es) L G) (ks:List Int) (hes:es.map (·.1)=ks.map seV) (hN:ks.length≤100000000):
 Calls Tryz.prog 125 #[.func (.func 160) #[] #[.pointer (some ⟨Bm,0,none⟩)]] w (Zko L0 w0 L ks):=by
 have hb:Zaa w Bm [.map (some b)] T:=hA.get s1;have hC:=collect_keys Bm b es ks hes w hb.lt (hb.cell 0) (hA.get s2) hN;clear hes;go_enter Tryz.func125,Tryz.ntmps125;go_wp2_with fail;refine hC.mono ?_;rintro e w1 ⟨v,ss,rfl,hp,hrow,_,hbl⟩;have hB:=hA.row_new hbl hrow;have hss:=Hd (sortI_perm hp);have hll:=hp.length_eq;clear hA hC hrow hbl hb;go_wp2_with fail;refine(ZmF (l:=ss) (hB.sep1 .here) (by omega)).mono ?_;rintro e w2 ⟨rfl,hT⟩;have hD:=hB.call1 .here hT;clear hB hT;go_wp2_with fail;go_ret;rw[hss.out] at hD;exact⟨v,rfl,hD⟩
theorem Znt (mb:Option Nat) (w:World):
 Calls Tryz.prog 126 #[.map mb] w fun e w'=>e=.returned (.func (.func 160) #[] #[.pointer (some ⟨w.heap.size,0,none⟩)])∧w'=w.alloc (.cells #[.map mb] 149):=
 callsIn_wide.1 (Unt.keys_in Fence.wide 1 trivial rfl mb w)
end SortU
end
section
namespace Lease
open Go.RowKit
open Go.Maps (Keyed)
open _root_.Go.Proofs.YtknoefbcmomalabGreatDoor.SortU (rowI sortI)
def reqs (s:Ses):List Int:=s.told.map (·.1)
theorem ZjM (l:List (Int × Ans)):(saids l).map (·.1)=(l.map (·.1)).map Unt.seV:=by simp[saids,saidE,Unt.seV]
def Zmj (w:World) (p m:Nat) (ss:List Ses) (n:Int) (f:ByteArray) (e:Ending) (w':World):Prop:=∃v,e=.returned v∧At [BookP p m ss] w [rowI v (sortI (reqs (look ss n f))),BookP p m ss] w'
theorem ZgZ {w:World} {p m:Nat} {ss:List Ses} (h:Sep [BookP p m ss] w) {n:Int} {f:ByteArray} (h0:0≤n) (h1:n < big64) (hf:f.size≤maxLen) (hmax:(look ss n f).told.length≤1000000):
 Calls Tryz.prog 84 #[.pointer (some ⟨p,0,none⟩),.agg #[.int .u64 n,.string f]] w (Zmj w p m ss n f):=by
 obtain⟨kl,hk⟩:=keyS h0 h1 hf
 cases hn:find ss n f with
 |none=>
  have hmiss:=Hd (find_none hn);have hr:=Hd (show sortI (reqs (look ss n f))=[] by unfold look;rw[hn];simp[fresh,reqs,sortI]);have hA:=begin0 h;obtain⟨hA,hF⟩:=fY hA;clear h hmax;unfold keyV at *
  go_enter Tryz.func84,Tryz.ntmps84
  go_wp2_with ((with_reducible refine gbx ?_);refine wCy hA ?_;clear hF hA;intro b1 w1 hA hb1 hF)
  have hl:∀q,(Instr.lookup 119 (.map (some m)) (.agg #[.int .u64 n,.string f]) true).run Tryz.prog (w1.drewN q)=.ok (.tuple #[.pointer none,.bool false]) (w1.drewN q):=fun q=>
   MapAt.look_none (w:=w1.drewN q) ((hA.drewN q).get (A:=mapC m (ents ss)) sR) lawS Tryz.underlying119 hk hmiss.out (by kernel_rfl) true
  go_quiet (fail)
  have hA:=hA.drewN nq;generalize World.drewN _ nq=w1 at *;clear hF;obtain⟨hA,hF⟩:=fY hA
  go_wp2_with fail;refine bodyPost_ret (v:=.slice none 0 0) (by simp[results,Tryz.results84,go_sem,hF]) rfl ⟨_,rfl,?_⟩;rw[hr.out];have hN:At _ _ (rowI (.slice none 0 0) []::_) _:=(fold0 (m:=m) (ss:=ss) hA sR sR sR).row_nil 22 1;exact hN.pick pR
 |some s=>
  have hmem:=Hd (find_mem hn);have hlk:look ss n f=s:=by unfold look;rw[hn];rfl
  rw[hlk] at hmax;have hlk':=Hd hlk;clear hlk;obtain⟨l1,l2,e,_,_,_⟩:=find_split hn;have e':=Hd e;subst e;have hA:=Zjv h;simp only[Ses.cells] at hA;obtain⟨hA,hF⟩:=fY hA;clear h hn;unfold keyV at *
  go_enter Tryz.func84,Tryz.ntmps84
  go_wp2_with ((with_reducible refine gbx ?_);refine wCy hA ?_;clear hF hA;intro b1 w1 hA hb1 hF)
  have hl:∀q,(Instr.lookup 119 (.map (some m)) (.agg #[.int .u64 n,.string f]) true).run Tryz.prog (w1.drewN q)=.ok (.tuple #[s.ptr,.bool true]) (w1.drewN q):=fun q=>
   MapAt.look_some (w:=w1.drewN q) ((hA.drewN q).get (A:=mapC m (ents (l1++s::l2))) sR) lawS Tryz.underlying119 hk hmem.out true
  unfold Ses.ptr at hl;go_quiet (fail)
  have hA:=hA.drewN nq;generalize World.drewN _ nq=w1 at *;clear hF;obtain⟨hA,hF⟩:=fY hA
  go_wp2_with fail;refine(SortU.Znt (some s.tm) _).mono ?_;rintro e _ ⟨rfl,rfl⟩;have hB:=hA.alloc [.map (some s.tm)] 149;clear hF hA;go_wp2_with fail;refine(SortU.sorted_any hB .here sZ (reqs s) (ZjM s.told) (by simp[reqs];omega)).mono ?_;rintro e w2 ⟨v,rfl,hD⟩;clear hB;go_wp2_with fail;go_ret;refine⟨v,rfl,?_⟩;rw[hlk'.out];exact(fold1 (m:=m) (s:=s) hD sR sR sZ sR sR).pick pR
end Lease
end
section
namespace Sess
open Go.RowKit
open Go.Sort Go.Shelf
open Go.Lib (compareBytes compareInt)
open _root_.Go.Proofs.YtknoefbcmomalabGreatDoor.Mark (orI or2 Zfg ZcD)
theorem cb_three:∀(a b:List UInt8),compareBytes a b= -1∨compareBytes a b=0∨compareBytes a b=1
 |[],[]=>by simp[compareBytes]
 |[],_::_=>by simp[compareBytes]
 |_::_,[]=>by simp[compareBytes]
 |a::x,b::y=>by
  have:=cb_three x y;unfold compareBytes
  split
  · simp
  split
  · simp
  exact this
theorem Zix:∀(a b:List UInt8),compareBytes b a= - compareBytes a b
 |[],[]=>by simp[compareBytes]
 |[],_::_=>by simp[compareBytes]
 |_::_,[]=>by simp[compareBytes]
 |a::x,b::y=>by
  have:=Zix x y;simp only[compareBytes]
  rcases Nat.lt_trichotomy a.toNat b.toNat with h|h|h
  · have h1:a < b:=UInt8.lt_iff_toNat_lt.2 h;have h2:¬b < a:=fun q=>by have:=UInt8.lt_iff_toNat_lt.1 q;omega
    simp[h1,h2]
  · have e:a=b:=UInt8.toNat_inj.1 h;subst e;have h1:¬a < a:=fun q=>by have:=UInt8.lt_iff_toNat_lt.1 q;omega
    simp[h1,this]
  have h1:b < a:=UInt8.lt_iff_toNat_lt.2 h;have h2:¬a < b:=fun q=>by have:=UInt8.lt_iff_toNat_lt.1 q;omega
  simp[h1,h2]
theorem Zl6:∀(a b:List UInt8),compareBytes a b=0→a=b
 |[],[],_=>rfl
 |[],_::_,h=>by simp[compareBytes] at h
 |_::_,[],h=>by simp[compareBytes] at h
 |a::x,b::y,h=>by
  simp only[compareBytes] at h;rcases Nat.lt_trichotomy a.toNat b.toNat with q|q|q
  · have h1:a < b:=UInt8.lt_iff_toNat_lt.2 q;simp[h1] at h
  · have e:a=b:=UInt8.toNat_inj.1 q;subst e;have h1:¬a < a:=fun q=>by have:=UInt8.lt_iff_toNat_lt.1 q;omega
    simp[h1] at h;rw[Zl6 x y h]
  have h1:b < a:=UInt8.lt_iff_toNat_lt.2 q;have h2:¬a < b:=fun q=>by have:=UInt8.lt_iff_toNat_lt.1 q;omega
  simp[h1,h2] at h
theorem cb_trans:∀(a b c:List UInt8),compareBytes a b < 0→compareBytes b c < 0→compareBytes a c < 0
 |[],_,[],h1,h2=>by
  rename_i b;have:=Zix [] b
  omega
 |[],_,_::_,_,_=>by simp[compareBytes]
 |_::_,[],_,h1,_=>by simp[compareBytes] at h1
 |_::_,_::_,[],_,h2=>by simp[compareBytes] at h2
 |a::x,b::y,c::z,h1,h2=>by
  have ih:=cb_trans x y z;simp only[compareBytes] at *
  simp only[UInt8.lt_iff_toNat_lt] at *
  split at h1
  · split at h2
    · rw[if_pos (by omega)];omega
    split at h2
    · simp at h2
    rw[if_pos (by omega)];omega
  split at h1
  · simp at h1
  split at h2
  · rw[if_pos (by omega)];omega
  split at h2
  · simp at h2
  rw[if_neg (by omega),if_neg (by omega)];exact ih h1 h2
theorem ZeG (x:Int) (w:World):Calls Tryz.prog 214 #[.int .u64 x] w fun e w'=>e=.returned (.bool false)∧w'=w:=by
 go_enter Tryz.func214,Tryz.ntmps214;go_wp2
 go_ret;exact⟨by simp,rfl⟩
theorem ZeT (x y:Int) (w:World):Calls Tryz.prog 184 #[.int .u64 x,.int .u64 y] w fun e w'=>e=.returned (.int .i64 (compareInt x y))∧w'=w:=by
 unfold compareInt;by_cases h1:x < y
 · go_enter Tryz.func184,Tryz.ntmps184
   go_wp2_with (go_at_call 214;refine(ZeG _ _).mono ?_;rintro e w' ⟨rfl,rfl⟩)
   refine bodyPost_ret (results_tmp rfl _ _ _) rfl ?_;exact⟨by simp[h1],rfl⟩
 by_cases h2:y < x
 · go_enter Tryz.func184,Tryz.ntmps184
   go_wp2_with (go_at_call 214;refine(ZeG _ _).mono ?_;rintro e w' ⟨rfl,rfl⟩)
   refine bodyPost_ret (results_tmp rfl _ _ _) rfl ?_;exact⟨by simp[h1,h2],rfl⟩
 go_enter Tryz.func184,Tryz.ntmps184
 go_wp2_with (go_at_call 214;refine(ZeG _ _).mono ?_;rintro e w' ⟨rfl,rfl⟩)
 go_ret;exact⟨by simp[h1,h2],rfl⟩
def cbS (a b:ByteArray):Int:=compareBytes a.data.toList b.data.toList
def cmpS (x y:Int × ByteArray):Int:=orI (compareInt x.1 y.1) (cbS x.2 y.2)
theorem Ze7 (x y:Int × ByteArray) (W:World):Calls Tryz.prog 155 #[.agg #[.int .u64 x.1,.string x.2],.agg #[.int .u64 y.1,.string y.2]] W fun e w'=>e=.returned (.int .i64 (cmpS x y))∧∃q os',w'=grow (W.drewN q) os':=by
 unfold cmpS cbS;go_enter Tryz.func155,Tryz.ntmps155;go_wp2_with fail;(refine Zaw 10 (fun w'=>∃n,w'=World.drewN _ n) (by kernel_rfl) (by kernel_rfl) ⟨1,rfl⟩ ?_);(simp only[List.take_succ_cons,List.take_zero,List.drop_succ_cons,List.drop_zero]);(repeat(first|go_big_quiet_step (first|exact(ZeT _ _ _).mono fun _ _ ⟨he,hw⟩=>⟨he,_,hw⟩|exact(Tryz.strings_Compare _ _ _).mono fun _ _ ⟨he,hw⟩=>⟨he,_,hw⟩)|quiet_step (first|exact(ZeT _ _ _).mono fun _ _ ⟨he,hw⟩=>⟨he,_,hw⟩|exact(Tryz.strings_Compare _ _ _).mono fun _ _ ⟨he,hw⟩=>⟨he,_,hw⟩)));(refine wpQuiet_nil ?_);(rintro _ ⟨nq,rfl⟩)
 go_wp2_with fail;refine(or2 (compareInt x.1 y.1) (compareBytes x.2.data.toList y.2.data.toList) _ _ ?h0 ?h1).mono ?_;case h0=>exact ZcD _ _ (by simp) _ _ _ _ rfl
 case h1=>exact ZcD _ _ (by simp) _ _ _ _ rfl
 rintro e _ ⟨rfl,rfl⟩;go_wp2_with fail;go_ret;exact⟨rfl,nq,_,Zfg _ _ _ _ _⟩
def ltS (x y:Int × ByteArray):Prop:=x.1 < y.1∨(x.1=y.1∧cbS x.2 y.2 < 0)
instance (x y:Int × ByteArray):Decidable (ltS x y):=by unfold ltS;infer_instance
theorem Zcx (x y:Int × ByteArray):ltOf cmpS x y=decide (ltS x y):=by
 unfold ltOf cmpS orI compareInt ltS;by_cases h1:x.1 < y.1
 · simp[h1]
 by_cases h2:y.1 < x.1
 · have:x.1≠y.1:=by omega
   simp[h1,h2,this]
 have:x.1=y.1:=by omega
 simp[this]
theorem Zju (a b:ByteArray):cbS b a= - cbS a b:=Zix _ _
theorem Zl7 {a b c:ByteArray} (h1:cbS a b < 0) (h2:cbS b c < 0):cbS a c < 0:=cb_trans _ _ _ h1 h2
theorem Zn8 {a b:ByteArray} (h:cbS a b=0):a=b:=by
 have:=Zl6 _ _ h;obtain⟨⟨x⟩⟩:=a;obtain⟨⟨y⟩⟩:=b
 simp at this
 rw[this]
theorem Zb0 {x y z:Int × ByteArray} (h1:ltS x y) (h2:ltS y z):ltS x z:=by
 unfold ltS at *
 rcases h1 with h1|⟨h1,h1'⟩
 · rcases h2 with h2|⟨h2,_⟩<;>left<;>omega
 rcases h2 with h2|⟨h2,h2'⟩
 · left;omega
 exact .inr ⟨by omega,Zl7 h1' h2'⟩
theorem ZcE (x:Int × ByteArray):¬ltS x x:=by
 unfold ltS;have:=Zju x.2 x.2;omega
theorem Zgh (x y:Int × ByteArray):ltS x y∨x=y∨ltS y x:=by
 unfold ltS;have h:=Zju x.2 y.2;by_cases h0:cbS x.2 y.2=0
 · have e:=Zn8 h0;rcases Int.lt_trichotomy x.1 y.1 with q|q|q
   · exact .inl (.inl q)
   · exact .inr (.inl (Prod.ext q e))
   exact .inr (.inr (.inl q))
 rcases Int.lt_trichotomy x.1 y.1 with q|q|q
 · exact .inl (.inl q)
 · by_cases hl:cbS x.2 y.2 < 0
   · exact .inl (.inr ⟨q,hl⟩)
   exact .inr (.inr (.inr ⟨q.symm,by omega⟩))
 exact .inr (.inr (.inl q))
theorem swoS:SWO (ltOf cmpS) where
 irrefl x:=by rw[Zcx];exact decide_eq_false (ZcE x)
 trans x y z h1 h2:=by rw[Zcx] at *;exact decide_eq_true (Zb0 (of_decide_eq_true h1) (of_decide_eq_true h2))
 ntrans x y z h1 h2:=by
  rw[Zcx] at *
  refine decide_eq_false fun h=> ?_;have n1:=of_decide_eq_false h1;have n2:=of_decide_eq_false h2;rcases Zgh x y with q|q|q
  · exact n1 q
  · subst q;exact n2 h
  exact n2 (Zb0 q h)
theorem totS (x y:Int × ByteArray) (h1:ltOf cmpS x y=false) (h2:ltOf cmpS y x=false):x=y:=by
 rw[Zcx] at *
 rcases Zgh x y with q|q|q
 · exact absurd q (of_decide_eq_false h1)
 · exact q
 exact absurd q (of_decide_eq_false h2)
def sortS (l:List (Int × ByteArray)):List (Int × ByteArray):=l.mergeSort fun x y=> !ltOf cmpS y x
theorem Zpz (blk off size:Nat) (w:World):CmpLays Tryz.prog 155 #[] seL 2 cmpS blk off size w:=fun _ _ _ _ x y=>Ze7 x y _
end Sess
end
section
namespace Sess
open _root_.Go.Proofs.YtknoefbcmomalabGreatDoor.Mark (Zct ZbY Za6)
open Go.RowKit Go.Shelf Go.Sort
open Go.Maps (Keyed)
theorem collect_in (F:Fence) (n:Nat) (hF:F.fn 121) (hF2:F.fn 156) (hro:F.round=none) (hn:4≤n) (gf:Nat) (lb:Array Value) (hFg:F.fn gf) (eg:∀args w,(callFunc gf args).run Tryz.prog w=.ok (.enter gf args) w)
 (S Sp:List (Int × ByteArray)→Prop) (N:Nat) (hN:N≤100000000) (w:World) (hseq:SeqStopsK F (n - 1 - 1) Tryz.prog gf lb (fun x:Int × ByteArray=> #[seV x]) KeepsWalks S Sp N w):
 CallsIn F n Tryz.prog 121 #[.func (.func gf) #[] lb] w fun e w'=>∃(v:Value) (ss:List (Int × ByteArray)),e=.returned v∧S ss∧w'.ownsRow w.heap.size 39 2 v ss.length (ss.flatMap seL)∧(v=.slice none 0 0↔ss=[])∧Below w.heap.size w w':=by
 have h1:1≤n:=by omega
 refine callsIn_of_wp Tryz.func121 rfl hF ?_ hro;simp only[Tryz.ntmps121,List.size_toArray,List.length_cons,List.length_nil,Nat.reduceAdd,Nat.reduceSub,Array.replicate_succ,Array.replicate_zero,List.push_toArray,List.append_toArray,List.nil_append,List.cons_append]
 gi_wp2_with (gi_at_call 156;refine(appendSeq_in F (n - 1) hF2 hro (by omega) gf lb hFg eg S Sp N hN _ hseq).mono ?_;rintro e W ⟨v,ss,rfl,hS,hrow,hnil,hb⟩)
 go_ret;exact⟨v,ss,rfl,hS,hrow,hnil,hb⟩
theorem seL_len (x:Int × ByteArray):(seL x).length=2:=rfl
theorem ZoS (x:Int × ByteArray):∀v ∈ seL x,v.oneCell'=true:=by
 intro u hu;simp only[seL,List.mem_cons,List.not_mem_nil,or_false] at hu;rcases hu with rfl|rfl<;>rfl
theorem collect_keys (Bm b:Nat) (es:List (Value × Value)) (ks:List (Int × ByteArray)) (hes:es.map (·.1)=ks.map seV) (w:World) (hBm:Bm < w.heap.size) (hm:w.cell? ⟨Bm,0,none⟩=some (.map (some b))) (hM:MapAt Tryz.prog 39 w b es) (hN:ks.length≤100000000):
 Calls Tryz.prog 121 #[.func (.func 157) #[] #[.pointer (some ⟨Bm,0,none⟩)]] w fun e w'=>∃(v:Value) (ss:List (Int × ByteArray)),e=.returned v∧ss.Perm ks∧w'.ownsRow w.heap.size 39 2 v ss.length (ss.flatMap seL)∧(v=.slice none 0 0↔ss=[])∧Below w.heap.size w w':=
 callsIn_wide.1 (collect_in Fence.wide 5 trivial trivial rfl (by omega) _ _ trivial (enters_of Tryz.func157 (by kernel_rfl) rfl) _ _ ks.length hN w
  (keys_stops Fence.wide _ trivial rfl (by omega) Bm b es ks hes w hBm hm hM))
theorem sort_len (l:List (Int × ByteArray)):(sortS l).length=l.length:=List.length_mergeSort l
theorem ZkM (a b c:Int × ByteArray) (h1:(!ltOf cmpS b a)=true) (h2:(!ltOf cmpS c b)=true):(!ltOf cmpS c a)=true:=by
 rw[Zcx] at *
 simp only[Bool.not_eq_true',decide_eq_false_iff_not] at *
 intro h;rcases Zgh b a with q|q|q
 · exact h1 q
 · subst q;exact h2 h
 exact h2 (Zb0 h q)
theorem ZkN (a b:Int × ByteArray):((!ltOf cmpS b a) || !ltOf cmpS a b)=true:=by
 rw[Zcx,Zcx];simp only[Bool.or_eq_true,Bool.not_eq_true',decide_eq_false_iff_not];by_cases h:ltS b a
 · right
   intro h';exact ZcE _ (Zb0 h h')
 exact .inl h
theorem sort_perm {l m:List (Int × ByteArray)} (h:l.Perm m):sortS l=sortS m:=by
 have hp:(sortS l).Perm (sortS m):=(List.mergeSort_perm l _).trans (h.trans (List.mergeSort_perm m _).symm);refine List.Perm.eq_of_pairwise (le:=fun a b=>(!ltOf cmpS b a)=true) ?_ (List.pairwise_mergeSort ZkM ZkN l) (List.pairwise_mergeSort ZkM ZkN m) hp;intro a b _ _ h1 h2;exact totS a b (by simpa using h2) (by simpa using h1)
theorem sorted_any {w:World} {base:Nat} {v:Value} {ss:List (Int × ByteArray)} (hrow:w.ownsRow base 39 2 v ss.length (ss.flatMap seL)) (hmax:ss.length≤100000000):
 Calls Tryz.prog 120 #[v] w fun e w'=>e=.returned v∧w'.ownsRow base 39 2 v (sortS ss).length ((sortS ss).flatMap seL)∧w.grownBy w' v.ownBlock:=by
 rcases hrow.2 with⟨rfl,hz⟩|⟨gb,cap,cur,rfl,hbase,hgb,r1,r2,r3,r4⟩
 · have hss:ss=[]:=List.eq_nil_of_length_eq_zero hz;subst hss;have hS:Calls Tryz.prog 154 #[.slice none 0 0,.func (.func 155) #[] #[]] w fun e w'=>e=.returned (.tuple #[])∧w'=w:=AnyF.slices_SortFunc_none Tryz.sort154 none 0 _ w;go_enter Tryz.func120,Tryz.ntmps120;go_wp2_with fail;refine hS.mono ?_;rintro e _ ⟨rfl,rfl⟩;go_wp2_with fail;go_ret;exact⟨rfl,by simpa [sortS] using hrow,⟨rfl,rfl,rfl,Nat.le_refl _,fun _ _ _=>rfl⟩⟩
 have hH:HoldsK seL 2 w gb 0 ss.toArray:=Zct seL 2 seL_len hgb r4;have hgl:gb < w.heap.size:=(Array.getElem?_eq_some_iff.1 hgb).1;have hsz:ss.toArray.size < 4611686018427387904:=by simp;omega
 have hS:Calls Tryz.prog 154 #[.slice (some ⟨gb,0,none⟩) ss.length cap,.func (.func 155) #[] #[]] w fun e w'=>e=.returned (.tuple #[])∧∃n os,w'=sortWorldK seL 2 w gb 0 n (sortS ss).toArray os:=
  AnyQ.slices_SortFunc_total Tryz.sort154 2 Tryz.isAgg39 Tryz.sizeOf39 seL seL_len ZoS cmpS swoS 155 #[] gb 0 cap ss.toArray w (enters_of Tryz.func155 (by kernel_rfl) rfl) (Zpz _ _ _ _) hH hgl hsz totS
 go_enter Tryz.func120,Tryz.ntmps120;go_wp2_with fail;refine hS.mono ?_;rintro e _ ⟨rfl,nn,os,rfl⟩;go_wp2_with fail;go_ret;refine⟨rfl,?_,Za6 _⟩;rw[sort_len];exact ZbY seL 2 seL_len (sort_len ss) hbase hgb r1 r2 r3
end Sess
end
end Go.Proofs.YtknoefbcmomalabGreatDoor
