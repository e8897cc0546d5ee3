/- SortU3, SortU4, SortU5, joined. -/
import Derived.Test.YtkdjkngfnapjcaaGreatDoorQ6
import Derived.Test.YtkdjkngfnapjcaaGreatDoorShelft
import Derived.Laws.Bits64b
import Derived.Deep.CutBlock
import Derived.Deep.CutRange
set_option linter.unusedSimpArgs false
set_option linter.unusedVariables false
set_option maxRecDepth 100000
set_option maxHeartbeats 16000000
namespace Go.Proofs.YtkdjkngfnapjcaaGreatDoor
section
namespace SortU
open Go.RowKit
open Go.Sort (swp ltInt PermIn)
abbrev intC (b:Nat) (x:Int):Part:=.cells b [.int .i64 x] 3
def O2Post (w:World) (g s:Nat) (d:Array Int) (r:List Value) (x:Nat) (a b:Nat) (e:Ending) (w':World):Prop:=
 ∃(p q y:Nat),e=.returned (.tuple #[.int .i64 p,.int .i64 q])∧(p=a∧q=b∨p=b∧q=a)∧y≤x + 1∧At [blkU g d r,intC s x] w [blkU g d r,intC s y] w'
theorem Zdc {w:World} {g s cap n x:Nat} {d:Array Int} {r:List Value} (h:Sep [blkU g d r,intC s x] w) (hn:d.size=n) {a b:Nat} (ha:a < d.size) (hb:b < d.size) (hx:x < 1000) (hsz:d.size < 4611686018427387904):
 Calls Tryz.prog 341 #[.slice (some ⟨g,0,none⟩) n cap,.int .i64 a,.int .i64 b,.pointer (some ⟨s,0,none⟩)] w (O2Post w g s d r x a b):=by
 have hA:=At.start h;have hF:=hA.facts;have e1:=Zau (r:=r) ha;have e2:=Zau (r:=r) hb;clear h;obtain⟨hA,hF⟩:=fY hA;cases hl:ltU (atU d b) (atU d a)
 · have hl':=Hd hl
   clear hl
   go_enter Tryz.func341,Tryz.ntmps341
   go_wp2_with fail
   refine cl0 hA ?_;clear hF hA;intro w1 hA hF;(try simp only[uY] at hA hF)
   go_wp2_with fail
   refine bodyPost_ret (v:=.tuple #[.int .i64 a,.int .i64 b]) (by simp[results,Tryz.results341,go_sem,hF]) rfl ?_;exact⟨a,b,x,rfl,.inl ⟨rfl,rfl⟩,by omega,hA⟩
 have hl':=Hd hl;clear hl
 go_enter Tryz.func341,Tryz.ntmps341
 go_wp2_with fail
 refine cl0 hA ?_;clear hF hA;intro w1 hA hF;(try simp only[uY] at hA hF)
 go_wp2_with ((with_reducible refine gst ?_);refine wTy hA ?_;clear hF hA;intro w1 hA hF)
 refine bodyPost_ret (v:=.tuple #[.int .i64 b,.int .i64 a]) (by simp[results,Tryz.results341,go_sem,hF]) rfl ?_
 have hA:=(show At _ _ [intC s ((x + 1:Nat):Int),blkU g d r] _ from hA)
 exact⟨b,a,x + 1,rfl,.inr ⟨rfl,rfl⟩,by omega,hA.pick pR⟩
def Zli (w:World) (g s:Nat) (d:Array Int) (r:List Value) (x:Nat) (a b c:Nat) (e:Ending) (w':World):Prop:=
 ∃(p y:Nat),e=.returned (.int .i64 p)∧(p=a∨p=b∨p=c)∧y≤x + 3∧At [blkU g d r,intC s x] w [blkU g d r,intC s y] w'
theorem Zde {w:World} {g s cap n x:Nat} {d:Array Int} {r:List Value} (h:Sep [blkU g d r,intC s x] w) (hn:d.size=n) {a b c:Nat} (ha:a < d.size) (hb:b < d.size) (hc:c < d.size) (hx:x < 900) (hsz:d.size < 4611686018427387904):
 Calls Tryz.prog 337 #[.slice (some ⟨g,0,none⟩) n cap,.int .i64 a,.int .i64 b,.int .i64 c,.pointer (some ⟨s,0,none⟩)] w (Zli w g s d r x a b c):=by
 have hA:=At.start h;have hF:=hA.facts;clear h
 go_enter Tryz.func337,Tryz.ntmps337
 go_wp2_with fail
 refine(Zdc (hA.seps pR) hn ha hb (by omega) hsz).mono ?_;rintro e w1 ⟨p1,q1,y1,rfl,h1,hy1,hT⟩;replace hA:=hA.call2 sR sR hT;clear hF hT;simp only[uA] at hA
 go_wp2_with fail
 refine(Zdc (hA.seps pR) hn (a:=q1) (b:=c) (by omega) hc (by omega) hsz).mono ?_;rintro e w1 ⟨p2,q2,y2,rfl,h2,hy2,hT⟩;replace hA:=hA.call2 sR sR hT;clear hT;simp only[uA] at hA
 go_wp2_with fail
 refine(Zdc (hA.seps pR) hn (a:=p1) (b:=p2) (by omega) (by omega) (by omega) hsz).mono ?_;rintro e w1 ⟨p3,q3,y3,rfl,h3,hy3,hT⟩;replace hA:=hA.call2 sR sR hT;clear hT;simp only[uA] at hA
 go_wp2_with fail
 go_ret;exact⟨q3,y3,rfl,by omega,by omega,hA⟩
theorem Zb0 {w:World} {g s cap n x:Nat} {d:Array Int} {r:List Value} (h:Sep [blkU g d r,intC s x] w) (hn:d.size=n) {a:Nat} (ha:0 < a) (ha2:a + 1 < d.size) (hx:x < 900) (hsz:d.size < 4611686018427387904):
 Calls Tryz.prog 336 #[.slice (some ⟨g,0,none⟩) n cap,.int .i64 a,.pointer (some ⟨s,0,none⟩)] w (Zli w g s d r x (a - 1) a (a + 1)):=by
 have hA:=At.start h;have hF:=hA.facts;clear h
 obtain⟨m,rfl⟩:∃m,a=m + 1:=⟨a - 1,by omega⟩
 go_enter Tryz.func336,Tryz.ntmps336
 go_wp2_with fail
 refine(Zde (hA.seps pR) hn (a:=m) (b:=m + 1) (c:=m + 2) (by omega) (by omega) (by omega) hx hsz).mono ?_;rintro e w1 ⟨p,y,rfl,h1,hy,hT⟩;replace hA:=hA.call2 sR sR hT;clear hF hT;simp only[uA] at hA
 go_wp2_with fail
 go_ret;exact⟨p,y,rfl,by omega,hy,hA⟩
def Zn7 (w:World) (g:Nat) (d:Array Int) (r:List Value) (a b:Nat) (e:Ending) (w':World):Prop:=
 ∃(p:Nat) (hv:Int),e=.returned (.tuple #[.int .i64 p,.int .i64 hv])∧a≤p∧p < b∧At [blkU g d r] w [blkU g d r] w'
theorem Zkg {w:World} {g cap n:Nat} {d:Array Int} {r:List Value} (h:Sep [blkU g d r] w) (hn:d.size=n) {a b:Nat} (hab:a + 12 < b) (hb:b≤d.size) (hsz:d.size < 4611686018427387904):
 Calls Tryz.prog 321 #[.slice (some ⟨g,0,none⟩) n cap,.int .i64 a,.int .i64 b] w (Zn7 w g d r a b):=by
 have hA:=At.start h;have hF:=hA.facts;clear h
 obtain⟨l,hl⟩:∃l,b - a=l:=⟨_,rfl⟩
 have el:(b:Int) - (a:Int)=(l:Int):=by omega
 obtain⟨q,hq⟩:∃q,l / 4=q:=⟨_,rfl⟩
 have eq:(l:Int) / 4=(q:Int):=by omega
 obtain⟨i,hi⟩:∃i,a + q=i:=⟨_,rfl⟩
 have ei:(a:Int) + (q:Int)=(i:Int):=by omega
 obtain⟨j,hj⟩:∃j,a + q * 2=j:=⟨_,rfl⟩
 have ej:(a:Int) + (q:Int) * 2=(j:Int):=by omega
 obtain⟨k,hk⟩:∃k,a + q * 3=k:=⟨_,rfl⟩
 have ek:(a:Int) + (q:Int) * 3=(k:Int):=by omega
 have h8:(8:Int)≤(l:Int):=by omega
 have hr1:a < i∧i + 1 < b∧a < j∧j + 1 < b∧a < k∧k < b:=by omega
 have hr2:50≤l→a + 1 < i∧i + 1 < b∧a + 1 < j∧j + 1 < b∧a + 1 < k∧k + 1 < b:=by omega
 have hr1':=Hd hr1;have hr2':=Hd hr2;clear hr1 hr2 hl hq hi hj hk
 by_cases h50:50≤l
 · have h50':(50:Int)≤(l:Int):=by omega
   have hr:=hr2'.out h50
   go_enter Tryz.func321,Tryz.ntmps321
   go_wp2_with ((with_reducible refine gal ?_);refine wA 3 (.int .i64 0) [.int .i64 0] hA ?_;clear hF hA;intro bS w1 hA hbS;obtain⟨hA,hF⟩:=fY hA)
   refine(Zb0 (x:=0) (hA.seps pZ) hn (a:=i) (by omega) (by omega) (by omega) hsz).mono ?_;rintro e w1 ⟨p1,y1,rfl,g1,hy1,hT⟩;replace hA:=hA.call2 sZ sZ hT;clear hF hT;simp only[uA] at hA
   go_wp2_with fail
   refine(Zb0 (x:=y1) (hA.seps pZ) hn (a:=j) (by omega) (by omega) (by omega) hsz).mono ?_;rintro e w1 ⟨p2,y2,rfl,g2,hy2,hT⟩;replace hA:=hA.call2 sZ sZ hT;clear hT;simp only[uA] at hA
   go_wp2_with fail
   refine(Zb0 (x:=y2) (hA.seps pZ) hn (a:=k) (by omega) (by omega) (by omega) hsz).mono ?_;rintro e w1 ⟨p3,y3,rfl,g3,hy3,hT⟩;replace hA:=hA.call2 sZ sZ hT;clear hT;simp only[uA] at hA
   go_wp2_with fail
   refine(Zde (x:=y3) (hA.seps pZ) hn (a:=p1) (b:=p2) (c:=p3) (by omega) (by omega) (by omega) (by omega) hsz).mono ?_;rintro e w1 ⟨p4,y4,rfl,g4,hy4,hT⟩;replace hA:=hA.call2 sZ sZ hT;clear hT;simp only[uA] at hA
   have hpr:a≤p4∧p4 < b:=by omega
   obtain⟨hA,hF⟩:=fY hA
   by_cases h0:(y4:Int)=0
   · rw[h0] at hF
     go_wp2_with fail
     refine bodyPost_ret (v:=.tuple #[.int .i64 p4,.int .i64 1]) (by simp[results,Tryz.results321,go_sem,hF]) rfl ?_;exact⟨p4,1,rfl,hpr.1,hpr.2,hA.pick pR⟩
   by_cases h12:(y4:Int)=12
   · rw[h12] at hF
     go_wp2_with fail
     refine bodyPost_ret (v:=.tuple #[.int .i64 p4,.int .i64 2]) (by simp[results,Tryz.results321,go_sem,hF]) rfl ?_;exact⟨p4,2,rfl,hpr.1,hpr.2,hA.pick pR⟩
   go_wp2_with fail
   refine bodyPost_ret (v:=.tuple #[.int .i64 p4,.int .i64 0]) (by simp[results,Tryz.results321,go_sem,hF]) rfl ?_;exact⟨p4,0,rfl,hpr.1,hpr.2,hA.pick pR⟩
 have h50':(l:Int) < 50:=by omega
 have hr:=hr1'.out
 go_enter Tryz.func321,Tryz.ntmps321
 go_wp2_with ((with_reducible refine gal ?_);refine wA 3 (.int .i64 0) [.int .i64 0] hA ?_;clear hF hA;intro bS w1 hA hbS;obtain⟨hA,hF⟩:=fY hA)
 refine(Zde (x:=0) (hA.seps pZ) hn (a:=i) (b:=j) (c:=k) (by omega) (by omega) (by omega) (by omega) hsz).mono ?_;rintro e w1 ⟨p4,y4,rfl,g4,hy4,hT⟩;replace hA:=hA.call2 sZ sZ hT;clear hF hT;simp only[uA] at hA
 have hpr:a≤p4∧p4 < b:=by omega
 obtain⟨hA,hF⟩:=fY hA
 by_cases h0:(y4:Int)=0
 · rw[h0] at hF
   go_wp2_with fail
   refine bodyPost_ret (v:=.tuple #[.int .i64 p4,.int .i64 1]) (by simp[results,Tryz.results321,go_sem,hF]) rfl ?_;exact⟨p4,1,rfl,hpr.1,hpr.2,hA.pick pR⟩
 have h12:¬(y4:Int)=12:=by omega
 go_wp2_with fail
 refine bodyPost_ret (v:=.tuple #[.int .i64 p4,.int .i64 0]) (by simp[results,Tryz.results321,go_sem,hF]) rfl ?_;exact⟨p4,0,rfl,hpr.1,hpr.2,hA.pick pR⟩
abbrev rndC (b:Nat) (x:Int):Part:=.cells b [.int .u64 x] 324
theorem Zhj (x y:Nat) (hx:x < 18446744073709551616) (hy:y < 18446744073709551616):∃z:Nat,bits .xor .u64 (x:Int) (y:Int)=(z:Int)∧z < 18446744073709551616:=
 ⟨_,bits_xor_u64_nat x y hx hy,Nat.xor_lt_two_pow (n:=64) (by omega) (by omega)⟩
theorem Zfw {L0 F:List Part} {w W:World} {b y:Nat} (z:Nat) (h:At L0 w (rndC b y::F) W):At L0 w (rndC b z::F) (W.setCell ⟨b,0,none⟩ (.int .u64 z)):=h.store .here 0 (.int .u64 z)
theorem ZdC {L0 F:List Part} {w W:World} {b y:Nat} (h:At L0 w (rndC b y::F) W):W.cell? ⟨b,0,none⟩=some (.int .u64 y)∧W.frozen? ⟨b,0,none⟩=false:=
 ⟨(h.get (A:=rndC b y) .here:Zaa W b [.int .u64 y] 324).cell 0,(h.get (A:=rndC b y) .here:Zaa W b [.int .u64 y] 324).free 0⟩
def ZmP (w:World) (b:Nat) (x:Nat) (e:Ending) (w':World):Prop:=∃y:Nat,e=.returned (.int .u64 y)∧y < 18446744073709551616∧At [rndC b x] w [rndC b y] w'
theorem Zl3 {w:World} {b x:Nat} (h:Sep [rndC b x] w) (hx:x < 18446744073709551616):Calls Tryz.prog 248 #[.pointer (some ⟨b,0,none⟩)] w (ZmP w b x):=by
 obtain⟨A,e1,lA⟩:=Zhj x (x * 8192 % 18446744073709551616) hx (by omega);obtain⟨B,e2,lB⟩:=Zhj A (A / 128) lA (by omega);obtain⟨C,e3,lC⟩:=Zhj B (B * 131072 % 18446744073709551616) lB (by omega)
 have e1':bits .xor .u64 (x:Int) (IntKind.u64.wrap ((x:Int) * 8192))=(A:Int):=by rw[IntKind.wrap_u64,←e1];congr 1
 have e2':bits .xor .u64 (A:Int) ((A:Int) / 128)=(B:Int):=by rw[←e2];congr 1
 have e3':bits .xor .u64 (B:Int) (IntKind.u64.wrap ((B:Int) * 131072))=(C:Int):=by rw[IntKind.wrap_u64,←e3];congr 1
 clear e1 e2 e3;have hA:=At.start h;clear h;obtain⟨k1,f1⟩:=ZdC hA
 go_enter Tryz.func248,Tryz.ntmps248
 go_wp2_with fail
 go_region
 replace hA:=(Zfw A hA).drew;clear k1 f1
 generalize World.drew (World.setCell _ _ _)=wz at *
 obtain⟨k1,f1⟩:=ZdC hA
 go_wp2_with fail
 go_region
 replace hA:=(Zfw B hA).drew;clear k1 f1
 generalize World.drew (World.setCell _ _ _)=wz at *
 obtain⟨k1,f1⟩:=ZdC hA
 go_wp2_with fail
 go_region
 replace hA:=(Zfw C hA).drew;clear k1 f1
 generalize World.drew (World.setCell _ _ _)=wz at *
 obtain⟨k1,f1⟩:=ZdC hA
 go_wp2_with fail
 go_ret;exact⟨C,rfl,lC,hA⟩
theorem Zex (x:Nat) (h:x < 2 ^ 64):2 ^ Lib.bitLen x≤2 * x + 1∧(x < 4611686018427387904→Lib.bitLen x≤62):=by
 have key:∀n x,x < n→x < 2 ^ 64→2 ^ Lib.bitLen x≤2 * x + 1∧(0 < x→2 ^ Lib.bitLen x≤2 * x):=by
  intro n
  induction n with
  |zero=>intro x h;omega
  |succ n ih=>
   intro x h1 h2
   by_cases h0:x=0
   · subst h0;exact⟨by decide,by omega⟩
   have:=ih (x / 2) (by omega) (by omega)
   have e:2 ^ Lib.bitLen x=2 * 2 ^ Lib.bitLen (x / 2):=by rw[Lib.bitLen_half x h0 h2,Nat.pow_add]
   by_cases h3:x / 2=0
   · rw[h3] at e
     have e0:2 ^ Lib.bitLen 0=1:=by decide
     rw[e0] at e
     omega
   have:=this.2 (by omega)
   omega
 have k1:=(key (x + 1) x (by omega) h).1;refine⟨k1,fun h2=> ?_⟩
 rcases Nat.lt_or_ge 62 (Lib.bitLen x) with q|q
 · have h3:2 ^ 63≤2 ^ Lib.bitLen x:=Nat.pow_le_pow_right (by decide) q
   have k2:=(key (x + 1) x (by omega) h).2
   rcases Nat.eq_zero_or_pos x with h0|h0
   · subst h0;simp at k1;omega
   have:=k2 h0;omega
 exact q
theorem Zh6 (k:Nat) (hk:k≤62):IntKind.u64.wrap ((2:Int) ^ k)=((2 ^ k:Nat):Int):=by
 have h:(2:Nat) ^ k≤2 ^ 62:=Nat.pow_le_pow_right (by decide) hk;rw[IntKind.wrap_u64,show((2:Int) ^ k)=((2 ^ k:Nat):Int) by push_cast;rfl];generalize (2:Nat) ^ k=p at h
 omega
theorem Zl1 (n:Nat) (hn:n < 4611686018427387904) (w:World):Calls Tryz.prog 247 #[.int .i64 n] w fun e w'=>e=.returned (.int .u64 ((2 ^ Lib.bitLen n:Nat):Int))∧w'=w:=by
 have hLen:∀w,Calls Tryz.prog 136 #[.int .u64 (n:Int)] w fun e w'=>e=.returned (.int .i64 (Lib.bitLen n:Nat))∧w'=w:=fun w=>by
  have h:=Tryz.bits_Len (n:Int) w (by omega) (by omega)
  rwa [Int.toNat_natCast] at h
 have hk:=(Zex n (by omega)).2 hn
 have hp:IntKind.u64.wrap ((2:Int) ^ min (Lib.bitLen n) 64)=((2 ^ Lib.bitLen n:Nat):Int):=by rw[Nat.min_eq_left (by omega)];exact Zh6 (Lib.bitLen n) hk
 go_enter Tryz.func247,Tryz.ntmps247
 go_wp2_with (go_at_call 136;refine(hLen _).mono ?_;rintro e w' ⟨rfl,rfl⟩)
 go_ret;exact⟨congrArg (fun x=>Ending.returned (.int .u64 x)) (Zh6 (Lib.bitLen n) hk),rfl⟩
def Zn9 (w:World) (g:Nat) (d:Array Int) (r:List Value) (a b:Nat) (e:Ending) (w':World):Prop:=∃d',e=.returned (.tuple #[])∧PermIn a b d d'∧At [blkU g d r] w [blkU g d' r] w'
def BrkRel (w:World) (g:Nat) (d:Array Int) (r:List Value) (a b t bR:Nat) (k:Nat) (u:Value) (wr:World):Prop:=
 ∃(i y:Nat) (dk:Array Int),u=.int .i64 i∧t≤i + 1∧i + k=t + 2∧y < 18446744073709551616∧PermIn a b d dk∧At [blkU g d r] w [rndC bR y,blkU g dk r] wr
theorem Zk3 {w:World} {g cap n:Nat} {d:Array Int} {r:List Value} (h:Sep [blkU g d r] w) (hn:d.size=n) {a b:Nat} (hab:a + 12 < b) (hb:b≤d.size) (hsz:d.size < 4611686018427387904):
 Calls Tryz.prog 320 #[.slice (some ⟨g,0,none⟩) n cap,.int .i64 a,.int .i64 b] w (Zn9 w g d r a b):=by
 have hA:=At.start h;have hF:=hA.facts;clear h
 obtain⟨l,hl⟩:∃l,b - a=l:=⟨_,rfl⟩
 have el:(b:Int) - (a:Int)=(l:Int):=by omega
 obtain⟨q,hq⟩:∃q,l / 4=q:=⟨_,rfl⟩
 have eq:(l:Int) / 4=(q:Int):=by omega
 obtain⟨t,ht⟩:∃t,a + q * 2=t:=⟨_,rfl⟩
 have et:(a:Int) + (q:Int) * 2=(t:Int):=by omega
 have h8:(8:Int)≤(l:Int):=by omega
 obtain⟨M,hM⟩:∃M,2 ^ Lib.bitLen l=M:=⟨_,rfl⟩
 have hM2:M≤2 * l + 1∧1≤M:=by rw[←hM];exact⟨(Zex l (by omega)).1,Nat.one_le_two_pow⟩
 have hlw:IntKind.u64.wrap (l:Int)=(l:Int):=by rw[IntKind.wrap_u64];omega
 have hM1:M≤2 * l:=by
  have h2:2 ^ Lib.bitLen l=2 * 2 ^ Lib.bitLen (l / 2):=by rw[Lib.bitLen_half l (by omega) (by omega),Nat.pow_add]
  omega
 have hM':=Hd hM;have hr:=Hd (show a + 2≤t∧t + 2≤b∧l=b - a by omega);clear hM hl hq ht
 go_enter Tryz.func320,Tryz.ntmps320
 go_wp2_with (first|((with_reducible refine gal ?_);refine wA 324 (.int .u64 0) [.int .u64 0] hA ?_;clear hF hA;intro bR w1 hA hbR;obtain⟨hA,hF⟩:=fY hA)|((with_reducible refine gst ?_);refine wTy hA ?_;clear hF hA;intro w1 hA hF))
 refine(Zl1 l (by omega) _).mono ?_;rintro e _ ⟨rfl,rfl⟩;rw[hM'.out]
 go_wp2_with fail
 go_loopg [9] 3 (BrkRel w g d r a b t bR)
 case atStart=>exact⟨t - 1,l,d,by have:=hr.out;congr 1;omega,by omega,by have:=hr.out;omega,by omega,Sort.permIn_refl d a b,hA⟩
 case round=>
  obtain⟨i,y,dk,rfl,hi1,hik,hy,hp,hB⟩:=hrel;have hp':=Hd hp;have hdk:dk.size=d.size:=hp.1;clear hF hA hp;have hA:=hB;clear hB;obtain⟨hA,hF⟩:=fY hA
  rcases Nat.eq_zero_or_pos gk with h0|hpos
  · subst h0
    go_wp2_with fail
    go_end0
    exact⟨dk,rfl,hp'.out,hA.pick pR⟩
  have hle:(i:Int)≤(t:Int) + 1:=by omega
  go_wp2_with fail
  refine(Zl3 (hA.sep1 .here) hy).mono ?_;rintro e w1 ⟨z,rfl,hz,hT⟩;replace hA:=hA.call1 .here hT;clear hF hT;simp only[uA] at hA;obtain⟨hA,hF⟩:=fY hA
  obtain⟨O,hO⟩:∃O:Nat,O=z&&& (M - 1):=⟨_,rfl⟩
  have lO:O≤M - 1:=by rw[hO];exact Nat.and_le_right
  have eAnd:bits .and .u64 (z:Int) ((M:Int) - 1)=(O:Int):=by
   rw[show((M:Int) - 1)=((M - 1:Nat):Int) by omega,bits_and_u64_nat _ _ hz (by omega),hO]
  clear hO
  by_cases hge:(l:Int)≤(O:Int)
  · obtain⟨p,hpp⟩:∃p,a + (O - l)=p:=⟨_,rfl⟩
    have ep:(a:Int) + ((O:Int) - (l:Int))=(p:Int):=by omega
    have hpb:=Hd (show a≤p∧p < b by have:=hr.out;omega);clear hpp
    by_cases hip:i=p
    · subst hip
      go_wp2_with fail
      have hA:=hA.pick (K:=[blkU g dk r,rndC bR z]) pR;have hbb:=hpb.out
      (try clear hF);(have k1:=Zai hA .here (i:=i) (by omega));(have k2:=Zai hA .here (i:=i) (by omega));(have f1:=Zah hA .here (i));(have f2:=Zah hA .here (i));go_region;(have hB:=(ZaG hA .here (i:=i) (j:=i) (by omega) (by omega)).drew);(clear k1 k2 f1 f2 hA);(have hA:=hB);(clear hB);(generalize World.drew (World.setCell _ _ _)=wz at *)
      go_wp2_with fail
      go_roundg (gk - 1)
      case measure=>omega
      case rel=>exact⟨i + 1,z,swp dk i i,by simp,by omega,by omega,hz,Sort.permIn_trans _ _ _ a b hp'.out (Sort.swp_permIn dk a b i i hbb.1 hbb.2 hbb.1 hbb.2 (by omega)),hA.pick pR⟩
    go_wp2_with fail
    have hA:=hA.pick (K:=[blkU g dk r,rndC bR z]) pR;have hbb:=hpb.out;have hr1:=hr.out.1;have hr2:=hr.out.2.1
    (try clear hF);(have k1:=Zai hA .here (i:=i) (by omega));(have k2:=Zai hA .here (i:=p) (by omega));(have f1:=Zah hA .here (i));(have f2:=Zah hA .here (p));go_region;(have hB:=(ZaG hA .here (i:=i) (j:=p) (by omega) (by omega)).drew);(clear k1 k2 f1 f2 hA);(have hA:=hB);(clear hB);(generalize World.drew (World.setCell _ _ _)=wz at *)
    go_wp2_with fail
    go_roundg (gk - 1)
    case measure=>omega
    case rel=>exact⟨i + 1,z,swp dk i p,by simp,by omega,by omega,hz,Sort.permIn_trans _ _ _ a b hp'.out (Sort.swp_permIn dk a b i p (by omega) (by omega) hbb.1 hbb.2 (by omega)),hA.pick pR⟩
  obtain⟨p,hpp⟩:∃p,a + O=p:=⟨_,rfl⟩
  have ep:(a:Int) + (O:Int)=(p:Int):=by omega
  have hpb:=Hd (show a≤p∧p < b by have:=hr.out;omega);clear hpp
  by_cases hip:i=p
  · subst hip
    go_wp2_with fail
    have hA:=hA.pick (K:=[blkU g dk r,rndC bR z]) pR;have hbb:=hpb.out
    (try clear hF);(have k1:=Zai hA .here (i:=i) (by omega));(have k2:=Zai hA .here (i:=i) (by omega));(have f1:=Zah hA .here (i));(have f2:=Zah hA .here (i));go_region;(have hB:=(ZaG hA .here (i:=i) (j:=i) (by omega) (by omega)).drew);(clear k1 k2 f1 f2 hA);(have hA:=hB);(clear hB);(generalize World.drew (World.setCell _ _ _)=wz at *)
    go_wp2_with fail
    go_roundg (gk - 1)
    case measure=>omega
    case rel=>exact⟨i + 1,z,swp dk i i,by simp,by omega,by omega,hz,Sort.permIn_trans _ _ _ a b hp'.out (Sort.swp_permIn dk a b i i hbb.1 hbb.2 hbb.1 hbb.2 (by omega)),hA.pick pR⟩
  go_wp2_with fail
  have hA:=hA.pick (K:=[blkU g dk r,rndC bR z]) pR;have hbb:=hpb.out;have hr1:=hr.out.1;have hr2:=hr.out.2.1
  (try clear hF);(have k1:=Zai hA .here (i:=i) (by omega));(have k2:=Zai hA .here (i:=p) (by omega));(have f1:=Zah hA .here (i));(have f2:=Zah hA .here (p));go_region;(have hB:=(ZaG hA .here (i:=i) (j:=p) (by omega) (by omega)).drew);(clear k1 k2 f1 f2 hA);(have hA:=hB);(clear hB);(generalize World.drew (World.setCell _ _ _)=wz at *)
  go_wp2_with fail
  go_roundg (gk - 1)
  case measure=>omega
  case rel=>exact⟨i + 1,z,swp dk i p,by simp,by omega,by omega,hz,Sort.permIn_trans _ _ _ a b hp'.out (Sort.swp_permIn dk a b i p (by omega) (by omega) hbb.1 hbb.2 (by omega)),hA.pick pR⟩
end SortU
end
section
namespace SortU
open Go.RowKit
open Go.Sort (swp ltInt scanUp scanDown partLoop partEqLoop)
theorem Zea {p:Int→Bool} {d:Array Int} {j i:Nat} (h:i≤j) (hp:p d[i]! =true):scanUp p d j i=scanUp p d j (i + 1):=by rw[scanUp,if_pos (by simp[h,hp])]
theorem Zba {p:Int→Bool} {d:Array Int} {j i:Nat} (h:i≤j→p d[i]! =false):scanUp p d j i=i:=by
 rw[scanUp,if_neg];simp only[Bool.and_eq_true,decide_eq_true_eq,not_and,Bool.not_eq_true];exact h
theorem Zhv {p:Int→Bool} {d:Array Int} {i j:Nat} (h:i≤j + 1) (hp:p d[j + 1]! =true):scanDown p d i (j + 1)=scanDown p d i j:=by rw[scanDown,if_pos (by simp[h,hp])]
theorem Zcf {p:Int→Bool} {d:Array Int} {i x y:Nat} (h:i≤x) (hx:x=y + 1) (hp:p d[x]! =true):scanDown p d i x=scanDown p d i y:=by subst hx;exact Zhv h hp
theorem ZaT {p:Int→Bool} {d:Array Int} {i j:Nat} (h:i≤j→p d[j]! =false):scanDown p d i j=j:=by
 cases j with
 |zero=>rfl
 |succ j=>
  rw[scanDown,if_neg];simp only[Bool.and_eq_true,decide_eq_true_eq,not_and,Bool.not_eq_true];exact h
def ScanU (L0:List Part) (w:World) (g:Nat) (d:Array Int) (r:List Value) (p:Int→Bool) (i0 j:Nat) (k:Nat) (u:Value) (wr:World):Prop:=
 ∃i:Nat,u=.int .i64 i∧i0≤i∧(i≤j + 1∨i=i0)∧j + 1 - i≤k∧At L0 w [blkU g d r] wr∧scanUp p d j i=scanUp p d j i0
def ScanD (L0:List Part) (w:World) (g:Nat) (d:Array Int) (r:List Value) (p:Int→Bool) (i j0:Nat) (k:Nat) (u:Value) (wr:World):Prop:=
 ∃j:Nat,u=.int .i64 j∧j≤j0∧(i≤j + 1∨j=j0)∧j + 1 - i≤k∧At L0 w [blkU g d r] wr∧scanDown p d i j=scanDown p d i j0
def ltP (d:Array Int) (a:Nat):Int→Bool:=fun x=>ltInt x d[a]!
def geP (d:Array Int) (a:Nat):Int→Bool:=fun x=> !ltInt x d[a]!
def leP (d:Array Int) (a:Nat):Int→Bool:=fun x=> !ltInt d[a]! x
def gtP (d:Array Int) (a:Nat):Int→Bool:=fun x=>ltInt d[a]! x
theorem ZfF {a i j i2 j2:Nat} {d:Array Int} (h1:scanUp (ltP d a) d j i=i2) (h2:scanDown (geP d a) d i2 j=j2) (h:j2 < i2):partLoop ltInt a i j d=(j2,d):=by
 unfold ltP at h1;unfold geP at h2;rw[partLoop];simp only[h1,h2];rw[if_pos h]
theorem ZhB {a i j i2 j2:Nat} {d:Array Int} (h1:scanUp (ltP d a) d j i=i2) (h2:scanDown (geP d a) d i2 j=j2) (h:i2≤j2) (hi:i≤i2) (hj:j2≤j):partLoop ltInt a i j d=partLoop ltInt a (i2 + 1) (j2 - 1) (swp d i2 j2):=by
 unfold ltP at h1;unfold geP at h2;rw[partLoop];simp only[h1,h2];rw[if_neg (by omega),dif_pos (by omega)]
theorem ZhC {a i j i2 j2:Nat} {d:Array Int} (h1:scanUp (leP d a) d j i=i2) (h2:scanDown (gtP d a) d i2 j=j2) (h:j2 < i2):partEqLoop ltInt a i j d=(i2,d):=by
 unfold leP at h1;unfold gtP at h2;rw[partEqLoop];simp only[h1,h2];rw[if_pos h]
theorem Zki {a i j i2 j2:Nat} {d:Array Int} (h1:scanUp (leP d a) d j i=i2) (h2:scanDown (gtP d a) d i2 j=j2) (h:i2≤j2) (hi:i≤i2) (hj:j2≤j):partEqLoop ltInt a i j d=partEqLoop ltInt a (i2 + 1) (j2 - 1) (swp d i2 j2):=by
 unfold leP at h1;unfold gtP at h2;rw[partEqLoop];simp only[h1,h2];rw[if_neg (by omega),dif_pos (by omega)]
def ZdM (L0:List Part) (w:World) (g:Nat) (d:Array Int) (r:List Value) (a b p:Nat) (e:Ending) (w':World):Prop:=
 e=.returned (.tuple #[.int .i64 (Sort.partition ltInt d a b p).1,.bool (Sort.partition ltInt d a b p).2.1])∧At L0 w [blkU g (Sort.partition ltInt d a b p).2.2 r] w'
def PartRel (L0:List Part) (w:World) (g:Nat) (d:Array Int) (r:List Value) (a B i0 j0:Nat) (k:Nat) (u v:Value) (wr:World):Prop:=
 ∃(i j:Nat) (dk:Array Int),u=.int .i64 i∧v=.int .i64 j∧a + 1≤i∧i≤B + 1∧a≤j∧j≤B∧j + 1 - i≤k∧dk.size=d.size∧At L0 w [blkU g dk r] wr∧partLoop ltInt a i j dk=partLoop ltInt a i0 j0 d
theorem ZfE {w:World} {g cap n:Nat} {d0:Array Int} {r:List Value} (h:Sep [blkU g d0 r] w) (hn:d0.size=n) {a b p:Nat} (hap:a≤p) (hpb:p < b) (hb:b≤d0.size) (hsz:d0.size < 4611686018427387904):
 Calls Tryz.prog 326 #[.slice (some ⟨g,0,none⟩) n cap,.int .i64 a,.int .i64 b,.int .i64 p] w (ZdM [blkU g d0 r] w g d0 r a b p):=by
 have hres:=Hd (show Sort.partition ltInt d0 a b p=(let d:=swp d0 a p;let i:=scanUp (ltP d a) d (b - 1) (a + 1);let j:=scanDown (geP d a) d i (b - 1);if i > j then(j,true,swp d j a) else(let q:=partLoop ltInt a (i + 1) (j - 1) (swp d i j);(q.1,false,swp q.2 q.1 a))) from rfl)
 obtain⟨L0,hL0,hA⟩:∃L0,L0=[blkU g d0 r]∧At L0 w [blkU g d0 r] w:=⟨_,rfl,At.start h⟩
 rw[←hL0];clear h hL0
 obtain⟨B,hBb⟩:∃B,b=B + 1:=⟨b - 1,by omega⟩
 have eB:(b:Int) - 1=(B:Int):=by omega
 have gB1:b≤B + 1:=by omega
 have gB2:B + 1≤b:=by omega
 have hBb':=Hd (show b - 1=B by omega);clear hBb
 obtain⟨A1,hA1⟩:∃A1,a + 1=A1:=⟨_,rfl⟩
 have eA1:(a:Int) + 1=(A1:Int):=by omega
 have hA1':=Hd hA1
 have gA1:a + 1≤A1∧A1≤a + 1:=by omega
 obtain⟨gA,gA'⟩:=gA1;clear hA1
 go_enter Tryz.func326,Tryz.ntmps326
 go_upto_region 1 with fail
 go_cut [0] from 12 to 25 (fun u wc=>u=.slice (some ⟨g,0,none⟩) n cap∧At L0 w [blkU g (swp d0 a p) r] wc)
 case first=>
  by_cases hxy:a=p
  · subst hxy
    (try clear hF);(have k1:=Zai hA .here (i:=a) (by omega));(have k2:=Zai hA .here (i:=a) (by omega));(have f1:=Zah hA .here (a));(have f2:=Zah hA .here (a));go_region;(have hB:=(ZaG hA .here (i:=a) (j:=a) (by omega) (by omega)).drew);(clear k1 k2 f1 f2 hA);(have hA:=hB);(clear hB);(generalize World.drew (World.setCell _ _ _)=wz at *)
    go_wp2_with fail
    go_meet
    case rel=>exact⟨rfl,hA⟩
  (try clear hF);(have k1:=Zai hA .here (i:=a) (by omega));(have k2:=Zai hA .here (i:=p) (by omega));(have f1:=Zah hA .here (a));(have f2:=Zah hA .here (p));go_region;(have hB:=(ZaG hA .here (i:=a) (j:=p) (by omega) (by omega)).drew);(clear k1 k2 f1 f2 hA);(have hA:=hB);(clear hB);(generalize World.drew (World.setCell _ _ _)=wz at *)
  go_wp2_with fail
  go_meet
  case rel=>exact⟨rfl,hA⟩
 case rest=>
  obtain⟨rfl,hB⟩:=hcut;clear hA;have hA:=hB;clear hB
  obtain⟨d1,hd1⟩:∃z,swp d0 a p=z:=⟨_,rfl⟩
  rw[hd1] at hA
  have d1s:d1.size=d0.size:=by rw[←hd1];exact Zap _ _ _
  have hd1':=Hd hd1;clear hd1
  go_upto_block 0 with fail
  go_cut [10] from 30 to 45 (fun u wc=>∃q:Nat,u=.int .i64 q∧A1≤q∧(q≤B + 1∨q=A1)∧scanUp (ltP d1 a) d1 B A1=q∧At L0 w [blkU g d1 r] wc)
  case first=>
   go_wp2_with fail
   go_loopg [10] (B + 1 - A1) (ScanU L0 w g d1 r (ltP d1 a) A1 B)
   case atStart=>exact⟨A1,by first|rfl|simp,Nat.le_refl _,.inr rfl,Nat.le_refl _,hA,rfl⟩
   case round=>
    obtain⟨x,rfl,hx1,hx2,hk,hB,hO⟩:=hrel;have hO':=Hd hO;clear hA hO;have hA:=hB;clear hB;have hF:=hA.facts;have ea:=Zau (d:=d1) (r:=r) (i:=a) (by omega);obtain⟨hA,hF⟩:=fY hA
    by_cases hc:x≤B
    · have hg:decide ((x:Int)≤((B:Nat):Int))=true:=by simp;omega
      have ex:=Zau (d:=d1) (r:=r) (i:=x) (by omega);cases hl:ltU (atU d1 x) (atU d1 a)
      · have hs:=Hd (Zba (p:=ltP d1 a) (d:=d1) (j:=B) (fun _=>(show ltP d1 a d1[x]! =false from by unfold ltP;simpa [ltU,atU] using hl)))
        have hl':=Hd hl;clear hl
        go_wp2_with fail
        refine cl0 hA ?_;clear hF hA;intro w1 hA hF;(try simp only[uY] at hA hF)
        go_wp2_with fail
        go_meet
        case rel=>exact⟨x,rfl,by omega,by omega,by rw[←hO'.out,hs.out],hA⟩
      have hs:=Hd (Zea (p:=ltP d1 a) (d:=d1) (j:=B) hc (show ltP d1 a d1[x]! =true from by unfold ltP;simpa [ltU,atU] using hl));have hl':=Hd hl;clear hl
      go_wp2_with fail
      refine cl0 hA ?_;clear hF hA;intro w1 hA hF;(try simp only[uY] at hA hF)
      go_wp2_with fail
      go_roundg (gk - 1)
      case measure=>omega
      case rel=>exact⟨x + 1,by simp,by omega,by omega,by omega,hA,by rw[←hO'.out,hs.out]⟩
    have hg:decide ((x:Int)≤((B:Nat):Int))=false:=by simp;omega
    have hs:=Hd (Zba (p:=ltP d1 a) (d:=d1) (j:=B) (i:=x) (fun h=>absurd h hc))
    go_wp2_with fail
    refine cl2 hA ?_;clear hF hA;intro w1 hA hF;(try simp only[uY] at hA hF)
    go_wp2_with fail
    go_meet
    case rel=>exact⟨x,rfl,by omega,by omega,by rw[←hO'.out,hs.out],hA⟩
  case rest=>
   obtain⟨i2,rfl,i21,i22,i23,hB⟩:=hcut;clear hA;have hA:=hB;clear hB;have i24:=Hd i23;clear i23
   go_upto_block 2 with fail
   go_cut [11] from 46 to 62 (fun u wc=>∃q:Nat,u=.int .i64 q∧q≤B∧(i2≤q + 1∨q=B)∧scanDown (geP d1 a) d1 i2 B=q∧At L0 w [blkU g d1 r] wc)
   case first=>
    go_wp2_with fail
    go_loopg [11] (B + 1 - i2) (ScanD L0 w g d1 r (geP d1 a) i2 B)
    case atStart=>exact⟨B,by first|rfl|simp,Nat.le_refl _,.inr rfl,Nat.le_refl _,hA,rfl⟩
    case round=>
     obtain⟨x,rfl,hx1,hx2,hk,hB,hO⟩:=hrel;have hO':=Hd hO;clear hA hO;have hA:=hB;clear hB;have hF:=hA.facts;have ea:=Zau (d:=d1) (r:=r) (i:=a) (by omega);obtain⟨hA,hF⟩:=fY hA
     by_cases hc:i2≤x
     · have hg:decide (((i2:Nat):Int)≤(x:Int))=true:=by simp;omega
       obtain⟨y,hy⟩:∃y,x=y + 1:=⟨x - 1,by omega⟩
       have ey:(x:Int) - 1=(y:Int):=by omega
       have gy1:x≤y + 1:=by omega
       have gy2:y + 1≤x:=by omega
       have hy':=Hd hy;clear hy;have ex:=Zau (d:=d1) (r:=r) (i:=x) (by omega);cases hl:ltU (atU d1 x) (atU d1 a)
       · have hs:=Hd (Zcf (p:=geP d1 a) (d:=d1) (i:=i2) hc hy'.out (show geP d1 a d1[x]! =true from by unfold geP;simpa [ltU,atU] using hl))
         have hl':=Hd hl;clear hl
         go_wp2_with fail
         refine cl0 hA ?_;clear hF hA;intro w1 hA hF;(try simp only[uY] at hA hF)
         go_wp2_with fail
         go_roundg (gk - 1)
         case measure=>omega
         case rel=>exact⟨y,by first|rfl|simp,by omega,by omega,by omega,hA,by rw[←hO'.out,hs.out]⟩
       have hs:=Hd (ZaT (p:=geP d1 a) (d:=d1) (i:=i2) (fun _=>(show geP d1 a d1[x]! =false from by unfold geP;simpa [ltU,atU] using hl)));have hl':=Hd hl;clear hl
       go_wp2_with fail
       refine cl0 hA ?_;clear hF hA;intro w1 hA hF;(try simp only[uY] at hA hF)
       go_wp2_with fail
       go_meet
       case rel=>exact⟨x,rfl,by omega,by omega,by rw[←hO'.out,hs.out],hA⟩
     have hg:decide (((i2:Nat):Int)≤(x:Int))=false:=by simp;omega
     have hs:=Hd (ZaT (p:=geP d1 a) (d:=d1) (i:=i2) (j:=x) (fun h=>absurd h hc))
     go_wp2_with fail
     refine cl2 hA ?_;clear hF hA;intro w1 hA hF;(try simp only[uY] at hA hF)
     go_wp2_with fail
     go_meet
     case rel=>exact⟨x,rfl,by omega,by omega,by rw[←hO'.out,hs.out],hA⟩
   case rest=>
    obtain⟨j2,rfl,j21,j22,j23,hB⟩:=hcut;clear hA;have hA:=hB;clear hB;have j24:=Hd j23;clear j23
    by_cases hij:j2 < i2
    · go_upto_region 8 with fail
      go_cut [0] from 12 to 94 (fun u wc=>u=.slice (some ⟨g,0,none⟩) n cap∧At L0 w [blkU g (swp d1 j2 a) r] wc)
      case first=>
       by_cases hxy:j2=a
       · subst hxy
         (try clear hF);(have k1:=Zai hA .here (i:=j2) (by omega));(have k2:=Zai hA .here (i:=j2) (by omega));(have f1:=Zah hA .here (j2));(have f2:=Zah hA .here (j2));go_region;(have hB:=(ZaG hA .here (i:=j2) (j:=j2) (by omega) (by omega)).drew);(clear k1 k2 f1 f2 hA);(have hA:=hB);(clear hB);(generalize World.drew (World.setCell _ _ _)=wz at *)
         go_wp2_with fail
         go_meet
         case rel=>exact⟨rfl,hA⟩
       (try clear hF);(have k1:=Zai hA .here (i:=j2) (by omega));(have k2:=Zai hA .here (i:=a) (by omega));(have f1:=Zah hA .here (j2));(have f2:=Zah hA .here (a));go_region;(have hB:=(ZaG hA .here (i:=j2) (j:=a) (by omega) (by omega)).drew);(clear k1 k2 f1 f2 hA);(have hA:=hB);(clear hB);(generalize World.drew (World.setCell _ _ _)=wz at *)
       go_wp2_with fail
       go_meet
       case rel=>exact⟨rfl,hA⟩
      case rest=>
       obtain⟨rfl,hB⟩:=hcut;clear hA;have hA:=hB;clear hB
       obtain⟨d2,hd2⟩:∃z,swp d1 j2 a=z:=⟨_,rfl⟩
       rw[hd2] at hA
       have d2s:d2.size=d1.size:=by rw[←hd2];exact Zap _ _ _
       have hd2':=Hd hd2;clear hd2;have hp:=Hd (show Sort.partition ltInt d0 a b p=(j2,true,d2) by rw[hres.out];simp only[hd1'.out,hBb'.out,hA1'.out,i24.out,j24.out];rw[if_pos hij,hd2'.out])
       go_wp2_with fail
       refine bodyPost_ret (v:=.tuple #[.int .i64 j2,.bool true]) (by simp[results,Tryz.results326,go_sem]) rfl ?_;unfold ZdM;rw[hp.out];exact⟨rfl,hA⟩
    have hle:i2≤j2:=by omega
    clear hij
    go_upto_region 10 with fail
    go_cut [0] from 12 to 94 (fun u wc=>u=.slice (some ⟨g,0,none⟩) n cap∧At L0 w [blkU g (swp d1 i2 j2) r] wc)
    case first=>
     by_cases hxy:i2=j2
     · subst hxy
       (try clear hF);(have k1:=Zai hA .here (i:=i2) (by omega));(have k2:=Zai hA .here (i:=i2) (by omega));(have f1:=Zah hA .here (i2));(have f2:=Zah hA .here (i2));go_region;(have hB:=(ZaG hA .here (i:=i2) (j:=i2) (by omega) (by omega)).drew);(clear k1 k2 f1 f2 hA);(have hA:=hB);(clear hB);(generalize World.drew (World.setCell _ _ _)=wz at *)
       go_wp2_with fail
       go_meet
       case rel=>exact⟨rfl,hA⟩
     (try clear hF);(have k1:=Zai hA .here (i:=i2) (by omega));(have k2:=Zai hA .here (i:=j2) (by omega));(have f1:=Zah hA .here (i2));(have f2:=Zah hA .here (j2));go_region;(have hB:=(ZaG hA .here (i:=i2) (j:=j2) (by omega) (by omega)).drew);(clear k1 k2 f1 f2 hA);(have hA:=hB);(clear hB);(generalize World.drew (World.setCell _ _ _)=wz at *)
     go_wp2_with fail
     go_meet
     case rel=>exact⟨rfl,hA⟩
    case rest=>
     obtain⟨rfl,hB⟩:=hcut;clear hA;have hA:=hB;clear hB
     obtain⟨d2,hd2⟩:∃z,swp d1 i2 j2=z:=⟨_,rfl⟩
     rw[hd2] at hA
     have d2s:d2.size=d1.size:=by rw[←hd2];exact Zap _ _ _
     have hd2':=Hd hd2;clear hd2
     obtain⟨i3,hi3⟩:∃i3,i2 + 1=i3:=⟨_,rfl⟩
     obtain⟨j3,hj3⟩:∃j3,j2 - 1=j3:=⟨_,rfl⟩
     have ei3:(i2:Int) + 1=(i3:Int):=by omega
     have ej3:(j2:Int) - 1=(j3:Int):=by omega
     have hi3':=Hd hi3;have hj3':=Hd hj3
     have gi3:A1 + 1≤i3:=by omega
     have gi4:i3≤B + 1:=by omega
     have gj3:a≤j3:=by omega
     have gj4:j3≤B:=by omega
     clear hi3 hj3
     go_upto_block 4 with fail
     go_cut [10,11] from 99 to 152 (fun u v wc=>∃(q:Nat) (dq:Array Int),v=.int .i64 q∧a≤q∧q≤B∧dq.size=d0.size∧partLoop ltInt a i3 j3 d2=(q,dq)∧At L0 w [blkU g dq r] wc)
     case first=>
      go_wp2_with fail
      go_loopg [10,11] (j3 + 1 - i3) (PartRel L0 w g d2 r a B i3 j3)
      case atStart=>exact⟨i3,j3,d2,rfl,rfl,by omega,by omega,by omega,by omega,Nat.le_refl _,rfl,hA,rfl⟩
      case round=>
       obtain⟨i,j,dk,rfl,rfl,hi1,hi2,hj1,hj2,hk,hsk,hB,hO⟩:=hrel;have hO':=Hd hO;clear hA hO;have hA:=hB;clear hB
       go_upto_block 6 with fail
       go_cut [10] from 99 to 114 (fun u wc=>∃q:Nat,u=.int .i64 q∧i≤q∧(q≤j + 1∨q=i)∧scanUp (ltP dk a) dk j i=q∧At L0 w [blkU g dk r] wc)
       case first=>
        go_wp2_with fail
        go_loopg [10] (j + 1 - i) (ScanU L0 w g dk r (ltP dk a) i j)
        case atStart=>exact⟨i,by first|rfl|simp,Nat.le_refl _,.inr rfl,Nat.le_refl _,hA,rfl⟩
        case round=>
         obtain⟨x,rfl,hx1,hx2,hk,hB,hO⟩:=hrel;have hO':=Hd hO;clear hA hO;have hA:=hB;clear hB;have hF:=hA.facts;have ea:=Zau (d:=dk) (r:=r) (i:=a) (by omega);obtain⟨hA,hF⟩:=fY hA
         by_cases hc:x≤j
         · have hg:decide ((x:Int)≤((j:Nat):Int))=true:=by simp;omega
           have ex:=Zau (d:=dk) (r:=r) (i:=x) (by omega);cases hl:ltU (atU dk x) (atU dk a)
           · have hs:=Hd (Zba (p:=ltP dk a) (d:=dk) (j:=j) (fun _=>(show ltP dk a dk[x]! =false from by unfold ltP;simpa [ltU,atU] using hl)))
             have hl':=Hd hl;clear hl
             go_wp2_with fail
             refine cl0 hA ?_;clear hF hA;intro w1 hA hF;(try simp only[uY] at hA hF)
             go_wp2_with fail
             go_meet
             case rel=>exact⟨x,rfl,by omega,by omega,by rw[←hO'.out,hs.out],hA⟩
           have hs:=Hd (Zea (p:=ltP dk a) (d:=dk) (j:=j) hc (show ltP dk a dk[x]! =true from by unfold ltP;simpa [ltU,atU] using hl));have hl':=Hd hl;clear hl
           go_wp2_with fail
           refine cl0 hA ?_;clear hF hA;intro w1 hA hF;(try simp only[uY] at hA hF)
           go_wp2_with fail
           go_roundg (gk - 1)
           case measure=>omega
           case rel=>exact⟨x + 1,by simp,by omega,by omega,by omega,hA,by rw[←hO'.out,hs.out]⟩
         have hg:decide ((x:Int)≤((j:Nat):Int))=false:=by simp;omega
         have hs:=Hd (Zba (p:=ltP dk a) (d:=dk) (j:=j) (i:=x) (fun h=>absurd h hc))
         go_wp2_with fail
         refine cl2 hA ?_;clear hF hA;intro w1 hA hF;(try simp only[uY] at hA hF)
         go_wp2_with fail
         go_meet
         case rel=>exact⟨x,rfl,by omega,by omega,by rw[←hO'.out,hs.out],hA⟩
       case rest=>
        obtain⟨i4,rfl,i41,i42,i43,hB⟩:=hcut;clear hA;have hA:=hB;clear hB;have i44:=Hd i43;clear i43
        go_upto_block 8 with fail
        go_cut [11] from 115 to 131 (fun u wc=>∃q:Nat,u=.int .i64 q∧q≤j∧(i4≤q + 1∨q=j)∧scanDown (geP dk a) dk i4 j=q∧At L0 w [blkU g dk r] wc)
        case first=>
         go_wp2_with fail
         go_loopg [11] (j + 1 - i4) (ScanD L0 w g dk r (geP dk a) i4 j)
         case atStart=>exact⟨j,by first|rfl|simp,Nat.le_refl _,.inr rfl,Nat.le_refl _,hA,rfl⟩
         case round=>
          obtain⟨x,rfl,hx1,hx2,hk,hB,hO⟩:=hrel;have hO':=Hd hO;clear hA hO;have hA:=hB;clear hB;have hF:=hA.facts;have ea:=Zau (d:=dk) (r:=r) (i:=a) (by omega);obtain⟨hA,hF⟩:=fY hA
          by_cases hc:i4≤x
          · have hg:decide (((i4:Nat):Int)≤(x:Int))=true:=by simp;omega
            obtain⟨y,hy⟩:∃y,x=y + 1:=⟨x - 1,by omega⟩
            have ey:(x:Int) - 1=(y:Int):=by omega
            have gy1:x≤y + 1:=by omega
            have gy2:y + 1≤x:=by omega
            have hy':=Hd hy;clear hy;have ex:=Zau (d:=dk) (r:=r) (i:=x) (by omega);cases hl:ltU (atU dk x) (atU dk a)
            · have hs:=Hd (Zcf (p:=geP dk a) (d:=dk) (i:=i4) hc hy'.out (show geP dk a dk[x]! =true from by unfold geP;simpa [ltU,atU] using hl))
              have hl':=Hd hl;clear hl
              go_wp2_with fail
              refine cl0 hA ?_;clear hF hA;intro w1 hA hF;(try simp only[uY] at hA hF)
              go_wp2_with fail
              go_roundg (gk - 1)
              case measure=>omega
              case rel=>exact⟨y,by first|rfl|simp,by omega,by omega,by omega,hA,by rw[←hO'.out,hs.out]⟩
            have hs:=Hd (ZaT (p:=geP dk a) (d:=dk) (i:=i4) (fun _=>(show geP dk a dk[x]! =false from by unfold geP;simpa [ltU,atU] using hl)));have hl':=Hd hl;clear hl
            go_wp2_with fail
            refine cl0 hA ?_;clear hF hA;intro w1 hA hF;(try simp only[uY] at hA hF)
            go_wp2_with fail
            go_meet
            case rel=>exact⟨x,rfl,by omega,by omega,by rw[←hO'.out,hs.out],hA⟩
          have hg:decide (((i4:Nat):Int)≤(x:Int))=false:=by simp;omega
          have hs:=Hd (ZaT (p:=geP dk a) (d:=dk) (i:=i4) (j:=x) (fun h=>absurd h hc))
          go_wp2_with fail
          refine cl2 hA ?_;clear hF hA;intro w1 hA hF;(try simp only[uY] at hA hF)
          go_wp2_with fail
          go_meet
          case rel=>exact⟨x,rfl,by omega,by omega,by rw[←hO'.out,hs.out],hA⟩
        case rest=>
         obtain⟨j4,rfl,j41,j42,j43,hB⟩:=hcut;clear hA;have hA:=hB;clear hB;have j44:=Hd j43;clear j43
         by_cases hij:j4 < i4
         · have hs:=Hd (ZfF i44.out j44.out hij)
           go_wp2_with fail
           go_meet
           case rel=>exact⟨j4,dk,rfl,by omega,by omega,by omega,by rw[←hO'.out,hs.out],hA⟩
         have hle2:i4≤j4:=by omega
         have hs:=Hd (ZhB i44.out j44.out hle2 (by omega) (by omega));clear hij
         go_upto_region 18 with fail
         go_cut [0] from 99 to 152 (fun u wc=>u=.slice (some ⟨g,0,none⟩) n cap∧At L0 w [blkU g (swp dk i4 j4) r] wc)
         case first=>
          by_cases hxy:i4=j4
          · subst hxy
            (try clear hF);(have k1:=Zai hA .here (i:=i4) (by omega));(have k2:=Zai hA .here (i:=i4) (by omega));(have f1:=Zah hA .here (i4));(have f2:=Zah hA .here (i4));go_region;(have hB:=(ZaG hA .here (i:=i4) (j:=i4) (by omega) (by omega)).drew);(clear k1 k2 f1 f2 hA);(have hA:=hB);(clear hB);(generalize World.drew (World.setCell _ _ _)=wz at *)
            go_wp2_with fail
            go_meet
            case rel=>exact⟨rfl,hA⟩
          (try clear hF);(have k1:=Zai hA .here (i:=i4) (by omega));(have k2:=Zai hA .here (i:=j4) (by omega));(have f1:=Zah hA .here (i4));(have f2:=Zah hA .here (j4));go_region;(have hB:=(ZaG hA .here (i:=i4) (j:=j4) (by omega) (by omega)).drew);(clear k1 k2 f1 f2 hA);(have hA:=hB);(clear hB);(generalize World.drew (World.setCell _ _ _)=wz at *)
          go_wp2_with fail
          go_meet
          case rel=>exact⟨rfl,hA⟩
         case rest=>
          obtain⟨rfl,hB⟩:=hcut;clear hA;have hA:=hB;clear hB
          obtain⟨d5,hd5⟩:∃z,swp dk i4 j4=z:=⟨_,rfl⟩
          rw[hd5] at hA
          have d5s:d5.size=dk.size:=by rw[←hd5];exact Zap _ _ _
          have hd5':=Hd hd5;clear hd5
          go_wp2_with fail
          go_roundg (j4 - 1 + 1 - (i4 + 1))
          case measure=>omega
          case rel=>exact⟨i4 + 1,j4 - 1,d5,by simp,by congr 1;omega,by omega,by omega,by omega,by omega,Nat.le_refl _,by omega,hA,by rw[←hO'.out,hs.out,hd5'.out]⟩
     case rest=>
      obtain⟨q,dq,rfl,hq1,hq2,hqs,hq3,hB⟩:=hcut;clear hA;have hA:=hB;clear hB;have hq4:=Hd hq3;clear hq3
      go_upto_region 21 with fail
      go_cut [0] from 12 to 166 (fun u wc=>u=.slice (some ⟨g,0,none⟩) n cap∧At L0 w [blkU g (swp dq q a) r] wc)
      case first=>
       by_cases hxy:q=a
       · subst hxy
         (try clear hF);(have k1:=Zai hA .here (i:=q) (by omega));(have k2:=Zai hA .here (i:=q) (by omega));(have f1:=Zah hA .here (q));(have f2:=Zah hA .here (q));go_region;(have hB:=(ZaG hA .here (i:=q) (j:=q) (by omega) (by omega)).drew);(clear k1 k2 f1 f2 hA);(have hA:=hB);(clear hB);(generalize World.drew (World.setCell _ _ _)=wz at *)
         go_wp2_with fail
         go_meet
         case rel=>exact⟨rfl,hA⟩
       (try clear hF);(have k1:=Zai hA .here (i:=q) (by omega));(have k2:=Zai hA .here (i:=a) (by omega));(have f1:=Zah hA .here (q));(have f2:=Zah hA .here (a));go_region;(have hB:=(ZaG hA .here (i:=q) (j:=a) (by omega) (by omega)).drew);(clear k1 k2 f1 f2 hA);(have hA:=hB);(clear hB);(generalize World.drew (World.setCell _ _ _)=wz at *)
       go_wp2_with fail
       go_meet
       case rel=>exact⟨rfl,hA⟩
      case rest=>
       obtain⟨rfl,hB⟩:=hcut;clear hA;have hA:=hB;clear hB
       obtain⟨d6,hd6⟩:∃z,swp dq q a=z:=⟨_,rfl⟩
       rw[hd6] at hA
       have d6s:d6.size=dq.size:=by rw[←hd6];exact Zap _ _ _
       have hd6':=Hd hd6;clear hd6;have hp:=Hd (show Sort.partition ltInt d0 a b p=(q,false,d6) by rw[hres.out];simp only[hd1'.out,hBb'.out,hA1'.out,i24.out,j24.out];rw[if_neg (by omega)];simp only[hd2'.out,hi3'.out,hj3'.out,hq4.out,hd6'.out])
       go_wp2_with fail
       refine bodyPost_ret (v:=.tuple #[.int .i64 q,.bool false]) (by simp[results,Tryz.results326,go_sem]) rfl ?_;unfold ZdM;rw[hp.out];exact⟨rfl,hA⟩
end SortU
end
section
namespace SortU
open Go.RowKit
open Go.Sort (swp ltInt scanUp scanDown partLoop partEqLoop)
def Zlh (L0:List Part) (w:World) (g:Nat) (d:Array Int) (r:List Value) (a B i0 j0:Nat) (k:Nat) (u v:Value) (wr:World):Prop:=
 ∃(i j:Nat) (dk:Array Int),u=.int .i64 i∧v=.int .i64 j∧a + 1≤i∧i≤B + 1∧a≤j∧j≤B∧j + 1 - i≤k∧dk.size=d.size∧At L0 w [blkU g dk r] wr∧partEqLoop ltInt a i j dk=partEqLoop ltInt a i0 j0 d
def Zdn (L0:List Part) (w:World) (g:Nat) (d:Array Int) (r:List Value) (a b p:Nat) (e:Ending) (w':World):Prop:=
 e=.returned (.int .i64 (Sort.partitionEqual ltInt d a b p).1)∧At L0 w [blkU g (Sort.partitionEqual ltInt d a b p).2 r] w'
theorem ZcP {w:World} {g cap n:Nat} {d0:Array Int} {r:List Value} (h:Sep [blkU g d0 r] w) (hn:d0.size=n) {a b p:Nat} (hap:a≤p) (hpb:p < b) (hb:b≤d0.size) (hsz:d0.size < 4611686018427387904):
 Calls Tryz.prog 325 #[.slice (some ⟨g,0,none⟩) n cap,.int .i64 a,.int .i64 b,.int .i64 p] w (Zdn [blkU g d0 r] w g d0 r a b p):=by
 have hres:=Hd (show Sort.partitionEqual ltInt d0 a b p=partEqLoop ltInt a (a + 1) (b - 1) (swp d0 a p) from rfl)
 obtain⟨L0,hL0,hA⟩:∃L0,L0=[blkU g d0 r]∧At L0 w [blkU g d0 r] w:=⟨_,rfl,At.start h⟩
 rw[←hL0];clear h hL0
 obtain⟨B,hBb⟩:∃B,b=B + 1:=⟨b - 1,by omega⟩
 have eB:(b:Int) - 1=(B:Int):=by omega
 have gB1:b≤B + 1:=by omega
 have gB2:B + 1≤b:=by omega
 have hBb':=Hd (show b - 1=B by omega);clear hBb
 obtain⟨A1,hA1⟩:∃A1,a + 1=A1:=⟨_,rfl⟩
 have eA1:(a:Int) + 1=(A1:Int):=by omega
 have hA1':=Hd hA1
 have gA1:a + 1≤A1∧A1≤a + 1:=by omega
 obtain⟨gA,gA'⟩:=gA1;clear hA1
 go_enter Tryz.func325,Tryz.ntmps325
 go_upto_region 1 with fail
 go_cut [0] from 11 to 24 (fun u wc=>u=.slice (some ⟨g,0,none⟩) n cap∧At L0 w [blkU g (swp d0 a p) r] wc)
 case first=>
  by_cases hxy:a=p
  · subst hxy
    (try clear hF);(have k1:=Zai hA .here (i:=a) (by omega));(have k2:=Zai hA .here (i:=a) (by omega));(have f1:=Zah hA .here (a));(have f2:=Zah hA .here (a));go_region;(have hB:=(ZaG hA .here (i:=a) (j:=a) (by omega) (by omega)).drew);(clear k1 k2 f1 f2 hA);(have hA:=hB);(clear hB);(generalize World.drew (World.setCell _ _ _)=wz at *)
    go_wp2_with fail
    go_meet
    case rel=>exact⟨rfl,hA⟩
  (try clear hF);(have k1:=Zai hA .here (i:=a) (by omega));(have k2:=Zai hA .here (i:=p) (by omega));(have f1:=Zah hA .here (a));(have f2:=Zah hA .here (p));go_region;(have hB:=(ZaG hA .here (i:=a) (j:=p) (by omega) (by omega)).drew);(clear k1 k2 f1 f2 hA);(have hA:=hB);(clear hB);(generalize World.drew (World.setCell _ _ _)=wz at *)
  go_wp2_with fail
  go_meet
  case rel=>exact⟨rfl,hA⟩
 case rest=>
  obtain⟨rfl,hB⟩:=hcut;clear hA;have hA:=hB;clear hB
  obtain⟨d1,hd1⟩:∃z,swp d0 a p=z:=⟨_,rfl⟩
  rw[hd1] at hA
  have d1s:d1.size=d0.size:=by rw[←hd1];exact Zap _ _ _
  have hd1':=Hd hd1;clear hd1
  go_upto_block 0 with fail
  go_cut [9,10] from 29 to 82 (fun u v wc=>∃(q:Nat) (dq:Array Int),u=.int .i64 q∧partEqLoop ltInt a A1 B d1=(q,dq)∧At L0 w [blkU g dq r] wc)
  case first=>
   go_wp2_with fail
   go_loopg [9,10] (B + 1 - A1) (Zlh L0 w g d1 r a B A1 B)
   case atStart=>exact⟨A1,B,d1,rfl,rfl,by omega,by omega,by omega,by omega,Nat.le_refl _,rfl,hA,rfl⟩
   case round=>
    obtain⟨i,j,dk,rfl,rfl,hi1,hi2,hj1,hj2,hk,hsk,hB,hO⟩:=hrel;have hO':=Hd hO;clear hA hO;have hA:=hB;clear hB
    go_upto_block 2 with fail
    go_cut [9] from 29 to 45 (fun u wc=>∃q:Nat,u=.int .i64 q∧i≤q∧(q≤j + 1∨q=i)∧scanUp (leP dk a) dk j i=q∧At L0 w [blkU g dk r] wc)
    case first=>
     go_wp2_with fail
     go_loopg [9] (j + 1 - i) (ScanU L0 w g dk r (leP dk a) i j)
     case atStart=>exact⟨i,by first|rfl|simp,Nat.le_refl _,.inr rfl,Nat.le_refl _,hA,rfl⟩
     case round=>
      obtain⟨x,rfl,hx1,hx2,hk,hB,hO⟩:=hrel;have hO':=Hd hO;clear hA hO;have hA:=hB;clear hB;have hF:=hA.facts;have ea:=Zau (d:=dk) (r:=r) (i:=a) (by omega);obtain⟨hA,hF⟩:=fY hA
      by_cases hc:x≤j
      · have hg:decide ((x:Int)≤((j:Nat):Int))=true:=by simp;omega
        have ex:=Zau (d:=dk) (r:=r) (i:=x) (by omega);cases hl:ltU (atU dk a) (atU dk x)
        · have hs:=Hd (Zea (p:=leP dk a) (d:=dk) (j:=j) hc (show leP dk a dk[x]! =true from by unfold leP;simpa [ltU,atU] using hl))
          have hl':=Hd hl;clear hl
          go_wp2_with fail
          refine cl0 hA ?_;clear hF hA;intro w1 hA hF;(try simp only[uY] at hA hF)
          go_wp2_with fail
          go_roundg (gk - 1)
          case measure=>omega
          case rel=>exact⟨x + 1,by simp,by omega,by omega,by omega,hA,by rw[←hO'.out,hs.out]⟩
        have hs:=Hd (Zba (p:=leP dk a) (d:=dk) (j:=j) (fun _=>(show leP dk a dk[x]! =false from by unfold leP;simpa [ltU,atU] using hl)));have hl':=Hd hl;clear hl
        go_wp2_with fail
        refine cl0 hA ?_;clear hF hA;intro w1 hA hF;(try simp only[uY] at hA hF)
        go_wp2_with fail
        go_meet
        case rel=>exact⟨x,rfl,by omega,by omega,by rw[←hO'.out,hs.out],hA⟩
      have hg:decide ((x:Int)≤((j:Nat):Int))=false:=by simp;omega
      have hs:=Hd (Zba (p:=leP dk a) (d:=dk) (j:=j) (i:=x) (fun h=>absurd h hc))
      go_wp2_with fail
      refine cl2 hA ?_;clear hF hA;intro w1 hA hF;(try simp only[uY] at hA hF)
      go_wp2_with fail
      go_meet
      case rel=>exact⟨x,rfl,by omega,by omega,by rw[←hO'.out,hs.out],hA⟩
    case rest=>
     obtain⟨i4,rfl,i41,i42,i43,hB⟩:=hcut;clear hA;have hA:=hB;clear hB;have i44:=Hd i43;clear i43
     go_upto_block 4 with fail
     go_cut [10] from 46 to 61 (fun u wc=>∃q:Nat,u=.int .i64 q∧q≤j∧(i4≤q + 1∨q=j)∧scanDown (gtP dk a) dk i4 j=q∧At L0 w [blkU g dk r] wc)
     case first=>
      go_wp2_with fail
      go_loopg [10] (j + 1 - i4) (ScanD L0 w g dk r (gtP dk a) i4 j)
      case atStart=>exact⟨j,by first|rfl|simp,Nat.le_refl _,.inr rfl,Nat.le_refl _,hA,rfl⟩
      case round=>
       obtain⟨x,rfl,hx1,hx2,hk,hB,hO⟩:=hrel;have hO':=Hd hO;clear hA hO;have hA:=hB;clear hB;have hF:=hA.facts;have ea:=Zau (d:=dk) (r:=r) (i:=a) (by omega);obtain⟨hA,hF⟩:=fY hA
       by_cases hc:i4≤x
       · have hg:decide (((i4:Nat):Int)≤(x:Int))=true:=by simp;omega
         obtain⟨y,hy⟩:∃y,x=y + 1:=⟨x - 1,by omega⟩
         have ey:(x:Int) - 1=(y:Int):=by omega
         have gy1:x≤y + 1:=by omega
         have gy2:y + 1≤x:=by omega
         have hy':=Hd hy;clear hy;have ex:=Zau (d:=dk) (r:=r) (i:=x) (by omega);cases hl:ltU (atU dk a) (atU dk x)
         · have hs:=Hd (ZaT (p:=gtP dk a) (d:=dk) (i:=i4) (fun _=>(show gtP dk a dk[x]! =false from by unfold gtP;simpa [ltU,atU] using hl)))
           have hl':=Hd hl;clear hl
           go_wp2_with fail
           refine cl0 hA ?_;clear hF hA;intro w1 hA hF;(try simp only[uY] at hA hF)
           go_wp2_with fail
           go_meet
           case rel=>exact⟨x,rfl,by omega,by omega,by rw[←hO'.out,hs.out],hA⟩
         have hs:=Hd (Zcf (p:=gtP dk a) (d:=dk) (i:=i4) hc hy'.out (show gtP dk a dk[x]! =true from by unfold gtP;simpa [ltU,atU] using hl));have hl':=Hd hl;clear hl
         go_wp2_with fail
         refine cl0 hA ?_;clear hF hA;intro w1 hA hF;(try simp only[uY] at hA hF)
         go_wp2_with fail
         go_roundg (gk - 1)
         case measure=>omega
         case rel=>exact⟨y,by first|rfl|simp,by omega,by omega,by omega,hA,by rw[←hO'.out,hs.out]⟩
       have hg:decide (((i4:Nat):Int)≤(x:Int))=false:=by simp;omega
       have hs:=Hd (ZaT (p:=gtP dk a) (d:=dk) (i:=i4) (j:=x) (fun h=>absurd h hc))
       go_wp2_with fail
       refine cl2 hA ?_;clear hF hA;intro w1 hA hF;(try simp only[uY] at hA hF)
       go_wp2_with fail
       go_meet
       case rel=>exact⟨x,rfl,by omega,by omega,by rw[←hO'.out,hs.out],hA⟩
     case rest=>
      obtain⟨j4,rfl,j41,j42,j43,hB⟩:=hcut;clear hA;have hA:=hB;clear hB;have j44:=Hd j43;clear j43
      by_cases hij:j4 < i4
      · have hs:=Hd (ZhC i44.out j44.out hij)
        go_wp2_with fail
        go_meet
        case rel=>exact⟨i4,dk,rfl,by rw[←hO'.out,hs.out],hA⟩
      have hle2:i4≤j4:=by omega
      have hs:=Hd (Zki i44.out j44.out hle2 (by omega) (by omega));clear hij
      go_upto_region 8 with fail
      go_cut [0] from 29 to 82 (fun u wc=>u=.slice (some ⟨g,0,none⟩) n cap∧At L0 w [blkU g (swp dk i4 j4) r] wc)
      case first=>
       by_cases hxy:i4=j4
       · subst hxy
         (try clear hF);(have k1:=Zai hA .here (i:=i4) (by omega));(have k2:=Zai hA .here (i:=i4) (by omega));(have f1:=Zah hA .here (i4));(have f2:=Zah hA .here (i4));go_region;(have hB:=(ZaG hA .here (i:=i4) (j:=i4) (by omega) (by omega)).drew);(clear k1 k2 f1 f2 hA);(have hA:=hB);(clear hB);(generalize World.drew (World.setCell _ _ _)=wz at *)
         go_wp2_with fail
         go_meet
         case rel=>exact⟨rfl,hA⟩
       (try clear hF);(have k1:=Zai hA .here (i:=i4) (by omega));(have k2:=Zai hA .here (i:=j4) (by omega));(have f1:=Zah hA .here (i4));(have f2:=Zah hA .here (j4));go_region;(have hB:=(ZaG hA .here (i:=i4) (j:=j4) (by omega) (by omega)).drew);(clear k1 k2 f1 f2 hA);(have hA:=hB);(clear hB);(generalize World.drew (World.setCell _ _ _)=wz at *)
       go_wp2_with fail
       go_meet
       case rel=>exact⟨rfl,hA⟩
      case rest=>
       obtain⟨rfl,hB⟩:=hcut;clear hA;have hA:=hB;clear hB
       obtain⟨d5,hd5⟩:∃z,swp dk i4 j4=z:=⟨_,rfl⟩
       rw[hd5] at hA
       have d5s:d5.size=dk.size:=by rw[←hd5];exact Zap _ _ _
       have hd5':=Hd hd5;clear hd5
       go_wp2_with fail
       go_roundg (j4 - 1 + 1 - (i4 + 1))
       case measure=>omega
       case rel=>exact⟨i4 + 1,j4 - 1,d5,by simp,by congr 1;omega,by omega,by omega,by omega,by omega,Nat.le_refl _,by omega,hA,by rw[←hO'.out,hs.out,hd5'.out]⟩
  case rest=>
   obtain⟨q,dq,rfl,hq3,hB⟩:=hcut;clear hA;have hA:=hB;clear hB;have hq4:=Hd hq3;clear hq3;have hp:=Hd (show Sort.partitionEqual ltInt d0 a b p=(q,dq) by rw[hres.out];simp only[hd1'.out,hBb'.out,hA1'.out,hq4.out])
   go_wp2_with fail
   refine bodyPost_ret (v:=.int .i64 q) (by simp[results,Tryz.results325,go_sem]) rfl ?_;unfold Zdn;rw[hp.out];exact⟨rfl,hA⟩
end SortU
end
end Go.Proofs.YtkdjkngfnapjcaaGreatDoor
