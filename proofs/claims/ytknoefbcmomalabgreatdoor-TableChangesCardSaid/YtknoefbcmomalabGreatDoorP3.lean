import Derived.Test.YtknoefbcmomalabGreatDoorP2
import Derived.Sort.AssemblyPlain
set_option linter.unusedSimpArgs false
set_option linter.unusedVariables false
set_option maxRecDepth 100000
set_option maxHeartbeats 16000000
namespace Go.Proofs.YtknoefbcmomalabGreatDoor
section
namespace Lease
open Go.RowKit
open Go.Maps (Keyed)
def fresh (n:Int) (f:ByteArray) (b t:Nat):Ses:=⟨n,f,false,false,0,0,[],b,t⟩
def look (ss:List Ses) (n:Int) (f:ByteArray):Ses:=(find ss n f).getD (fresh n f 0 0)
def Ses.info (s:Ses):Value:=.agg #[.bool s.op,.bool s.dead,.int .i64 s.dl,.int .i64 s.ttl,.int .i64 s.told.length]
theorem Za2 {w:World} {p m:Nat} {ss:List Ses} (h:Sep [BookP p m ss] w) {n:Int} {f:ByteArray} (h0:0≤n) (h1:n < big64) (hf:f.size≤maxLen):
 Calls Tryz.prog 73 #[.pointer (some ⟨p,0,none⟩),.agg #[.int .u64 n,.string f]] w fun e w'=>e=.returned ((look ss n f).info)∧At [BookP p m ss] w [BookP p m ss] w':=by
 cases hn:find ss n f with
 |none=>have:=Zhi h h0 h1 hf hn;unfold look;rw[hn];exact this
 |some s=>have:=Zhh h h0 h1 hf hn;unfold look;rw[hn];exact this
def Zmt (p m:Nat) (ss:List Ses) (n:Int) (f:ByteArray) (w:World) (e:Ending) (w':World):Prop:=
 ∃b t,e=.returned (.pointer (some ⟨b,0,none⟩))∧At [BookP p m ss] w [BookP p m (ss++[fresh n f b t])] w'
theorem Zj0 {w:World} {p m:Nat} {ss:List Ses} (h:Sep [BookP p m ss] w) {n:Int} {f:ByteArray} (h0:0≤n) (h1:n < big64) (hf:f.size≤maxLen) (hn:find ss n f=none):
 Calls Tryz.prog 78 #[.pointer (some ⟨p,0,none⟩),.agg #[.int .u64 n,.string f]] w (Zmt p m ss n f w):=by
 obtain⟨kl,hk⟩:=keyS h0 h1 hf;have hmiss:=Hd (find_none hn);have hA:=begin0 h;have hF:=hA.facts;clear h;unfold keyV at *
 go_enter Tryz.func78,Tryz.ntmps78
 go_wp2_with ((with_reducible refine gbx ?_);refine wCy hA ?_;clear hF hA;intro b1 w1 hA hb1 hF)
 have hl:∀q,(Instr.lookup 119 (.map (some m)) (.agg #[.int .u64 n,.string f]) true).run Tryz.prog (w1.drewN q)=.ok (.tuple #[.pointer none,.bool false]) (w1.drewN q):=fun q=>
  MapAt.look_none (w:=w1.drewN q) ((hA.drewN q).get (A:=mapC m (ents ss)) sR) lawS Tryz.underlying119 hk hmiss.out (by kernel_rfl) true
 go_quiet (fail)
 have hA:=hA.drewN nq;generalize World.drewN _ nq=w1 at *;clear hF;obtain⟨hA,hF⟩:=fY hA
 go_wp2_with (first|((with_reducible refine gbx ?_);refine wCy hA ?_;clear hF hA;intro b1 w1 hA hb1 hF)|(refine Za8 Tryz.prog 22 rfl rfl hA ?_;intro b2 w1 hB hb2;replace hA:=hB;clear hF hB;obtain⟨hA,hF⟩:=fY hA))
 (refine Zaw 6 (fun w'=>∃n,w'=World.drewN _ n) (by kernel_rfl) (by kernel_rfl) ⟨1,rfl⟩ ?_);(simp only[List.take_succ_cons,List.take_zero,List.drop_succ_cons,List.drop_zero]);(repeat(first|go_big_quiet_step (fail)|quiet_step (fail)));(refine wpQuiet_nil ?_);(rintro _ ⟨nq,rfl⟩)
 have hA:=hA.drewN nq;generalize World.drewN _ nq=w1 at *;clear hF;obtain⟨hA,hF⟩:=fY hA
 refine ZaP rfl rfl rfl (by(try simp only[Act.eval,eV])<;>exact rfl) (by(try simp only[Act.eval,eV])<;>exact rfl) hA sR lawS Tryz.underlying119 hk hmiss.out ?_;intro w1 hB;replace hA:=hB;clear hF hB;obtain⟨hA,hF⟩:=fY hA;go_wp2_with fail;go_ret;exact⟨_,_,rfl,ZhE (fresh n f _ _) hA sR sZ sZ sZ sR⟩
theorem Zfq {w:World} {p m:Nat} {ss:List Ses} (h:Sep [BookP p m ss] w) {n:Int} {f:ByteArray} (h0:0≤n) (h1:n < big64) (hf:f.size≤maxLen) {s:Ses} (hn:find ss n f=some s):
 Calls Tryz.prog 78 #[.pointer (some ⟨p,0,none⟩),.agg #[.int .u64 n,.string f]] w fun e w'=>e=.returned (.pointer (some ⟨s.blk,0,none⟩))∧At [BookP p m ss] w [BookP p m ss] w':=by
 obtain⟨kl,hk⟩:=keyS h0 h1 hf;have hmem:=Hd (find_mem hn);have hA:=begin0 h;have hF:=hA.facts;clear h;unfold keyV at *
 go_enter Tryz.func78,Tryz.ntmps78
 go_wp2_with ((with_reducible refine gbx ?_);refine wCy hA ?_;clear hF hA;intro b1 w1 hA hb1 hF)
 have hl:∀q,(Instr.lookup 119 (.map (some m)) (.agg #[.int .u64 n,.string f]) true).run Tryz.prog (w1.drewN q)=.ok (.tuple #[s.ptr,.bool true]) (w1.drewN q):=fun q=>
  MapAt.look_some (w:=w1.drewN q) ((hA.drewN q).get (A:=mapC m (ents ss)) sR) lawS Tryz.underlying119 hk hmem.out true
 unfold Ses.ptr at hl;go_quiet (fail)
 have hA:=hA.drewN nq;generalize World.drewN _ nq=w1 at *;clear hF;obtain⟨hA,hF⟩:=fY hA
 go_wp2_with fail;go_ret;exact⟨rfl,close0 (m:=m) (ss:=ss) hA sR sR sR⟩
theorem ZgJ {w:World} {p m:Nat} {ss:List Ses} (h:Sep [BookP p m ss] w) {n r:Int} {f:ByteArray} (h0:0≤n) (h1:n < big64) (hf:f.size≤maxLen) (hn:find ss n f=none):
 Calls Tryz.prog 37 #[.pointer (some ⟨p,0,none⟩),.agg #[.int .u64 n,.string f],.int .u64 r] w fun e w'=>e=.returned (.tuple #[.agg #[.int .i64 0,.int .u64 0,.bool false],.bool false])∧At [BookP p m ss] w [BookP p m ss] w':=by
 obtain⟨kl,hk⟩:=keyS h0 h1 hf;have hmiss:=Hd (find_none hn);have hA:=begin0 h;have hF:=hA.facts;clear h;unfold keyV at *
 go_enter Tryz.func37,Tryz.ntmps37
 go_wp2_with (first|((with_reducible refine gbx ?_);refine wCy hA ?_;clear hF hA;intro b1 w1 hA hb1 hF)|((with_reducible refine gal ?_);refine g1 hA ?_;clear hF hA;intro b1 w1 hA hb1 hF))
 have hl:∀q,(Instr.lookup 119 (.map (some m)) (.agg #[.int .u64 n,.string f]) true).run Tryz.prog (w1.drewN q)=.ok (.tuple #[.pointer none,.bool false]) (w1.drewN q):=fun q=>
  MapAt.look_none (w:=w1.drewN q) ((hA.drewN q).get (A:=mapC m (ents ss)) sR) lawS Tryz.underlying119 hk hmiss.out (by kernel_rfl) true
 go_quiet (fail)
 have hA:=hA.drewN nq;generalize World.drewN _ nq=w1 at *;clear hF;obtain⟨hA,hF⟩:=fY hA
 go_wp2_with ((with_reducible refine gst ?_);refine wTy hA ?_;clear hF hA;intro w1 hA hF)
 refine bodyPost_ret (v:=.tuple #[.agg #[.int .i64 0,.int .u64 0,.bool false],.bool false]) (by simp[results,Tryz.results37,go_sem,hF]) rfl ⟨rfl,?_⟩;exact close0 (m:=m) (ss:=ss) hA sR sR sR
theorem ZfU {w:World} {p m:Nat} {ss:List Ses} (h:Sep [BookP p m ss] w) {n r:Int} {f:ByteArray} (h0:0≤n) (h1:n < big64) (hf:f.size≤maxLen) {s:Ses} (hn:find ss n f=some s) (r0:0≤r) (r1:r < big64) (hr:said s.told r=none):
 Calls Tryz.prog 37 #[.pointer (some ⟨p,0,none⟩),.agg #[.int .u64 n,.string f],.int .u64 r] w fun e w'=>e=.returned (.tuple #[.agg #[.int .i64 0,.int .u64 0,.bool false],.bool false])∧At [BookP p m ss] w [BookP p m ss] w':=by
 obtain⟨kl,hk⟩:=keyS h0 h1 hf;obtain⟨ku,hu⟩:=keyU r0 r1;have hmem:=Hd (find_mem hn);have hmiss:=Hd (said_none hr);obtain⟨l1,l2,rfl,_,_,_⟩:=find_split hn;have hA:=Zjv h;simp only[Ses.cells] at hA;obtain⟨hA,hF⟩:=fY hA;clear h hn;unfold keyV at *
 go_enter Tryz.func37,Tryz.ntmps37
 go_wp2_with (first|((with_reducible refine gbx ?_);refine wCy hA ?_;clear hF hA;intro b1 w1 hA hb1 hF)|((with_reducible refine gal ?_);refine g1 hA ?_;clear hF hA;intro b1 w1 hA hb1 hF))
 have hl:∀q,(Instr.lookup 119 (.map (some m)) (.agg #[.int .u64 n,.string f]) true).run Tryz.prog (w1.drewN q)=.ok (.tuple #[s.ptr,.bool true]) (w1.drewN q):=fun q=>
  MapAt.look_some (w:=w1.drewN q) ((hA.drewN q).get (A:=mapC m (ents (l1++s::l2))) sR) lawS Tryz.underlying119 hk hmem.out true
 unfold Ses.ptr at hl;go_quiet (fail)
 have hA:=hA.drewN nq;generalize World.drewN _ nq=w1 at *;clear hF;obtain⟨hA,hF⟩:=fY hA
 go_wp2_with (first|((with_reducible refine gst ?_);refine wTy hA ?_;clear hF hA;intro w1 hA hF)|((with_reducible refine gal ?_);refine g1 hA ?_;clear hF hA;intro b1 w1 hA hb1 hF)|(refine ZbE rfl rfl rfl (by(try simp only[Act.eval,eV])<;>exact rfl) hA (k:=22) (es:=saids s.told) sR lawU Tryz.underlying149 hu hmiss.out (z:=.agg #[.int .i64 0,.int .u64 0,.bool false]) (fun _=>by kernel_rfl) ?_))
 refine bodyPost_ret (v:=.tuple #[.agg #[.int .i64 0,.int .u64 0,.bool false],.bool false]) (by simp[results,Tryz.results37,go_sem,hF]) rfl ⟨rfl,?_⟩;exact ZcP (m:=m) (s:=s) hA sR sR sZ sR sR
theorem ZiI {w:World} {p m:Nat} {ss:List Ses} (h:Sep [BookP p m ss] w) {n r:Int} {f:ByteArray} (h0:0≤n) (h1:n < big64) (hf:f.size≤maxLen) {s:Ses} (hn:find ss n f=some s) (r0:0≤r) (r1:r < big64) {a:Ans} (hr:said s.told r=some a):
 Calls Tryz.prog 37 #[.pointer (some ⟨p,0,none⟩),.agg #[.int .u64 n,.string f],.int .u64 r] w fun e w'=>e=.returned (.tuple #[.agg #[.int .i64 a.e,.int .u64 a.n,.bool a.g],.bool true])∧At [BookP p m ss] w [BookP p m ss] w':=by
 obtain⟨kl,hk⟩:=keyS h0 h1 hf;obtain⟨ku,hu⟩:=keyU r0 r1;have hmem:=Hd (find_mem hn);have hthere:=Hd (ZmO hr);obtain⟨l1,l2,rfl,_,_,_⟩:=find_split hn;have hA:=Zjv h;simp only[Ses.cells] at hA;obtain⟨hA,hF⟩:=fY hA;clear h hn;unfold keyV Ans.val at *
 go_enter Tryz.func37,Tryz.ntmps37
 go_wp2_with (first|((with_reducible refine gbx ?_);refine wCy hA ?_;clear hF hA;intro b1 w1 hA hb1 hF)|((with_reducible refine gal ?_);refine g1 hA ?_;clear hF hA;intro b1 w1 hA hb1 hF))
 have hl:∀q,(Instr.lookup 119 (.map (some m)) (.agg #[.int .u64 n,.string f]) true).run Tryz.prog (w1.drewN q)=.ok (.tuple #[s.ptr,.bool true]) (w1.drewN q):=fun q=>
  MapAt.look_some (w:=w1.drewN q) ((hA.drewN q).get (A:=mapC m (ents (l1++s::l2))) sR) lawS Tryz.underlying119 hk hmem.out true
 unfold Ses.ptr at hl;go_quiet (fail)
 have hA:=hA.drewN nq;generalize World.drewN _ nq=w1 at *;clear hF;obtain⟨hA,hF⟩:=fY hA
 go_wp2_with (first|((with_reducible refine gst ?_);refine wTy hA ?_;clear hF hA;intro w1 hA hF)|((with_reducible refine gal ?_);refine g1 hA ?_;clear hF hA;intro b1 w1 hA hb1 hF)|(refine ZbD rfl rfl rfl (by(try simp only[Act.eval,eV])<;>exact rfl) hA (k:=22) (es:=saids s.told) sR lawU Tryz.underlying149 hu hthere.out ?_))
 refine bodyPost_ret (v:=.tuple #[.agg #[.int .i64 a.e,.int .u64 a.n,.bool a.g],.bool true]) (by simp[results,Tryz.results37,go_sem,hF]) rfl ⟨rfl,?_⟩;exact ZcP (m:=m) (s:=s) hA sR sR sZ sR sR
end Lease
end
section
namespace Lease
open Go.RowKit
open Go.Maps (Keyed)
theorem Zf2 {w:World} {p m:Nat} {ss:List Ses} (h:Sep [BookP p m ss] w) {n:Int} {f:ByteArray} (h0:0≤n) (h1:n < big64) (hf:f.size≤maxLen) (hr:(look ss n f).told.length < 256):
 Calls Tryz.prog 38 #[.pointer (some ⟨p,0,none⟩),.agg #[.int .u64 n,.string f]] w fun e w'=>e=.returned (.bool true)∧At [BookP p m ss] w [BookP p m ss] w':=by
 have hA:=At.start h;have hF:=hA.facts;have hlt:((look ss n f).told.length:Int) < 256:=by omega
 clear h;have hfd:∀a b c d e w,(Instr.field 144 (.agg #[a,b,c,d,e]) 4).run Tryz.prog w=.ok e w:=fun _ _ _ _ _ _=>by kernel_rfl
 go_enter Tryz.func38,Tryz.ntmps38
 go_wp2_with ((with_reducible refine gbx ?_);refine wCy hA ?_;clear hF hA;intro b1 w1 hA hb1 hF)
 refine(Za2 (hA.sep1 sR) h0 h1 hf).mono ?_;unfold Ses.info;rintro e w1 ⟨rfl,hT⟩;replace hA:=hA.call1 sR hT;clear hF hT;obtain⟨hA,hF⟩:=fY hA;go_wp2_with fail;go_ret;exact⟨rfl,hA.only1 sR⟩
theorem ZkW {w:World} {p m:Nat} {ss:List Ses} (h:Sep [BookP p m ss] w) {n:Int} {f:ByteArray} (h0:0≤n) (h1:n < big64) (hf:f.size≤maxLen) (hr:¬(look ss n f).told.length < 256):
 Calls Tryz.prog 38 #[.pointer (some ⟨p,0,none⟩),.agg #[.int .u64 n,.string f]] w fun e w'=>e=.returned (.bool false)∧At [BookP p m ss] w [BookP p m ss] w':=by
 have hA:=At.start h;have hF:=hA.facts;have hlt:decide (((look ss n f).told.length:Int) < 256)=false:=by simp;omega
 clear h;have hfd:∀a b c d e w,(Instr.field 144 (.agg #[a,b,c,d,e]) 4).run Tryz.prog w=.ok e w:=fun _ _ _ _ _ _=>by kernel_rfl
 go_enter Tryz.func38,Tryz.ntmps38
 go_wp2_with ((with_reducible refine gbx ?_);refine wCy hA ?_;clear hF hA;intro b1 w1 hA hb1 hF)
 refine(Za2 (hA.sep1 sR) h0 h1 hf).mono ?_;unfold Ses.info;rintro e w1 ⟨rfl,hT⟩;replace hA:=hA.call1 sR hT;clear hF hT;obtain⟨hA,hF⟩:=fY hA;go_wp2_with fail;go_ret;exact⟨rfl,hA.only1 sR⟩
theorem ZmA {w:World} {p m:Nat} {ss:List Ses} (h:Sep [BookP p m ss] w) {n r:Int} {f:ByteArray} (h0:0≤n) (h1:n < big64) (hf:f.size≤maxLen) {s:Ses} (hn:find ss n f=some s) (r0:0≤r) (r1:r < big64) {a:Ans} (hr:said s.told r=some a) (c:Ans):
 Calls Tryz.prog 41 #[.pointer (some ⟨p,0,none⟩),.agg #[.int .u64 n,.string f],.int .u64 r,.agg #[.int .i64 c.e,.int .u64 c.n,.bool c.g]] w fun e w'=>e=.returned (.tuple #[])∧At [BookP p m ss] w [BookP p m ss] w':=by
 have hA:=At.start h;have hF:=hA.facts;clear h;go_enter Tryz.func41,Tryz.ntmps41
 go_wp2_with ((with_reducible refine gbx ?_);refine wCy hA ?_;clear hF hA;intro b1 w1 hA hb1 hF)
 refine(ZiI (hA.sep1 sR) h0 h1 hf hn r0 r1 hr).mono ?_;rintro e w1 ⟨rfl,hT⟩;replace hA:=hA.call1 sR hT;clear hF hT;obtain⟨hA,hF⟩:=fY hA
 go_wp2_with (first|((with_reducible refine gst ?_);refine wTy hA ?_;clear hF hA;intro w1 hA hF)|((with_reducible refine gal ?_);refine g1 hA ?_;clear hF hA;intro b1 w1 hA hb1 hF))
 refine bodyPost_ret (results_none rfl _ _ _) rfl ?_;exact⟨rfl,hA.only1 sR⟩
theorem Zky {w:World} {p m:Nat} {ss:List Ses} (h:Sep [BookP p m ss] w) {n r:Int} {f:ByteArray} (h0:0≤n) (h1:n < big64) (hf:f.size≤maxLen) {s:Ses} (hn:find ss n f=some s) (r0:0≤r) (r1:r < big64) (hr:said s.told r=none) (hl:¬s.told.length < 256) (c:Ans):
 Calls Tryz.prog 41 #[.pointer (some ⟨p,0,none⟩),.agg #[.int .u64 n,.string f],.int .u64 r,.agg #[.int .i64 c.e,.int .u64 c.n,.bool c.g]] w fun e w'=>e=.returned (.tuple #[])∧At [BookP p m ss] w [BookP p m ss] w':=by
 have hA:=At.start h;have hF:=hA.facts;have hl':¬(look ss n f).told.length < 256:=by unfold look;rw[hn];exact hl
 clear h;go_enter Tryz.func41,Tryz.ntmps41
 go_wp2_with ((with_reducible refine gbx ?_);refine wCy hA ?_;clear hF hA;intro b1 w1 hA hb1 hF)
 refine(ZfU (hA.sep1 sR) h0 h1 hf hn r0 r1 hr).mono ?_;rintro e w1 ⟨rfl,hT⟩;replace hA:=hA.call1 sR hT;clear hF hT;obtain⟨hA,hF⟩:=fY hA
 go_wp2_with (first|((with_reducible refine gst ?_);refine wTy hA ?_;clear hF hA;intro w1 hA hF)|((with_reducible refine gal ?_);refine g1 hA ?_;clear hF hA;intro b1 w1 hA hb1 hF))
 refine(ZkW (hA.sep1 sR) h0 h1 hf hl').mono ?_;rintro e w1 ⟨rfl,hT⟩;replace hA:=hA.call1 sR hT;clear hF hT;obtain⟨hA,hF⟩:=fY hA;go_wp2_with fail;refine bodyPost_ret (results_none rfl _ _ _) rfl ?_;exact⟨rfl,hA.only1 sR⟩
theorem ZmB {w:World} {p m:Nat} {l1 l2:List Ses} {s:Ses} (h:Sep [BookP p m (l1++s::l2)] w) {n r:Int} {f:ByteArray} (h0:0≤n) (h1:n < big64) (hf:f.size≤maxLen) (hn:find (l1++s::l2) n f=some s) (r0:0≤r) (r1:r < big64) (hr:said s.told r=none) (hl:s.told.length < 256) (c:Ans):
 Calls Tryz.prog 41 #[.pointer (some ⟨p,0,none⟩),.agg #[.int .u64 n,.string f],.int .u64 r,.agg #[.int .i64 c.e,.int .u64 c.n,.bool c.g]] w
  fun e w'=>e=.returned (.tuple #[])∧At [BookP p m (l1++s::l2)] w [BookP p m (l1++{s with told:=s.told++[(r,c)]}::l2)] w':=by
 obtain⟨ku,hu⟩:=keyU r0 r1;have hmiss:=Hd (said_none hr);have hA:=At.start h;have hF:=hA.facts;have hl':(look (l1++s::l2) n f).told.length < 256:=by unfold look;rw[hn];exact hl
 clear h;go_enter Tryz.func41,Tryz.ntmps41
 go_wp2_with ((with_reducible refine gbx ?_);refine wCy hA ?_;clear hF hA;intro b1 w1 hA hb1 hF)
 refine(ZfU (hA.sep1 sR) h0 h1 hf hn r0 r1 hr).mono ?_;rintro e w1 ⟨rfl,hT⟩;replace hA:=hA.call1 sR hT;clear hF hT;obtain⟨hA,hF⟩:=fY hA
 go_wp2_with (first|((with_reducible refine gst ?_);refine wTy hA ?_;clear hF hA;intro w1 hA hF)|((with_reducible refine gal ?_);refine g1 hA ?_;clear hF hA;intro b1 w1 hA hb1 hF))
 refine(Zf2 (hA.sep1 sR) h0 h1 hf hl').mono ?_;rintro e w1 ⟨rfl,hT⟩;replace hA:=hA.call1 sR hT;clear hF hT;obtain⟨hA,hF⟩:=fY hA;go_wp2_with fail;have hA:=open1 hA sR;simp only[Ses.cells] at hA;obtain⟨hA,hF⟩:=fY hA;(refine Zaw 8 (Cl _ _ _) (by kernel_rfl) (by kernel_rfl) (Cl.drew hA) ?_);(simp only[List.take_succ_cons,List.take_zero,List.drop_succ_cons,List.drop_zero]);(have hn1:=Cl.none hA);(have hn2:=Cl.none2 hA);(repeat(first|go_big_quiet_skip|(go_big_quiet_want;(first|(refine qM 52 3 ?_;go_frame;go_big_quiet_on)|(refine qM 39 2 ?_;go_frame;go_big_quiet_on)|(refine qL ?_;go_frame;go_big_quiet_on)|(go_big_quiet_op;(first|go_big_quiet_on|((apply Exists.intro);(refine⟨fun w1 hw=> ?_,?_⟩);(focus((have hw:=Cl.out hw);(exact opened hw sR sR sZ sR sR (fun q=>Zfq q h0 h1 hf hn))));(go_big_quiet_on))))))))
 (refine wpQuiet_nil ?_);(intro w1 hB);(clear hF hA hn1 hn2);(have hA:=Cl.out hB);(clear hB);obtain⟨hA,hF⟩:=fY hA
 refine ZaP rfl rfl rfl (by(try simp only[Act.eval,eV])<;>exact rfl) (by(try simp only[Act.eval,eV])<;>exact rfl) hA (k:=22) (es:=saids s.told) sR lawU Tryz.underlying149 hu hmiss.out ?_;intro w1 hB;replace hA:=hB;clear hF hB;obtain⟨hA,hF⟩:=fY hA;go_wp2_with fail;go_end0
 refine⟨rfl,?_⟩
 have e1:saids s.told++[(Value.int .u64 r,Value.agg #[.int .i64 c.e,.int .u64 c.n,.bool c.g])]=saids (s.told++[(r,c)]):=by simp[saids,saidE,Ans.val]
 have e2:ents (l1++s::l2)=ents (l1++{s with told:=s.told++[(r,c)]}::l2):=by simp[ents,ent,Ses.key,Ses.ptr]
 rw[e1,e2] at hA;exact ZcP (m:=m) (s:={s with told:=s.told++[(r,c)]}) hA sR sR sZ sR sR
end Lease
end
section
namespace Lease
open Go.RowKit
open Go.Maps (Keyed)
def cutI (t:Int):Int:=if t < 0 then 0 else if 2199023255552 < t then 2199023255552 else t
theorem Zcw (t:Int):0≤cutI t∧cutI t≤2199023255552:=by unfold cutI;split<;>(try split)<;>omega
theorem ZeQ (t:Int) (w:World):Calls Tryz.prog 114 #[.int .i64 t] w fun e w'=>e=.returned (.int .i64 (cutI t))∧w=w':=by
 by_cases h0:t < 0
 · have e:cutI t=0:=by simp[cutI,h0]
   rw[e];go_enter Tryz.func114,Tryz.ntmps114;go_wp2
   go_ret;exact⟨by first|rfl|(show Ending.returned (Value.int .i64 (min (max t 0) 2199023255552))=_;rw[show min (max t 0) 2199023255552=0 by omega]),rfl⟩
 by_cases h1:2199023255552 < t
 · have e:cutI t=2199023255552:=by simp[cutI,h0,h1]
   rw[e];go_enter Tryz.func114,Tryz.ntmps114;go_wp2
   go_ret;exact⟨by first|rfl|(show Ending.returned (Value.int .i64 (min (max t 0) 2199023255552))=_;rw[show min (max t 0) 2199023255552=2199023255552 by omega]),rfl⟩
 have e:cutI t=t:=by simp[cutI,h0,h1]
 rw[e];go_enter Tryz.func114,Tryz.ntmps114;go_wp2
 go_ret;exact⟨by first|rfl|(show Ending.returned (Value.int .i64 (min (max t 0) 2199023255552))=_;rw[show min (max t 0) 2199023255552=t by omega]),rfl⟩
def endI (time ttl:Int):Int:=cutI (cutI time + cutI ttl)
theorem ZdA (time ttl:Int) (w:World):Calls Tryz.prog 113 #[.int .i64 time,.int .i64 ttl] w fun e w'=>e=.returned (.int .i64 (endI time ttl))∧w=w':=by
 have b1:=Zcw time;have b2:=Zcw ttl;go_enter Tryz.func113,Tryz.ntmps113;go_wp2_with fail;refine(ZeQ _ _).mono ?_;rintro e _ ⟨rfl,rfl⟩;go_wp2_with fail;refine(ZeQ _ _).mono ?_;rintro e _ ⟨rfl,rfl⟩;go_wp2_with fail;refine(ZeQ _ _).mono ?_;rintro e _ ⟨rfl,rfl⟩;go_wp2_with fail;go_ret;exact⟨rfl,rfl⟩
def NewPost (w:World) (e:Ending) (w':World):Prop:=∃p m,e=.returned (.pointer (some ⟨p,0,none⟩))∧At [] w [BookP p m []] w'
theorem new_any (w:World):Calls Tryz.prog 22 #[] w (NewPost w):=by
 have hA:=At.start (w0:=w) (L0:=[]) trivial;have hF:=hA.facts;go_enter Tryz.func22,Tryz.ntmps22
 go_wp2_with (first|((with_reducible refine gbx ?_);refine wCy hA ?_;clear hF hA;intro b1 w1 hA hb1 hF)|(refine Za8 Tryz.prog 39 rfl rfl hA ?_;intro b2 w1 hB hb2;replace hA:=hB;clear hF hB;obtain⟨hA,hF⟩:=fY hA))
 go_ret;have hB:At [] w [headC b1 b2,mapC b2 (ents [])] w1:=hA;have hC:=hB.new (Ext.refl w1) (restP []) trivial (fun b hb=>by obtain⟨A,hA,_⟩:=hb;cases hA);exact⟨_,_,rfl,close0 (m:=b2) (ss:=[]) hC sZ sZ sZ⟩
end Lease
end
section
namespace Lease
open Go.RowKit
open Go.Maps (Keyed)
def cnt (ss:List Ses) (f:ByteArray):Nat:=(ss.filter (fun s=>s.foot.toList==f.toList&&s.op)).length
theorem Zn3 (ds:List Ses) (s:Ses) (f:ByteArray):cnt (ds++[s]) f=cnt ds f + if s.foot.toList==f.toList&&s.op then 1 else 0:=by
 unfold cnt;rw[List.filter_append];cases h:(s.foot.toList==f.toList&&s.op)<;>simp[List.filter_cons,h]
theorem cnt_le (ds:List Ses) (f:ByteArray):cnt ds f≤ds.length:=List.length_filter_le _ _
theorem ents_snoc (ds:List Ses) (s:Ses):ents ds++[ent s]=ents (ds++[s]):=by simp[ents]
theorem ZnT {ss:List Ses} (h:(ents ss).Pairwise (fun p q=>p.1≠q.1)) {x y:Ses} (hx:x ∈ ss) (hy:y ∈ ss) (e:ent x=ent y):x=y:=by
 have h1:ss.Pairwise (fun p q=>(ent p).1≠(ent q).1):=(List.pairwise_map (f:=ent) (R:=fun p q:Value × Value=>p.1≠q.1)).1 h;obtain⟨i,hi⟩:=List.mem_iff_getElem?.1 hx;obtain⟨j,hj⟩:=List.mem_iff_getElem?.1 hy;by_cases hij:i=j
 · subst hij;rw[hi] at hj;exact Option.some.inj hj
 exfalso
 obtain⟨hi1,hi2⟩:=List.getElem?_eq_some_iff.1 hi;obtain⟨hj1,hj2⟩:=List.getElem?_eq_some_iff.1 hj;have hp:=List.pairwise_iff_getElem.1 h1;rcases Nat.lt_or_gt_of_ne hij with q|q
 · exact hp i j hi1 hj1 q (by rw[hi2,hj2,e])
 exact hp j i hj1 hi1 q (by rw[hi2,hj2,e])
theorem ents_perm {ss ds:List Ses} (h:(ents ss).Pairwise (fun p q=>p.1≠q.1)) (hd:∀s ∈ ds,s ∈ ss) (hp:(ents ss).Perm (ents ds)):ss.Perm ds:=by
 have hn:∀l:List Ses,(ents l).Pairwise (fun p q=>p.1≠q.1)→l.Nodup:=fun l hl=>((List.pairwise_map (f:=ent) (R:=fun p q:Value × Value=>p.1≠q.1)).1 hl).imp (fun h e=>h (by rw[e]));have hd2:(ents ds).Pairwise (fun p q=>p.1≠q.1):=(hp.pairwise_iff (fun h=>Ne.symm h)).1 h;refine(List.perm_ext_iff_of_nodup (hn _ h) (hn _ hd2)).2 (fun x=>⟨fun hx=> ?_,hd x⟩);have:ent x ∈ ents ds:=hp.mem_iff.1 (List.mem_map.2 ⟨x,hx,rfl⟩);obtain⟨y,hy,he⟩:=List.mem_map.1 this;rw[←ZnT h (hd y hy) hx he];exact hy
theorem cnt_perm {ss ds:List Ses} (h:ss.Perm ds) (f:ByteArray):cnt ss f=cnt ds f:=(h.filter _).length_eq
def CntRel (p m r:Nat) (ss:List Ses) (f:ByteArray) (w:World) (k:Nat) (v:Value) (wr:World):Prop:=
 ∃ds:List Ses,At [BookP p m ss] w [Part.iter Tryz.prog 39 r m (ents ss) (ents ds),headC p m,restP ss] wr∧(∀s ∈ ds,s ∈ ss)∧v=.int .i64 (cnt ds f)∧ds.length + k=ss.length
theorem Zgg {w:World} {p m:Nat} {ss:List Ses} (h:Sep [BookP p m ss] w) (f:ByteArray) (hl:ss.length≤1000000000):
 Calls Tryz.prog 112 #[.pointer (some ⟨p,0,none⟩),.string f] w fun e w'=>e=.returned (.int .i64 (cnt ss f))∧At [BookP p m ss] w [BookP p m ss] w':=by
 have hA:=begin0 h;obtain⟨hA,hF⟩:=fY hA;clear h;go_enter Tryz.func112,Tryz.ntmps112
 go_wp2_with (refine ZaX rfl rfl rfl hA sR Tryz.underlying119 ?_;intro r w1 hB hr;replace hA:=hB;clear hF hB;obtain⟨hA,hF⟩:=fY hA)
 go_frame;go_loopg [5] ss.length (CntRel p m r ss f w)
 case atStart=>exact⟨[],hA,nofun,by simp[cnt],by simp⟩
 case round=>
  obtain⟨ds,hA2,hds,rfl,hk⟩:=hrel;clear hF hA;have hA:=hA2;clear hA2;obtain⟨hA,hF⟩:=fY hA;go_step
  go_step
  refine Zba rfl rfl rfl hA sR (fun hp=> ?_) (fun q w1 hq hd hB=> ?_)
  · have hI:Zat Tryz.prog 39 wr r m (ents ss) (ents ds):=hA.get (A:=Part.iter _ _ r m (ents ss) (ents ds)) sR;have hc:=Hd (cnt_perm (ents_perm hI.keys hds hp) f);have hM:=At.ranged hA sR;go_wp2_with fail;go_ret;exact⟨by rw[hc.out];rfl,close0 (m:=m) (ss:=ss) hM sR sR sR⟩
  obtain⟨s,hs,rfl⟩:=List.mem_map.1 hq;have hI:Zat Tryz.prog 39 w1 r m (ents ss) (ents ds++[ent s]):=hB.get (A:=Part.iter _ _ r m (ents ss) (ents ds++[ent s])) sR;have hen:=hI.entry;have hlen:(ds++[s]).length≤ss.length:=by have:=hI.len;simpa [ents] using this
  have hsub:∀x ∈ ds++[s],x ∈ ss:=fun x hx=>by
   rcases List.mem_append.1 hx with hx|hx
   · exact hds x hx
   have:x=s:=by simpa using hx
   rw[this];exact hs
  rw[ents_snoc] at hB;obtain⟨l1,l2,e⟩:=List.append_of_mem hs;have he:=Hd e;clear hF hA;have hA:=out' e hB sR;have hk':=Hd hk;have hsub':=Hd hsub;have hsn:=Hd (Zn3 ds s f);have hcl:=cnt_le ds f;simp only[List.length_append,List.length_cons,List.length_nil,Nat.zero_add] at hlen;clear hI e hB hk hsub hds hq hd;simp only[Ses.cells] at hA;obtain⟨hA,hF⟩:=fY hA;simp only[ent,Ses.key,keyV,Ses.ptr] at hen;cases hfe:(s.foot.toList==f.toList);all_goals cases hop:s.op
  all_goals
   go_wp2_with (first|((with_reducible refine gst ?_);refine wTy hA ?_;clear hF hA;intro w1 hA hF)|((with_reducible refine gal ?_);refine wGy 39 [.int .u64 0,.string .empty] hA ?_;clear hF hA;intro b1 w1 hA hb1 hF))
   go_roundg (gk - 1);case measure=>have:=hk'.out;omega
   case rel=>exact⟨ds++[s],(in' he.out hA sZ sR sR).only3 sR sR sR,hsub'.out,by rw[hsn.out];simp[hfe,hop],by have:=hk'.out;simp;omega⟩
end Lease
end
section
namespace Lease
open Go.RowKit
open Go.Maps (Keyed)
def Ses.opened (s:Ses) (ttl time:Int):Ses:={s with op:=true,dead:=false,dl:=endI time ttl,ttl:=cutI ttl}
def Ses.ended (s:Ses):Ses:={s with op:=false,dead:=true,dl:=0,ttl:=0}
def openE (s:Ses) (c:Nat):Int:=if s.dead then 50 else if s.op then 15 else if 32≤c then 14 else 0
theorem Zo9 {w:World} {p m:Nat} {ss:List Ses} (h:Sep [BookP p m ss] w) {n:Int} {f:ByteArray} (h0:0≤n) (h1:n < big64) (hf:f.size≤maxLen) (hl:ss.length≤1000000000) (ttl time:Int) (he:openE (look ss n f) (cnt ss f)≠0):
 Calls Tryz.prog 75 #[.pointer (some ⟨p,0,none⟩),.agg #[.int .u64 n,.string f],.int .i64 ttl,.int .i64 time] w fun e w'=>e=.returned (.int .i64 (openE (look ss n f) (cnt ss f)))∧At [BookP p m ss] w [BookP p m ss] w':=by
 have hA:=At.start h;have hF:=hA.facts;clear h;cases hd:(look ss n f).dead
 · cases ho:(look ss n f).op
   · have hc:32≤cnt ss f:=by
      simp[openE,hd,ho] at he;omega
     have hc':(32:Int)≤(cnt ss f:Int):=by omega
     have e1:openE (look ss n f) (cnt ss f)=14:=by simp[openE,hd,ho,hc]
     rw[e1];go_enter Tryz.func75,Tryz.ntmps75
     go_wp2_with ((with_reducible refine gbx ?_);refine wCy hA ?_;clear hF hA;intro b1 w1 hA hb1 hF)
     refine(Za2 (hA.sep1 sR) h0 h1 hf).mono ?_;unfold Ses.info;rw[hd,ho];rintro e w1 ⟨rfl,hT⟩;replace hA:=hA.call1 sR hT;clear hF hT;obtain⟨hA,hF⟩:=fY hA
     go_wp2_with (first|((with_reducible refine gst ?_);refine wTy hA ?_;clear hF hA;intro w1 hA hF)|((with_reducible refine gal ?_);refine g8 hA ?_;clear hF hA;intro b1 w1 hA hb1 hF))
     refine(Zgg (hA.sep1 sR) f hl).mono ?_;rintro e w1 ⟨rfl,hT⟩;replace hA:=hA.call1 sR hT;clear hF hT;obtain⟨hA,hF⟩:=fY hA;go_wp2_with fail;go_ret;exact⟨rfl,hA.only1 sR⟩
   have e1:openE (look ss n f) (cnt ss f)=15:=by simp[openE,hd,ho]
   rw[e1];go_enter Tryz.func75,Tryz.ntmps75
   go_wp2_with ((with_reducible refine gbx ?_);refine wCy hA ?_;clear hF hA;intro b1 w1 hA hb1 hF)
   refine(Za2 (hA.sep1 sR) h0 h1 hf).mono ?_;unfold Ses.info;rw[hd,ho];rintro e w1 ⟨rfl,hT⟩;replace hA:=hA.call1 sR hT;clear hF hT;obtain⟨hA,hF⟩:=fY hA
   go_wp2_with (first|((with_reducible refine gst ?_);refine wTy hA ?_;clear hF hA;intro w1 hA hF)|((with_reducible refine gal ?_);refine g8 hA ?_;clear hF hA;intro b1 w1 hA hb1 hF))
   go_ret;exact⟨rfl,hA.only1 sR⟩
 have e1:openE (look ss n f) (cnt ss f)=50:=by simp[openE,hd]
 rw[e1];go_enter Tryz.func75,Tryz.ntmps75
 go_wp2_with ((with_reducible refine gbx ?_);refine wCy hA ?_;clear hF hA;intro b1 w1 hA hb1 hF)
 refine(Za2 (hA.sep1 sR) h0 h1 hf).mono ?_;unfold Ses.info;rw[hd];rintro e w1 ⟨rfl,hT⟩;replace hA:=hA.call1 sR hT;clear hF hT;obtain⟨hA,hF⟩:=fY hA
 go_wp2_with (first|((with_reducible refine gst ?_);refine wTy hA ?_;clear hF hA;intro w1 hA hF)|((with_reducible refine gal ?_);refine g8 hA ?_;clear hF hA;intro b1 w1 hA hb1 hF))
 go_ret;exact⟨rfl,hA.only1 sR⟩
def Zok (p m:Nat) (ss:List Ses) (n:Int) (f:ByteArray) (ttl time:Int) (w:World) (e:Ending) (w':World):Prop:=
 ∃b t,e=.returned (.int .i64 0)∧At [BookP p m ss] w [BookP p m (ss++[(fresh n f b t).opened ttl time])] w'
theorem Znl {w:World} {p m:Nat} {ss:List Ses} (h:Sep [BookP p m ss] w) {n:Int} {f:ByteArray} (h0:0≤n) (h1:n < big64) (hf:f.size≤maxLen) (hl:ss.length≤1000000000) (ttl time:Int) (hn:find ss n f=none) (hc:cnt ss f < 32):
 Calls Tryz.prog 75 #[.pointer (some ⟨p,0,none⟩),.agg #[.int .u64 n,.string f],.int .i64 ttl,.int .i64 time] w (Zok p m ss n f ttl time w):=by
 have hA:=At.start h;have hF:=hA.facts;clear h;have hk:look ss n f=fresh n f 0 0:=by unfold look;rw[hn];rfl
 have hd:(look ss n f).dead=false:=by rw[hk];rfl
 have ho:(look ss n f).op=false:=by rw[hk];rfl
 have hc':(cnt ss f:Int) < 32:=by omega
 clear hk;go_enter Tryz.func75,Tryz.ntmps75
 go_wp2_with ((with_reducible refine gbx ?_);refine wCy hA ?_;clear hF hA;intro b1 w1 hA hb1 hF)
 refine(Za2 (hA.sep1 sR) h0 h1 hf).mono ?_;unfold Ses.info;rw[hd,ho];rintro e w1 ⟨rfl,hT⟩;replace hA:=hA.call1 sR hT;clear hF hT;obtain⟨hA,hF⟩:=fY hA
 go_wp2_with (first|((with_reducible refine gst ?_);refine wTy hA ?_;clear hF hA;intro w1 hA hF)|((with_reducible refine gal ?_);refine g8 hA ?_;clear hF hA;intro b1 w1 hA hb1 hF))
 refine(Zgg (hA.sep1 sR) f hl).mono ?_;rintro e w1 ⟨rfl,hT⟩;replace hA:=hA.call1 sR hT;clear hF hT;obtain⟨hA,hF⟩:=fY hA;go_wp2_with fail;refine(Zj0 (hA.sep1 sR) h0 h1 hf hn).mono ?_;rintro e w1 ⟨b,t,rfl,hT⟩;have hB:=hA.call1 sR hT;clear hF hA hT;have hA:=open1 (l1:=ss) (l2:=[]) (s:=fresh n f b t) hB sZ;clear hB;simp only[Ses.cells,fresh] at hA;obtain⟨hA,hF⟩:=fY hA;go_wp2_with fail;refine(ZdA _ _ _).mono ?_;rintro e _ ⟨rfl,rfl⟩;go_wp2_with fail;refine(ZeQ _ _).mono ?_;rintro e _ ⟨rfl,rfl⟩
 go_wp2_with ((with_reducible refine gst ?_);refine wTy hA ?_;clear hF hA;intro w1 hA hF)
 go_ret;refine⟨b,t,rfl,?_⟩;have e2:ents (ss++[fresh n f b t])=ents (ss++[(fresh n f b t).opened ttl time]):=by simp[ents,ent,Ses.key,Ses.ptr,fresh,Ses.opened]
 simp only[fresh] at e2;rw[e2] at hA;exact ZcP (m:=m) (l1:=ss) (l2:=[]) (s:=(fresh n f b t).opened ttl time) hA sR sZ sZ sZ sZ
theorem Znk {w:World} {p m:Nat} {l1 l2:List Ses} {s:Ses} (h:Sep [BookP p m (l1++s::l2)] w) {n:Int} {f:ByteArray} (h0:0≤n) (h1:n < big64) (hf:f.size≤maxLen) (hl:(l1++s::l2).length≤1000000000) (ttl time:Int) (hn:find (l1++s::l2) n f=some s) (hc:cnt (l1++s::l2) f < 32) (hsd:s.dead=false) (hso:s.op=false):
 Calls Tryz.prog 75 #[.pointer (some ⟨p,0,none⟩),.agg #[.int .u64 n,.string f],.int .i64 ttl,.int .i64 time] w fun e w'=>e=.returned (.int .i64 0)∧At [BookP p m (l1++s::l2)] w [BookP p m (l1++s.opened ttl time::l2)] w':=by
 have hA:=At.start h;have hF:=hA.facts;clear h;have hk:look (l1++s::l2) n f=s:=by unfold look;rw[hn];rfl
 have hd:(look (l1++s::l2) n f).dead=false:=by rw[hk];exact hsd
 have ho:(look (l1++s::l2) n f).op=false:=by rw[hk];exact hso
 have hc':(cnt (l1++s::l2) f:Int) < 32:=by omega
 clear hk hsd hso;go_enter Tryz.func75,Tryz.ntmps75
 go_wp2_with ((with_reducible refine gbx ?_);refine wCy hA ?_;clear hF hA;intro b1 w1 hA hb1 hF)
 refine(Za2 (hA.sep1 sR) h0 h1 hf).mono ?_;unfold Ses.info;rw[hd,ho];rintro e w1 ⟨rfl,hT⟩;replace hA:=hA.call1 sR hT;clear hF hT;obtain⟨hA,hF⟩:=fY hA
 go_wp2_with (first|((with_reducible refine gst ?_);refine wTy hA ?_;clear hF hA;intro w1 hA hF)|((with_reducible refine gal ?_);refine g8 hA ?_;clear hF hA;intro b1 w1 hA hb1 hF))
 refine(Zgg (hA.sep1 sR) f hl).mono ?_;rintro e w1 ⟨rfl,hT⟩;replace hA:=hA.call1 sR hT;clear hF hT;obtain⟨hA,hF⟩:=fY hA;go_wp2_with fail;refine(Zfq (hA.sep1 sR) h0 h1 hf hn).mono ?_;rintro e w1 ⟨rfl,hT⟩;replace hA:=hA.call1 sR hT;clear hF hT;obtain⟨hA,hF⟩:=fY hA;have hA:=open1 hA sR;simp only[Ses.cells] at hA;obtain⟨hA,hF⟩:=fY hA;go_wp2_with fail;refine(ZdA _ _ _).mono ?_;rintro e _ ⟨rfl,rfl⟩;go_wp2_with fail;refine(ZeQ _ _).mono ?_;rintro e _ ⟨rfl,rfl⟩
 go_wp2_with ((with_reducible refine gst ?_);refine wTy hA ?_;clear hF hA;intro w1 hA hF)
 go_ret;refine⟨rfl,?_⟩;have e2:ents (l1++s::l2)=ents (l1++s.opened ttl time::l2):=by simp[ents,ent,Ses.key,Ses.ptr,Ses.opened]
 rw[e2] at hA;exact ZcP (m:=m) (s:=s.opened ttl time) hA sR sZ sZ sZ sZ
end Lease
end
section
namespace Lease
open Go.RowKit
open Go.Maps (Keyed)
theorem ZoD {w:World} {p m:Nat} {ss:List Ses} (h:Sep [BookP p m ss] w) {n:Int} {f:ByteArray} (h0:0≤n) (h1:n < big64) (hf:f.size≤maxLen) (ho:(look ss n f).op=false):
 Calls Tryz.prog 74 #[.pointer (some ⟨p,0,none⟩),.agg #[.int .u64 n,.string f]] w fun e w'=>e=.returned (.int .i64 50)∧At [BookP p m ss] w [BookP p m ss] w':=by
 have hA:=At.start h;have hF:=hA.facts;clear h;have hfd:∀a b c d e w,(Instr.field 144 (.agg #[a,b,c,d,e]) 0).run Tryz.prog w=.ok a w:=fun _ _ _ _ _ _=>by kernel_rfl
 go_enter Tryz.func74,Tryz.ntmps74
 go_wp2_with ((with_reducible refine gbx ?_);refine wCy hA ?_;clear hF hA;intro b1 w1 hA hb1 hF)
 refine(Za2 (hA.sep1 sR) h0 h1 hf).mono ?_;unfold Ses.info;rw[ho];rintro e w1 ⟨rfl,hT⟩;replace hA:=hA.call1 sR hT;clear hF hT;obtain⟨hA,hF⟩:=fY hA;go_wp2_with fail;go_ret;exact⟨rfl,hA.only1 sR⟩
theorem ZlN {w:World} {p m:Nat} {l1 l2:List Ses} {s:Ses} (h:Sep [BookP p m (l1++s::l2)] w) {n:Int} {f:ByteArray} (h0:0≤n) (h1:n < big64) (hf:f.size≤maxLen) (hn:find (l1++s::l2) n f=some s) (hso:s.op=true):
 Calls Tryz.prog 74 #[.pointer (some ⟨p,0,none⟩),.agg #[.int .u64 n,.string f]] w fun e w'=>e=.returned (.int .i64 0)∧At [BookP p m (l1++s::l2)] w [BookP p m (l1++s.ended::l2)] w':=by
 obtain⟨kl,hk⟩:=keyS h0 h1 hf;have hmem:=Hd (find_mem hn);have hA:=At.start h;have hF:=hA.facts;clear h;have hk':look (l1++s::l2) n f=s:=by unfold look;rw[hn];rfl
 have ho:(look (l1++s::l2) n f).op=true:=by rw[hk'];exact hso
 clear hk' hso;unfold keyV at *
 have hfd:∀a b c d e w,(Instr.field 144 (.agg #[a,b,c,d,e]) 0).run Tryz.prog w=.ok a w:=fun _ _ _ _ _ _=>by kernel_rfl
 go_enter Tryz.func74,Tryz.ntmps74
 go_wp2_with ((with_reducible refine gbx ?_);refine wCy hA ?_;clear hF hA;intro b1 w1 hA hb1 hF)
 refine(Za2 (hA.sep1 sR) h0 h1 hf).mono ?_;unfold Ses.info;rw[ho];rintro e w1 ⟨rfl,hT⟩;replace hA:=hA.call1 sR hT;clear hF hT;obtain⟨hA,hF⟩:=fY hA;go_wp2_with fail;have hA:=open1 hA sR;simp only[Ses.cells] at hA;obtain⟨hA,hF⟩:=fY hA
 have hl:∀q,(Instr.lookup 119 (.map (some m)) (.agg #[.int .u64 n,.string f]) false).run Tryz.prog (w1.drewN q)=.ok s.ptr (w1.drewN q):=fun q=>
  MapAt.look_some (w:=w1.drewN q) ((hA.drewN q).get (A:=mapC m (ents (l1++s::l2))) sR) lawS Tryz.underlying119 hk hmem.out false
 unfold Ses.ptr at hl;(refine Zaw 9 (fun w'=>∃n,w'=World.drewN _ n) (by kernel_rfl) (by kernel_rfl) ⟨1,rfl⟩ ?_);(simp only[List.take_succ_cons,List.take_zero,List.drop_succ_cons,List.drop_zero]);(repeat(first|go_big_quiet_step (fail)|quiet_step (fail)));(refine wpQuiet_nil ?_);(rintro _ ⟨nq,rfl⟩)
 have hA:=hA.drewN nq;generalize World.drewN _ nq=w1 at *;clear hF;obtain⟨hA,hF⟩:=fY hA
 go_wp2_with ((with_reducible refine gst ?_);refine wTy hA ?_;clear hF hA;intro w1 hA hF)
 go_ret;refine⟨rfl,?_⟩;have e2:ents (l1++s::l2)=ents (l1++s.ended::l2):=by simp[ents,ent,Ses.key,Ses.ptr,Ses.ended]
 rw[e2] at hA;exact ZcP (m:=m) (s:=s.ended) hA sR sZ sZ sZ sZ
theorem Zht {w:World} {p m:Nat} {ss:List Ses} (h:Sep [BookP p m ss] w) {n:Int} {f:ByteArray} (h0:0≤n) (h1:n < big64) (hf:f.size≤maxLen) (time:Int) (ho:(look ss n f).op=true) (ht:time < (look ss n f).dl):
 Calls Tryz.prog 36 #[.pointer (some ⟨p,0,none⟩),.agg #[.int .u64 n,.string f],.int .i64 time] w fun e w'=>e=.returned (.int .i64 54)∧At [BookP p m ss] w [BookP p m ss] w':=by
 have hA:=At.start h;have hF:=hA.facts;clear h;go_enter Tryz.func36,Tryz.ntmps36
 go_wp2_with ((with_reducible refine gbx ?_);refine wCy hA ?_;clear hF hA;intro b1 w1 hA hb1 hF)
 refine(Za2 (hA.sep1 sR) h0 h1 hf).mono ?_;unfold Ses.info;rw[ho];rintro e w1 ⟨rfl,hT⟩;replace hA:=hA.call1 sR hT;clear hF hT;obtain⟨hA,hF⟩:=fY hA
 go_wp2_with (first|((with_reducible refine gst ?_);refine wTy hA ?_;clear hF hA;intro w1 hA hF)|((with_reducible refine gal ?_);refine g8 hA ?_;clear hF hA;intro b1 w1 hA hb1 hF))
 go_ret;exact⟨rfl,hA.only1 sR⟩
theorem ZlK {w:World} {p m:Nat} {ss:List Ses} (h:Sep [BookP p m ss] w) {n:Int} {f:ByteArray} (h0:0≤n) (h1:n < big64) (hf:f.size≤maxLen) (time:Int) (ho:(look ss n f).op=false):
 Calls Tryz.prog 36 #[.pointer (some ⟨p,0,none⟩),.agg #[.int .u64 n,.string f],.int .i64 time] w fun e w'=>e=.returned (.int .i64 50)∧At [BookP p m ss] w [BookP p m ss] w':=by
 have hA:=At.start h;have hF:=hA.facts;clear h;go_enter Tryz.func36,Tryz.ntmps36
 go_wp2_with ((with_reducible refine gbx ?_);refine wCy hA ?_;clear hF hA;intro b1 w1 hA hb1 hF)
 refine(Za2 (hA.sep1 sR) h0 h1 hf).mono ?_;unfold Ses.info;rw[ho];rintro e w1 ⟨rfl,hT⟩;replace hA:=hA.call1 sR hT;clear hF hT;obtain⟨hA,hF⟩:=fY hA
 go_wp2_with (first|((with_reducible refine gst ?_);refine wTy hA ?_;clear hF hA;intro w1 hA hF)|((with_reducible refine gal ?_);refine g8 hA ?_;clear hF hA;intro b1 w1 hA hb1 hF))
 refine(ZoD (hA.sep1 sR) h0 h1 hf ho).mono ?_;rintro e w1 ⟨rfl,hT⟩;replace hA:=hA.call1 sR hT;clear hF hT;obtain⟨hA,hF⟩:=fY hA;go_wp2_with fail;go_ret;exact⟨rfl,hA.only1 sR⟩
theorem Zj8 {w:World} {p m:Nat} {l1 l2:List Ses} {s:Ses} (h:Sep [BookP p m (l1++s::l2)] w) {n:Int} {f:ByteArray} (h0:0≤n) (h1:n < big64) (hf:f.size≤maxLen) (time:Int) (hn:find (l1++s::l2) n f=some s) (hso:s.op=true) (ht:s.dl≤time):
 Calls Tryz.prog 36 #[.pointer (some ⟨p,0,none⟩),.agg #[.int .u64 n,.string f],.int .i64 time] w fun e w'=>e=.returned (.int .i64 0)∧At [BookP p m (l1++s::l2)] w [BookP p m (l1++s.ended::l2)] w':=by
 have hA:=At.start h;have hF:=hA.facts;clear h;have hk':look (l1++s::l2) n f=s:=by unfold look;rw[hn];rfl
 have ho:(look (l1++s::l2) n f).op=true:=by rw[hk'];exact hso
 have ht':decide (time < (look (l1++s::l2) n f).dl)=false:=by rw[hk'];simp;omega
 clear hk';go_enter Tryz.func36,Tryz.ntmps36
 go_wp2_with ((with_reducible refine gbx ?_);refine wCy hA ?_;clear hF hA;intro b1 w1 hA hb1 hF)
 refine(Za2 (hA.sep1 sR) h0 h1 hf).mono ?_;unfold Ses.info;rw[ho];rintro e w1 ⟨rfl,hT⟩;replace hA:=hA.call1 sR hT;clear hF hT;obtain⟨hA,hF⟩:=fY hA
 go_wp2_with (first|((with_reducible refine gst ?_);refine wTy hA ?_;clear hF hA;intro w1 hA hF)|((with_reducible refine gal ?_);refine g8 hA ?_;clear hF hA;intro b1 w1 hA hb1 hF))
 refine(ZlN (hA.sep1 sR) h0 h1 hf hn hso).mono ?_;rintro e w1 ⟨rfl,hT⟩;replace hA:=hA.call1 sR hT;clear hF hT;obtain⟨hA,hF⟩:=fY hA;go_wp2_with fail;go_ret;exact⟨rfl,hA.only1 sR⟩
end Lease
end
section
namespace Lease
open Go.RowKit
open Go.Maps (Keyed)
def Ses.kept (s:Ses) (time:Int):Ses:={s with dl:=if s.dl < endI time s.ttl then endI time s.ttl else s.dl}
theorem Zpi {w:World} {p m:Nat} {ss:List Ses} (h:Sep [BookP p m ss] w) {n:Int} {f:ByteArray} (h0:0≤n) (h1:n < big64) (hf:f.size≤maxLen) (time:Int) (ho:(look ss n f).op=false):
 Calls Tryz.prog 76 #[.pointer (some ⟨p,0,none⟩),.agg #[.int .u64 n,.string f],.int .i64 time] w fun e w'=>e=.returned (.int .i64 50)∧At [BookP p m ss] w [BookP p m ss] w':=by
 have hA:=At.start h;have hF:=hA.facts;clear h;have hfd:∀a b c d e w,(Instr.field 144 (.agg #[a,b,c,d,e]) 0).run Tryz.prog w=.ok a w:=fun _ _ _ _ _ _=>by kernel_rfl
 go_enter Tryz.func76,Tryz.ntmps76
 go_wp2_with ((with_reducible refine gbx ?_);refine wCy hA ?_;clear hF hA;intro b1 w1 hA hb1 hF)
 refine(Za2 (hA.sep1 sR) h0 h1 hf).mono ?_;unfold Ses.info;rw[ho];rintro e w1 ⟨rfl,hT⟩;replace hA:=hA.call1 sR hT;clear hF hT;obtain⟨hA,hF⟩:=fY hA;go_wp2_with fail;go_ret;exact⟨rfl,hA.only1 sR⟩
theorem ZnA {w:World} {p m:Nat} {l1 l2:List Ses} {s:Ses} (h:Sep [BookP p m (l1++s::l2)] w) {n:Int} {f:ByteArray} (h0:0≤n) (h1:n < big64) (hf:f.size≤maxLen) (time:Int) (hn:find (l1++s::l2) n f=some s) (hso:s.op=true):
 Calls Tryz.prog 76 #[.pointer (some ⟨p,0,none⟩),.agg #[.int .u64 n,.string f],.int .i64 time] w fun e w'=>e=.returned (.int .i64 0)∧At [BookP p m (l1++s::l2)] w [BookP p m (l1++s.kept time::l2)] w':=by
 obtain⟨kl,hk⟩:=keyS h0 h1 hf;have hmem:=Hd (find_mem hn);have hA:=At.start h;have hF:=hA.facts;clear h;have hk':look (l1++s::l2) n f=s:=by unfold look;rw[hn];rfl
 have ho:(look (l1++s::l2) n f).op=true:=by rw[hk'];exact hso
 clear hk' hso;unfold keyV at *
 have hfd:∀a b c d e w,(Instr.field 144 (.agg #[a,b,c,d,e]) 0).run Tryz.prog w=.ok a w:=fun _ _ _ _ _ _=>by kernel_rfl
 go_enter Tryz.func76,Tryz.ntmps76
 go_wp2_with ((with_reducible refine gbx ?_);refine wCy hA ?_;clear hF hA;intro b1 w1 hA hb1 hF)
 refine(Za2 (hA.sep1 sR) h0 h1 hf).mono ?_;unfold Ses.info;rw[ho];rintro e w1 ⟨rfl,hT⟩;replace hA:=hA.call1 sR hT;clear hF hT;obtain⟨hA,hF⟩:=fY hA;go_wp2_with fail;have hA:=open1 hA sR;simp only[Ses.cells] at hA;obtain⟨hA,hF⟩:=fY hA
 have hl:∀q,(Instr.lookup 119 (.map (some m)) (.agg #[.int .u64 n,.string f]) false).run Tryz.prog (w1.drewN q)=.ok s.ptr (w1.drewN q):=fun q=>
  MapAt.look_some (w:=w1.drewN q) ((hA.drewN q).get (A:=mapC m (ents (l1++s::l2))) sR) lawS Tryz.underlying119 hk hmem.out false
 unfold Ses.ptr at hl;go_quiet (fail)
 have hA:=hA.drewN nq;generalize World.drewN _ nq=w1 at *;clear hF;obtain⟨hA,hF⟩:=fY hA
 go_wp2_with fail;have hd:s.dl < endI time s.ttl∨¬s.dl < endI time s.ttl:=by omega
 have e2:ents (l1++s::l2)=ents (l1++s.kept time::l2):=by simp[ents,ent,Ses.key,Ses.ptr,Ses.kept]
 have e2':=Hd e2;clear e2;rcases hd with hd|hd
 · have hkc:s.kept time={s with dl:=endI time s.ttl}:=by unfold Ses.kept;rw[if_pos hd]
   have hkc':=Hd hkc;clear hkc;(refine Zaw 14 (fun w'=>∃n,w'=World.drewN _ n) (by kernel_rfl) (by kernel_rfl) ⟨1,rfl⟩ ?_);(simp only[List.take_succ_cons,List.take_zero,List.drop_succ_cons,List.drop_zero]);(repeat(first|go_big_quiet_step (exact(ZdA _ _ _).mono fun _ _ ⟨he,hw⟩=>⟨he,_,hw.symm⟩)|quiet_step (exact(ZdA _ _ _).mono fun _ _ ⟨he,hw⟩=>⟨he,_,hw.symm⟩)));(refine wpQuiet_nil ?_);(rintro _ ⟨nq,rfl⟩)
   have hA:=hA.drewN nq;generalize World.drewN _ nq=w1 at *;clear hF;obtain⟨hA,hF⟩:=fY hA
   go_wp2_with ((with_reducible refine gst ?_);refine wTy hA ?_;clear hF hA;intro w1 hA hF)
   go_ret;refine⟨rfl,?_⟩;rw[e2'.out,hkc'.out] at hA;rw[hkc'.out];exact ZcP (m:=m) (s:={s with dl:=endI time s.ttl}) hA sR sZ sZ sZ sZ
 have hkc:s.kept time=s:=by unfold Ses.kept;rw[if_neg hd]
 have hd':endI time s.ttl≤s.dl:=by omega
 have hkc':=Hd hkc;clear hkc;(refine Zaw 14 (fun w'=>∃n,w'=World.drewN _ n) (by kernel_rfl) (by kernel_rfl) ⟨1,rfl⟩ ?_);(simp only[List.take_succ_cons,List.take_zero,List.drop_succ_cons,List.drop_zero]);(repeat(first|go_big_quiet_step (exact(ZdA _ _ _).mono fun _ _ ⟨he,hw⟩=>⟨he,_,hw.symm⟩)|quiet_step (exact(ZdA _ _ _).mono fun _ _ ⟨he,hw⟩=>⟨he,_,hw.symm⟩)));(refine wpQuiet_nil ?_);(rintro _ ⟨nq,rfl⟩)
 have hA:=hA.drewN nq;generalize World.drewN _ nq=w1 at *;clear hF;obtain⟨hA,hF⟩:=fY hA
 go_wp2_with ((with_reducible refine gst ?_);refine wTy hA ?_;clear hF hA;intro w1 hA hF)
 go_ret;refine⟨rfl,?_⟩;rw[e2'.out,hkc'.out] at hA;rw[hkc'.out];exact ZcP (m:=m) (s:=s) hA sR sZ sZ sZ sZ
end Lease
end
section
namespace Lease
open Go.RowKit
def toldV (o:Option Ans):Value:=match o with
 |some a=>.tuple #[.agg #[.int .i64 a.e,.int .u64 a.n,.bool a.g],.bool true]
 |none=>.tuple #[.agg #[.int .i64 0,.int .u64 0,.bool false],.bool false]
theorem ZiK {w:World} {p m:Nat} {ss:List Ses} (h:Sep [BookP p m ss] w) {n r:Int} {f:ByteArray} (h0:0≤n) (h1:n < big64) (hf:f.size≤maxLen) (r0:0≤r) (r1:r < big64):
 Calls Tryz.prog 37 #[.pointer (some ⟨p,0,none⟩),.agg #[.int .u64 n,.string f],.int .u64 r] w fun e w'=>e=.returned (toldV (said (look ss n f).told r))∧At [BookP p m ss] w [BookP p m ss] w':=by
 cases hn:find ss n f with
 |none=>
  have hlk:look ss n f=fresh n f 0 0:=by unfold look;rw[hn];rfl
  rw[hlk,show said (fresh n f 0 0).told r=none from rfl];exact ZgJ h h0 h1 hf hn
 |some s=>
  have hlk:look ss n f=s:=by unfold look;rw[hn];rfl
  rw[hlk]
  cases hr:said s.told r with
  |none=>exact ZfU h h0 h1 hf hn r0 r1 hr
  |some a=>exact ZiI h h0 h1 hf hn r0 r1 hr
end Lease
end
section
namespace Lease
open Go.RowKit
open Go.Maps (Keyed)
theorem Znx {w:World} {p m:Nat} {ss:List Ses} (h:Sep [BookP p m ss] w) {n:Int} {f:ByteArray} (h0:0≤n) (h1:n < big64) (hf:f.size≤maxLen) (hn:find ss n f=none) {S:Nat} (hS:w.heap.size=S):
 Calls Tryz.prog 78 #[.pointer (some ⟨p,0,none⟩),.agg #[.int .u64 n,.string f]] w fun e w'=>e=.returned (.pointer (some ⟨S + 2,0,none⟩))∧At [BookP p m ss] w [BookP p m (ss++[fresh n f (S + 2) (S + 1)])] w':=by
 obtain⟨kl,hk⟩:=keyS h0 h1 hf;have hmiss:=Hd (find_none hn);have hA:=begin0 h;have hF:=hA.facts;have hS':=Hd hS;clear h hS;unfold keyV at *
 go_enter Tryz.func78,Tryz.ntmps78
 go_wp2_with (refine Zc0 (E:=39) rfl rfl (by(try simp only[Act.eval,eV])<;>exact rfl) (by exact rfl) hA hS'.out ?_;intro w1 hB hS1;clear hF hA hS';have hS':=Hd hS1;clear hS1;have hA:=hB;clear hB;obtain⟨hA,hF⟩:=fY hA)
 have hl:∀q,(Instr.lookup 119 (.map (some m)) (.agg #[.int .u64 n,.string f]) true).run Tryz.prog (w1.drewN q)=.ok (.tuple #[.pointer none,.bool false]) (w1.drewN q):=fun q=>
  MapAt.look_none (w:=w1.drewN q) ((hA.drewN q).get (A:=mapC m (ents ss)) sR) lawS Tryz.underlying119 hk hmiss.out (by kernel_rfl) true
 go_quiet (fail)
 have hS2:=(show(World.drewN w1 nq).heap.size=S + 1 from hS'.out)
 have hA:=hA.drewN nq;clear hl hS';generalize World.drewN _ nq=w2 at *
 have hS':=Hd hS2;clear hS2 hF;obtain⟨hA,hF⟩:=fY hA
 go_wp2_with (first|(refine Zdm Tryz.prog 22 rfl rfl hA hS'.out ?_;intro w1 hB hS1;clear hF hA hS';have hS':=Hd hS1;clear hS1;have hA:=hB;clear hB;obtain⟨hA,hF⟩:=fY hA)|(refine Zc0 (E:=151) rfl rfl (by(try simp only[Act.eval,eV])<;>exact rfl) (by exact rfl) hA hS'.out ?_;intro w1 hB hS1;clear hF hA hS';have hS':=Hd hS1;clear hS1;have hA:=hB;clear hB;obtain⟨hA,hF⟩:=fY hA))
 (refine Zaw 6 (fun w'=>∃n,w'=World.drewN _ n) (by kernel_rfl) (by kernel_rfl) ⟨1,rfl⟩ ?_);(simp only[List.take_succ_cons,List.take_zero,List.drop_succ_cons,List.drop_zero]);(repeat(first|go_big_quiet_step (fail)|quiet_step (fail)));(refine wpQuiet_nil ?_);(rintro _ ⟨nq,rfl⟩)
 have hA:=hA.drewN nq;generalize World.drewN _ nq=w1 at *;clear hF;obtain⟨hA,hF⟩:=fY hA
 refine ZaP rfl rfl rfl (by(try simp only[Act.eval,eV])<;>exact rfl) (by(try simp only[Act.eval,eV])<;>exact rfl) hA sR lawS Tryz.underlying119 hk hmiss.out ?_;intro w1 hB;replace hA:=hB;clear hF hB;obtain⟨hA,hF⟩:=fY hA;go_wp2_with fail;go_ret;exact⟨rfl,ZhE (fresh n f _ _) hA sR sZ sZ sZ sR⟩
def ZpH (w:World) (p m:Nat) (ss:List Ses) (n:Int) (f:ByteArray) (r:Int) (c:Ans) (e:Ending) (w':World):Prop:=
 ∃b t,e=.returned (.tuple #[])∧At [BookP p m ss] w [BookP p m (ss++[{fresh n f b t with told:=[(r,c)]}])] w'
theorem ZgM {w:World} {p m:Nat} {ss:List Ses} (h:Sep [BookP p m ss] w) {n r:Int} {f:ByteArray} (h0:0≤n) (h1:n < big64) (hf:f.size≤maxLen) (hn:find ss n f=none) (r0:0≤r) (r1:r < big64) (c:Ans):
 Calls Tryz.prog 41 #[.pointer (some ⟨p,0,none⟩),.agg #[.int .u64 n,.string f],.int .u64 r,.agg #[.int .i64 c.e,.int .u64 c.n,.bool c.g]] w (ZpH w p m ss n f r c):=by
 obtain⟨ku,hu⟩:=keyU r0 r1;have hA:=At.start h;have hF:=hA.facts;have hl':(look ss n f).told.length < 256:=by unfold look;rw[hn];simp[fresh]
 clear h;go_enter Tryz.func41,Tryz.ntmps41
 go_wp2_with (first|((with_reducible refine gbx ?_);refine wCy (E:=39) hA ?_;clear hF hA;intro bS w1 hA hbS hF)|((with_reducible refine gbx ?_);refine wCy (E:=52) hA ?_;clear hF hA;intro bA w1 hA hbA hF))
 refine(ZgJ (hA.sep1 sR) h0 h1 hf hn).mono ?_;rintro e w1 ⟨rfl,hT⟩;replace hA:=hA.call1 sR hT;clear hF hT;obtain⟨hA,hF⟩:=fY hA
 go_wp2_with (first|((with_reducible refine gal ?_);refine g1 hA ?_;clear hF hA;intro bQ w1 hA hbQ hF)|((with_reducible refine gst ?_);refine wTy hA ?_;clear hF hA;intro w1 hA hF))
 refine(Zf2 (hA.sep1 sR) h0 h1 hf hl').mono ?_;rintro e w1 ⟨rfl,hT⟩;replace hA:=hA.call1 sR hT;clear hF hT;obtain⟨hA,hF⟩:=fY hA;go_wp2_with fail
 obtain⟨S,hS⟩:∃S,w1.heap.size=S:=⟨_,rfl⟩
 refine Ze5 8 2 (TurnC [BookP p m ss] w _ S [sesC (S + 2) (fresh n f (S + 2) (S + 1)).cells,toldC (S + 1) (saids []),restP (ss++[]),headC p m,mapC m (ents (ss++[fresh n f (S + 2) (S + 1)])),Part.cells bQ [.int .i64 0,.int .u64 0,.bool false] 52,Part.cells bA [.int .i64 c.e,.int .u64 c.n,.bool c.g] 52,Part.cells bS [.int .u64 n,.string f] 39]) (by kernel_rfl) (by kernel_rfl) (by decide) (ZhP hA hS) ?_;simp only[List.take_succ_cons,List.take_zero,List.drop_succ_cons,List.drop_zero];refine Zc2 (v:=.pointer (some ⟨p,0,none⟩)) rfl (by decide) (fun _=>rfl) ?_;go_frame;refine ZgH (v:=.agg #[.int .u64 n,.string f]) rfl (by decide) (fun w hw=>Zag (ty:=39) (n:=2) rfl rfl (hw.get (A:=Part.cells bS [.int .u64 n,.string f] 39) sR) (by kernel_rfl) (by kernel_rfl) rfl rfl) (fun w hw=>Zag (ty:=39) (n:=2) rfl rfl (hw.get (A:=Part.cells bS [.int .u64 n,.string f] 39) sR) (by kernel_rfl) (by kernel_rfl) rfl rfl) ?_;go_frame;refine Zkw (v:=.pointer (some ⟨S + 2,0,none⟩)) (f:=78) (args:= #[.pointer (some ⟨p,0,none⟩),.agg #[.int .u64 n,.string f]]) rfl rfl (fun _=>by kernel_rfl) (fun w hw hs=>(Znx (m:=m) (ss:=ss) (hw.sep1 sR) h0 h1 hf hn hs).mono fun e w' ⟨he,t⟩=>⟨he,(open1 (l1:=ss) (l2:=[]) (s:=fresh n f (S + 2) (S + 1)) (hw.call1 sR t) sZ).pick pZ⟩) ?_;go_frame;refine Zc2 (v:=.pointer (some ⟨S + 2,0,none⟩)) rfl (by decide) (fun _=>rfl) ?_;go_frame;refine Zc2 (v:=.pointer (some ⟨S + 2,5,none⟩)) rfl (by decide) (fun _=>by kernel_rfl) ?_;go_frame;refine Zkv (v:=.map (some (S + 1))) rfl (by decide) (by kernel_rfl) (fun w hw=>Zac (ty:=149) rfl rfl (hw.get (A:=sesC (S + 2) (fresh n f (S + 2) (S + 1)).cells) sR) (by kernel_rfl) rfl) ?_;go_frame;refine Zc2 (v:=.int .u64 r) rfl (by decide) (fun _=>rfl) ?_;go_frame;refine ZgH (v:=.agg #[.int .i64 c.e,.int .u64 c.n,.bool c.g]) rfl (by decide) (fun w hw=>Zag (ty:=52) (n:=3) rfl rfl (hw.get (A:=Part.cells bA [.int .i64 c.e,.int .u64 c.n,.bool c.g] 52) sR) (by kernel_rfl) (by kernel_rfl) rfl rfl) (fun w hw=>Zag (ty:=52) (n:=3) rfl rfl (hw.get (A:=Part.cells bA [.int .i64 c.e,.int .u64 c.n,.bool c.g] 52) sR) (by kernel_rfl) (by kernel_rfl) rfl rfl) ?_;go_frame;refine ZgE ?_;intro w2 hw2;replace hA:=ZgI hw2;clear hF hw2 hS;refine ZaP rfl rfl rfl (by(try simp only[Act.eval,eV])<;>exact rfl) (by(try simp only[Act.eval,eV])<;>exact rfl) hA (k:=22) (es:=saids []) sR lawU Tryz.underlying149 hu nofun ?_;intro w1 hB;replace hA:=hB;clear hB;go_wp2_with fail;go_end0
 refine⟨S + 2,S + 1,rfl,?_⟩
 have e1:saids []++[(Value.int .u64 r,Value.agg #[.int .i64 c.e,.int .u64 c.n,.bool c.g])]=saids [(r,c)]:=by simp[saids,saidE,Ans.val]
 have e2:ents (ss++[fresh n f (S + 2) (S + 1)])=ents (ss++{fresh n f (S + 2) (S + 1) with told:=[(r,c)]}::[]):=by simp[ents,ent,Ses.key,Ses.ptr]
 rw[e1,e2] at hA;exact ZcP (m:=m) (l1:=ss) (l2:=[]) (s:={fresh n f (S + 2) (S + 1) with told:=[(r,c)]}) hA sR sR sZ sZ sR
end Lease
end
section
namespace SortU
open Go.RowKit
open Go.Sort (swp ltInt insInner insOuter)
def rowC (d:Array Int) (r:List Value):List Value:=d.toList.map (Value.int .u64)++r
def atU (d:Array Int) (i:Nat):Int:=d[i]!
def ltU (x y:Int):Bool:=ltInt x y
abbrev blkU (g:Nat) (d:Array Int) (r:List Value):Part:=.cells g (rowC d r) 22
theorem ZaA {d:Array Int} {r:List Value} {i:Nat} (h:i < d.size):(rowC d r)[i]? =some (.int .u64 (atU d i)):=by
 unfold rowC atU;rw[List.getElem?_append_left (by simpa using h),List.getElem?_map,Array.getElem?_toList,getElem!_pos d i h,Array.getElem?_eq_getElem h];rfl
theorem ZmR (d:Array Int) (r:List Value):(rowC d r).length=d.size + r.length:=by simp[rowC]
theorem ZiX {d:Array Int} {r:List Value} {i:Nat} (h:i < d.size) (x:Int):setL (rowC d r) i [.int .u64 x]=rowC (d.setIfInBounds i x) r:=by
 unfold rowC;simp only[setL,Array.toList_setIfInBounds,List.map_set];rw[List.set_append_left _ _ (by simpa using h)]
theorem ZmQ {d:Array Int} {r:List Value} {i j:Nat} (hi:i < d.size) (hj:j < d.size):setL (setL (rowC d r) i [.int .u64 (atU d j)]) j [.int .u64 (atU d i)]=rowC (swp d i j) r:=by
 rw[ZiX hi,ZiX (by simpa using hj)];rfl
theorem ZaT {L0 L F:List Part} {w0 w:World} {g:Nat} {d:Array Int} {r:List Value} (h:At L0 w0 L w) (s:Sel (blkU g d r) L F) {i j:Nat} (hi:i < d.size) (hj:j < d.size):
 At L0 w0 (blkU g (swp d i j) r::F) ((w.setCell ⟨g,i,none⟩ (.int .u64 (atU d j))).setCell ⟨g,j,none⟩ (.int .u64 (atU d i))):=by
 have h0:=At.store h s i (.int .u64 (atU d j));have h1:=At.store h0 .here j (.int .u64 (atU d i));rw[show((rowC d r).set i (.int .u64 (atU d j))).set j (.int .u64 (atU d i))=rowC (swp d i j) r from ZmQ hi hj] at h1;exact h1
theorem Zak {L0 L F:List Part} {w0 w:World} {g:Nat} {d:Array Int} {r:List Value} (h:At L0 w0 L w) (s:Sel (blkU g d r) L F) {i:Nat} (hi:i < d.size):w.cell? ⟨g,i,none⟩=some (.int .u64 (atU d i)):=((h.get s:Zaa w g (rowC d r) 22).cell i).trans (ZaA hi)
theorem Zaj {L0 L F:List Part} {w0 w:World} {g:Nat} {d:Array Int} {r:List Value} (h:At L0 w0 L w) (s:Sel (blkU g d r) L F) (i:Nat):w.frozen? ⟨g,i,none⟩=false:=(h.get s:Zaa w g (rowC d r) 22).free i
theorem Zav (d:Array Int) (i j:Nat):(swp d i j).size=d.size:=by simp[swp]
theorem Zlr (x:Int) (w:World):Calls Tryz.prog 214 #[.int .u64 x] w fun e w'=>e=.returned (.bool false)∧w'=w:=by
 go_enter Tryz.func214,Tryz.ntmps214;go_wp2
 go_ret;exact⟨by simp,rfl⟩
theorem less_any (x y:Int) (w:World):Calls Tryz.prog 221 #[.int .u64 x,.int .u64 y] w fun e w'=>e=.returned (.bool (ltU x y))∧w'=w:=by
 go_enter Tryz.func221,Tryz.ntmps221
 go_wp2_with (go_at_call 214;refine(Zlr _ _).mono ?_;rintro e w' ⟨rfl,rfl⟩)
 go_ret;exact⟨by simp[ltU,ltInt],rfl⟩
theorem Zif {L0 L:List Part} {w0 w:World} (h:At L0 w0 L w) (x y:Int) {b:Bool} (hb:ltU x y=b):Calls Tryz.prog 221 #[.int .u64 x,.int .u64 y] w fun e w'=>e=.returned (.bool b)∧At L0 w0 L w':=by
 subst hb
 exact(less_any x y w).mono fun _ _ ⟨h1,h2⟩=>⟨h1,by rw[h2];exact h⟩
theorem Zij {a j:Nat} {d:Array Int} (hj:a < j + 1) (hl:ltU (atU d (j + 1)) (atU d j)=true):insInner ltInt a (j + 1) d=insInner ltInt a j (swp d (j + 1) j):=by
 have hl':ltInt d[j + 1]! d[j]! =true:=hl;rw[insInner];simp[hj,hl']
theorem Zde {a j:Nat} {d:Array Int} (h:j≤a∨∃k,j=k + 1∧ltU (atU d (k + 1)) (atU d k)=false):insInner ltInt a j d=d:=by
 cases j with
 |zero=>rw[insInner]
 |succ k=>
  rw[insInner];rcases h with h|⟨m,hm,h⟩
  · simp[show ¬k + 1 > a by omega]
  have:m=k:=by omega
  subst this;have h':ltInt d[m + 1]! d[m]! =false:=h;simp[h']
theorem Zii {a b i:Nat} {d:Array Int} (h:i < b):insOuter ltInt a b i d=insOuter ltInt a b (i + 1) (insInner ltInt a i d):=by rw[insOuter,if_pos h]
theorem Zgo {a b i:Nat} {d:Array Int} (h:¬i < b):insOuter ltInt a b i d=d:=by rw[insOuter,if_neg h]
def InsO (w:World) (g:Nat) (d:Array Int) (r:List Value) (a b:Nat) (k:Nat) (u:Value) (wr:World):Prop:=
 ∃(i:Nat) (dk:Array Int),u=.int .i64 i∧a < i∧i + k=b + 1∧dk.size=d.size∧At [blkU g d r] w [blkU g dk r] wr∧insOuter ltInt a b i dk=insOuter ltInt a b (a + 1) d
def InsI (w:World) (g:Nat) (d:Array Int) (r:List Value) (a i:Nat) (dk:Array Int) (k:Nat) (u:Value) (wr:World):Prop:=
 ∃dj:Array Int,u=.int .i64 (a + k:Nat)∧a + k≤i∧dj.size=d.size∧At [blkU g d r] w [blkU g dj r] wr∧insInner ltInt a (a + k) dj=insInner ltInt a i dk
theorem Zgn {w:World} {g cap n:Nat} {d:Array Int} {r:List Value} (h:Sep [blkU g d r] w) (hn:d.size=n) {a b:Nat} (hab:a≤b) (hb:b≤d.size) (hsz:d.size < 4611686018427387904):
 Calls Tryz.prog 215 #[.slice (some ⟨g,0,none⟩) n cap,.int .i64 a,.int .i64 b] w fun e w'=>e=.returned (.tuple #[])∧At [blkU g d r] w [blkU g (Sort.insertionSort ltInt d a b) r] w':=by
 have hA:=At.start h;clear h;go_enter Tryz.func215,Tryz.ntmps215;go_wp2_with fail;go_loopg [6] (b - a) (InsO w g d r a b)
 case atStart=>exact⟨a + 1,d,by simp,by omega,by omega,rfl,hA,rfl⟩
 case round=>
  obtain⟨i,dk,rfl,hai,hik,hsk,hB,hO⟩:=hrel;have hO':=Hd hO;clear hA hO;have hA:=hB;clear hB;by_cases hi:i < b
  · go_wp2_with fail;go_loopg [7] (i - a) (InsI w g d r a i dk)
    case atStart=>exact⟨dk,by rw[show a + (i - a)=i by omega],by omega,hsk,hA,by rw[show a + (i - a)=i by omega]⟩
    case round=>
     obtain⟨dj,rfl,hji,hsj,hB,hI⟩:=hrel;have hI':=Hd hI;clear hA hI;have hA:=hB;clear hB
     have out:insInner ltInt a (a + gk) dj=dj→insOuter ltInt a b (i + 1) dj=insOuter ltInt a b (a + 1) d:=fun hs=>by
      rw[←hO'.out,Zii hi,←hI'.out,hs]
     have out':=Hd out;clear out;rcases Nat.eq_zero_or_pos gk with h0|hpos
     · subst h0;obtain⟨hA,hF⟩:=fY hA;have hx:=Hd (out'.out (Zde (.inl (by omega))));go_wp2_with fail;refine cl2 hA ?_;clear hF hA;intro w1 hA hF;(try simp only[uY] at hA hF);go_wp2_with fail;go_roundg (b - i);case measure=>omega
       case rel=>exact⟨i + 1,dj,by simp,by omega,by omega,hsj,hA,hx.out⟩
     obtain⟨m,rfl⟩:∃m,gk=m + 1:=⟨gk - 1,by omega⟩
     obtain⟨j,hj⟩:∃j,a + m=j:=⟨_,rfl⟩
     have ej:a + (m + 1)=j + 1:=by omega
     rw[ej] at hI' hji out' ⊢;have hj':=Hd hj;have e1:=ZaA (d:=dj) (r:=r) (i:=j + 1) (by omega);have e2:=ZaA (d:=dj) (r:=r) (i:=j) (by omega);have haj:a < j + 1:=by omega
     have hg:decide ((a:Int) < (j:Int) + 1)=true:=by simp;omega
     clear hj ej;obtain⟨hA,hF⟩:=fY hA;cases hl:ltU (atU dj (j + 1)) (atU dj j)
     · have hx:=Hd (out'.out (Zde (.inr ⟨j,rfl,hl⟩)));have hl':=Hd hl;clear hl;go_wp2_with fail;refine cl0 hA ?_;clear hF hA;intro w1 hA hF;(try simp only[uY] at hA hF);go_wp2_with fail;go_roundg (b - i);case measure=>omega
       case rel=>exact⟨i + 1,dj,by simp,by omega,by omega,hsj,hA,hx.out⟩
     have hx:=Hd (Zij haj hl);have hl':=Hd hl;clear hl;go_wp2_with fail;refine cl0 hA ?_;clear hF hA;intro w1 hA hF;(try simp only[uY] at hA hF);go_wp2_with fail;(try clear hF);(have k1:=Zak hA .here (i:=j + 1) (by omega));(have k2:=Zak hA .here (i:=j) (by omega));(have f1:=Zaj hA .here (j + 1));(have f2:=Zaj hA .here (j));go_region;(have hB:=(ZaT hA .here (i:=j + 1) (j:=j) (by omega) (by omega)).drew);(clear k1 k2 f1 f2 hA);(have hA:=hB);(clear hB);(generalize World.drew (World.setCell _ _ _)=wz at *)
     go_wp2_with fail;go_roundg m;case measure=>omega
     case rel=>exact⟨swp dj (j + 1) j,by rw[hj'.out],by have:=hj'.out;omega,by rw[Zav];exact hsj,hA,by rw[hj'.out,←hI'.out,hx.out]⟩
  have hx:=Hd (Zgo (a:=a) (d:=dk) hi);go_wp2_with fail;go_end0
  refine⟨rfl,?_⟩;unfold Sort.insertionSort;rw[←hO'.out,hx.out];exact hA
end SortU
end
section
namespace SortU
open Go.RowKit
open Go.Sort (swp ltInt siftDown heapBuild heapPop reverseLoop)
theorem Zep {hi first root:Nat} {d:Array Int} (h:2 * root + 1 ≥ hi):siftDown ltInt hi first root d=d:=by rw[siftDown,dif_pos h]
theorem ZiQ {hi first root:Nat} {d:Array Int} (h:¬2 * root + 1 ≥ hi) (hn:¬(2 * root + 1 + 1 < hi∧ltU (atU d (first + (2 * root + 1))) (atU d (first + (2 * root + 1) + 1))=true)):
 siftDown ltInt hi first root d=if ltU (atU d (first + root)) (atU d (first + (2 * root + 1)))=true then siftDown ltInt hi first (2 * root + 1) (swp d (first + root) (first + (2 * root + 1))) else d:=by
 have hn':¬(2 * root + 1 + 1 < hi&&ltInt d[first + (2 * root + 1)]! d[first + (2 * root + 1) + 1]!)=true:=by simpa [ltU,atU] using hn
 rw[siftDown,dif_neg h,if_neg hn'];unfold ltU atU;cases ltInt d[first + root]! d[first + (2 * root + 1)]! <;>simp
theorem ZiP {hi first root:Nat} {d:Array Int} (h:¬2 * root + 1 ≥ hi) (hn:2 * root + 1 + 1 < hi∧ltU (atU d (first + (2 * root + 1))) (atU d (first + (2 * root + 1) + 1))=true):
 siftDown ltInt hi first root d=if ltU (atU d (first + root)) (atU d (first + (2 * root + 2)))=true then siftDown ltInt hi first (2 * root + 2) (swp d (first + root) (first + (2 * root + 2))) else d:=by
 have hn':(2 * root + 1 + 1 < hi&&ltInt d[first + (2 * root + 1)]! d[first + (2 * root + 1) + 1]!)=true:=by simpa [ltU,atU] using hn
 rw[siftDown,dif_neg h,if_pos hn',dif_pos (by omega)];unfold ltU atU;cases ltInt d[first + root]! d[first + (2 * root + 2)]! <;>simp
def ZpJ (w:World) (g:Nat) (d:Array Int) (r:List Value) (hi first lo:Nat) (k:Nat) (u:Value) (wr:World):Prop:=
 ∃(root:Nat) (dk:Array Int),u=.int .i64 root∧hi - root≤k∧root < 4611686018427387904∧dk.size=d.size∧At [blkU g d r] w [blkU g dk r] wr∧siftDown ltInt hi first root dk=siftDown ltInt hi first lo d
theorem Zco {w:World} {g cap n:Nat} {d:Array Int} {r:List Value} (h:Sep [blkU g d r] w) (hn:d.size=n) {lo hi first:Nat} (hb:first + hi≤d.size) (hlo:lo < 4611686018427387904) (hsz:d.size < 4611686018427387904):
 Calls Tryz.prog 237 #[.slice (some ⟨g,0,none⟩) n cap,.int .i64 lo,.int .i64 hi,.int .i64 first] w fun e w'=>e=.returned (.tuple #[])∧At [blkU g d r] w [blkU g (siftDown ltInt hi first lo d) r] w':=by
 have hA:=At.start h;have hF:=hA.facts;clear h;go_enter Tryz.func237,Tryz.ntmps237;go_wp2_with fail;go_loopg [8] (hi - lo) (ZpJ w g d r hi first lo)
 case atStart=>exact⟨lo,d,rfl,Nat.le_refl _,hlo,rfl,hA,rfl⟩
 case round=>
  obtain⟨root,dk,rfl,hk,hroot,hsk,hB,hO⟩:=hrel;have hO':=Hd hO;clear hF hA hO;have hA:=hB;clear hB
  obtain⟨c,hc⟩:∃c,2 * root + 1=c:=⟨_,rfl⟩
  have ec:(2:Int) * (root:Int) + 1=(c:Int):=by omega
  by_cases hch:c < hi
  · obtain⟨p,hp⟩:∃p,first + c=p:=⟨_,rfl⟩
    obtain⟨q,hq⟩:∃q,first + root=q:=⟨_,rfl⟩
    have ep:(first:Int) + (c:Int)=(p:Int):=by omega
    have ep1:(first:Int) + ((c:Int) + 1)=(p:Int) + 1:=by omega
    have eq:(first:Int) + (root:Int)=(q:Int):=by omega
    have e1:=ZaA (d:=dk) (r:=r) (i:=p) (by omega);have e3:=ZaA (d:=dk) (r:=r) (i:=q) (by omega);by_cases h2:c + 1 < hi∧ltU (atU dk p) (atU dk (p + 1))=true
    · have hx:=ZiP (hi:=hi) (first:=first) (root:=root) (d:=dk) (by omega) (by rw[hc,hp];exact h2);rw[show 2 * root + 2=c + 1 by omega,hq,show first + (c + 1)=p + 1 by omega] at hx;obtain⟨h21,h22⟩:=h2;have h22':=Hd h22;have e2:=ZaA (d:=dk) (r:=r) (i:=p + 1) (by omega);have hg:decide ((c:Int) + 1 < (hi:Int))=true:=by simp;omega
      have hc':=Hd hc;have hp':=Hd hp;have hq':=Hd hq;clear hc hp hq h22;obtain⟨hA,hF⟩:=fY hA;cases hl:ltU (atU dk q) (atU dk (p + 1))
      all_goals
       rw[hl] at hx;simp only[Bool.false_eq_true,if_false,if_true] at hx;have hx':=Hd hx;have hl':=Hd hl;clear hx hl
      · go_wp2_with fail;refine cl7 hA ?_;clear hF hA;intro w1 hA hF;(try simp only[uY] at hA hF);go_wp2_with fail;refine cl0 hA ?_;clear hF hA;intro w1 hA hF;(try simp only[uY] at hA hF);go_wp2_with fail;refine bodyPost_ret (results_none rfl _ _ _) rfl ?_;exact⟨rfl,by rw[←hO'.out,hx'.out];exact hA⟩
      go_wp2_with fail;refine cl7 hA ?_;clear hF hA;intro w1 hA hF;(try simp only[uY] at hA hF);go_wp2_with fail;refine cl0 hA ?_;clear hF hA;intro w1 hA hF;(try simp only[uY] at hA hF);have b1:=hp'.out;have b2:=hq'.out;go_wp2_with fail;(try clear hF);(have k1:=Zak hA .here (i:=q) (by omega));(have k2:=Zak hA .here (i:=p + 1) (by omega));(have f1:=Zaj hA .here (q));(have f2:=Zaj hA .here (p + 1));go_region;(have hB:=(ZaT hA .here (i:=q) (j:=p + 1) (by omega) (by omega)).drew);(clear k1 k2 f1 f2 hA);(have hA:=hB);(clear hB);(generalize World.drew (World.setCell _ _ _)=wz at *)
      go_wp2_with fail;go_roundg (hi - (c + 1));case measure=>have:=hc'.out;omega
      case rel=>exact⟨c + 1,swp dk q (p + 1),by simp,Nat.le_refl _,by omega,by rw[Zav];exact hsk,hA,by rw[←hO'.out,hx'.out]⟩
    have hx:=ZiQ (hi:=hi) (first:=first) (root:=root) (d:=dk) (by omega) (by rw[hc,hp];exact h2);rw[hc,hq,hp] at hx;have hc':=Hd hc;have hp':=Hd hp;have hq':=Hd hq;clear hc hp hq;obtain⟨hA,hF⟩:=fY hA;by_cases h3:c + 1 < hi
    · have h4:ltU (atU dk p) (atU dk (p + 1))=false:=by simpa [h3] using h2
      have h4':=Hd h4;have e2:=ZaA (d:=dk) (r:=r) (i:=p + 1) (by have:=hp'.out;omega);have hg:decide ((c:Int) + 1 < (hi:Int))=true:=by simp;omega
      clear h2 h4;cases hl:ltU (atU dk q) (atU dk p)
      all_goals
       rw[hl] at hx;simp only[Bool.false_eq_true,if_false,if_true] at hx;have hx':=Hd hx;have hl':=Hd hl;clear hx hl
      · go_wp2_with fail;refine cl8 hA ?_;clear hF hA;intro w1 hA hF;(try simp only[uY] at hA hF);go_wp2_with fail;refine cl0 hA ?_;clear hF hA;intro w1 hA hF;(try simp only[uY] at hA hF);go_wp2_with fail;refine bodyPost_ret (results_none rfl _ _ _) rfl ?_;exact⟨rfl,by rw[←hO'.out,hx'.out];exact hA⟩
      go_wp2_with fail;refine cl8 hA ?_;clear hF hA;intro w1 hA hF;(try simp only[uY] at hA hF);go_wp2_with fail;refine cl0 hA ?_;clear hF hA;intro w1 hA hF;(try simp only[uY] at hA hF);have b1:=hp'.out;have b2:=hq'.out;go_wp2_with fail;(try clear hF);(have k1:=Zak hA .here (i:=q) (by omega));(have k2:=Zak hA .here (i:=p) (by omega));(have f1:=Zaj hA .here (q));(have f2:=Zaj hA .here (p));go_region;(have hB:=(ZaT hA .here (i:=q) (j:=p) (by omega) (by omega)).drew);(clear k1 k2 f1 f2 hA);(have hA:=hB);(clear hB);(generalize World.drew (World.setCell _ _ _)=wz at *)
      go_wp2_with fail;go_roundg (hi - c);case measure=>have:=hc'.out;omega
      case rel=>exact⟨c,swp dk q p,rfl,Nat.le_refl _,by omega,by rw[Zav];exact hsk,hA,by rw[←hO'.out,hx'.out]⟩
    have hg:decide ((c:Int) + 1 < (hi:Int))=false:=by simp;omega
    clear h2;cases hl:ltU (atU dk q) (atU dk p)
    all_goals
     rw[hl] at hx;simp only[Bool.false_eq_true,if_false,if_true] at hx;have hx':=Hd hx;have hl':=Hd hl;clear hx hl
    · go_wp2_with fail;refine cl2 hA ?_;clear hF hA;intro w1 hA hF;(try simp only[uY] at hA hF);go_wp2_with fail;refine cl0 hA ?_;clear hF hA;intro w1 hA hF;(try simp only[uY] at hA hF);go_wp2_with fail;refine bodyPost_ret (results_none rfl _ _ _) rfl ?_;exact⟨rfl,by rw[←hO'.out,hx'.out];exact hA⟩
    go_wp2_with fail;refine cl2 hA ?_;clear hF hA;intro w1 hA hF;(try simp only[uY] at hA hF);go_wp2_with fail;refine cl0 hA ?_;clear hF hA;intro w1 hA hF;(try simp only[uY] at hA hF);have b1:=hp'.out;have b2:=hq'.out;go_wp2_with fail;(try clear hF);(have k1:=Zak hA .here (i:=q) (by omega));(have k2:=Zak hA .here (i:=p) (by omega));(have f1:=Zaj hA .here (q));(have f2:=Zaj hA .here (p));go_region;(have hB:=(ZaT hA .here (i:=q) (j:=p) (by omega) (by omega)).drew);(clear k1 k2 f1 f2 hA);(have hA:=hB);(clear hB);(generalize World.drew (World.setCell _ _ _)=wz at *)
    go_wp2_with fail;go_roundg (hi - c);case measure=>have:=hc'.out;omega
    case rel=>exact⟨c,swp dk q p,rfl,Nat.le_refl _,by omega,by rw[Zav];exact hsk,hA,by rw[←hO'.out,hx'.out]⟩
  have hx:=Hd (Zep (hi:=hi) (first:=first) (root:=root) (d:=dk) (by omega));clear hc;go_wp2_with fail;go_end0
  exact⟨rfl,by rw[←hO'.out,hx.out];exact hA⟩
theorem Zb8 {hi first:Nat}:∀(n root:Nat) (d:Array Int),hi - root≤n→(siftDown ltInt hi first root d).size=d.size:=by
 intro n
 induction n with
 |zero=>
  intro root d h;rw[Zep (by omega)]
 |succ n ih=>
  intro root d h;by_cases h0:2 * root + 1 ≥ hi
  · rw[Zep h0]
  by_cases h1:2 * root + 1 + 1 < hi∧ltU (atU d (first + (2 * root + 1))) (atU d (first + (2 * root + 1) + 1))=true
  · rw[ZiP h0 h1];split
    · rw[ih _ _ (by omega),Zav]
    rfl
  rw[ZiQ h0 h1];split
  · rw[ih _ _ (by omega),Zav]
  rfl
def HeapB (w:World) (g:Nat) (d:Array Int) (r:List Value) (hi a:Nat) (k:Nat) (u:Value) (wr:World):Prop:=
 ∃dk:Array Int,u=.int .i64 ((k:Int) - 1)∧k≤d.size∧dk.size=d.size∧At [blkU g d r] w [blkU g dk r] wr∧heapBuild ltInt hi a k dk=heapBuild ltInt hi a ((hi - 1) / 2 + 1) d
def HeapP (w:World) (g:Nat) (d:Array Int) (r:List Value) (hi a:Nat) (d1:Array Int) (k:Nat) (u:Value) (wr:World):Prop:=
 ∃dk:Array Int,u=.int .i64 ((k:Int) - 1)∧k≤hi∧dk.size=d.size∧At [blkU g d r] w [blkU g dk r] wr∧heapPop ltInt a k dk=heapPop ltInt a hi d1
theorem Zhm {w:World} {g cap n:Nat} {d:Array Int} {r:List Value} (h:Sep [blkU g d r] w) (hn:d.size=n) {a b:Nat} (hab:a < b) (hb:b≤d.size) (hsz:d.size < 4611686018427387904):
 Calls Tryz.prog 216 #[.slice (some ⟨g,0,none⟩) n cap,.int .i64 a,.int .i64 b] w fun e w'=>e=.returned (.tuple #[])∧At [blkU g d r] w [blkU g (Sort.heapSort ltInt d a b) r] w':=by
 have hA:=At.start h;have hF:=hA.facts;clear h
 obtain⟨hi,hhi⟩:∃hi,b - a=hi:=⟨_,rfl⟩
 have ehi:(b:Int) - (a:Int)=(hi:Int):=by omega
 have hsort:=Hd (show Sort.heapSort ltInt d a b=heapPop ltInt a hi (heapBuild ltInt hi a ((hi - 1) / 2 + 1) d) by unfold Sort.heapSort;rw[hhi]);have hhi':=Hd hhi;have hhb:a + hi≤d.size:=by omega
 have h1:1≤hi:=by omega
 clear hhi;have hdiv:=Hd (show((hi:Int) - 1) / 2=(((hi - 1) / 2 + 1:Nat):Int) - 1 by omega);go_enter Tryz.func216,Tryz.ntmps216;go_wp2_with fail;go_loopg [9] ((hi - 1) / 2 + 1) (HeapB w g d r hi a)
 case atStart=>exact⟨d,by rw[hdiv.out],by omega,rfl,hA,rfl⟩
 case round=>
  obtain⟨dk,rfl,hk,hsk,hB,hO⟩:=hrel;have hO':=Hd hO;clear hF hA hO;have hA:=hB;clear hB;obtain⟨hA,hF⟩:=fY hA;rcases Nat.eq_zero_or_pos gk with h0|hpos
  · subst h0;have e1:=Hd (show dk=heapBuild ltInt hi a ((hi - 1) / 2 + 1) d by rw[←hO'.out];rfl);go_wp2_with fail;go_loopg [10] hi (HeapP w g d r hi a dk)
    case atStart=>exact⟨dk,by first|rfl|simp,Nat.le_refl _,hsk,hA,rfl⟩
    case round=>
     obtain⟨dj,rfl,hk2,hsj,hB,hP⟩:=hrel;have hP':=Hd hP;clear hF hA hP;have hA:=hB;clear hB;obtain⟨hA,hF⟩:=fY hA;rcases Nat.eq_zero_or_pos gk with h0|hpos
     · subst h0;go_wp2_with fail;go_end0
       exact⟨rfl,by rw[hsort.out,←e1.out,←hP'.out];exact hA⟩
     obtain⟨m,rfl⟩:∃m,gk=m + 1:=⟨gk - 1,by omega⟩
     obtain⟨q,hq⟩:∃q,a + m=q:=⟨_,rfl⟩
     have eq:(a:Int) + (m:Int)=(q:Int):=by omega
     have hm:((m + 1:Nat):Int) - 1=(m:Int):=by omega
     rw[hm];clear hm;by_cases haq:a=q
     · subst haq;go_wp2_with fail;(try clear hF);(have k1:=Zak hA .here (i:=a) (by omega));(have k2:=Zak hA .here (i:=a) (by omega));(have f1:=Zaj hA .here (a));(have f2:=Zaj hA .here (a));go_region;(have hB:=(ZaT hA .here (i:=a) (j:=a) (by omega) (by omega)).drew);(clear k1 k2 f1 f2 hA);(have hA:=hB);(clear hB);(generalize World.drew (World.setCell _ _ _)=wz at *)
       go_wp2_with fail;refine(Zco (g:=g) (d:=swp dj a a) (r:=r) (hA.sep1 sR) (by rw[Zav];exact hsj.trans hn) (lo:=0) (hi:=m) (first:=a) (by rw[Zav];omega) (by omega) (by rw[Zav];omega)).mono ?_;rintro e w1 ⟨rfl,hT⟩;replace hA:=hA.call1 sR hT;clear hT;obtain⟨hA,hF⟩:=fY hA;go_wp2_with fail;go_roundg m;case measure=>omega
       case rel=>exact⟨siftDown ltInt m a 0 (swp dj a a),by first|rfl|simp,by omega,by rw[Zb8 _ _ _ (Nat.le_refl _),Zav];exact hsj,hA,by rw[←hP'.out,heapPop,hq]⟩
     go_wp2_with fail;(try clear hF);(have k1:=Zak hA .here (i:=a) (by omega));(have k2:=Zak hA .here (i:=q) (by omega));(have f1:=Zaj hA .here (a));(have f2:=Zaj hA .here (q));go_region;(have hB:=(ZaT hA .here (i:=a) (j:=q) (by omega) (by omega)).drew);(clear k1 k2 f1 f2 hA);(have hA:=hB);(clear hB);(generalize World.drew (World.setCell _ _ _)=wz at *)
     go_wp2_with fail;refine(Zco (g:=g) (d:=swp dj a q) (r:=r) (hA.sep1 sR) (by rw[Zav];exact hsj.trans hn) (lo:=0) (hi:=m) (first:=a) (by rw[Zav];omega) (by omega) (by rw[Zav];omega)).mono ?_;rintro e w1 ⟨rfl,hT⟩;replace hA:=hA.call1 sR hT;clear hT;obtain⟨hA,hF⟩:=fY hA;go_wp2_with fail;go_roundg m;case measure=>omega
     case rel=>exact⟨siftDown ltInt m a 0 (swp dj a q),by first|rfl|simp,by omega,by rw[Zb8 _ _ _ (Nat.le_refl _),Zav];exact hsj,hA,by rw[←hP'.out,heapPop,hq]⟩
  obtain⟨m,rfl⟩:∃m,gk=m + 1:=⟨gk - 1,by omega⟩
  have hm:((m + 1:Nat):Int) - 1=(m:Int):=by omega
  rw[hm];clear hm;go_wp2_with fail;refine(Zco (g:=g) (d:=dk) (r:=r) (hA.sep1 sR) (hsk.trans hn) (lo:=m) (hi:=hi) (first:=a) (by omega) (by omega) (by omega)).mono ?_;rintro e w1 ⟨rfl,hT⟩;replace hA:=hA.call1 sR hT;clear hF hT;obtain⟨hA,hF⟩:=fY hA;go_wp2_with fail;go_roundg m;case measure=>omega
  case rel=>exact⟨siftDown ltInt hi a m dk,by first|rfl|simp,by omega,by rw[Zb8 _ _ _ (Nat.le_refl _)];exact hsk,hA,by rw[←hO'.out];rfl⟩
def RevRel (w:World) (g:Nat) (d:Array Int) (r:List Value) (a b:Nat) (k:Nat) (u v:Value) (wr:World):Prop:=
 ∃(i j:Nat) (dk:Array Int),u=.int .i64 i∧v=.int .i64 j∧j - i≤k∧j < d.size∧i≤d.size∧dk.size=d.size∧At [blkU g d r] w [blkU g dk r] wr∧reverseLoop i j dk=reverseLoop a (b - 1) d
theorem ZhX {w:World} {g cap n:Nat} {d:Array Int} {r:List Value} (h:Sep [blkU g d r] w) (hn:d.size=n) {a b:Nat} (hab:a < b) (hb:b≤d.size) (hsz:d.size < 4611686018427387904):
 Calls Tryz.prog 219 #[.slice (some ⟨g,0,none⟩) n cap,.int .i64 a,.int .i64 b] w fun e w'=>e=.returned (.tuple #[])∧At [blkU g d r] w [blkU g (Sort.reverseRange d a b) r] w':=by
 have hA:=At.start h;have hF:=hA.facts;clear h;go_enter Tryz.func219,Tryz.ntmps219;go_wp2_with fail;go_loopg [6,7] (b - 1 - a) (RevRel w g d r a b)
 case atStart=>exact⟨a,b - 1,d,rfl,by congr 1;omega,Nat.le_refl _,by omega,by omega,rfl,hA,rfl⟩
 case round=>
  obtain⟨i,j,dk,rfl,rfl,hk,hj,hi,hsk,hB,hO⟩:=hrel;replace hA:=hB;clear hF hB;obtain⟨hA,hF⟩:=fY hA;by_cases hij:i < j
  · have e1:=ZaA (d:=dk) (r:=r) (i:=i) (by omega);have e2:=ZaA (d:=dk) (r:=r) (i:=j) (by omega);have hx:=Hd (show reverseLoop i j dk=reverseLoop (i + 1) (j - 1) (swp dk i j) by rw[reverseLoop,if_pos hij]);have hO':=Hd hO;clear hO;go_wp2_with fail;(try clear hF);(have k1:=Zak hA .here (i:=i) (by omega));(have k2:=Zak hA .here (i:=j) (by omega));(have f1:=Zaj hA .here (i));(have f2:=Zaj hA .here (j));go_region;(have hB:=(ZaT hA .here (i:=i) (j:=j) (by omega) (by omega)).drew);(clear k1 k2 f1 f2 hA);(have hA:=hB);(clear hB);(generalize World.drew (World.setCell _ _ _)=wz at *)
    go_wp2_with fail;go_roundg (j - 1 - (i + 1));case measure=>omega
    case rel=>exact⟨i + 1,j - 1,swp dk i j,by simp,by congr 1;omega,Nat.le_refl _,by omega,by omega,by rw[Zav];exact hsk,hA,by rw[←hO'.out,hx.out]⟩
  have hx:=Hd (show reverseLoop i j dk=dk by rw[reverseLoop,if_neg hij]);have hO':=Hd hO;clear hO;go_wp2_with fail;go_end0
  refine⟨rfl,?_⟩;unfold Sort.reverseRange;rw[←hO'.out,hx.out];exact hA
end SortU
end
section
namespace Unt
open Go.RowKit Go.Shelf
open Go.Maps (Keyed)
attribute [local go_sem] Oper.semAt_some
def seV (p:Int):Value:=.int .u64 p
def seL (p:Int):List Value:=[.int .u64 p]
def unS:Value→Int
 |.int _ a=>a
 |_=>0
theorem unS_seV (p:Int):unS (seV p)=p:=rfl
theorem perm_of_seV {l m:List (Int)} (h:(l.map seV).Perm (m.map seV)):l.Perm m:=by
 have:=h.map unS
 simpa [List.map_map,Function.comp_def,unS_seV] using this
def seenOf (w:World) (r:Nat):Nat:=match w.heap[r]? with|some (.mapIter _ _ seen _)=>seen.size|_=>0
theorem seenOf_eq {P:Program} {k:TypeId} {w:World} {r b:Nat} {es done:List (Value × Value)} (h:Zat P k w r b es done):seenOf w r=done.length:=by
 obtain⟨_,_,ents,clock,c0,vs,hb,hr,hc,hd,_⟩:=h;unfold seenOf;rw[hr,←hd];simp
theorem iter_walk {P:Program} {k:TypeId} {w:World} {r b:Nat} {es done:List (Value × Value)} (h:Zat P k w r b es done):∃o:Obj,w.heap[r]? =some o∧o.isWalk=true:=by
 obtain⟨_,_,ents,clock,c0,vs,hb,hr,_⟩:=h;exact⟨_,hr,rfl⟩
theorem iter_keeps {P:Program} {k:TypeId} {w w':World} {r b:Nat} {es done:List (Value × Value)} (h:Zat P k w r b es done) (hk:KeepsWalks w w'):Zat P k w' r b es done:=by
 have h0:=h;obtain⟨_,_,ents,clock,c0,vs,hb,hr,_⟩:=h0;exact h.same ((hk.same b _ hb rfl).trans hb.symm) ((hk.same r _ hr rfl).trans hr.symm)
theorem grown_of_exc {w w':World} {r:Nat} (h:Exc (fun q=>q=r) w w'):w.grownBy w' (some r):=⟨h.os,h.tape,h.output,h.size,fun k hk hn=>h.block k hk (fun e=>hn (by rw[e]))⟩
theorem grown_of_ext {w w':World} (h:Ext w w'):w.grownBy w' none:=⟨Below.os h,Below.tape h,Below.output h,Below.size h,fun k hk _=>Below.block h k hk⟩
theorem keys1_in (F:Fence) (n:Nat) (h1:F.fn 160) (hro:F.round=none) (hn:1≤n) (l Bm b:Nat) (es:List (Value × Value)) (ks:List (Int)) (hes:es.map (·.1)=ks.map seV) (J Jx:List (Int)→World→Prop)
 (W:World) (hJ:AbidesFrom W.heap.size J)
 (hY:∀pre x W1,J pre W1→pre.length < ks.length→YieldAt F (n - 1) Tryz.prog l #[seV x] W1 fun e W'=>(e=.returned (.bool true)∧J (pre++[x]) W'∧KeepsWalks W1 W')∨(e=.returned (.bool false)∧Jx (pre++[x]) W'))
 (hm:W.cell? ⟨Bm,0,none⟩=some (.map (some b))) (hM:MapAt Tryz.prog 22 W b es) (h0:J [] W):
 CallsIn F n Tryz.prog 160 #[.func (.yield l) #[] #[],.pointer (some ⟨Bm,0,none⟩)] W fun e W'=>(∃v,e=.returned v)∧((∃ys,ys.Perm ks∧J ys W')∨(∃pre,True∧Jx pre W')):=by
 obtain⟨W0,hrun,hext,hI⟩:=Zat.start hM Tryz.underlying149;have hJ0:J [] W0:=hJ _ W W0 none h0 (grown_of_ext hext) (fun r e=>by cases e);refine callsIn_of_wp Tryz.func160 rfl h1 ?_ hro;simp only[Tryz.ntmps160,List.size_toArray,List.length_cons,List.length_nil,Nat.reduceAdd,Nat.reduceSub,Array.replicate_succ,Array.replicate_zero,List.push_toArray,List.append_toArray,List.nil_append,List.cons_append];gi_wp2
 clear hrun;(try go_frame)
 gi_loopw [3] (fun _ wr=>∃(done:List (Value × Value)) (ds:List (Int)),Zat Tryz.prog 22 wr W.heap.size b es done∧done.map (·.1)=ds.map seV∧J ds wr)
  (fun _ wr=>es.length - seenOf wr W.heap.size)
 case atStart=>exact⟨[],[],hI,rfl,hJ0⟩
 case round=>
  obtain⟨done,ds,hI1,hd,hJs⟩:=hrel;rcases hI1.next 0 with⟨hp,hrun⟩|⟨p,w',hp,hne,hrun,hI2,hx⟩
  · have hpp:ds.Perm ks:=(perm_of_seV (by rw[←hes,←hd];exact hp.map _)).symm;clear hes hd;gi_wp2
    go_end0
    exact⟨⟨_,rfl⟩,.inl ⟨ds,hpp,hJs⟩⟩
  obtain⟨pk,pv⟩:=p;have hpk:pk ∈ es.map (·.1):=List.mem_map.2 ⟨_,hp,rfl⟩;rw[hes] at hpk;obtain⟨x,_,rfl⟩:=List.mem_map.1 hpk
  have hlen:ds.length < ks.length:=by
   have e1:=congrArg List.length hes;have e2:=congrArg List.length hd;have e3:=hI2.len;simp at e1 e2 e3
   omega
  have hJ1:J ds w':=hJ ds wr w' (some W.heap.size) hJs (grown_of_exc hx) (fun r e=>by cases e;exact⟨Nat.le_refl _,iter_walk hI1⟩);have hI3:=hI2;obtain⟨fn,tmps,assign,body,hy,hR⟩:=hY ds x _ hJ1 hlen;have hen:=hI2.entry;have hs0:=seenOf_eq hI1;have hes':=Hd hes;have hd':=Hd hd;have hs':=Hd hs0;have hle:=hI2.len;clear hes hd hs0 hpk hp hne hx;unfold seV at hrun hen hy;gi_wp2
  refine hR.mono ?_;rintro e W3 (⟨rfl,hJ3,hk3⟩|⟨rfl,hJx3⟩)
  · gi_wp2
    go_roundw
    case rel=>exact⟨done++[(seV x,pv)],ds++[x],iter_keeps hI3 hk3,by simp[hd'.out],hJ3⟩
    case measure=>
     have e1:=seenOf_eq (iter_keeps hI3 hk3);have e2:=hs'.out;rw[e1,e2];simp at hle ⊢
     omega
  gi_wp2
  refine bodyPost_ret (results_none rfl _ _ _) rfl ?_;exact⟨⟨_,rfl⟩,.inr ⟨_,trivial,hJx3⟩⟩
theorem keys_in (F:Fence) (n:Nat) (h1:F.fn 126) (hro:F.round=none) (mb:Option Nat) (w:World):
 CallsIn F n Tryz.prog 126 #[.map mb] w fun e w'=>e=.returned (.func (.func 160) #[] #[.pointer (some ⟨w.heap.size,0,none⟩)])∧w'=w.alloc (.cells #[.map mb] 149):=by
 refine callsIn_of_wp Tryz.func126 rfl h1 ?_ hro;simp only[Tryz.ntmps126,List.size_toArray,List.length_cons,List.length_nil,Nat.reduceAdd,Nat.reduceSub,Array.replicate_succ,Array.replicate_zero,List.push_toArray,List.append_toArray,List.nil_append,List.cons_append];gi_wp2
 go_ret;exact⟨rfl,rfl⟩
theorem keys_stops (F:Fence) (n:Nat) (h1:F.fn 160) (hro:F.round=none) (hn:1≤n) (Bm b:Nat) (es:List (Value × Value)) (ks:List (Int)) (hes:es.map (·.1)=ks.map seV) (w:World) (hBm:Bm < w.heap.size)
 (hm:w.cell? ⟨Bm,0,none⟩=some (.map (some b))) (hM:MapAt Tryz.prog 22 w b es):
 SeqStopsK F n Tryz.prog 160 #[.pointer (some ⟨Bm,0,none⟩)] (fun x:Int=> #[seV x]) KeepsWalks (fun ys=>ys.Perm ks) (fun _=>True) ks.length w:=fun l J Jx W hW hJ _ hY h0=>
 keys1_in F n h1 hro hn l Bm b es ks hes J Jx W hJ hY ((hW.cell (p:=⟨Bm,0,none⟩) hBm).trans hm) (hM.same (hW.block b hM.lt)) h0
theorem infoID:(Tryz.prog.info? 22).map (fun i=>(i.zero,i.size,i.bytes))=some (some (.int .u64 0),1,8):=by kernel_rfl
theorem one_new (W:World) (x:Value) (t:TypeId):∀(j:Nat) (u:Value),[x][j]? =some u→(W.alloc (.cells #[x] t)).cell? ((⟨W.heap.size,0,none⟩:Addr).add j)=some u:=by
 intro j u h
 match j,h with
 |0,h=>simp at h;subst h;simp[Addr.add]
 |j + 1,h=>simp at h
def MidI (w:World) (pre:List (Int)) (W:World):Prop:=
 (∃v,Boxed W w.heap.size 159 v∧W.ownsRow w.heap.size 22 1 v pre.length (pre.flatMap seL)∧(v=.slice none 0 0↔pre=[]))∧Below w.heap.size w W
theorem midI_own (w:World) (B:Nat) (hB:w.heap.size≤B):OwnFrom B (MidI w):=
 OwnFrom.and (Own.from (holdsRow_own w.heap.size w.heap.size 159 22 1 (fun pre=>pre.length) (fun pre=>pre.flatMap seL) (fun pre v=>v=.slice none 0 0↔pre=[])) _) (ownFrom_below (Nat.le_refl _) hB)
def MidAx (w:World) (sv:Value) (x:Int) (a':Act) (W:World):Prop:=
 a'={tmps:= #[.slice none 0 0,sv,.pointer (some ⟨w.heap.size,0,none⟩),undef,.slice none 0 0,seV x,sv,seV x,undef,undef,undef,undef,undef],defers:=[]}
theorem midAx_own (w:World) (sv:Value) (B:Nat) (x:Int) (a':Act):OwnFrom B (fun(_:Unit) W=>MidAx w sv x a' W):=by
 rintro s X Y row h3 hg hr;exact h3
theorem appendSeq_in (F:Fence) (n:Nat) (hF:F.fn 185) (hro:F.round=none) (hn:3≤n) (gf:Nat) (lb:Array Value) (hFg:F.fn gf) (eg:∀args w,(callFunc gf args).run Tryz.prog w=.ok (.enter gf args) w)
 (S Sp:List (Int)→Prop) (N:Nat) (hN:N≤100000000) (w:World) (hseq:SeqStopsK F (n - 1) Tryz.prog gf lb (fun x:Int=> #[seV x]) KeepsWalks S Sp N w):
 CallsIn F n Tryz.prog 185 #[.slice none 0 0,.func (.func gf) #[] lb] w fun e w'=>∃(v:Value) (ss:List (Int)),e=.returned v∧S ss∧w'.ownsRow w.heap.size 22 1 v ss.length (ss.flatMap seL)∧(v=.slice none 0 0↔ss=[])∧Below w.heap.size w w':=by
 have h1:1≤n:=by omega
 obtain⟨i0,hi,hz0,hz1,hz2⟩:=info_parts infoID;refine callsIn_of_wp_marks Tryz.func185 rfl hF ?_ hro;simp only[Tryz.ntmps185,List.size_toArray,List.length_cons,List.length_nil,Nat.reduceAdd,Nat.reduceSub,Array.replicate_succ,Array.replicate_zero,List.push_toArray,List.append_toArray,List.nil_append,List.cons_append];gi_wp2
 have bO:=Boxed.new w 159 (.slice none 0 0);have hB0:Below w.heap.size w (w.alloc (.cells #[.slice none 0 0] 159)):=(Below.refl _ w).alloc (Nat.le_refl _) _
 refine wpIn_rangeFunc_ownH hro h1 (gf:=gf) (lb:=lb) rfl hFg eg hseq walksK_t walksK_b hB0 (fun _=>rfl)
  (MidI w) (fun _ _ _=>False) (midI_own w _ (by simp)) (fun _ _ _ _ _ hs _ _=>hs)
  ⟨⟨_,bO,World.ownsRow_nil _ _ _ _,by simp⟩,hB0⟩
  (MidAx w (.func (.func gf) #[] lb)) (fun x a'=>midAx_own w _ _ x a') ?assign ?body ?done ?stop
 case assign=>
  rintro l pre x W K ⟨⟨v,hv,hrow,hnil⟩,hB⟩ hK;have hsz:=hB.size;unfold seV;gi_wp2
  refine hK _ _ ((KeepsOthers.refl _).from _) (KeepsWalks.refl _) ⟨⟨v,hv,hrow,hnil⟩,hB⟩ rfl
 case body=>
  rintro l pre x a' W hl ⟨r,hr⟩ ⟨⟨v,hv,hrow,hnil⟩,hB⟩ rfl hlt;have hc:=hv.cell;have hsz:=hB.size;unfold seV
  gi_wp2_with (gi_at_builtin;refine wpListIn_append_own _ rfl _ _ 159 rfl w.heap.size 22 i0 (.int .u64 0) 1 8 Tryz.underlying159 hi hz0 hz1 hz2 rfl (by decide) _ _ _ rfl (hrow.alloc _) ⟨W.heap.size,0,none⟩ 1 1 [.int .u64 x] rfl rfl (one_new _ _ _) (by simp[Value.oneCell']) (by unfold maxLen;omega) (by omega) (by simp;omega) ?_;intro v' w1 hown' hgrow _;obtain⟨g',cap',rfl⟩:=ownsRow_succ hown';obtain⟨hv1,hv2,hr2,hk2,hb2⟩:=hv.appended (by decide) hrow hB.size (Nat.le_refl _) hown' hgrow;have hc1:=hv1.cell;have hf1:=hv1.frozen)
  exact⟨hk2.from _,hk2.walks,⟨_,hv2,by simpa [seL] using hr2,by simp⟩,hB.trans hb2⟩
 case done=>
  rintro D ys W hD hS ⟨⟨v,hv,hrow,hnil⟩,hB⟩ hK;have hc:=hv.cell;gi_wp2
  refine⟨by simp,.inl ⟨_,_,rfl,run_takeDeferred hK,?_⟩⟩;exact⟨_,results_tmp rfl _ _ _,v,ys,rfl,hS,ownsRow_putObj hrow _ hK rfl,hnil,hB.trans (belowK_b (w:=w) (Nat.le_refl _) W D _ _ (by simp at hD;omega) hK rfl rfl)⟩
 case stop=>
  rintro D c pre W _ _ h _;exact h.elim
end Unt
end
section
namespace Lease
open Go.RowKit
structure AR where
 r:Int
 e:Int
 n:Int
 g:Bool
structure SR where
 num:Int
 foot:ByteArray
 op:Bool
 dead:Bool
 dl:Int
 ttl:Int
 ax:Option Addr
 cap:Nat
 told:List AR
def SR.tv (s:SR):Value:=.slice s.ax s.told.length s.cap
def AR.cells (a:AR):List Value:=[.int .u64 a.r,.int .i64 a.e,.int .u64 a.n,.bool a.g]
def SR.cells (s:SR):List Value:=[.int .u64 s.num,.string s.foot,.bool s.op,.bool s.dead,.int .i64 s.dl,.int .i64 s.ttl,s.tv]
theorem SR.cells_len (s:SR):s.cells.length=7:=rfl
theorem SR.ones (s:SR):s.cells.all (·.oneCell')=true:=rfl
theorem SR.one (s:SR):∀u ∈ s.cells,u.oneCell'=true:=List.all_eq_true.1 s.ones
def flatR (L:List SR):List Value:=L.flatMap SR.cells
abbrev rowR (v:Value) (L:List SR):Part:=.row 84 7 v L.length (flatR L)
def SR.is (n:Int) (f:ByteArray) (s:SR):Bool:=s.num==n&&(s.foot.toList==f.toList)
def noSR (n:Int) (f:ByteArray):SR:=⟨n,f,false,false,0,0,none,0,[]⟩
def findR (L:List SR) (n:Int) (f:ByteArray):SR:=(L.find? (SR.is n f)).getD (noSR n f)
theorem Zdz {α:Type} {p:α→Bool}:∀{l:List α} {i:Nat} {y:α},l[i]? =some y→(∀x ∈ l.take i,p x=false)→p y=true→l.find? p=some y
 |z::l,0,y,h,_,hy=>by simp at h;subst h;simp[hy]
 |z::l,i + 1,y,h,hn,hy=>by
  rw[List.find?_cons_of_neg (by rw[hn z (by simp)];simp)];exact Zdz (by simpa using h) (fun x hx=>hn x (by simp[hx])) hy
 |[],i,y,h,_,_=>by simp at h
theorem ZnO {L:List SR} {n:Int} {f:ByteArray} {i:Nat} (h:i < L.length) (hn:∀x ∈ L.take i,SR.is n f x=false) (hy:SR.is n f L[i]=true):findR L n f=L[i]:=by
 unfold findR;rw[Zdz (List.getElem?_eq_getElem h) hn hy];rfl
theorem Zfw {L:List SR} {n:Int} {f:ByteArray} (hn:∀x ∈ L,SR.is n f x=false):findR L n f=noSR n f:=by
 unfold findR;rw[List.find?_eq_none.2 (fun x hx=>by rw[hn x hx];simp)];rfl
theorem ZbO {L0 K F:List Part} {w0 w:World} {g cap:Nat} {c:List Value} {L:List SR} (hA:At L0 w0 K w) (s:Sel (Part.cells g c 84) K F) (hcl:c.length=cap * 7) (hcap:L.length≤cap) (hcm:cap≤maxLen) (hct:c.take (L.length * 7)=flatR L):
 At L0 w0 (rowR (.slice (some ⟨g,0,none⟩) L.length cap) L::F) w:=hA.row_shut s hcl hcap hcm hct
abbrev zeroS (b:Nat):Part:=.cells b [.int .u64 0,.string .empty,.bool false,.bool false,.int .i64 0,.int .i64 0,.slice none 0 0] 84
def Zop (w:World) (v:Value) (L:List SR) (n:Int) (f:ByteArray) (b1 b2:Nat) (k:Nat) (u:Value) (wr:World):Prop:=
 ∃i:Nat,u=.int .i64 i∧i + k=L.length∧At [rowR v L] w [zeroS b2,Part.cells b1 [v] 30,rowR v L] wr∧∀x ∈ L.take i,SR.is n f x=false
theorem findR_any {w:World} {v:Value} {L:List SR} (h:Sep [rowR v L] w) (n:Int) (f:ByteArray) (hmax:L.length≤1000000):
 Calls Tryz.prog 26 #[.agg #[v],.int .u64 n,.string f] w fun e w'=>e=.returned (.agg (findR L n f).cells.toArray)∧At [rowR v L] w [rowR v L] w':=by
 have hA:=At.start h;have hF:=hA.facts;clear h;obtain⟨ax,cap,rfl,hax,hcap,_⟩:=hA.row_form (v:=v) (xs:=flatR L) sR;go_enter Tryz.func26,Tryz.ntmps26
 go_wp2_with (first
  |(refine Za0 (E:=30) rfl rfl (by(try simp only[Act.eval,eV])<;>exact rfl) (by exact rfl) hA ?_;intro bB w1 hB hbB;replace hA:=hB;clear hF hB;obtain⟨hA,hF⟩:=fY hA)
  |((with_reducible refine gst ?_);refine wTy hA ?_;clear hF hA;intro w1 hA hF)|((with_reducible refine gbx ?_);refine wCy hA ?_;clear hF hA;intro b1 w1 hA hb1 hF)|((with_reducible refine gal ?_);refine wGy 84 [.int .u64 0,.string .empty,.bool false,.bool false,.int .i64 0,.int .i64 0,.slice none 0 0] hA ?_;clear hF hA;intro b1 w1 hA hb1 hF))
 (try go_frame);go_loopg [7] L.length (Zop w (.slice ax L.length cap) L n f bB b1)
 case atStart=>exact⟨0,rfl,by simp,hA,by simp⟩
 case round=>
  obtain⟨i,rfl,hik,hB,hno⟩:=hrel;have hno':=Hd hno;clear hF hA hno;have hA:=hB;clear hB;by_cases hi:i < L.length
  · obtain⟨g,c,rfl,_,hcm,hcl,hct,hB⟩:=hA.row_open (ax:=ax) (cap:=cap) (n:=L.length) (xs:=flatR L) sR (by omega);have hx:L[i]? =some L[i]:=List.getElem?_eq_getElem hi;have c0:c[i * 7]? =some (.int .u64 L[i].num):=Zae SR.cells_len hct hx 0 (by omega);have c1:c[i * 7 + 1]? =some (.string L[i].foot):=Zae SR.cells_len hct hx 1 (by omega);have c2:c[i * 7 + 2]? =some (.bool L[i].op):=Zae SR.cells_len hct hx 2 (by omega);have c3:c[i * 7 + 3]? =some (.bool L[i].dead):=Zae SR.cells_len hct hx 3 (by omega);have c4:c[i * 7 + 4]? =some (.int .i64 L[i].dl):=Zae SR.cells_len hct hx 4 (by omega);have c5:c[i * 7 + 5]? =some (.int .i64 L[i].ttl):=Zae SR.cells_len hct hx 5 (by omega);have c6:c[i * 7 + 6]? =some L[i].tv:=Zae SR.cells_len hct hx 6 (by omega);clear hA;have hA:=hB;clear hB;obtain⟨hA,hF⟩:=fY hA
    have more:∀{b:Bool},SR.is n f L[i]=b→b=false→∀x ∈ L.take (i + 1),SR.is n f x=false:=fun e e2 x hx=>by
     rw[List.take_succ_eq_append_getElem hi] at hx;rcases List.mem_append.1 hx with hx|hx
     · exact hno'.out x hx
     rw[List.mem_singleton.1 hx,e,e2]
    by_cases h1:L[i].num=n
    · have h1':(L[i].num==n)=true:=by simpa using h1
      cases h2:(L[i].foot.toList==f.toList)
      · have hm:=Hd (more (b:=false) (by simp[SR.is,h1',h2]) rfl);clear more;go_wp2_with fail;go_roundg (gk - 1);case measure=>omega
        case rel=>exact⟨i + 1,by simp,by omega,(ZbO hA sR hcl hcap hcm hct).only3 sR sR sR,hm.out⟩
      have hfi:=ZnO hi hno'.out (show SR.is n f L[i]=true by simp[SR.is,h1',h2]);have hfi':=Hd hfi;clear hfi more
      go_wp2_with (refine Zam (b:=b1) (j:=0) (vs:=SR.cells L[i]) rfl rfl rfl (by(try simp only[Act.eval,eV])<;>exact rfl) (by first|exact rfl|(rw[←h1];rfl)|simp[SR.cells,h1,Value.cells]) hA sR (by kernel_rfl) (SR.ones _) (by show 0 + 7≤7;omega) ?_;intro w1 hB;replace hA:=hB;clear hF hB;simp only[SR.cells] at hA;obtain⟨hA,hF⟩:=fY hA)
      refine bodyPost_ret (v:=.agg (SR.cells L[i]).toArray) (by simp[SR.cells,results,Tryz.results26,go_sem,hF]) rfl ⟨by rw[hfi'.out],(ZbO hA sR hcl hcap hcm hct).only1 sR⟩
    have h1':(L[i].num==n)=false:=by simpa using h1
    have hm:=Hd (more (b:=false) (by simp[SR.is,h1']) rfl);clear more;go_wp2_with fail;go_roundg (gk - 1);case measure=>omega
    case rel=>exact⟨i + 1,by simp,by omega,(ZbO hA sR hcl hcap hcm hct).only3 sR sR sR,hm.out⟩
  have hfi:=Zfw (fun x hx=>hno'.out x (by rw[List.take_of_length_le (by omega)];exact hx));have hfi':=Hd hfi;clear hfi;obtain⟨hA,hF⟩:=fY hA
  go_wp2_with ((with_reducible refine gst ?_);refine wTy hA ?_;clear hF hA;intro w1 hA hF)
  refine bodyPost_ret (v:=.agg (SR.cells (noSR n f)).toArray) (by simp[SR.cells,SR.tv,noSR,results,Tryz.results26,go_sem,hF]) rfl ⟨by rw[hfi'.out],hA.only1 sR⟩
end Lease
end
section
namespace Lease
open Go.RowKit
theorem AR.cells_len (s:AR):s.cells.length=4:=rfl
theorem AR.ones (s:AR):s.cells.all (·.oneCell')=true:=rfl
def flatA (l:List AR):List Value:=l.flatMap AR.cells
abbrev rowA (v:Value) (l:List AR):Part:=.row 44 4 v l.length (flatA l)
def noAR:AR:=⟨0,0,0,false⟩
def saidA (l:List AR) (r:Int):Option AR:=l.find? (fun a=>a.r==r)
theorem ZiS {L0 K F:List Part} {w0 w:World} {g cap:Nat} {c:List Value} {l:List AR} (hA:At L0 w0 K w) (s:Sel (Part.cells g c 44) K F) (hcl:c.length=cap * 4) (hcap:l.length≤cap) (hcm:cap≤maxLen) (hct:c.take (l.length * 4)=flatA l):
 At L0 w0 (rowA (.slice (some ⟨g,0,none⟩) l.length cap) l::F) w:=hA.row_shut s hcl hcap hcm hct
abbrev zeroA (b:Nat):Part:=.cells b [.int .u64 0,.int .i64 0,.int .u64 0,.bool false] 44
def ZpK (w:World) (s:SR) (r:Int) (b1 b2:Nat) (k:Nat) (u:Value) (wr:World):Prop:=
 ∃i:Nat,u=.int .i64 i∧i + k=s.told.length∧At [rowA s.tv s.told] w [zeroA b2,Part.cells b1 s.cells 84,rowA s.tv s.told] wr∧∀x ∈ s.told.take i,(x.r==r)=false
theorem Zc5 {w:World} {s:SR} (h:Sep [rowA s.tv s.told] w) (r:Int) (hmax:s.told.length≤1000000):
 Calls Tryz.prog 29 #[.agg s.cells.toArray,.int .u64 r] w fun e w'=>e=.returned (.tuple #[.agg ((saidA s.told r).getD noAR).cells.toArray,.bool (saidA s.told r).isSome])∧At [rowA s.tv s.told] w [rowA s.tv s.told] w':=by
 obtain⟨num,foot,op,dead,dl,ttl,ax,cap,told⟩:=s;have hA:=At.start h;have hF:=hA.facts;clear h;simp only[SR.tv] at *
 obtain⟨ax',cap',he0,hax,hcap,_⟩:=hA.row_form (v:=.slice ax told.length cap) (xs:=flatA told) sR;cases he0;unfold SR.cells;go_enter Tryz.func29,Tryz.ntmps29
 go_wp2_with (first
  |(refine Za0 (E:=84) rfl rfl (by(try simp only[Act.eval,eV])<;>exact rfl) (by exact rfl) hA ?_;intro bB w1 hB hbB;replace hA:=hB;clear hF hB;obtain⟨hA,hF⟩:=fY hA)
  |((with_reducible refine gst ?_);refine wTy hA ?_;clear hF hA;intro w1 hA hF)|((with_reducible refine gbx ?_);refine wCy hA ?_;clear hF hA;intro b1 w1 hA hb1 hF)|((with_reducible refine gal ?_);refine g13 hA ?_;clear hF hA;intro b1 w1 hA hb1 hF))
 (try go_frame);go_loopg [6] told.length (ZpK w ⟨num,foot,op,dead,dl,ttl,ax,cap,told⟩ r bB b1)
 case atStart=>exact⟨0,rfl,by simp,hA,by simp⟩
 case round=>
  obtain⟨i,rfl,hik,hB,hno⟩:=hrel;have hno':=Hd hno;clear hF hA hno;have hA:=hB;clear hB;simp only[SR.cells,SR.tv] at hA hik hno';by_cases hi:i < told.length
  · obtain⟨g,c,rfl,_,hcm,hcl,hct,hB⟩:=hA.row_open (ax:=ax) (cap:=cap) (n:=told.length) (xs:=flatA told) sR (by omega);have hx:told[i]? =some told[i]:=List.getElem?_eq_getElem hi;have c0:c[i * 4]? =some (.int .u64 told[i].r):=Zae AR.cells_len hct hx 0 (by omega);have c1:c[i * 4 + 1]? =some (.int .i64 told[i].e):=Zae AR.cells_len hct hx 1 (by omega);have c2:c[i * 4 + 2]? =some (.int .u64 told[i].n):=Zae AR.cells_len hct hx 2 (by omega);have c3:c[i * 4 + 3]? =some (.bool told[i].g):=Zae AR.cells_len hct hx 3 (by omega);clear hA;have hA:=hB;clear hB;obtain⟨hA,hF⟩:=fY hA;cases h1:(told[i].r==r)
    · have hm:∀x ∈ told.take (i + 1),(x.r==r)=false:=fun x hx=>by
       rw[List.take_succ_eq_append_getElem hi] at hx;rcases List.mem_append.1 hx with hx|hx
       · exact hno'.out x hx
       rw[List.mem_singleton.1 hx,h1]
      have hm':=Hd hm;clear hm;go_wp2_with fail;go_roundg (gk - 1);case measure=>omega
      case rel=>exact⟨i + 1,by simp,by simp only;omega,(ZiS hA sR hcl hcap hcm hct).only3 sR sZ sZ,hm'.out⟩
    have hfi:saidA told r=some told[i]:=Zdz hx hno'.out h1;have hfi':=Hd hfi;clear hfi
    go_wp2_with (refine Zam (b:=b1) (j:=0) (vs:=AR.cells told[i]) rfl rfl rfl (by(try simp only[Act.eval,eV])<;>exact rfl) (by first|exact rfl|(rw[←(show told[i].r=r by simpa using h1)];rfl)) hA sR (by kernel_rfl) (AR.ones _) (by show 0 + 4≤4;omega) ?_;intro w1 hB;replace hA:=hB;clear hF hB;simp only[AR.cells] at hA;obtain⟨hA,hF⟩:=fY hA)
    refine bodyPost_ret (v:=.tuple #[.agg (AR.cells told[i]).toArray,.bool true]) (by simp[AR.cells,results,Tryz.results29,go_sem,hF]) rfl ⟨by rw[hfi'.out];rfl,(ZiS hA sR hcl hcap hcm hct).only1 sR⟩
  have hfi:saidA told r=none:=List.find?_eq_none.2 (fun x hx=>by rw[hno'.out x (by rw[List.take_of_length_le (by omega)];exact hx)];simp);have hfi':=Hd hfi;clear hfi;obtain⟨hA,hF⟩:=fY hA
  go_wp2_with ((with_reducible refine gst ?_);refine wTy hA ?_;clear hF hA;intro w1 hA hF)
  refine bodyPost_ret (v:=.tuple #[.agg (AR.cells noAR).toArray,.bool false]) (by simp[AR.cells,noAR,results,Tryz.results29,go_sem,hF]) rfl ⟨by rw[hfi'.out];rfl,hA.only1 sR⟩
theorem Zjq (t:Int) (w:World):Calls Tryz.prog 99 #[.int .i64 t] w fun e w'=>e=.returned (.int .i64 (cutI t))∧w=w':=by
 unfold cutI;by_cases h0:t < 0
 · go_enter Tryz.func99,Tryz.ntmps99;go_wp2_with fail;refine bodyPost_ret (results_tmp rfl _ _ _) rfl ?_;exact⟨by simp,rfl⟩
 by_cases h1:2199023255552 < t
 · go_enter Tryz.func99,Tryz.ntmps99;go_wp2_with fail;refine bodyPost_ret (results_tmp rfl _ _ _) rfl ?_;exact⟨by simp,rfl⟩
 go_enter Tryz.func99,Tryz.ntmps99;go_wp2_with fail;go_ret;exact⟨by simp,rfl⟩
end Lease
end
end Go.Proofs.YtknoefbcmomalabGreatDoor
