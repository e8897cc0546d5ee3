/- WireA, joined. -/
import Derived.Test.YtkdjkngfnapjcaaGreatDoorQ1
import Derived.Test.YtkdjkngfnapjcaaGreatDoorShelft
import Derived.Deep.OwnRows
set_option linter.unusedSimpArgs false
set_option linter.unusedVariables false
set_option maxRecDepth 100000
set_option maxHeartbeats 16000000
namespace Go.Proofs.YtkdjkngfnapjcaaGreatDoor
section
namespace Wire
open Go.RowKit
def encY (x:Int):List Value:=[.int .u8 x]
theorem ZdI (x:Int):(encY x).length=1:=rfl
theorem Zb2 (x:Int):∀v ∈ encY x,v.oneCell'=true:=by intro u hu;simp only[encY,List.mem_cons,List.not_mem_nil,or_false] at hu;subst hu;rfl
abbrev flatY (l:List Int):List Value:=l.flatMap encY
abbrev rowY (v:Value) (l:List Int):Part:=.row 5 1 v l.length (flatY l)
theorem Zee (v:Value) (l:List Int) (x:Int):Part.row 5 1 v (l.length + 1) (flatY l++encY x)=rowY v (l++[x]):=Zj4 (enc:=encY) _ v l x
theorem ZcM (v:Value) (l r:List Int):Part.row 5 1 v (l.length + r.length) (flatY l++flatY r)=rowY v (l++r):=ZlK (enc:=encY) _ v l r
theorem ZdB {L0 L:List Part} {w0 w:World} (h:At L0 w0 L w):At L0 w0 (rowY (.slice none 0 0) []::L) w:=h.row_nil 5 1
theorem infoY:(Tryz.prog.info? 5).map (fun i=>(i.zero,i.size,i.bytes))=some (some (.int .u8 0),1,1):=by kernel_rfl
def Zaf:Nat→List Int
 |v=>if h:v < 128 then[(v:Int)] else((v % 128 + 128:Nat):Int)::Zaf (v / 128)
termination_by v=>v
decreasing_by omega
theorem ZbY {v:Nat} (h:v < 128):Zaf v=[(v:Int)]:=by rw[Zaf,dif_pos h]
theorem Zcm {v:Nat} (h:128≤v):Zaf v=((v % 128 + 128:Nat):Int)::Zaf (v / 128):=by rw[Zaf,dif_neg (by omega)]
theorem Zal:∀(k v:Nat),v < 128 ^ (k + 1)→(Zaf v).length≤k + 1
 |0,v,h=>by rw[ZbY (by simpa using h)];simp
 |k + 1,v,h=>by
  by_cases q:v < 128
  · rw[ZbY q];simp
  rw[Zcm (by omega),List.length_cons]
  have:=Zal k (v / 128) (by rw[Nat.pow_succ] at h;exact Nat.div_lt_of_lt_mul (by rw[Nat.mul_comm];exact h))
  omega
theorem or_fin:∀n:Fin 256,bits .or .u8 (n.val:Int) 128=((n.val % 128 + 128:Nat):Int):=by decide +kernel
theorem Znw (x:Nat):bits .or .u8 ((x:Int) % 256) 128=((x % 128 + 128:Nat):Int):=by
 have:=or_fin ⟨x % 256,Nat.mod_lt _ (by omega)⟩;simp only at this;rw[show((x:Int) % 256)=((x % 256:Nat):Int) from by omega,this]
 omega
def ShRel (w:World) (v:Nat) (k:Nat) (u0 u3:Value) (wr:World):Prop:=
 ∃(x:Nat) (pre:List Int),u0=.int .u64 x∧x < 128 ^ k∧pre.length + k=10∧Zaf v=pre++Zaf x∧At [] w [rowY u3 pre] wr
theorem Zgr (v:Nat) (w:World) (hv:v < 18446744073709551616):Calls Tryz.prog 202 #[.int .u64 v] w fun e w'=>∃u,e=.returned u∧At [] w [rowY u (Zaf v)] w':=by
 obtain⟨i0,hi0,hz0,hz1,hz2⟩:=info_parts infoY;have hA:At [] w [] w:=At.start (L0:=[]) trivial;replace hA:=ZdB hA;obtain⟨hA,hF⟩:=fZ hA
 go_enter Tryz.func202,Tryz.ntmps202
 go_wp2_with fail
 try go_frame
 go_loopg [0,3] 10 (ShRel w v)
 case atStart=>exact⟨v,[],rfl,by omega,by simp,by simp,hA⟩
 case round=>
  obtain⟨x,pre,rfl,hx,hk,hs,hB⟩:=hrel;clear hF hA;have hA:=hB;clear hB;obtain⟨ax,n,cap,hpv,hpn⟩:=hA.row_hid (v:=u3) (n:=pre.length) (xs:=flatY pre) sR;subst hpv;have hpn2:=hpn.out;subst hpn2;clear hpn;obtain⟨hA,hF⟩:=fZ hA
  have hone:∀(y:Int) w,(Instr.buildSlice 62 1 #[(0,.int .u8 y)]).run Tryz.prog w=.ok (.slice (some ⟨w.heap.size,0,none⟩) 1 1) (w.alloc (.cells (encY y).toArray 5)):=fun y w=>by kernel_rfl
  have hpl:pre.length≤10:=by omega
  by_cases hq:x < 128
  · have hq':(x:Int) < 128:=by omega
    have hm:(x:Int) % 256=x:=by omega
    have hs':=Hd (hs.trans (by rw[ZbY hq]));clear hs
    go_wp2_with (first
     |((with_reducible show wpList _ _ _ ({dst:=_,op:=Op.buildSlice _ _ _,type:=_,pos:=_,after:=_,guard:=_}::_) _ _);refine Zbr (e:=5) (vs:=encY x) rfl rfl (by(try simp only[Act.eval,eV])<;>exact rfl) (hone x) hA ?_;intro b2 w5 hB hb2;clear hF hA;have hA:=hB;clear hB;obtain⟨hA,hF⟩:=fZ hA)
     |((with_reducible show wpList _ _ _ ({dst:=_,op:=Op.call {callee:=Callee.builtin Builtin.append,args:=_,argTypes:=_},type:=_,pos:=_,after:=_,guard:=_}::_) _ _);refine Za1 (e:=5) (size:=1) (v:=.slice ax pre.length cap) (xs:=flatY pre) (n:=pre.length) (m:=1) (news:=encY x) rfl _ _ 62 rfl Tryz.underlying62 hi0 hz0 hz1 hz2 rfl (by omega) hA sR (by(try simp only[Act.eval,eV])<;>exact rfl) (by(try simp only[Act.eval,eV])<;>exact rfl) rfl (hA.cells_reads sR _ _) (Zb2 _) (by unfold maxLen;omega) (by omega) ?_;intro v2 w7 hB;rw[Zee] at hB;clear hF hA;have hA:=hB;clear hB;obtain⟨hA,hF⟩:=fZ hA))
    go_ret;exact⟨v2,rfl,by rw[hs'.out];exact hA.pick pZ⟩
  have hq':¬(x:Int) < 128:=by omega
  have hg0:0 < gk:=by
   rcases Nat.eq_zero_or_pos gk with q|q
   · subst q;simp at hx;omega
   exact q
  have hx':=Hd hx;clear hx;have hor:=Znw x;have hs':=Hd (hs.trans (by rw[Zcm (by omega)]));clear hs
  obtain⟨y,hy⟩:∃y:Int,((x % 128 + 128:Nat):Int)=y:=⟨_,rfl⟩
  rw[hy] at hor hs'
  go_wp2_with (first
   |((with_reducible show wpList _ _ _ ({dst:=_,op:=Op.buildSlice _ _ _,type:=_,pos:=_,after:=_,guard:=_}::_) _ _);refine Zbr (e:=5) (vs:=encY y) rfl rfl (by(try simp only[Act.eval,eV])<;>exact rfl) (hone y) hA ?_;intro b2 w5 hB hb2;clear hF hA;have hA:=hB;clear hB;obtain⟨hA,hF⟩:=fZ hA)
   |((with_reducible show wpList _ _ _ ({dst:=_,op:=Op.call {callee:=Callee.builtin Builtin.append,args:=_,argTypes:=_},type:=_,pos:=_,after:=_,guard:=_}::_) _ _);refine Za1 (e:=5) (size:=1) (v:=.slice ax pre.length cap) (xs:=flatY pre) (n:=pre.length) (m:=1) (news:=encY y) rfl _ _ 62 rfl Tryz.underlying62 hi0 hz0 hz1 hz2 rfl (by omega) hA sR (by(try simp only[Act.eval,eV])<;>exact rfl) (by(try simp only[Act.eval,eV])<;>exact rfl) rfl (hA.cells_reads sR _ _) (Zb2 _) (by unfold maxLen;omega) (by omega) ?_;intro v2 w7 hB;rw[Zee] at hB;clear hF hA;have hA:=hB;clear hB;obtain⟨hA,hF⟩:=fZ hA))
  go_roundg (gk - 1)
  case measure=>omega
  case rel=>
   refine⟨x / 128,pre++[y],by simp,?_,by simp;omega,by rw[hs'.out];simp,hA.pick pZ⟩;have hx:=hx'.out
   have hg1:gk=(gk - 1) + 1:=by omega
   rw[hg1,Nat.pow_succ,Nat.mul_comm] at hx;exact Nat.div_lt_of_lt_mul hx
def byteN (v k:Nat):Int:=((v / 2 ^ k % 256:Nat):Int)
def fixL (v:Nat):List Int:=[byteN v 56,byteN v 48,byteN v 40,byteN v 32,byteN v 24,byteN v 16,byteN v 8,byteN v 0]
theorem wpList_make_at {P:Program} {ops:Array Oper} {rest:List Oper} {o:Oper} {a:Act} {Q:Exit→Act→World→Prop} {L0 L:List Part} {w0 w:World} {t e:TypeId} {i:TypeInfo} {z:Value} {kl kc:IntKind} (hg:o.guard=none) (l c:Operand) (hop:o.op=.makeSlice t l c)
 (ht:P.underlying t=some (.slice e)) (hi:P.info? e=some i) (hz:i.zero=some z) (hsize:i.size=1) (hz1:z.cells= #[z]) (n:Nat) (hl:a.eval l=.int kl (n:Int)) (hc:a.eval c=.int kc (n:Int)) (hbytes:i.bytes * n≤281474976710656) (h63:n≤9223372036854775807)
 (h:At L0 w0 L w) (hK:∀b w',At L0 w0 (Part.cells b (List.replicate n z) e::L) w'→w0.heap.size≤b→wpList P ops Q rest (a.put o.dst (.slice (some ⟨b,0,none⟩) n n)) w'):wpList P ops Q (o::rest) a w:=by
 have hr:=run_make_row t e i z ht hi hz hsize hz1 kl kc n hbytes h63 w;have hA:=h.alloc (List.replicate n z) e;rw[show(List.replicate n z).toArray=madeCells #[z] n from by rw[←toList_madeCells_one z n]] at hA;refine Zak hg ?_ (hK _ _ hA h.size);simp[execOp,hop,hl,hc,hr,Result.andThen]
def partL (v i:Nat):List Int:=(fixL v).take i++List.replicate (8 - i) 0
def ByRel (w:World) (g v:Nat) (k:Nat) (u:Value) (wr:World):Prop:=∃i:Nat,u=.int .i64 i∧i + k=8∧At [] w [Part.cells g (flatY (partL v i)) 5] wr
theorem Ze8 (v:Nat) (w:World) (hv:v < 18446744073709551616):Calls Tryz.prog 143 #[.int .u64 v,.int .i64 8] w fun e w'=>∃u,e=.returned u∧At [] w [rowY u (fixL v)] w':=by
 obtain⟨i0,hi0,hz0,hz1,hz2⟩:=info_parts infoY;have hA:At [] w [] w:=At.start (L0:=[]) trivial;have hF:=hA.facts
 go_enter Tryz.func143,Tryz.ntmps143
 go_wp2_with (refine wpList_make_at rfl _ _ rfl Tryz.underlying62 hi0 hz0 hz1 rfl 8 (by(try simp only[Act.eval,eV])<;>exact rfl) (by(try simp only[Act.eval,eV])<;>exact rfl) (by rw[hz2];omega) (by omega) hA ?_;intro g w1 hB hg;clear hF hA;have hA:=hB;clear hB;obtain⟨hA,hF⟩:=fZ hA)
 try go_frame
 go_loopg [14] 8 (ByRel w g v)
 case atStart=>exact⟨0,rfl,by simp,hA⟩
 case round=>
  obtain⟨i,rfl,hk,hB⟩:=hrel;clear hF hA
  by_cases hi:i < 8
  · have hcase:i=0∨i=1∨i=2∨i=3∨i=4∨i=5∨i=6∨i=7:=by omega
    rcases hcase with rfl|rfl|rfl|rfl|rfl|rfl|rfl|rfl
    · have hA:At [] w [Part.cells g [.int .u8 0,.int .u8 0,.int .u8 0,.int .u8 0,.int .u8 0,.int .u8 0,.int .u8 0,.int .u8 0] 5] wr:=hB
      clear hB;have hF:=hA.facts
      have hmm:min (max (8:Int) 0) 8=8:=by omega
      obtain⟨hA,hF⟩:=fZ hA
      go_wp2_with ((with_reducible refine gst ?_);refine wTz hA ?_;clear hF hA;intro w1 hA hF)
      have hbb:(v:Int) / 72057594037927936=byteN v 56:=by unfold byteN;omega
      rw[hbb] at hA
      go_roundg (gk - 1)
      case measure=>omega
      case rel=>exact⟨1,by simp,by omega,hA⟩
    · have hA:At [] w [Part.cells g [.int .u8 (byteN v 56),.int .u8 0,.int .u8 0,.int .u8 0,.int .u8 0,.int .u8 0,.int .u8 0,.int .u8 0] 5] wr:=hB
      clear hB;have hF:=hA.facts
      have hmm:min (max (8:Int) 0) 8=8:=by omega
      obtain⟨hA,hF⟩:=fZ hA
      go_wp2_with ((with_reducible refine gst ?_);refine wTz hA ?_;clear hF hA;intro w1 hA hF)
      have hbb:(v:Int) / 281474976710656 % 256=byteN v 48:=by unfold byteN;omega
      rw[hbb] at hA
      go_roundg (gk - 1)
      case measure=>omega
      case rel=>exact⟨2,by simp,by omega,hA⟩
    · have hA:At [] w [Part.cells g [.int .u8 (byteN v 56),.int .u8 (byteN v 48),.int .u8 0,.int .u8 0,.int .u8 0,.int .u8 0,.int .u8 0,.int .u8 0] 5] wr:=hB
      clear hB;have hF:=hA.facts
      have hmm:min (max (8:Int) 0) 8=8:=by omega
      obtain⟨hA,hF⟩:=fZ hA
      go_wp2_with ((with_reducible refine gst ?_);refine wTz hA ?_;clear hF hA;intro w1 hA hF)
      have hbb:(v:Int) / 1099511627776 % 256=byteN v 40:=by unfold byteN;omega
      rw[hbb] at hA
      go_roundg (gk - 1)
      case measure=>omega
      case rel=>exact⟨3,by simp,by omega,hA⟩
    · have hA:At [] w [Part.cells g [.int .u8 (byteN v 56),.int .u8 (byteN v 48),.int .u8 (byteN v 40),.int .u8 0,.int .u8 0,.int .u8 0,.int .u8 0,.int .u8 0] 5] wr:=hB
      clear hB;have hF:=hA.facts
      have hmm:min (max (8:Int) 0) 8=8:=by omega
      obtain⟨hA,hF⟩:=fZ hA
      go_wp2_with ((with_reducible refine gst ?_);refine wTz hA ?_;clear hF hA;intro w1 hA hF)
      have hbb:(v:Int) / 4294967296 % 256=byteN v 32:=by unfold byteN;omega
      rw[hbb] at hA
      go_roundg (gk - 1)
      case measure=>omega
      case rel=>exact⟨4,by simp,by omega,hA⟩
    · have hA:At [] w [Part.cells g [.int .u8 (byteN v 56),.int .u8 (byteN v 48),.int .u8 (byteN v 40),.int .u8 (byteN v 32),.int .u8 0,.int .u8 0,.int .u8 0,.int .u8 0] 5] wr:=hB
      clear hB;have hF:=hA.facts
      have hmm:min (max (8:Int) 0) 8=8:=by omega
      obtain⟨hA,hF⟩:=fZ hA
      go_wp2_with ((with_reducible refine gst ?_);refine wTz hA ?_;clear hF hA;intro w1 hA hF)
      have hbb:(v:Int) / 16777216 % 256=byteN v 24:=by unfold byteN;omega
      rw[hbb] at hA
      go_roundg (gk - 1)
      case measure=>omega
      case rel=>exact⟨5,by simp,by omega,hA⟩
    · have hA:At [] w [Part.cells g [.int .u8 (byteN v 56),.int .u8 (byteN v 48),.int .u8 (byteN v 40),.int .u8 (byteN v 32),.int .u8 (byteN v 24),.int .u8 0,.int .u8 0,.int .u8 0] 5] wr:=hB
      clear hB;have hF:=hA.facts
      have hmm:min (max (8:Int) 0) 8=8:=by omega
      obtain⟨hA,hF⟩:=fZ hA
      go_wp2_with ((with_reducible refine gst ?_);refine wTz hA ?_;clear hF hA;intro w1 hA hF)
      have hbb:(v:Int) / 65536 % 256=byteN v 16:=by unfold byteN;omega
      rw[hbb] at hA
      go_roundg (gk - 1)
      case measure=>omega
      case rel=>exact⟨6,by simp,by omega,hA⟩
    · have hA:At [] w [Part.cells g [.int .u8 (byteN v 56),.int .u8 (byteN v 48),.int .u8 (byteN v 40),.int .u8 (byteN v 32),.int .u8 (byteN v 24),.int .u8 (byteN v 16),.int .u8 0,.int .u8 0] 5] wr:=hB
      clear hB;have hF:=hA.facts
      have hmm:min (max (8:Int) 0) 8=8:=by omega
      obtain⟨hA,hF⟩:=fZ hA
      go_wp2_with ((with_reducible refine gst ?_);refine wTz hA ?_;clear hF hA;intro w1 hA hF)
      have hbb:(v:Int) / 256 % 256=byteN v 8:=by unfold byteN;omega
      rw[hbb] at hA
      go_roundg (gk - 1)
      case measure=>omega
      case rel=>exact⟨7,by simp,by omega,hA⟩
    have hA:At [] w [Part.cells g [.int .u8 (byteN v 56),.int .u8 (byteN v 48),.int .u8 (byteN v 40),.int .u8 (byteN v 32),.int .u8 (byteN v 24),.int .u8 (byteN v 16),.int .u8 (byteN v 8),.int .u8 0] 5] wr:=hB;clear hB;have hF:=hA.facts
    have hmm:min (max (8:Int) 0) 8=8:=by omega
    obtain⟨hA,hF⟩:=fZ hA
    go_wp2_with ((with_reducible refine gst ?_);refine wTz hA ?_;clear hF hA;intro w1 hA hF)
    have hbb:(v:Int) % 256=byteN v 0:=by unfold byteN;omega
    rw[hbb] at hA
    go_roundg (gk - 1)
    case measure=>omega
    case rel=>exact⟨8,by simp,by omega,hA⟩
  have h8:i=8:=by omega
  subst h8;have hA:At [] w [Part.cells g (flatY (fixL v)) 5] wr:=hB;clear hB;have hA2:At [] w [rowY (.slice (some ⟨g,0,none⟩) 8 8) (fixL v)] wr:=hA.row_shut (e:=5) (size:=1) (n:=8) (cap:=8) (xs:=flatY (fixL v)) .here rfl (by omega) (by unfold maxLen;omega) rfl
  have hmm:min (max (8:Int) 0) 8=8:=by omega
  go_wp2_with fail
  go_ret;exact⟨_,rfl,hA2⟩
end Wire
end
end Go.Proofs.YtkdjkngfnapjcaaGreatDoor
