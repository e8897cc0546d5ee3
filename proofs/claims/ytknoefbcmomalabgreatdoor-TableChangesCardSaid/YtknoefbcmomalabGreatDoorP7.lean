import Derived.Test.YtknoefbcmomalabGreatDoorP6
set_option linter.unusedSimpArgs false
set_option linter.unusedVariables false
set_option maxRecDepth 100000
set_option maxHeartbeats 16000000
namespace Go.Proofs.YtknoefbcmomalabGreatDoor
section
namespace Path
open Go.RowKit
theorem ZfJ {P:Program} {ops:Array Oper} {rest:List Oper} {o:Oper} {a:Act} {Q:Exit→Act→World→Prop} {L0 L G:List Part} {w0 w:World} {t e:TypeId} {i:TypeInfo} {size m0 k:Nat} {v:Value} {xs:List Value} {x hi':Operand}
 (hg:o.guard=none) (hop:o.op=.slice t x none (some hi') none) (ht:P.underlying t=some (.slice e)) (hi:P.info? e=some i) (hsize:i.size=size) (hx:a.eval x=v) (hh:a.eval hi'=.int .i64 k)
 (h:At L0 w0 L w) (s:Sel (Part.row e size v m0 xs) L G) (hk:k≤m0) (hK:∀v',At L0 w0 (Part.row e size v' k (xs.take (k * size))::G) w→wpList P ops Q rest (a.put o.dst v') w):wpList P ops Q (o::rest) a w:=by
 obtain⟨v',hr,h1,h2⟩:=Zet (P:=P) ht hi hsize (h.get s:w.ownsRow 0 e size v m0 xs) k hk;refine Zal hg ?_ (hK v' (h.turn s (Part.row e size v' k (xs.take (k * size))) h1 (fun b hb=>.inl (by simpa [Part.row,h2] using hb)) (Exc.refl _ _)));simp[execOp,hop,hx,hh,hr,Result.andThen]
theorem ZeC (c:UInt8) (w:World):Calls Tryz.prog 171 #[.int .u8 c.toNat] w fun e w'=>e=.returned (.bool (letB c))∧w=w':=by
 have key:∀(n:Int) (b1 b2 b3 b4 b5 b6:Bool),decide (97≤n)=b1→decide (n≤122)=b2→decide (48≤n)=b3→decide (n≤57)=b4→decide (n=45)=b5→decide (n=95)=b6→
  Calls Tryz.prog 171 #[.int .u8 n] w fun e w'=>e=.returned (.bool ((b1&&b2) || (b3&&b4) || b5 || b6))∧w=w':=by
  intro n b1 b2 b3 b4 b5 b6 h1 h2 h3 h4 h5 h6;have h5':(n==45)=b5:=by rw[←h5];rfl
  have h6':(n==95)=b6:=by rw[←h6];rfl
  clear h5 h6;cases b1<;>cases b2<;>cases b3<;>cases b4<;>cases b5<;>cases b6
  all_goals first
   |(exfalso;simp at h1 h2 h3 h4 h5' h6';omega)
   |(go_enter Tryz.func171,Tryz.ntmps171
     go_wp2
     go_ret
     exact⟨rfl,rfl⟩)
 rw[←Zie];exact key _ _ _ _ _ _ _ rfl rfl rfl rfl rfl rfl
def Zoi (v:Value) (ws:List ByteArray) (p:ByteArray) (w:World) (e:Ending) (w':World):Prop:=
 ∃(v':Value) (us:List ByteArray),e=.returned (.tuple #[v',.int .i64 (ZbF (stepW (ws.map bl) (bl p)))])∧At [rowS v ws] w [rowS v' us] w'∧(stepW (ws.map bl) (bl p)=some (us.map bl)∨stepW (ws.map bl) (bl p)=none∧us=[])∧us.length≤ws.length + 1
def ZpI (v:Value) (ws:List ByteArray) (p:ByteArray) (w:World) (k:Nat) (u6:Value) (wr:World):Prop:=
 ∃i:Nat,u6=.int .i64 i∧i + k=p.size∧At [rowS v ws] w [rowS v ws] wr∧((bl p).take i).all letB=true
theorem ZiL {w:World} {v:Value} {ws:List ByteArray} (h:Sep [rowS v ws] w) (p:ByteArray) (hmax:ws.length≤2000000) (hp:p.size≤2000000):Calls Tryz.prog 144 #[v,.string p] w (Zoi v ws p w):=by
 have hA:=At.start h;have hF:=hA.facts;obtain⟨i0,hi0,hz0,hz1,hz2⟩:=info_parts Zik;clear h;by_cases e0:bl p=[]∨bl p=[46]
 · have hk:stepW (ws.map bl) (bl p)=some (ws.map bl):=by rcases e0 with e|e<;>rw[e]<;>first|exact ZiN|exact ZiO
   rcases e0 with e0|e0
   · obtain rfl:p=⟨#[]⟩:=Zb3 e0;have hk':=Hd hk;clear hk e0;go_enter Tryz.func144,Tryz.ntmps144;go_wp2_with fail;go_ret2;exact⟨v,ws,by rw[hk'.out];rfl,hA,.inl hk'.out,by omega⟩
   obtain rfl:p=⟨#[46]⟩:=Zb3 e0;have hk':=Hd hk;clear hk e0;go_enter Tryz.func144,Tryz.ntmps144;go_wp2_with fail;go_ret2;exact⟨v,ws,by rw[hk'.out];rfl,hA,.inl hk'.out,by omega⟩
 by_cases e1:bl p=[46,46]
 · obtain rfl:p=⟨#[46,46]⟩:=Zb3 e1;clear e0;by_cases e2:ws=[]
   · subst e2;obtain⟨ax,cap,rfl,hax,hcap,_⟩:=hA.row_form (v:=v) (xs:=flatS []) sR;clear hax hcap;go_enter Tryz.func144,Tryz.ntmps144;go_wp2_with fail;go_ret2;exact⟨_,[],by rw[show stepW (([]:List ByteArray).map bl) (bl ⟨#[46,46]⟩)=none from ZfX];rfl,(hA.row_nil 9 1).pick pZ,.inr ⟨ZfX,rfl⟩,by simp⟩
   have hl:0 < ws.length:=List.length_pos_iff.2 e2;obtain⟨ax,kn,cap,hv0,hkn⟩:=hA.row_hid (v:=v) (xs:=flatS ws) sR;subst hv0;have ek:=hkn.out;obtain rfl:kn=ws.length:=ek;have hl1:((ws.length:Int)==0)=false:=beq_eq_false_iff_ne.2 (by omega);have hl2:=Hd (show((ws.length:Int) - 1)=((ws.length - 1:Nat):Int) by omega);have hst:=Hd (ZkG (acc:=ws.map bl) (by simpa using e2));clear e2;go_enter Tryz.func144,Tryz.ntmps144
   go_wp2_with (refine ZfJ (k:=ws.length - 1) rfl rfl Tryz.underlying162 hi0 hz1 (by(try simp only[Act.eval,eV])<;>exact rfl) (by exact congrArg (Value.int .i64) hl2.out) hA sR (by omega) ?_;intro v1 hB;obtain⟨ax3,n3,cap3,hv3,hn3⟩:=hB.row_hid .here;subst hv3;replace hA:=hB;clear hF hB;obtain⟨hA,hF⟩:=fZ hA)
   go_ret2
   have e3:(flatS ws).take ((ws.length - 1) * 1)=flatS ws.dropLast:=by
    unfold flatS;rw[Zbj ZdW,List.dropLast_eq_take]
   have e4:ws.length - 1=ws.dropLast.length:=by simp
   rw[e3,e4] at hA;exact⟨.slice ax3 n3 cap3,ws.dropLast,by rw[show stepW (ws.map bl) (bl ⟨#[46,46]⟩)=_ from hst.out];rfl,hA.pick pR,.inl (by rw[show stepW (ws.map bl) (bl ⟨#[46,46]⟩)=_ from hst.out,List.map_dropLast]),by simp;omega⟩
 have n0:p.toList.isEmpty=false:=by
  rw[Lib.toList_data];cases q:p.data.toList
  · exact absurd (Or.inl q) e0
  rfl
 have n1:(p.toList==[46])=false:=by rw[Lib.toList_data];simpa using fun q=>e0 (Or.inr q)
 have n2:(p.toList==[46,46])=false:=by rw[Lib.toList_data];simpa using e1
 have hne:bl p≠[]:=fun q=>e0 (Or.inl q);have hno:partB (bl p)=false→stepW (ws.map bl) (bl p)=none:=ZkH hne (fun q=>e0 (Or.inr q)) e1;have hyes:(bl p).all letB=true→stepW (ws.map bl) (bl p)=some (ws.map bl++[bl p]):=fun q=>Zem (Zcq.2 ⟨hne,q⟩);have hno':=Hd hno;have hyes':=Hd hyes;clear hno hyes e0 e1 hne;obtain⟨ax,kn,cap,hv0,hkn⟩:=hA.row_hid (v:=v) (xs:=flatS ws) sR;subst hv0;go_enter Tryz.func144,Tryz.ntmps144;go_wp2_with fail;go_loopg [6] p.size (ZpI (.slice ax kn cap) ws p w)
 case atStart=>exact⟨0,rfl,by simp,hA,by simp⟩
 case round=>
  obtain⟨i,rfl,hk,hB,hal⟩:=hrel;replace hA:=hB;clear hF hB;obtain⟨hA,hF⟩:=fZ hA;by_cases hi:i < p.size
  · cases hc:letB p[i]
    · have hlt:=ZeC p[i] wr;rw[hc] at hlt;have hn:=Hd (hno'.out (ZoI hi hc));clear hc hal;go_wp2_with fail;((with_reducible refine hlt.mono ?_))
      clear hlt;rintro e _ ⟨rfl,rfl⟩;go_wp2_with fail;go_ret2;exact⟨_,[],by rw[hn.out];rfl,(hA.row_nil 9 1).pick pZ,.inr ⟨hn.out,rfl⟩,by simp⟩
    have hlt:=ZeC p[i] wr;rw[hc] at hlt;have hs:=Hd (Zjx hi hal hc);clear hc hal;go_wp2_with fail;((with_reducible refine hlt.mono ?_))
    clear hlt;rintro e _ ⟨rfl,rfl⟩;go_wp2_with fail;go_roundg (gk - 1);case measure=>omega
    case rel=>exact⟨i + 1,by simp,by omega,hA,hs.out⟩
  have hst:=Hd (hyes'.out (Zjw hi hal));replace hA:=hA.row_nil 9 1;clear hF hal;obtain⟨hA,hF⟩:=fZ hA;have hd:=Hd hkn.out
  go_wp2_with (first|(refine Zao (e:=9) (vs:=strC p) rfl rfl (by(try simp only[Act.eval,eV])<;>exact rfl) (fun _=>by kernel_rfl) hA ?_;intro b2 w1 hB hb2;replace hA:=hB;clear hF hB;obtain⟨hA,hF⟩:=fZ hA)|(refine Zad (e:=9) (size:=1) (v:=.slice ax3 n3 cap3) (xs:=flatS ws) (n:=0 + ws.length) (m:=1) (news:=strC p) rfl _ _ 162 rfl Tryz.underlying162 hi0 hz0 hz1 hz2 rfl (by omega) hA sR (by(try simp only[Act.eval,eV])<;>exact rfl) (by(try simp only[Act.eval,eV])<;>exact rfl) rfl (hA.cells_reads sR _ _) (ZfW p) (by unfold maxLen;omega) (by omega) ?_;intro v2 w1 hB;obtain⟨ax4,n4,cap4,hv4,hn4⟩:=hB.row_hid .here;subst hv4;replace hA:=hB;clear hF hB;obtain⟨hA,hF⟩:=fZ hA)|(refine Zad (e:=9) (size:=1) (v:=.slice none 0 0) (xs:=[]) (n:=0) (m:=ws.length) (xv:=.slice ax kn cap) (news:=flatS ws) rfl _ _ 162 rfl Tryz.underlying162 hi0 hz0 hz1 hz2 rfl (by omega) hA sR (by(try simp only[Act.eval,eV])<;>exact rfl) (by(try simp only[Act.eval,eV])<;>exact rfl) (Zay _ _ ZdW _) (hA.row_reads (n:=ws.length) sR) (ZaI ZfW _) (by unfold maxLen;omega) (by omega) ?_;intro v1 w1 hB;obtain⟨ax3,n3,cap3,hv3,hn3⟩:=hB.row_hid .here;subst hv3;replace hA:=hB;clear hF hB;obtain⟨hA,hF⟩:=fZ hA))
  go_ret2;refine⟨.slice ax4 n4 cap4,ws++[p],by rw[hst.out];rfl,?_,.inl (by rw[hst.out];simp),by simp⟩;rw[show flatS ws++strC p=flatS (ws++[p]) by simp[flatS,List.flatMap_append],show 0 + ws.length + 1=(ws++[p]).length by simp] at hA;exact hA.pick pR
end Path
end
section
namespace Path
open Go.RowKit
def leftL (cur t:Bs):List Bs:=(cur++(Zah t).headD [])::(Zah t).tail
theorem Zhd (t:Bs):leftL [] t=Zah t:=by
 unfold leftL
 cases h:Zah t with
 |nil=>exact absurd h (Zbg t)
 |cons a b=>rfl
theorem Zlo (cur:Bs):leftL cur []=[cur]:=by simp[leftL,Zah]
theorem Zig (cur t:Bs):leftL cur (47::t)=cur::Zah t:=by simp[leftL,ZaK]
theorem Znw (cur t:Bs) (c:UInt8) (h:c≠47):leftL cur (c::t)=leftL (cur++[c]) t:=by simp[leftL,ZaK,h]
def Zmk (s:ByteArray) (w:World) (k:Nat) (u4 u5 u6 u7:Value) (wr:World):Prop:=
 ∃(i:Nat) (v:Value) (ws:List ByteArray) (cur:ByteArray),u4=v∧u5=.string cur∧u6=.int .i64 0∧u7=.int .i64 i∧i + k=s.size + 1∧At [] w [rowS v ws] wr∧ws.length≤i∧cur.size≤i∧
  walkL [] (Zah (bl s))=if i≤s.size then walkL (ws.map bl) (leftL (bl cur) ((bl s).drop i)) else some (ws.map bl)
def Zkp (s:ByteArray) (w:World) (e:Ending) (w':World):Prop:=
 ∃(v:Value) (ws:List ByteArray),e=.returned (.tuple #[v,.int .i64 (ZbF (walkL [] (Zah (bl s))))])∧At [] w [rowS v ws] w'∧(walkL [] (Zah (bl s))=some (ws.map bl)∨walkL [] (Zah (bl s))=none∧ws=[])∧ws.length≤s.size + 1
theorem Zfk (s:ByteArray) (w:World) (hs:s.size≤2000000):Calls Tryz.prog 100 #[.string s] w (Zkp s w):=by
 have hA:=(At.start (w0:=w) (L0:=[]) trivial).row_nil 9 1;have hF:=hA.facts;go_enter Tryz.func100,Tryz.ntmps100;go_wp2_with fail;go_loopg [4,5,6,7] (s.size + 1) (Zmk s w)
 case atStart=>exact⟨0,_,[],⟨#[]⟩,rfl,rfl,rfl,rfl,by simp,hA,by simp,Nat.le_refl _,by simp[show bl ⟨#[]⟩=[] from rfl,Zhd]⟩
 case round=>
  obtain⟨i,v,ws,cur,rfl,rfl,rfl,rfl,hk,hB,hwl,hcl,hw⟩:=hrel;replace hA:=hB;clear hF hB;obtain⟨ax,kn,cap,hv0,hkn⟩:=hA.row_hid (v:=u4) (xs:=flatS ws) sR;subst hv0;obtain⟨hA,hF⟩:=fZ hA;have hsz:(bl s).length=s.size:=by simp
  by_cases hi:i < s.size
  · rw[if_pos (by omega),List.drop_eq_getElem_cons (by omega)] at hw;by_cases hc:s[i]=47
    · have hc':(bl s)[i]'(by omega)=47:=hc;rw[hc',Zig] at hw;have hn:((s[i].toNat:Int) != 47)=false:=by rw[hc];rfl
      have htk:=ZiL (hA.sep1 (A:=rowS (.slice ax kn cap) ws) sR) cur (by omega) (by omega);have hw':=Hd hw;clear hw hc hc' hsz;go_wp2_with fail;refine htk.mono ?_;clear htk;rintro e w1 ⟨v',us,rfl,hT,hres,hul⟩;replace hA:=hA.call1 sR hT;clear hF hT;simp only[uA] at hA;obtain⟨ax2,kn2,cap2,hv2,hkn2⟩:=hA.row_hid (v:=v') (xs:=flatS us) sR;subst hv2;obtain⟨hA,hF⟩:=fZ hA;rcases hres with hre|⟨hre,hus⟩
      · rw[hre];have hw2:=hw'.out;rw[walkL,hre] at hw2;simp only at hw2;have hw3:=Hd hw2;simp only[ZbF];clear hw2 hw' hre;go_wp2_with fail;go_roundg (gk - 1);case measure=>omega
        case rel=>exact⟨i + 1,_,us,⟨#[]⟩,rfl,rfl,rfl,by simp,by omega,hA,by omega,Nat.zero_le _,by rw[hw3.out,if_pos (by omega),show bl ⟨#[]⟩=[] from rfl,Zhd]⟩
      rw[hre];have hw2:=hw'.out;rw[walkL,hre] at hw2;simp only at hw2;have hw3:=Hd hw2;simp only[ZbF];clear hw2 hw' hre;go_wp2_with fail;go_ret2;exact⟨.slice none 0 0,[],by rw[hw3.out];rfl,(hA.row_nil 9 1).pick pZ,.inr ⟨hw3.out,rfl⟩,by simp⟩
    have hc':(bl s)[i]'(by omega)≠47:=hc;rw[Znw _ _ _ hc'] at hw
    have hn:((s[i].toNat:Int) != 47)=true:=by
     rw[bne_iff_ne];intro e;apply hc;apply UInt8.toNat_inj.1;have:s[i].toNat=47:=by omega
     rw[this];rfl
    have hx:bl (cur++s.extract i (i + 1))=bl cur++[(bl s)[i]'(by omega)]:=by
     simp only[bl];simp;rw[List.drop_eq_getElem_cons (by simpa using hi)];simp
    have hxl:(cur++s.extract i (i + 1)).size=cur.size + 1:=by
     have:=congrArg List.length hx;simp only[bl,List.length_append,List.length_cons,List.length_nil,Array.length_toList] at this;exact this
    rw[←hx] at hw;have hw':=Hd hw;have hxl':=Hd hxl;clear hw hc hc' hsz hx hxl;go_wp2_with fail;go_roundg (gk - 1);case measure=>omega
    case rel=>exact⟨i + 1,_,ws,cur++s.extract i (i + 1),rfl,rfl,rfl,by simp,by omega,hA,by omega,by have:=hxl'.out;omega,by rw[if_pos (by omega)];exact hw'.out⟩
  by_cases hi2:i=s.size
  · subst hi2;rw[if_pos (Nat.le_refl _),List.drop_eq_nil_of_le (by omega),Zlo] at hw;have htk:=ZiL (hA.sep1 (A:=rowS (.slice ax kn cap) ws) sR) cur (by omega) (by omega);have hw':=Hd hw;have hnlt:¬(s.size:Int) < s.size:=by omega
    clear hw hsz hi;go_wp2_with fail;refine htk.mono ?_;clear htk;rintro e w1 ⟨v',us,rfl,hT,hres,hul⟩;replace hA:=hA.call1 sR hT;clear hF hT;simp only[uA] at hA;obtain⟨ax2,kn2,cap2,hv2,hkn2⟩:=hA.row_hid (v:=v') (xs:=flatS us) sR;subst hv2;obtain⟨hA,hF⟩:=fZ hA;rcases hres with hre|⟨hre,hus⟩
    · rw[hre];have hw2:=hw'.out;rw[walkL,hre] at hw2;simp only at hw2;have hw3:=Hd hw2;simp only[ZbF];clear hw2 hw' hre;go_wp2_with fail;go_roundg (gk - 1);case measure=>omega
      case rel=>exact⟨s.size + 1,_,us,⟨#[]⟩,rfl,rfl,rfl,by simp,by omega,hA,by omega,Nat.zero_le _,by rw[hw3.out,if_neg (by omega),walkL]⟩
    rw[hre];have hw2:=hw'.out;rw[walkL,hre] at hw2;simp only at hw2;have hw3:=Hd hw2;simp only[ZbF];clear hw2 hw' hre;go_wp2_with fail;go_ret2;exact⟨.slice none 0 0,[],by rw[hw3.out];rfl,(hA.row_nil 9 1).pick pZ,.inr ⟨hw3.out,rfl⟩,by simp⟩
  rw[if_neg (by omega)] at hw;have hw':=Hd hw;have hgt:¬(i:Int)≤s.size:=by omega
  clear hw hsz;go_wp2_with fail;go_ret2;exact⟨.slice ax kn cap,ws,by rw[hw'.out];rfl,hA.pick pR,.inl hw'.out,by omega⟩
end Path
end
section
namespace Path
open Go.RowKit
theorem Zhe:∀(l:List Bs) (x:Bs),l≠[]→joinS (l++[x])=joinS l++47::x
 |[],x,h=>absurd rfl h
 |[p],x,_=>by rw[List.cons_append,List.nil_append,ZbK _ _ (by simp),join_one,join_one]
 |p::q::r,x,_=>by
  have ih:=Zhe (q::r) x (by simp);rw[List.cons_append,ZbK p ((q::r)++[x]) (by simp),ih,ZbK p (q::r) (by simp),List.append_assoc,List.cons_append]
theorem Zow {L0 L F:List Part} {w0 w:World} {g cap:Nat} {c:List Value} {ws:List ByteArray} (h:At L0 w0 L w) (s:Sel (Part.cells g c 9) L F) (hl:c.length=cap * 1) (hn:ws.length≤cap) (hm:cap≤maxLen) (ht:c.take (ws.length * 1)=flatS ws):
 At L0 w0 (rowS (.slice (some ⟨g,0,none⟩) ws.length cap) ws::F) w:=h.row_shut s hl hn hm ht
def Zoj (w:World) (v:Value) (ws:List ByteArray) (k:Nat) (u3 u4:Value) (wr:World):Prop:=
 ∃(i:Nat) (cur:ByteArray),u3=.string cur∧u4=.int .i64 i∧i + k=ws.length∧At [rowS v ws] w [rowS v ws] wr∧bl cur=joinS ((ws.take i).map bl)∧cur.size≤i * 2000001
def Zmn (w:World) (v:Value) (ws:List ByteArray) (e:Ending) (w':World):Prop:=∃q:ByteArray,e=.returned (.string q)∧bl q=joinS (ws.map bl)∧At [rowS v ws] w [rowS v ws] w'
theorem Zhf {w:World} {v:Value} {ws:List ByteArray} (h:Sep [rowS v ws] w) (hmax:ws.length≤2000001) (hbd:∀x ∈ ws,x.size≤2000000):Calls Tryz.prog 143 #[v] w (Zmn w v ws):=by
 have hA:=At.start h;have hF:=hA.facts;clear h;obtain⟨ax,cap,rfl,hax,hcap,_⟩:=hA.row_form (v:=v) (xs:=flatS ws) sR;have hcap':=Hd hcap;have hbd':=Hd hbd;clear hbd;clear hax hcap;go_enter Tryz.func143,Tryz.ntmps143;go_wp2_with fail;go_loopg [3,4] ws.length (Zoj w (.slice ax ws.length cap) ws)
 case atStart=>exact⟨0,⟨#[]⟩,rfl,rfl,by simp,hA,rfl,Nat.zero_le _⟩
 case round=>
  obtain⟨i,cur,rfl,rfl,hk,hB,hj,hcs⟩:=hrel;clear hF hA;have hA:=hB;clear hB;by_cases hi:i < ws.length
  · obtain⟨g,c,rfl,_,hcm,hcl,hct,hB⟩:=hA.row_open (ax:=ax) (cap:=cap) (n:=ws.length) (xs:=flatS ws) sR (by omega);have c0:c[i]? =some (.string ws[i]):=ZcF hct (List.getElem?_eq_getElem hi);have hxs:ws[i].size≤2000000:=hbd'.out _ (List.getElem_mem hi);have hcs2:cur.size≤8000000000000:=by omega
    have hsz1:(cur++(⟨#[47]⟩:ByteArray)++ws[i]).size=cur.size + 1 + ws[i].size:=by rw[ByteArray.size_append,ByteArray.size_append];rfl
    have hsz2:Hid ((cur++(⟨#[47]⟩:ByteArray)++ws[i]).size≤(i + 1) * 2000001):=Hd (by rw[hsz1,Nat.add_mul];omega);clear hsz1;have ht:ws.take (i + 1)=ws.take i++[ws[i]]:=List.take_succ_eq_append_getElem hi;have ht':=Hd ht;have hj':=Hd hj;have hct':=Hd hct;have hcl':=Hd hcl;clear hA ht hj hct hcl;have hA:=hB;clear hB;obtain⟨hA,hF⟩:=fZ hA;by_cases h0:i=0
    · subst h0;go_wp2_with fail;go_roundg (gk - 1);case measure=>omega
      case rel=>exact⟨1,_,rfl,rfl,by omega,(Zow hA sR hcl'.out hcap'.out hcm hct'.out).pick pR,by rw[show bl (cur++ws[0])=bl cur++bl ws[0] by simp[bl],hj'.out,ht'.out];simp[join_one];simp[joinS,Lib.join],by simp;omega⟩
    have hpos:0 < i:=by omega
    go_wp2_with fail;go_roundg (gk - 1);case measure=>omega
    case rel=>exact⟨i + 1,_,rfl,by simp,by omega,(Zow hA sR hcl'.out hcap'.out hcm hct'.out).pick pR,by rw[show bl (cur++⟨#[47]⟩++ws[i])=bl cur++47::bl ws[i] by simp[bl],hj'.out,ht'.out,List.map_append,List.map_cons,List.map_nil,Zhe _ _ (by intro e;have:=congrArg List.length e;rw[List.length_map,List.length_take,List.length_nil] at this;omega)],hsz2.out⟩
  have hj':=Hd hj;clear hj;obtain⟨hA,hF⟩:=fZ hA;go_wp2_with fail;go_ret;exact⟨cur,rfl,by rw[hj'.out,List.take_of_length_le (by omega)],hA⟩
def Zmm (s:ByteArray) (w:World) (e:Ending) (w':World):Prop:=
 ∃q:ByteArray,e=.returned (.tuple #[.string q,.int .i64 (normL (bl s)).2])∧bl q=(normL (bl s)).1∧Ext w w'
theorem Zh9 (s:ByteArray) (w:World) (hs:s.size≤2000000):Calls Tryz.prog 98 #[.string s] w (Zmm s w):=by
 have hA:=At.start (w0:=w) (L0:=[]) trivial;have hF:=hA.facts;go_enter Tryz.func98,Tryz.ntmps98;go_wp2_with fail;refine(Zfk s w (by omega)).mono ?_;rintro e w1 ⟨v,ws,rfl,hT,hres,hlen⟩;replace hA:=hA.call0 hT;clear hF hT;simp only[List.append_nil] at hA;obtain⟨ax,cap,hv,hax0,hcap0,_⟩:=hA.row_form (v:=v) (n:=ws.length) (xs:=flatS ws) sR;subst hv;clear hax0 hcap0
 have hn:normL (bl s)=(match walkL [] (Zah (bl s)) with
  |none=>([],30)
  |some l=>if l=[] then([],13) else if 8 < l.length then([],31) else if 64 < (joinS l).length then([],11) else(joinS l,0)):=rfl
 rcases hres with hre|⟨hre,hw0⟩
 · rw[hre] at hn;simp only at hn
   have hbd:∀x ∈ ws,x.size≤2000000:=fun x hx=>by
    have h1:bl x ∈ Zah (bl s):=by
     rcases ZfQ hre (bl x) (List.mem_map.2 ⟨x,hx,rfl⟩) with h|h
     · simp at h
     exact h
    have h2:=ZbU (bl s) _ h1;have h3:(bl x).length=x.size:=by simp
    have h4:(bl s).length=s.size:=by simp
    omega
   rw[hre];simp only[ZbF];simp only[List.length_map] at hn;by_cases e1:ws=[]
   · subst e1;simp only[List.map_nil,if_pos] at hn;have hn':=Hd hn;clear hn hre hlen hbd;obtain⟨hA,hF⟩:=fZ hA;go_wp2_with fail;go_ret2;exact⟨⟨#[]⟩,by rw[hn'.out];rfl,by rw[hn'.out],hA.toExt⟩
   rw[if_neg (by simpa using e1)] at hn;have hl0:((ws.length:Int)==0)=false:=by simpa using e1
   by_cases e2:8 < ws.length
   · rw[if_pos e2] at hn;have hn':=Hd hn;clear hn hre hlen hbd e1;obtain⟨hA,hF⟩:=fZ hA;go_wp2_with fail;go_ret2;exact⟨⟨#[]⟩,by rw[hn'.out];rfl,by rw[hn'.out],hA.toExt⟩
   rw[if_neg e2] at hn;have hj1:=Zhf (hA.sep1 (A:=rowS (.slice ax ws.length cap) ws) sR) (by omega) hbd;have hn':=Hd hn;have hbd':=Hd hbd;clear hn hre hlen e1 hbd;obtain⟨hA,hF⟩:=fZ hA;go_wp2_with fail;refine hj1.mono ?_;clear hj1;rintro e w2 ⟨q,rfl,hq,hT⟩;replace hA:=hA.call1 sR hT;clear hF hT;simp only[uA] at hA;have hjs:(joinS (ws.map bl)).length=q.size:=by rw[←hq];simp
   have hn2:=hn'.out;rw[hjs] at hn2;have hq':=Hd hq;clear hn' hjs hq;obtain⟨hA,hF⟩:=fZ hA;by_cases e3:64 < q.size
   · rw[if_pos e3] at hn2;have hn3:=Hd hn2;clear hn2;go_wp2_with fail;go_ret2;exact⟨⟨#[]⟩,by rw[hn3.out];rfl,by rw[hn3.out],hA.toExt⟩
   rw[if_neg e3] at hn2;have hn3:=Hd hn2;have hj2:=Zhf (hA.sep1 (A:=rowS (.slice ax ws.length cap) ws) sR) (by omega) hbd'.out;clear hn2;go_wp2_with fail;refine hj2.mono ?_;clear hj2;rintro e w3 ⟨q2,rfl,hq2,hT⟩;have hB:=hA.call1 sR hT;clear hF hA hT;go_wp2_with fail;go_ret2;exact⟨q2,by rw[hn3.out];rfl,by rw[hn3.out];exact hq2,hB.toExt⟩
 rw[hre] at hn;simp only at hn;subst hw0;rw[hre];simp only[ZbF];have hn':=Hd hn;clear hn hre hlen;obtain⟨hA,hF⟩:=fZ hA;go_wp2_with fail;go_ret2;exact⟨⟨#[]⟩,by rw[hn'.out];rfl,by rw[hn'.out],hA.toExt⟩
theorem ZaQ (s:ByteArray) (w:World) (hs:s.size≤2000000):Calls Tryz.prog 54 #[.string s] w fun e w'=>e=.returned (.bool (Zaf (bl s)))∧Ext w w':=by
 have hr:=Zfj (bl s);go_enter Tryz.func54,Tryz.ntmps54;go_wp2_with fail;refine(Zh9 s w hs).mono ?_;rintro e w1 ⟨q,rfl,hq,hx⟩;rw[←hq] at hr;have heq:=eqB q s
 obtain⟨n2,hn2⟩:∃n,(normL (bl s)).2=n:=⟨_,rfl⟩
 rw[hn2] at hr ⊢;clear hn2 hq;by_cases h0:n2=0
 · subst h0;by_cases h1:bl q=bl s
   · have hb:Zaf (bl s)=true:=hr.1 ⟨rfl,h1⟩;rw[decide_eq_true h1] at heq;have hb':=Hd hb;clear hb hr h1;go_wp2_with fail;go_ret;exact⟨by rw[hb'.out];rfl,hx⟩
   have hb:Zaf (bl s)=false:=by
    cases hb:Zaf (bl s)
    · rfl
    exact absurd (hr.2 hb).2 h1
   rw[decide_eq_false h1] at heq;have hb':=Hd hb;clear hb hr h1;go_wp2_with fail;go_ret;exact⟨by rw[hb'.out];rfl,hx⟩
 have hb:Zaf (bl s)=false:=by
  cases hb:Zaf (bl s)
  · rfl
  exact absurd (hr.2 hb).1 h0
 have hb':=Hd hb;have h0':(n2==0)=false:=by simpa using h0
 clear hb hr h0 heq;go_wp2_with fail;go_ret;exact⟨by rw[hb'.out];rfl,hx⟩
end Path
end
section
namespace Path
open Go.RowKit
theorem ZdN {s:ByteArray} (w:World) (hs:s.size≤2000000) (hr:Zaf (bl s)=true):Calls Tryz.prog 100 #[.string s] w fun e w'=>∃(v:Value) (ws:List ByteArray),e=.returned (.tuple #[v,.int .i64 0])∧At [] w [rowS v ws] w'∧Zah (bl s)=ws.map bl:=
 (Zfk s w hs).mono fun e w' ⟨v,ws,he,hT,hres,hl⟩=>by
  have h1:=Zh2 hr;rcases hres with h|⟨h,_⟩
  · rw[h1] at h;rw[h1] at he;exact⟨v,ws,he,hT,Option.some.inj h⟩
  rw[h1] at h;cases h
theorem ZbG {s:ByteArray} {b:Bool} (w:World) (hs:s.size≤2000000) (hb:Zaf (bl s)=b):Calls Tryz.prog 54 #[.string s] w fun e w'=>e=.returned (.bool b)∧Ext w w':=hb ▸ ZaQ s w hs
def Zml (s:ByteArray) (w:World) (e:Ending) (w':World):Prop:=∃(v:Value) (ws:List ByteArray),e=.returned (.tuple #[v,.int .i64 0])∧At [] w [rowS v ws] w'∧Zah (bl s)=ws.map bl
def Zos (w:World) (g1 g2:Nat) (c1 c2:List Value) (ws us:List ByteArray) (k:Nat) (u9:Value) (wr:World):Prop:=
 ∃i:Nat,u9=.int .i64 i∧i + k=ws.length∧At [] w [Part.cells g1 c1 9,Part.cells g2 c2 9] wr∧∀j,j < i→(us.map bl)[j]? =(ws.map bl)[j]?
theorem ZdD (p q:ByteArray) (w:World) (hp:p.size≤2000000) (hq:q.size≤2000000):Calls Tryz.prog 59 #[.string p,.string q] w fun e w'=>e=.returned (.bool (Zan (bl p) (bl q)))∧Ext w w':=by
 have hA:=At.start (w0:=w) (L0:=[]) trivial;have hF:=hA.facts;cases h1:Zaf (bl p)
 · have hb:=Hd (show Zan (bl p) (bl q)=false by simp[Zan,h1]);go_enter Tryz.func59,Tryz.ntmps59;go_wp2_with fail;refine(ZbG w hp h1).mono ?_;rintro e w1 ⟨rfl,hx⟩;go_wp2_with fail;go_ret;exact⟨by rw[hb.out];rfl,hx⟩
 cases h2:Zaf (bl q)
 · have hb:=Hd (show Zan (bl p) (bl q)=false by simp[Zan,h1,h2]);go_enter Tryz.func59,Tryz.ntmps59;go_wp2_with fail;refine(ZbG w hp h1).mono ?_;rintro e w1 ⟨rfl,hx⟩;go_wp2_with fail;refine(ZbG w1 hq h2).mono ?_;rintro e w2 ⟨rfl,hx2⟩;go_wp2_with fail;go_ret;exact⟨by rw[hb.out];rfl,hx.trans hx2⟩
 have hab:Zan (bl p) (bl q)=decide (Zah (bl p) <+:Zah (bl q)):=by rw[ZdT,h1,h2];simp
 have hq2:∀w,Calls Tryz.prog 100 #[.string q] w (Zml q w):=fun w=>ZdN w (by omega) h2;have hp2:∀w,Calls Tryz.prog 100 #[.string p] w (Zml p w):=fun w=>ZdN w (by omega) h1;go_enter Tryz.func59,Tryz.ntmps59;go_wp2_with fail;refine(ZbG w hp h1).mono ?_;rintro e w1 ⟨rfl,hx⟩;go_wp2_with fail;refine(ZbG w1 hq h2).mono ?_;rintro e w2 ⟨rfl,hx2⟩;replace hA:=(hA.ext hx).ext hx2;clear hF hx hx2;go_wp2_with fail;refine(hp2 w2).mono ?_;clear hp2;rintro e w3 ⟨v,ws,rfl,hT,hws⟩;replace hA:=hA.call0 hT;clear hT;simp only[List.append_nil] at hA;go_wp2_with fail;refine(hq2 w3).mono ?_;clear hq2;rintro e w4 ⟨u,us,rfl,hT,hus⟩;replace hA:=hA.call0 hT;clear hT;simp only[uA] at hA;have n1:=Zbo (bl p);have n2:=Zbo (bl q);have m1:=Za1 (bl p);have m2:=Za1 (bl q);rw[hws] at hab n1 m1;rw[hus] at hab n2 m2;simp only[List.length_map] at n1 n2 m1 m2;have z1:(bl p).length=p.size:=by simp
 have z2:(bl q).length=q.size:=by simp
 rw[z1] at m1;rw[z2] at m2;clear hws hus h1 h2 z1 z2;obtain⟨ax,cap,rfl,_,_,_⟩:=hA.row_form (v:=v) (n:=ws.length) (xs:=flatS ws) sR;obtain⟨bx,cbp,rfl,_,_,_⟩:=hA.row_form (v:=u) (n:=us.length) (xs:=flatS us) sR;obtain⟨g1,c1,rfl,_,_,hcl1,hct1,hB⟩:=hA.row_open (ax:=ax) (cap:=cap) (n:=ws.length) (xs:=flatS ws) sR (by omega);obtain⟨g2,c2,rfl,_,_,hcl2,hct2,hB2⟩:=hB.row_open (ax:=bx) (cap:=cbp) (n:=us.length) (xs:=flatS us) sR (by omega);have x1:=Hd (fun(j:Nat) (x:ByteArray) (hx:ws[j]? =some x)=>ZcF hct1 hx);have x2:=Hd (fun(j:Nat) (x:ByteArray) (hx:us[j]? =some x)=>ZcF hct2 hx);clear hA hB hct1 hct2 hcl1 hcl2;have hA:=hB2;clear hB2;have hab':=Hd hab;clear hab;obtain⟨hA,hF⟩:=fZ hA;by_cases hl:us.length < ws.length
 · have hb:Zan (bl p) (bl q)=false:=by
    rw[hab'.out,decide_eq_false_iff_not];intro h;have:=h.length_le;simp at this
    omega
   have hb':=Hd hb;clear hb;go_wp2_with fail;go_ret;exact⟨by rw[hb'.out];rfl,hA.toExt⟩
 go_wp2_with fail;go_loopg [9] ws.length (Zos w g1 g2 c1 c2 ws us)
 case atStart=>exact⟨0,rfl,by simp,hA.pick pR,nofun⟩
 case round=>
  obtain⟨i,rfl,hk,hB,heq⟩:=hrel;clear hF hA;have hA:=hB;clear hB;by_cases hi:i < ws.length
  · have hj:i < us.length:=by omega
    have c1i:c1[i]? =some (.string ws[i]):=x1.out i _ (List.getElem?_eq_getElem hi);have c2i:c2[i]? =some (.string us[i]):=x2.out i _ (List.getElem?_eq_getElem hj);have hw1:(ws.map bl)[i]? =some (bl ws[i]):=by simp[hi]
    have hw2:(us.map bl)[i]? =some (bl us[i]):=by simp[hj]
    generalize ws[i]=x at *
    generalize us[i]=y at *
    have hxy:=eqB x y;have heq':=Hd heq;obtain⟨hA,hF⟩:=fZ hA;by_cases hc:bl x=bl y
    · rw[decide_eq_true hc] at hxy;have hc':=Hd hc;have hw1':=Hd hw1;have hw2':=Hd hw2;clear hc hw1 hw2 heq;go_wp2_with fail;refine cl1 hA ?_;clear hF hA;intro w1 hA hF;(try simp only[uZ] at hA hF);go_wp2_with fail;go_roundg (gk - 1);case measure=>omega
      case rel=>
       refine⟨i + 1,by simp,by omega,hA,fun j hj=> ?_⟩
       by_cases e:j=i
       · subst e;rw[hw1'.out,hw2'.out,hc'.out]
       exact heq'.out j (by omega)
    rw[decide_eq_false hc] at hxy
    have hb:Zan (bl p) (bl q)=false:=by
     rw[hab'.out,decide_eq_false_iff_not];intro h;have h3:=List.prefix_iff_getElem?.1 h i (by simpa using hi);rw[hw2] at h3;have h4:=List.getElem?_eq_some_iff.1 hw1;obtain⟨_,h4⟩:=h4;rw[h4] at h3;exact hc (Option.some.inj h3).symm
    have hb':=Hd hb;clear hc hw1 hw2 heq hb;go_wp2_with fail;refine cl1 hA ?_;clear hF hA;intro w1 hA hF;(try simp only[uZ] at hA hF);go_wp2_with fail;go_ret;exact⟨by rw[hb'.out];rfl,hA.toExt⟩
  have hb:Zan (bl p) (bl q)=true:=by
   rw[hab'.out,decide_eq_true_eq];refine List.prefix_iff_getElem?.2 fun j hj=> ?_;rw[heq j (by simp at hj;omega)];exact List.getElem?_eq_getElem hj
  have hb':=Hd hb;clear hb heq;obtain⟨hA,hF⟩:=fZ hA;go_wp2_with fail;go_ret;exact⟨by rw[hb'.out];rfl,hA.toExt⟩
theorem ZdO (p q:ByteArray) (w:World) (hp:p.size≤2000000) (hq:q.size≤2000000):Calls Tryz.prog 97 #[.string p,.string q] w fun e w'=>e=.returned (.bool (overB (bl p) (bl q)))∧Ext w w':=by
 have h1:=ZdD p q w hp hq;have h2:=fun w=>ZdD q p w hq hp;have ho:overB (bl p) (bl q)=(Zan (bl p) (bl q) || Zan (bl q) (bl p)):=rfl;rw[ho];clear ho;generalize Zan (bl p) (bl q)=b1 at *
 generalize Zan (bl q) (bl p)=b2 at *
 cases b1
 · go_enter Tryz.func97,Tryz.ntmps97;go_wp2_with fail;refine h1.mono ?_;clear h1;rintro e w1 ⟨rfl,hx⟩;go_wp2_with fail;refine(h2 w1).mono ?_;clear h2;rintro e w2 ⟨rfl,hx2⟩;cases b2
   all_goals
    go_wp2_with fail;go_ret;exact⟨rfl,hx.trans hx2⟩
 go_enter Tryz.func97,Tryz.ntmps97;go_wp2_with fail;refine h1.mono ?_;clear h1;rintro e w1 ⟨rfl,hx⟩;go_wp2_with fail;go_ret;exact⟨rfl,hx⟩
end Path
end
section
namespace Lock
open Go.RowKit
open Go.Maps (Keyed)
open Path (bl Zaf overB)
theorem Ent.cells_len (e:Ent):e.cells.length=6:=rfl
theorem Ent.ones (e:Ent):e.cells.all (·.oneCell')=true:=rfl
theorem Ent.one (e:Ent):∀u ∈ e.cells,u.oneCell'=true:=List.all_eq_true.1 e.ones
def ctrL (c:ByteArray × Int):List Value:=[.string c.1,.int .u64 c.2]
theorem ZcG (c:ByteArray × Int):(ctrL c).length=2:=rfl
theorem Zjr (c:ByteArray × Int):∀u ∈ ctrL c,u.oneCell'=true:=List.all_eq_true.1 (show(ctrL c).all (·.oneCell')=true from rfl)
def flatE (L:List Ent):List Value:=L.flatMap Ent.cells
def flatC (L:List (ByteArray × Int)):List Value:=L.flatMap ctrL
abbrev rowE (v:Value) (L:List Ent):Part:=.row 64 6 v L.length (flatE L)
abbrev rowC (v:Value) (L:List (ByteArray × Int)):Part:=.row 249 2 v L.length (flatC L)
theorem Zbs {L0 K F:List Part} {w0 w:World} {g cap:Nat} {c:List Value} {L:List Ent} (hA:At L0 w0 K w) (s:Sel (Part.cells g c 64) K F) (hcl:c.length=cap * 6) (hcap:L.length≤cap) (hcm:cap≤maxLen) (hct:c.take (L.length * 6)=flatE L):
 At L0 w0 (rowE (.slice (some ⟨g,0,none⟩) L.length cap) L::F) w:=hA.row_shut s hcl hcap hcm hct
theorem ZiT {L0 K F:List Part} {w0 w:World} {g cap:Nat} {c:List Value} {L:List (ByteArray × Int)} (hA:At L0 w0 K w) (s:Sel (Part.cells g c 249) K F) (hcl:c.length=cap * 2) (hcap:L.length≤cap) (hcm:cap≤maxLen) (hct:c.take (L.length * 2)=flatC L):
 At L0 w0 (rowC (.slice (some ⟨g,0,none⟩) L.length cap) L::F) w:=hA.row_shut s hcl hcap hcm hct
theorem ZgW {α:Type} {enc:α→List Value} {size:Nat} (hs:∀x,(enc x).length=size) {c:List Value} {l:List α} (ht:c.take (l.length * size)=l.flatMap enc) {k:Nat} {x:α} (hx:l[k]? =some x):(c.drop (k * size)).take size=enc x:=by
 apply List.ext_getElem?;intro j;by_cases hj:j < size
 · rw[List.getElem?_take_of_lt hj,List.getElem?_drop];exact Zae hs ht hx j hj
 rw[List.getElem?_eq_none (by rw[List.length_take];omega),List.getElem?_eq_none (by rw[hs];omega)]
theorem infoE:(Tryz.prog.info? 64).map (fun i=>(i.zero,i.size,i.bytes))=some (some (.agg #[.string .empty,.int .u64 0,.string .empty,.int .i64 0,.int .u64 0,.int .i64 0]),6,64):=by kernel_rfl
theorem infoC:(Tryz.prog.info? 249).map (fun i=>(i.zero,i.size,i.bytes))=some (some (.agg #[.string .empty,.int .u64 0]),2,24):=by kernel_rfl
theorem ZbA {L0 L:List Part} {w0 w:World} (h:At L0 w0 L w):At L0 w0 (rowE (.slice none 0 0) []::L) w:=h.row_nil 64 6
theorem ZiW {L0 L:List Part} {w0 w:World} (h:At L0 w0 L w):At L0 w0 (rowC (.slice none 0 0) []::L) w:=h.row_nil 249 2
theorem Zbt (v:Value) (l:List Ent) (x:Ent):Part.row 64 6 v (l.length + 1) (flatE l++x.cells)=rowE v (l++[x]):=Zew (enc:=Ent.cells) _ v l x
theorem ZkU (v:Value) (l:List (ByteArray × Int)) (x:ByteArray × Int):Part.row 249 2 v (l.length + 1) (flatC l++ctrL x)=rowC v (l++[x]):=Zew (enc:=ctrL) _ v l x
theorem ZkT (v:Value) (l:List Ent):Part.row 64 6 v (([]:List Ent).length + l.length) (flatE []++flatE l)=rowE v l:=by simp[rowE,flatE]
theorem ZkV (v:Value) (l:List (ByteArray × Int)):Part.row 249 2 v (([]:List (ByteArray × Int)).length + l.length) (flatC []++flatC l)=rowC v l:=by simp[rowC,flatC]
theorem ZlC (l:List Ent):∀u ∈ flatE l,u.oneCell'=true:=ZaI Ent.one l
theorem ZlE (l:List (ByteArray × Int)):∀u ∈ flatC l,u.oneCell'=true:=ZaI Zjr l
theorem ZlD (l:List Ent):(flatE l).length=l.length * 6:=Zay _ _ Ent.cells_len l
theorem ZlF (l:List (ByteArray × Int)):(flatC l).length=l.length * 2:=Zay _ _ ZcG l
theorem ZiG (x y:Ent) (w:World) (hx:x.path.size≤1000) (hy:y.path.size≤1000):Calls Tryz.prog 52 #[x.val,y.val] w fun e w'=>e=.returned (.bool (wayB x y))∧Ext w w':=by
 have ho:=fun w=>Path.ZdO x.path y.path w (by omega) (by omega);unfold wayB;generalize overB (bl x.path) (bl y.path)=ob at *
 have hA:At [] w [] w:=At.start (L0:=[]) trivial;have hF:=hA.facts;obtain⟨p1,n1,f1,m1,k1,s1⟩:=x;obtain⟨p2,n2,f2,m2,k2,s2⟩:=y;simp only[Ent.val] at *
 by_cases h1:m1=2
 · subst h1;go_enter Tryz.func52,Tryz.ntmps52
   go_wp2_with ((with_reducible refine gbx ?_);refine wCz hA ?_;clear hF hA;intro b1 w1 hA hb1 hF)
   refine(ho _).mono ?_;clear ho;rintro e w2 ⟨rfl,hx2⟩;cases ob
   all_goals
    go_wp2_with fail;go_ret;exact⟨rfl,hA.toExt.trans hx2⟩
 have e1:(m1==2)=false:=by simpa using h1
 have d1:=Hd (decide_eq_false h1);clear h1;by_cases h2:m2=2
 · subst h2;go_enter Tryz.func52,Tryz.ntmps52
   go_wp2_with ((with_reducible refine gbx ?_);refine wCz hA ?_;clear hF hA;intro b1 w1 hA hb1 hF)
   refine(ho _).mono ?_;clear ho;rintro e w2 ⟨rfl,hx2⟩;cases ob
   all_goals
    go_wp2_with fail;go_ret;exact⟨by rw[d1.out];rfl,hA.toExt.trans hx2⟩
 have e2:(m2==2)=false:=by simpa using h2
 have d2:=Hd (decide_eq_false h2);clear h2 ho;go_enter Tryz.func52,Tryz.ntmps52
 go_wp2_with ((with_reducible refine gbx ?_);refine wCz hA ?_;clear hF hA;intro b1 w1 hA hb1 hF)
 go_ret;exact⟨by rw[d1.out,d2.out];rfl,hA.toExt⟩
def idxD (L:List Ent) (p:ByteArray) (n:Int) (f:ByteArray):Int:=match Zi3 L p n f with|some k=>k|none=> -1
theorem idx_at {L:List Ent} {p:ByteArray} {n:Int} {f:ByteArray} {i:Nat} (hi:i < L.length) (hn:∀x ∈ L.take i,x.is p n f=false) (hy:L[i].is p n f=true):idxD L p n f=i:=by
 unfold idxD Zi3
 rw[List.findIdx?_eq_some_iff_getElem.2 ⟨hi,hy,fun j hj=>by
  have:=hn L[j] (List.mem_take_iff_getElem.2 ⟨j,by omega,rfl⟩)
  simp[this]⟩]
theorem idx_none {L:List Ent} {p:ByteArray} {n:Int} {f:ByteArray} (hn:∀x ∈ L,x.is p n f=false):idxD L p n f= -1:=by
 unfold idxD Zi3;rw[List.findIdx?_eq_none_iff.2 hn]
abbrev boxB (b:Nat) (first:Int) (vL vC:Value):Part:=.cells b [.int .u64 first,vL,vC] 34
def ZpP (w:World) (first:Int) (v vC:Value) (L:List Ent) (p:ByteArray) (n:Int) (f:ByteArray) (b1:Nat) (k:Nat) (u:Value) (wr:World):Prop:=
 ∃i:Nat,u=.int .i64 i∧i + k=L.length∧At [rowE v L] w [boxB b1 first v vC,rowE v L] wr∧∀x ∈ L.take i,x.is p n f=false
theorem ZbW {L:List Ent} {P:Ent→Bool} {i:Nat} (hi:i < L.length) (h:∀x ∈ L.take i,P x=false) (h1:P L[i]=false):∀x ∈ L.take (i + 1),P x=false:=fun x hx=>by
 rw[List.take_succ_eq_append_getElem hi] at hx;rcases List.mem_append.1 hx with hx|hx
 · exact h x hx
 rw[List.mem_singleton.1 hx,h1]
theorem findR_any {w:World} {v:Value} {L:List Ent} (h:Sep [rowE v L] w) (first:Int) (vC:Value) (hvC:∃ax k cap,vC=.slice ax k cap) (p:ByteArray) (n:Int) (f:ByteArray) (hmax:L.length≤1000000):
 Calls Tryz.prog 103 #[.agg #[.int .u64 first,v,vC],.string p,.int .u64 n,.string f] w fun e w'=>e=.returned (.int .i64 (idxD L p n f))∧At [rowE v L] w [rowE v L] w':=by
 obtain⟨cx,ck,cc,rfl⟩:=hvC;have hA:=At.start h;have hF:=hA.facts;clear h;obtain⟨ax,cap,rfl,hax,hcap,_⟩:=hA.row_form (v:=v) (xs:=flatE L) sR;obtain⟨hA,hF⟩:=fZ hA;go_enter Tryz.func103,Tryz.ntmps103
 go_wp2_with ((with_reducible refine gbx ?_);refine wCz (E:=34) hA ?_;clear hF hA;intro bB w1 hA hbB hF)
 (try go_frame);go_loopg [9] L.length (ZpP w first (.slice ax L.length cap) (.slice cx ck cc) L p n f bB)
 case atStart=>exact⟨0,rfl,by simp,hA,by simp⟩
 case round=>
  obtain⟨i,rfl,hik,hB,hno⟩:=hrel;have hno':=Hd hno;clear hF hA hno;have hA:=hB;clear hB;by_cases hi:i < L.length
  · obtain⟨g,c,rfl,_,hcm,hcl,hct,hB⟩:=hA.row_open (ax:=ax) (cap:=cap) (n:=L.length) (xs:=flatE L) sR (by omega);have hx:L[i]? =some L[i]:=List.getElem?_eq_getElem hi;(have c0:c[i * 6]? =some (.string L[i].path):=Zae Ent.cells_len hct hx 0 (by omega));(have c1:c[i * 6 + 1]? =some (.int .u64 L[i].num):=Zae Ent.cells_len hct hx 1 (by omega));(have c2:c[i * 6 + 2]? =some (.string L[i].foot):=Zae Ent.cells_len hct hx 2 (by omega));(have c3:c[i * 6 + 3]? =some (.int .i64 L[i].mode):=Zae Ent.cells_len hct hx 3 (by omega));(have c4:c[i * 6 + 4]? =some (.int .u64 L[i].n):=Zae Ent.cells_len hct hx 4 (by omega));(have c5:c[i * 6 + 5]? =some (.int .i64 L[i].stamp):=Zae Ent.cells_len hct hx 5 (by omega))
    clear hA;have hA:=hB;clear hB;obtain⟨hA,hF⟩:=fZ hA;by_cases h1:L[i].path=p
    · have e1:(L[i].path.toList==p.toList)=true:=by rw[same_ba];exact decide_eq_true h1
      by_cases h2:L[i].num=n
      · have e2:(L[i].num==n)=true:=by simpa using h2
        by_cases h3:L[i].foot=f
        · have e3:(L[i].foot.toList==f.toList)=true:=by rw[same_ba];exact decide_eq_true h3
          have hd:=Hd (idx_at hi hno'.out (by simp[Ent.is,h1,h2,h3]));clear h1 h2 h3 hx;go_wp2_with fail;go_ret;exact⟨by rw[hd.out];rfl,(Zbs hA sR hcl hcap hcm hct).only1 sR⟩
        have e3:(L[i].foot.toList==f.toList)=false:=by rw[same_ba];exact decide_eq_false h3
        have hm:=Hd (ZbW hi hno'.out (P:=fun x=>x.is p n f) (by simp[Ent.is,h3]));clear h1 h2 h3 hx;go_wp2_with fail;go_roundg (gk - 1);case measure=>omega
        case rel=>exact⟨i + 1,by simp,by omega,(Zbs hA sR hcl hcap hcm hct).pick pR,hm.out⟩
      have e2:(L[i].num==n)=false:=by simpa using h2
      have hm:=Hd (ZbW hi hno'.out (P:=fun x=>x.is p n f) (by simp[Ent.is,h2]));clear h1 h2 hx;go_wp2_with fail;go_roundg (gk - 1);case measure=>omega
      case rel=>exact⟨i + 1,by simp,by omega,(Zbs hA sR hcl hcap hcm hct).pick pR,hm.out⟩
    have e1:(L[i].path.toList==p.toList)=false:=by rw[same_ba];exact decide_eq_false h1
    have hm:=Hd (ZbW hi hno'.out (P:=fun x=>x.is p n f) (by simp[Ent.is,h1]));clear h1 hx;go_wp2_with fail;go_roundg (gk - 1);case measure=>omega
    case rel=>exact⟨i + 1,by simp,by omega,(Zbs hA sR hcl hcap hcm hct).pick pR,hm.out⟩
  have hd:=Hd (idx_none (fun x hx=>hno'.out x (by rw[List.take_of_length_le (by omega)];exact hx)));obtain⟨hA,hF⟩:=fZ hA;go_wp2_with fail;go_ret;exact⟨by rw[hd.out];rfl,hA.only1 sR⟩
end Lock
end
section
namespace Lock
open Go.RowKit
open Go.Maps (Keyed)
open Path (bl Zaf overB)
theorem Zkd {first:Int} {cs:List (ByteArray × Int)} {p:ByteArray} {i:Nat} (hi:i < cs.length) (hn:∀x ∈ cs.take i,x.1≠p) (hy:cs[i].1=p):counter first cs p=cs[i].2:=by
 have h1:cs=cs.take i++cs[i]::cs.drop (i + 1):=by rw[List.getElem_cons_drop hi,List.take_append_drop]
 unfold counter ctr
 have h2:cs.find? (fun x=>decide (x.1=p))=some cs[i]:=by
  rw[List.find?_eq_some_iff_append];exact⟨by simp[hy],_,_,h1,fun x hx=>by simpa using hn x hx⟩
 rw[h2];rfl
theorem Zkc {first:Int} {cs:List (ByteArray × Int)} {p:ByteArray} (hn:∀x ∈ cs,x.1≠p):counter first cs p=first:=by
 unfold counter ctr;rw[List.find?_eq_none.2 (fun x hx=>by simpa using hn x hx)];rfl
theorem Zo5 {cs:List (ByteArray × Int)} {p:ByteArray} {n:Int} {i:Nat} (hi:i < cs.length) (hn:∀x ∈ cs.take i,x.1≠p) (hy:cs[i].1=p):putC cs p n=cs.set i (p,n):=by
 have h1:cs=cs.take i++(p,cs[i].2)::cs.drop (i + 1):=by
  have e:(p,cs[i].2)=cs[i]:=by rw[←hy]
  rw[e,List.getElem_cons_drop hi,List.take_append_drop]
 rw[List.set_eq_take_append_cons_drop,if_pos hi];conv=>lhs;rw[h1]
 exact ZdZ hn
theorem Zo4 {cs:List (ByteArray × Int)} {p:ByteArray} {n:Int} (hn:∀x ∈ cs,x.1≠p):putC cs p n=cs++[(p,n)]:=by
 refine Zda ?_;unfold ctr;rw[List.find?_eq_none.2 (fun x hx=>by simpa using hn x hx)];rfl
theorem Zfh {L:List (ByteArray × Int)} {p:ByteArray} {i:Nat} (hi:i < L.length) (h:∀x ∈ L.take i,x.1≠p) (h1:L[i].1≠p):∀x ∈ L.take (i + 1),x.1≠p:=fun x hx=>by
 rw[List.take_succ_eq_append_getElem hi] at hx;rcases List.mem_append.1 hx with hx|hx
 · exact h x hx
 rw[List.mem_singleton.1 hx];exact h1
def CtrRel (w:World) (first:Int) (vL v:Value) (cs:List (ByteArray × Int)) (p:ByteArray) (b1:Nat) (k:Nat) (u:Value) (wr:World):Prop:=
 ∃i:Nat,u=.int .i64 i∧i + k=cs.length∧At [rowC v cs] w [boxB b1 first vL v,rowC v cs] wr∧∀x ∈ cs.take i,x.1≠p
theorem Zhz {w:World} {v:Value} {cs:List (ByteArray × Int)} (h:Sep [rowC v cs] w) (first:Int) (vL:Value) (hvL:∃ax k cap,vL=.slice ax k cap) (p:ByteArray) (hmax:cs.length≤1000000):
 Calls Tryz.prog 145 #[.agg #[.int .u64 first,vL,v],.string p] w fun e w'=>e=.returned (.int .u64 (counter first cs p))∧At [rowC v cs] w [rowC v cs] w':=by
 obtain⟨cx,ck,cc,rfl⟩:=hvL;have hA:=At.start h;have hF:=hA.facts;clear h;obtain⟨ax,cap,rfl,hax,hcap,_⟩:=hA.row_form (v:=v) (xs:=flatC cs) sR;obtain⟨hA,hF⟩:=fZ hA;go_enter Tryz.func145,Tryz.ntmps145
 go_wp2_with ((with_reducible refine gbx ?_);refine wCz (E:=34) hA ?_;clear hF hA;intro bB w1 hA hbB hF)
 (try go_frame);go_loopg [5] cs.length (CtrRel w first (.slice cx ck cc) (.slice ax cs.length cap) cs p bB)
 case atStart=>exact⟨0,rfl,by simp,hA,by simp⟩
 case round=>
  obtain⟨i,rfl,hik,hB,hno⟩:=hrel;have hno':=Hd hno;clear hF hA hno;have hA:=hB;clear hB;by_cases hi:i < cs.length
  · obtain⟨g,c,rfl,_,hcm,hcl,hct,hB⟩:=hA.row_open (ax:=ax) (cap:=cap) (n:=cs.length) (xs:=flatC cs) sR (by omega);have hx:cs[i]? =some cs[i]:=List.getElem?_eq_getElem hi;have c0:c[i * 2]? =some (.string cs[i].1):=Zae ZcG hct hx 0 (by omega);have c1:c[i * 2 + 1]? =some (.int .u64 cs[i].2):=Zae ZcG hct hx 1 (by omega);clear hA;have hA:=hB;clear hB;obtain⟨hA,hF⟩:=fZ hA;by_cases h1:cs[i].1=p
    · have e1:(cs[i].1.toList==p.toList)=true:=by rw[same_ba];exact decide_eq_true h1
      have hd:=Hd (Zkd (first:=first) hi hno'.out h1);clear h1 hx;go_wp2_with fail;go_ret;exact⟨by rw[hd.out];rfl,(ZiT hA sR hcl hcap hcm hct).only1 sR⟩
    have e1:(cs[i].1.toList==p.toList)=false:=by rw[same_ba];exact decide_eq_false h1
    have hm:=Hd (Zfh hi hno'.out h1);clear h1 hx;go_wp2_with fail;go_roundg (gk - 1);case measure=>omega
    case rel=>exact⟨i + 1,by simp,by omega,(ZiT hA sR hcl hcap hcm hct).pick pR,hm.out⟩
  have hd:=Hd (Zkc (first:=first) (fun x hx=>hno'.out x (by rw[List.take_of_length_le (by omega)];exact hx)));obtain⟨hA,hF⟩:=fZ hA;go_wp2_with fail;go_ret;exact⟨by rw[hd.out];rfl,hA.only1 sR⟩
def CntRel (w:World) (first:Int) (vL v u7:Value) (cs:List (ByteArray × Int)) (p:ByteArray) (b1 b2:Nat) (k:Nat) (u:Value) (wr:World):Prop:=
 ∃i:Nat,u=.int .i64 i∧i + k=cs.length∧At [rowC v cs] w [rowC u7 cs,boxB b1 first vL v,boxB b2 0 (.slice none 0 0) (.slice none 0 0),rowC v cs] wr∧∀x ∈ cs.take i,x.1≠p
def Zmv (w:World) (first:Int) (vL v:Value) (cs:List (ByteArray × Int)) (p:ByteArray) (n:Int) (e:Ending) (w':World):Prop:=
 ∃v',e=.returned (.agg #[.int .u64 first,vL,v'])∧At [rowC v cs] w [rowC v' (putC cs p n),rowC v cs] w'
theorem Ziq {w:World} {v:Value} {cs:List (ByteArray × Int)} (h:Sep [rowC v cs] w) (first:Int) (vL:Value) (hvL:∃ax k cap,vL=.slice ax k cap) (p:ByteArray) (n:Int) (hmax:cs.length≤1000000):
 Calls Tryz.prog 146 #[.agg #[.int .u64 first,vL,v],.string p,.int .u64 n] w (Zmv w first vL v cs p n):=by
 obtain⟨cx,ck,cc,rfl⟩:=hvL;obtain⟨i0,hi0,hz0,hz1,hz2⟩:=info_parts infoC;have hA:=At.start h;have hF:=hA.facts;clear h;obtain⟨ax,cap,rfl,hax,hcap,_⟩:=hA.row_form (v:=v) (xs:=flatC cs) sR;have hr0:=hA.row_reads (v:=.slice ax cs.length cap) (xs:=flatC cs) sR;have hA:=ZiW hA;obtain⟨hA,hF⟩:=fZ hA;go_enter Tryz.func146,Tryz.ntmps146
 go_wp2_with (first
  |((with_reducible refine gbx ?_);refine wCz (E:=34) hA ?_;clear hF hA;intro bB w1 hA hbB hF)
  |((with_reducible refine gal ?_);refine g9 hA ?_;clear hF hA;intro bZ w1 hA hbZ hF)
  |((with_reducible refine gst ?_);refine wTz hA ?_;clear hF hA;intro w1 hA hF)|((with_reducible refine gbx ?_);refine wCz hA ?_;clear hF hA;intro b1 w1 hA hb1 hF)
  |(refine Zad (e:=249) (size:=2) (v:=.slice none 0 0) (xs:=flatC []) (n:=([]:List (ByteArray × Int)).length) (m:=cs.length) (news:=flatC cs) rfl _ _ 32 rfl Tryz.underlying32 hi0 hz0 hz1 hz2 rfl (by omega) hA sR (by(try simp only[Act.eval,eV])<;>exact rfl) (by(try simp only[Act.eval,eV])<;>exact rfl) (ZlF _) (hA.row_reads (v:=.slice ax cs.length cap) (n:=cs.length) (xs:=flatC cs) sR) (ZlE _) (by unfold maxLen;simp;omega) (by simp;omega) ?_;intro v1 w1 hB;rw[ZkV] at hB;replace hA:=hB;clear hF hB;obtain⟨hA,hF⟩:=fZ hA))
 (try go_frame);obtain⟨bx,bn,bcap,hv1,hbn⟩:=hA.row_hid (v:=v1) (n:=cs.length) (xs:=flatC cs) sR;subst hv1;go_loopg [8] cs.length (CntRel w first (.slice cx ck cc) (.slice ax cs.length cap) (.slice bx bn bcap) cs p bB bZ)
 case atStart=>exact⟨0,rfl,by simp,hA.pick pR,by simp⟩
 case round=>
  obtain⟨i,rfl,hik,hB,hno⟩:=hrel;have hno':=Hd hno;clear hF hA hno;have hA:=hB;clear hB;have hbn':bn=cs.length:=hbn.out;subst hbn';by_cases hi:i < cs.length
  · obtain⟨g,c,rfl,hcap1,hcm,hcl,hct,hB⟩:=hA.row_open (ax:=bx) (cap:=bcap) (n:=cs.length) (xs:=flatC cs) sR (by omega);have hx:cs[i]? =some cs[i]:=List.getElem?_eq_getElem hi;have c0:c[i * 2]? =some (.string cs[i].1):=Zae ZcG hct hx 0 (by omega);have c1:c[i * 2 + 1]? =some (.int .u64 cs[i].2):=Zae ZcG hct hx 1 (by omega);have hlt:i * 2 + 1 < c.length:=by rw[hcl];omega
    clear hA;have hA:=hB;clear hB;obtain⟨hA,hF⟩:=fZ hA;by_cases h1:cs[i].1=p
    · have e1:(cs[i].1.toList==p.toList)=true:=by rw[same_ba];exact decide_eq_true h1
      have hd:=Hd (Zo5 (n:=n) hi hno'.out h1)
      have hw2:(c.set (i * 2 + 1) (.int .u64 n)).take ((cs.set i (p,n)).length * 2)=flatC (cs.set i (p,n)):=by
       have e2:(setL c (i * 2) (ctrL (p,n))).take ((cs.set i (p,n)).length * 2)=flatC (cs.set i (p,n)):=ZgD ZcG hct hi (p,n);rw[←e2];congr 1
       have c0':c[i * 2]? =some (.string p):=by rw[c0,h1]
       have hs:c.set (i * 2) (.string p)=c:=by
        apply List.ext_getElem?;intro j;by_cases hj:i * 2=j
        · subst hj;rw[List.getElem?_set_self (by omega),c0']
        rw[List.getElem?_set_ne hj]
       show c.set (i * 2 + 1) _=(c.set (i * 2) _).set (i * 2 + 1) _;rw[hs]
      have hw3:=Hd hw2;clear h1 hx hw2
      go_wp2_with (first|((with_reducible refine gst ?_);refine wTz hA ?_;clear hF hA;intro w1 hA hF)|(refine Zam (b:=g) (j:=i * 2 + 1) (vs:=[.int .u64 n]) rfl rfl rfl (by(try simp only[Act.eval,eV])<;>exact rfl) (by exact rfl) hA sR (by kernel_rfl) rfl (by show i * 2 + 1 + 1≤c.length;omega) ?_;intro w1 hB;replace hA:=hB;clear hF hB;obtain⟨hA,hF⟩:=fZ hA))
      have hsl:(cs.set i (p,n)).length=cs.length:=by simp
      refine bodyPost_ret (v:=.agg #[.int .u64 first,.slice cx ck cc,.slice (some ⟨g,0,none⟩) cs.length bcap]) (by simp[results,Tryz.results146,go_sem,hF]) rfl ⟨_,rfl,?_⟩;have hB:=ZiT (L:=cs.set i (p,n)) hA sR (by rw[List.length_set];exact hcl) (by rw[hsl];exact hcap1) hcm hw3.out;rw[hsl] at hB;rw[hd.out];exact hB.pick pR
    have e1:(cs[i].1.toList==p.toList)=false:=by rw[same_ba];exact decide_eq_false h1
    have hm:=Hd (Zfh hi hno'.out h1);clear h1 hx;go_wp2_with fail;go_roundg (gk - 1);case measure=>omega
    case rel=>exact⟨i + 1,by simp,by omega,(ZiT hA sR hcl hcap1 hcm hct).pick pR,hm.out⟩
  have hd:=Hd (Zo4 (n:=n) (fun x hx=>hno'.out x (by rw[List.take_of_length_le (by omega)];exact hx)));obtain⟨hA,hF⟩:=fZ hA
  go_wp2_with (first
   |((with_reducible refine gst ?_);refine wTz hA ?_;clear hF hA;intro w1 hA hF)|((with_reducible refine gbx ?_);refine wCz hA ?_;clear hF hA;intro b1 w1 hA hb1 hF)|((with_reducible refine gal ?_);refine wGz 249 [.string .empty,.int .u64 0] hA ?_;clear hF hA;intro b1 w1 hA hb1 hF)
   |(refine Zao (e:=249) (vs:=ctrL (p,n)) rfl rfl (by(try simp only[Act.eval,eV])<;>exact rfl) (fun _=>by kernel_rfl) hA ?_;intro b2 w1 hB hb2;replace hA:=hB;clear hF hB;obtain⟨hA,hF⟩:=fZ hA)
   |(refine Zad (e:=249) (size:=2) (v:=.slice bx cs.length bcap) (xs:=flatC cs) (n:=cs.length) (m:=1) (news:=ctrL (p,n)) rfl _ _ 32 rfl Tryz.underlying32 hi0 hz0 hz1 hz2 rfl (by omega) hA sR (by(try simp only[Act.eval,eV])<;>exact rfl) (by(try simp only[Act.eval,eV])<;>exact rfl) rfl (hA.cells_reads sR _ _) (Zjr _) (by unfold maxLen;omega) (by omega) ?_;intro v2 w1 hB;rw[ZkU] at hB;obtain⟨ax3,n3,cap3,hv3,hn3⟩:=hB.row_hid .here;subst hv3;replace hA:=hB;clear hF hB;obtain⟨hA,hF⟩:=fZ hA))
  refine bodyPost_ret (v:=.agg #[.int .u64 first,.slice cx ck cc,.slice ax3 n3 cap3]) (by simp[results,Tryz.results146,go_sem,hF]) rfl ⟨_,rfl,?_⟩;rw[hd.out];exact hA.pick pR
end Lock
end
section
namespace Lock
open Go.RowKit
open Go.Maps (Keyed)
open Path (bl Zaf overB)
def GrRel (w:World) (first:Int) (v vC:Value) (L:List Ent) (e:Ent) (m:Nat) (b1:Nat) (k:Nat) (u:Value) (wr:World):Prop:=
 ∃i:Nat,u=.int .i64 i∧i + k=m∧At [rowE v L] w [boxB b1 first v vC,rowE v L] wr∧∀x ∈ L.take i,wayB x e=false
theorem ZlA {L:List Ent} {k:Nat} (hk:k < L.length) (h:∀x ∈ L.take k,wayB x L[k]=false):Zbi L k=true:=by
 unfold Zbi;rw[List.getElem?_eq_getElem hk];simp only[List.all_eq_true];intro x hx;rw[h x hx];rfl
theorem ZnH {L:List Ent} {k i:Nat} (hk:k < L.length) (hi:i < k) (h:wayB (L[i]'(by omega)) L[k]=true):Zbi L k=false:=by
 unfold Zbi;rw[List.getElem?_eq_getElem hk];simp only[List.all_eq_false];exact⟨L[i]'(by omega),List.mem_take_iff_getElem.2 ⟨i,by omega,rfl⟩,by rw[h];simp⟩
theorem Zcu {w:World} {v:Value} {L:List Ent} (h:Sep [rowE v L] w) (first:Int) (vC:Value) (hvC:∃ax k cap,vC=.slice ax k cap) (k:Nat) (hk:k < L.length) (hmax:L.length≤1000000) (hsz:∀x ∈ L,x.path.size≤1000):
 Calls Tryz.prog 24 #[.agg #[.int .u64 first,v,vC],.int .i64 k] w fun e w'=>e=.returned (.bool (Zbi L k))∧At [rowE v L] w [rowE v L] w':=by
 obtain⟨cx,ck,cc,rfl⟩:=hvC;have hA:=At.start h;have hF:=hA.facts;clear h;obtain⟨ax,cap,rfl,hax,hcap,_⟩:=hA.row_form (v:=v) (xs:=flatE L) sR;obtain⟨hA,hF⟩:=fZ hA;go_enter Tryz.func24,Tryz.ntmps24
 go_wp2_with ((with_reducible refine gbx ?_);refine wCz (E:=34) hA ?_;clear hF hA;intro bB w1 hA hbB hF)
 (try go_frame);go_loopg [5] k (GrRel w first (.slice ax L.length cap) (.slice cx ck cc) L L[k] k bB)
 case atStart=>exact⟨0,rfl,by simp,hA,by simp⟩
 case round=>
  obtain⟨i,rfl,hik,hB,hno⟩:=hrel;have hno':=Hd hno;clear hF hA hno;have hA:=hB;clear hB;by_cases hi:i < k
  · obtain⟨g,c,rfl,_,hcm,hcl,hct,hB⟩:=hA.row_open (ax:=ax) (cap:=cap) (n:=L.length) (xs:=flatE L) sR (by omega);have hiL:i < L.length:=by omega
    have hx:L[i]? =some L[i]:=List.getElem?_eq_getElem hiL;have hy:L[k]? =some L[k]:=List.getElem?_eq_getElem hk;have hd1:(c.drop (i * 6)).take 6=[.string L[i].path,.int .u64 L[i].num,.string L[i].foot,.int .i64 L[i].mode,.int .u64 L[i].n,.int .i64 L[i].stamp]:=ZgW Ent.cells_len hct hx;have hd2:(c.drop (k * 6)).take 6=[.string L[k].path,.int .u64 L[k].num,.string L[k].foot,.int .i64 L[k].mode,.int .u64 L[k].n,.int .i64 L[k].stamp]:=ZgW Ent.cells_len hct hy;have hway:=fun w1=>ZiG L[i] L[k] w1 (hsz _ (List.getElem_mem hiL)) (hsz _ (List.getElem_mem hk));have hbad:=Hd (ZnH hk hi);have hgood:=Hd (ZbW (P:=fun x=>wayB x L[k]) hiL hno'.out)
    obtain⟨wb,hwb⟩:∃wb,wayB L[i] L[k]=wb:=⟨_,rfl⟩
    rw[hwb] at hway;have hwb':=Hd hwb;clear hA hwb hx hy;have hA:=hB;clear hB;obtain⟨hA,hF⟩:=fZ hA;go_wp2_with fail;(refine cA hA ?_);(have hn1:=Cl.none hA);(have hn2:=Cl.none2 hA);(repeat(first|go_big_quiet_skip|(go_big_quiet_want;(first|(refine qM 64 6 ?_;go_frame;go_big_quiet_on)|(refine qL ?_;go_frame;go_big_quiet_on)|(go_big_quiet_op;(first|go_big_quiet_on|((apply Exists.intro);(refine⟨fun w1 hw=> ?_,?_⟩);(focus((have hw:=Cl.out hw);(exact through0 hw (hway _))));(go_big_quiet_on))))))))
    (refine wpQuiet_nil ?_);(intro w1 hB);(clear hF hA hn1 hn2);(have hA:=Cl.out hB);(clear hB);obtain⟨hA,hF⟩:=fZ hA
    clear hway;cases wb
    · go_wp2_with fail;go_roundg (gk - 1);case measure=>omega
      case rel=>exact⟨i + 1,by simp,by omega,(Zbs hA sR hcl hcap hcm hct).pick pR,hgood.out hwb'.out⟩
    have hr:=Hd (hbad.out hwb'.out);go_wp2_with fail;go_ret;exact⟨by rw[hr.out];rfl,(Zbs hA sR hcl hcap hcm hct).only1 sR⟩
  have hik2:i=k:=by omega
  subst hik2;have hr:=Hd (ZlA hk hno'.out);obtain⟨hA,hF⟩:=fZ hA;go_wp2_with fail;go_ret;exact⟨by rw[hr.out];rfl,hA.only1 sR⟩
def Zor (w:World) (first:Int) (v vC:Value) (L:List Ent) (e:Ent) (b1:Nat) (k:Nat) (u:Value) (wr:World):Prop:=
 ∃i:Nat,u=.int .i64 i∧i + k=L.length∧At [rowE v L] w [boxB b1 first v vC,rowE v L] wr∧∀x ∈ L.take i,wayB x e=false
theorem Zn2 {L:List Ent} {p:ByteArray} {mode:Int} {i:Nat} (hi:i < L.length) (h:wayB L[i] ⟨p,0,.empty,mode,0,0⟩=true):ZaJ L p mode=false:=by
 unfold ZaJ;rw[Bool.and_eq_false_iff];left
 simp only[List.all_eq_false];exact⟨L[i],List.getElem_mem hi,by rw[h];simp⟩
theorem Zl1 {L:List Ent} {p:ByteArray} {mode:Int} (h:∀x ∈ L,wayB x ⟨p,0,.empty,mode,0,0⟩=false):ZaJ L p mode=Zbh p mode:=by
 unfold ZaJ
 have:L.all (fun x=> !wayB x ⟨p,0,.empty,mode,0,0⟩)=true:=by
  simp only[List.all_eq_true];intro x hx;rw[h x hx];rfl
 rw[this,Bool.true_and]
theorem Zke {w:World} {v:Value} {L:List Ent} (h:Sep [rowE v L] w) (first:Int) (vC:Value) (hvC:∃ax k cap,vC=.slice ax k cap) (p:ByteArray) (mode:Int) (hp:p.size≤1000) (hmax:L.length≤1000000) (hsz:∀x ∈ L,x.path.size≤1000):
 Calls Tryz.prog 101 #[.agg #[.int .u64 first,v,vC],.string p,.int .i64 mode] w fun e w'=>e=.returned (.bool (ZaJ L p mode))∧At [rowE v L] w [rowE v L] w':=by
 obtain⟨cx,ck,cc,rfl⟩:=hvC;have hA:=At.start h;have hF:=hA.facts;clear h;obtain⟨ax,cap,rfl,hax,hcap,_⟩:=hA.row_form (v:=v) (xs:=flatE L) sR;obtain⟨hA,hF⟩:=fZ hA;go_enter Tryz.func101,Tryz.ntmps101
 go_wp2_with ((with_reducible refine gbx ?_);refine wCz (E:=34) hA ?_;clear hF hA;intro bB w1 hA hbB hF)
 (try go_frame);go_loopg [7] L.length (Zor w first (.slice ax L.length cap) (.slice cx ck cc) L ⟨p,0,.empty,mode,0,0⟩ bB)
 case atStart=>exact⟨0,rfl,by simp,hA,by simp⟩
 case round=>
  obtain⟨i,rfl,hik,hB,hno⟩:=hrel;have hno':=Hd hno;clear hF hA hno;have hA:=hB;clear hB;by_cases hi:i < L.length
  · obtain⟨g,c,rfl,_,hcm,hcl,hct,hB⟩:=hA.row_open (ax:=ax) (cap:=cap) (n:=L.length) (xs:=flatE L) sR (by omega);have hx:L[i]? =some L[i]:=List.getElem?_eq_getElem hi;(have c0:c[i * 6]? =some (.string L[i].path):=Zae Ent.cells_len hct hx 0 (by omega));(have c1:c[i * 6 + 1]? =some (.int .u64 L[i].num):=Zae Ent.cells_len hct hx 1 (by omega));(have c2:c[i * 6 + 2]? =some (.string L[i].foot):=Zae Ent.cells_len hct hx 2 (by omega));(have c3:c[i * 6 + 3]? =some (.int .i64 L[i].mode):=Zae Ent.cells_len hct hx 3 (by omega));(have c4:c[i * 6 + 4]? =some (.int .u64 L[i].n):=Zae Ent.cells_len hct hx 4 (by omega));(have c5:c[i * 6 + 5]? =some (.int .i64 L[i].stamp):=Zae Ent.cells_len hct hx 5 (by omega))
    have hway:=fun w1=>ZiG L[i] ⟨p,0,.empty,mode,0,0⟩ w1 (hsz _ (List.getElem_mem hi)) hp;simp only[Ent.val] at hway;have hbad:=Hd (Zn2 (p:=p) (mode:=mode) hi);have hgood:=Hd (ZbW (P:=fun x=>wayB x ⟨p,0,.empty,mode,0,0⟩) hi hno'.out)
    obtain⟨wb,hwb⟩:∃wb,wayB L[i] ⟨p,0,.empty,mode,0,0⟩=wb:=⟨_,rfl⟩
    rw[hwb] at hway;have hwb':=Hd hwb;clear hA hwb hx;have hA:=hB;clear hB;obtain⟨hA,hF⟩:=fZ hA;go_wp2_with fail;refine(hway _).mono ?_;clear hway;rintro e w2 ⟨rfl,hx⟩;replace hA:=hA.ext hx;clear hF hx;obtain⟨hA,hF⟩:=fZ hA;cases wb
    · go_wp2_with fail;go_roundg (gk - 1);case measure=>omega
      case rel=>exact⟨i + 1,by simp,by omega,(Zbs hA sR hcl hcap hcm hct).pick pR,hgood.out hwb'.out⟩
    have hr:=Hd (hbad.out hwb'.out);go_wp2_with fail;go_ret;exact⟨by rw[hr.out];rfl,(Zbs hA sR hcl hcap hcm hct).only1 sR⟩
  have hr:=Hd (Zl1 (p:=p) (mode:=mode) (fun x hx=>hno'.out x (by rw[List.take_of_length_le (by omega)];exact hx)))
  obtain⟨rb,hrb⟩:∃rb,Zaf (bl p)=rb:=⟨_,rfl⟩
  have hrr:=Path.ZbG wr (by omega) hrb;have hrb':=Hd hrb;clear hrb;obtain⟨hA,hF⟩:=fZ hA;go_wp2_with fail;refine hrr.mono ?_;clear hrr;rintro e w2 ⟨rfl,hx⟩;replace hA:=hA.ext hx;clear hF hx;obtain⟨hA,hF⟩:=fZ hA;cases rb
  · go_wp2_with fail;go_ret;exact⟨by rw[hr.out];unfold Zbh;rw[hrb'.out];rfl,hA.only1 sR⟩
  by_cases m1:1≤mode
  · by_cases m2:mode≤2
    · have hm:=Hd (show(decide (mode=1) || decide (mode=2))=true by simp;omega);go_wp2_with fail;go_ret;exact⟨by rw[hr.out];unfold Zbh;rw[hrb'.out,hm.out];rfl,hA.only1 sR⟩
    have hm:=Hd (show(decide (mode=1) || decide (mode=2))=false by simp;omega);have m2':=decide_eq_false m2;have m3:=Hd m2';go_wp2_with fail;go_ret;exact⟨by rw[hr.out];unfold Zbh;rw[hrb'.out,hm.out];first|rfl|(rw[show(true&&false)=decide (mode≤2) from m3.out.symm];rfl),hA.only1 sR⟩
  have hm:=Hd (show(decide (mode=1) || decide (mode=2))=false by simp;omega);go_wp2_with fail;go_ret;exact⟨by rw[hr.out];unfold Zbh;rw[hrb'.out,hm.out];rfl,hA.only1 sR⟩
def ChkRel (w:World) (first:Int) (v vC:Value) (L:List Ent) (p:ByteArray) (n:Int) (b1:Nat) (k:Nat) (u:Value) (wr:World):Prop:=
 ∃i:Nat,u=.int .i64 i∧i + k=L.length∧At [rowE v L] w [boxB b1 first v vC,rowE v L] wr∧∀x ∈ L.take i,decide (x.path=p∧x.n=n)=false
theorem Zn6 {L:List Ent} {p:ByteArray} {n:Int} {i:Nat} (hi:i < L.length) (hn:∀x ∈ L.take i,decide (x.path=p∧x.n=n)=false) (hy:L[i].path=p∧L[i].n=n):Zcy L p n=Zbi L i:=by
 unfold Zcy
 rw[List.findIdx?_eq_some_iff_getElem.2 ⟨hi,by simpa using hy,fun j hj=>by
  have:=hn L[j] (List.mem_take_iff_getElem.2 ⟨j,by omega,rfl⟩)
  simp at this
  simpa using this⟩]
theorem Zl4 {L:List Ent} {p:ByteArray} {n:Int} (hn:∀x ∈ L,decide (x.path=p∧x.n=n)=false):Zcy L p n=false:=by
 unfold Zcy;rw[List.findIdx?_eq_none_iff.2 hn]
theorem Zkj {w:World} {v:Value} {L:List Ent} (h:Sep [rowE v L] w) (first:Int) (vC:Value) (hvC:∃ax k cap,vC=.slice ax k cap) (p:ByteArray) (n:Int) (hmax:L.length≤1000000) (hsz:∀x ∈ L,x.path.size≤1000):
 Calls Tryz.prog 104 #[.agg #[.int .u64 first,v,vC],.string p,.int .u64 n] w fun e w'=>e=.returned (.bool (Zcy L p n))∧At [rowE v L] w [rowE v L] w':=by
 obtain⟨cx,ck,cc,rfl⟩:=hvC;have hA:=At.start h;have hF:=hA.facts;clear h;obtain⟨ax,cap,rfl,hax,hcap,_⟩:=hA.row_form (v:=v) (xs:=flatE L) sR;obtain⟨hA,hF⟩:=fZ hA;go_enter Tryz.func104,Tryz.ntmps104
 go_wp2_with ((with_reducible refine gbx ?_);refine wCz (E:=34) hA ?_;clear hF hA;intro bB w1 hA hbB hF)
 (try go_frame);go_loopg [7] L.length (ChkRel w first (.slice ax L.length cap) (.slice cx ck cc) L p n bB)
 case atStart=>exact⟨0,rfl,by simp,hA,by simp⟩
 case round=>
  obtain⟨i,rfl,hik,hB,hno⟩:=hrel;have hno':=Hd hno;clear hF hA hno;have hA:=hB;clear hB;by_cases hi:i < L.length
  · have hgr:=fun(w1:World) (q:Sep [rowE (.slice ax L.length cap) L] w1)=>Zcu q first (.slice cx ck cc) ⟨_,_,_,rfl⟩ i hi hmax hsz
    obtain⟨gb,hgb⟩:∃gb,Zbi L i=gb:=⟨_,rfl⟩
    rw[hgb] at hgr;have hat:=Hd (fun q=>(Zn6 (p:=p) (n:=n) hi hno'.out q).trans hgb);clear hgb;obtain⟨g,c,rfl,_,hcm,hcl,hct,hB⟩:=hA.row_open (ax:=ax) (cap:=cap) (n:=L.length) (xs:=flatE L) sR (by omega);have hx:L[i]? =some L[i]:=List.getElem?_eq_getElem hi;(have c0:c[i * 6]? =some (.string L[i].path):=Zae Ent.cells_len hct hx 0 (by omega));(have c1:c[i * 6 + 1]? =some (.int .u64 L[i].num):=Zae Ent.cells_len hct hx 1 (by omega));(have c2:c[i * 6 + 2]? =some (.string L[i].foot):=Zae Ent.cells_len hct hx 2 (by omega));(have c3:c[i * 6 + 3]? =some (.int .i64 L[i].mode):=Zae Ent.cells_len hct hx 3 (by omega));(have c4:c[i * 6 + 4]? =some (.int .u64 L[i].n):=Zae Ent.cells_len hct hx 4 (by omega));(have c5:c[i * 6 + 5]? =some (.int .i64 L[i].stamp):=Zae Ent.cells_len hct hx 5 (by omega))
    have hgood:=Hd (ZbW (P:=fun x=>decide (x.path=p∧x.n=n)) hi hno'.out);clear hA hx;have hA:=hB;clear hB;obtain⟨hA,hF⟩:=fZ hA;by_cases h1:L[i].path=p
    · have e1:(L[i].path.toList==p.toList)=true:=by rw[same_ba];exact decide_eq_true h1
      by_cases h2:L[i].n=n
      · have e2:(L[i].n==n)=true:=by simpa using h2
        have hr:=Hd (hat.out ⟨h1,h2⟩);clear h1 h2;go_wp2_with fail;have hB:=Zbs hA sR hcl hcap hcm hct;clear hF hA;refine(hgr _ (hB.sep1 sR)).mono ?_;clear hgr;rintro e w2 ⟨rfl,hT⟩;have hA:=hB.call1 (A:=rowE (.slice (some ⟨g,0,none⟩) L.length cap) L) .here hT;clear hB hT;go_wp2_with fail;go_ret;exact⟨by rw[hr.out];rfl,hA.only1 .here⟩
      have e2:(L[i].n==n)=false:=by simpa using h2
      have hr:=Hd (hgood.out (decide_eq_false (fun q=>h2 q.2)));clear h1 h2;go_wp2_with fail;go_roundg (gk - 1);case measure=>omega
      case rel=>exact⟨i + 1,by simp,by omega,(Zbs hA sR hcl hcap hcm hct).pick pR,hr.out⟩
    have e1:(L[i].path.toList==p.toList)=false:=by rw[same_ba];exact decide_eq_false h1
    have hr:=Hd (hgood.out (decide_eq_false (fun q=>h1 q.1)));clear h1;go_wp2_with fail;go_roundg (gk - 1);case measure=>omega
    case rel=>exact⟨i + 1,by simp,by omega,(Zbs hA sR hcl hcap hcm hct).pick pR,hr.out⟩
  have hr:=Hd (Zl4 (p:=p) (n:=n) (fun x hx=>hno'.out x (by rw[List.take_of_length_le (by omega)];exact hx)));obtain⟨hA,hF⟩:=fZ hA;go_wp2_with fail;go_ret;exact⟨by rw[hr.out];rfl,hA.only1 sR⟩
end Lock
end
section
namespace Lock
open Go.RowKit
open Go.Maps (Keyed)
open Path (bl Zaf overB)
def dropP (all:Bool) (p:ByteArray) (n:Int) (f:ByteArray) (x:Ent):Bool:=decide (x.num=n∧x.foot=f∧(all=true∨x.path=p))
def dropF (all:Bool) (p:ByteArray) (n:Int) (f:ByteArray) (L:List Ent):List Ent:=L.filter (fun x=> !dropP all p n f x)
theorem ZlP (p:ByteArray) (n:Int) (f:ByteArray) (L:List Ent):dropF false p n f L=L.filter (fun x=> !x.is p n f):=by
 unfold dropF;congr 1
 funext x
 unfold dropP Ent.is;congr 1
 rw[decide_eq_decide];constructor
 · rintro⟨h1,h2,h3⟩
   rcases h3 with h3|h3
   · cases h3
   exact⟨h3,h1,h2⟩
 rintro⟨h1,h2,h3⟩
 exact⟨h2,h3,.inr h1⟩
theorem ZlR (p:ByteArray) (n:Int) (f:ByteArray) (L:List Ent):dropF true p n f L=L.filter (fun x=> !x.of n f):=by
 unfold dropF;congr 1
 funext x
 unfold dropP Ent.of;simp
theorem Zka {all:Bool} {p:ByteArray} {n:Int} {f:ByteArray} {L:List Ent} {i:Nat} (hi:i < L.length):dropF all p n f (L.take (i + 1))=if dropP all p n f L[i]=true then dropF all p n f (L.take i) else dropF all p n f (L.take i)++[L[i]]:=by
 unfold dropF;rw[List.take_succ_eq_append_getElem hi,List.filter_append];cases h:dropP all p n f L[i]<;>simp[h]
theorem ZlQ (all:Bool) (p:ByteArray) (n:Int) (f:ByteArray) (L:List Ent) (i:Nat):(dropF all p n f (L.take i)).length≤L.length:=Nat.le_trans (List.length_filter_le _ _) (by rw[List.length_take];omega)
theorem one_E (x:Ent) (w:World):(Instr.buildSlice 31 1 #[(0,.agg #[.string x.path,.int .u64 x.num,.string x.foot,.int .i64 x.mode,.int .u64 x.n,.int .i64 x.stamp])]).run Tryz.prog w=.ok (.slice (some ⟨w.heap.size,0,none⟩) 1 1) (w.alloc (.cells x.cells.toArray 64)):=by kernel_rfl
def DrRel (w:World) (first:Int) (v vC:Value) (L:List Ent) (all:Bool) (p:ByteArray) (n:Int) (f:ByteArray) (b1 b2:Nat) (k:Nat) (u11 u12:Value) (wr:World):Prop:=
 ∃i:Nat,u12=.int .i64 i∧i + k=L.length∧At [rowE v L] w [rowE u11 (dropF all p n f (L.take i)),boxB b2 0 (.slice none 0 0) (.slice none 0 0),boxB b1 first v vC,rowE v L] wr
def Zoq (w:World) (first:Int) (v vC:Value) (L L':List Ent) (e:Ending) (w':World):Prop:=
 ∃v',e=.returned (.agg #[.int .u64 first,v',vC])∧At [rowE v L] w [rowE v' L',rowE v L] w'
theorem ZfA {w:World} {v:Value} {L:List Ent} (h:Sep [rowE v L] w) (first:Int) (vC:Value) (hvC:∃ax k cap,vC=.slice ax k cap) (p:ByteArray) (n:Int) (f:ByteArray) (all:Bool) (hmax:L.length≤1000000):
 Calls Tryz.prog 56 #[.agg #[.int .u64 first,v,vC],.string p,.int .u64 n,.string f,.bool all] w (Zoq w first v vC L (dropF all p n f L)):=by
 obtain⟨cx,ck,cc,rfl⟩:=hvC;obtain⟨i0,hi0,hz0,hz1,hz2⟩:=info_parts infoE;have hA:=At.start h;have hF:=hA.facts;clear h;obtain⟨ax,cap,rfl,hax,hcap,_⟩:=hA.row_form (v:=v) (xs:=flatE L) sR;have hA:=ZbA hA;obtain⟨hA,hF⟩:=fZ hA;go_enter Tryz.func56,Tryz.ntmps56
 go_wp2_with (first
  |((with_reducible refine gbx ?_);refine wCz (E:=34) hA ?_;clear hF hA;intro bB w1 hA hbB hF)
  |((with_reducible refine gal ?_);refine g9 hA ?_;clear hF hA;intro bZ w1 hA hbZ hF)
  |((with_reducible refine gst ?_);refine wTz hA ?_;clear hF hA;intro w1 hA hF)|((with_reducible refine gbx ?_);refine wCz hA ?_;clear hF hA;intro b1 w1 hA hb1 hF))
 (try go_frame);go_loopg [11,12] L.length (DrRel w first (.slice ax L.length cap) (.slice cx ck cc) L all p n f bB bZ)
 case atStart=>exact⟨0,rfl,by simp,by rw[show dropF all p n f (L.take 0)=[] by simp[dropF]];exact hA.pick pR⟩
 case round=>
  obtain⟨i,rfl,hik,hB⟩:=hrel;replace hA:=hB;clear hF hB;have hlen:=ZlQ all p n f L i;by_cases hi:i < L.length
  · have hst:=Zka (all:=all) (p:=p) (n:=n) (f:=f) hi;obtain⟨g,c,rfl,hcap1,hcm,hcl,hct,hB⟩:=hA.row_open (ax:=ax) (cap:=cap) (n:=L.length) (xs:=flatE L) sR (by omega);have hx:L[i]? =some L[i]:=List.getElem?_eq_getElem hi;(have c0:c[i * 6]? =some (.string L[i].path):=Zae Ent.cells_len hct hx 0 (by omega));(have c1:c[i * 6 + 1]? =some (.int .u64 L[i].num):=Zae Ent.cells_len hct hx 1 (by omega));(have c2:c[i * 6 + 2]? =some (.string L[i].foot):=Zae Ent.cells_len hct hx 2 (by omega));(have c3:c[i * 6 + 3]? =some (.int .i64 L[i].mode):=Zae Ent.cells_len hct hx 3 (by omega));(have c4:c[i * 6 + 4]? =some (.int .u64 L[i].n):=Zae Ent.cells_len hct hx 4 (by omega));(have c5:c[i * 6 + 5]? =some (.int .i64 L[i].stamp):=Zae Ent.cells_len hct hx 5 (by omega))
    clear hA hx;have hA:=hB;clear hB
    obtain⟨D,hD⟩:∃D,dropF all p n f (L.take i)=D:=⟨_,rfl⟩
    rw[hD] at hst hlen hA;clear hD
    obtain⟨x,hxi⟩:∃x,L[i]=x:=⟨_,rfl⟩
    simp only[hxi] at hst c0 c1 c2 c3 c4 c5;clear hxi;by_cases hd:dropP all p n f x=true
    · have hn:=Hd (hst.trans (if_pos hd))
      have hcs:(x.num=n∧x.foot=f∧all=true)∨(x.num=n∧x.foot=f∧all=false∧x.path=p):=by
       unfold dropP at hd;simp only[decide_eq_true_eq] at hd;cases all
       · right;simpa using hd
       left;simpa using hd
      clear hd hst;rcases hcs with⟨h1,h2,rfl⟩|⟨h1,h2,rfl,h3⟩
      · have e1:(x.num != n)=false:=by simp[h1]
        have e1':(x.num==n)=true:=by simp[h1]
        have e2:(x.foot.toList != f.toList)=false:=by simp[h2]
        have e2':(x.foot.toList==f.toList)=true:=by simp[h2]
        clear h1 h2;obtain⟨hA,hF⟩:=fZ hA;go_wp2_with fail;go_roundg (gk - 1);case measure=>omega
        case rel=>exact⟨i + 1,by simp,by omega,by rw[hn.out];exact(Zbs hA sR hcl hcap1 hcm hct).pick pR⟩
      have e1:(x.num != n)=false:=by simp[h1]
      have e1':(x.num==n)=true:=by simp[h1]
      have e2:(x.foot.toList != f.toList)=false:=by simp[h2]
      have e2':(x.foot.toList==f.toList)=true:=by simp[h2]
      have e3:(x.path.toList != p.toList)=false:=by simp[h3]
      have e3':(x.path.toList==p.toList)=true:=by simp[h3]
      clear h1 h2 h3;obtain⟨hA,hF⟩:=fZ hA;go_wp2_with fail;go_roundg (gk - 1);case measure=>omega
      case rel=>exact⟨i + 1,by simp,by omega,by rw[hn.out];exact(Zbs hA sR hcl hcap1 hcm hct).pick pR⟩
    have hn:=Hd (hst.trans (if_neg hd))
    have hcs:(x.num != n)=true∨((x.num != n)=false∧(x.foot.toList != f.toList)=true)∨((x.num != n)=false∧(x.foot.toList != f.toList)=false∧(x.path.toList != p.toList)=true∧all=false):=by
     unfold dropP at hd;simp only[decide_eq_true_eq] at hd;by_cases h1:x.num=n
     · by_cases h2:x.foot=f
       · right;right
         refine⟨by simp[h1],by simp[h2],?_,?_⟩
         · unfold bne;rw[same_ba,decide_eq_false (fun h3=>hd ⟨h1,h2,.inr h3⟩)];rfl
         cases all
         · rfl
         exact absurd ⟨h1,h2,.inl rfl⟩ hd
       right;left
       exact⟨by simp[h1],by unfold bne;rw[same_ba,decide_eq_false h2];rfl⟩
     left;simp[h1]
    clear hd hst;rcases hcs with e1|⟨e1,e2⟩|⟨e1,e2,e3,rfl⟩
    all_goals
     try have e1':(x.num==n)=false:=by unfold bne at e1;simpa using e1
     try have e1':(x.num==n)=true:=by unfold bne at e1;simpa using e1
     try have e2':(x.foot.toList==f.toList)=false:=by unfold bne at e2;simpa using e2
     try have e2':(x.foot.toList==f.toList)=true:=by unfold bne at e2;simpa using e2
     try have e3':(x.path.toList==p.toList)=false:=by unfold bne at e3;simpa using e3
     obtain⟨hA,hF⟩:=fZ hA
     go_wp2_with (first
      |((with_reducible show wpList _ _ _ ({dst:=_,op:=Op.buildSlice _ _ _,type:=_,pos:=_,after:=_,guard:=_}::_) _ _);refine Zao (e:=64) (vs:=Ent.cells x) rfl rfl (by(try simp only[Act.eval,eV])<;>exact rfl) (fun _=>one_E x _) hA ?_;intro b2 w1 hB hb2;replace hA:=hB;clear hF hB;obtain⟨hA,hF⟩:=fZ hA)
      |((with_reducible show wpList _ _ _ ({dst:=_,op:=Op.call {callee:=Callee.builtin Builtin.append,args:=_,argTypes:=_},type:=_,pos:=_,after:=_,guard:=_}::_) _ _);refine Zad (e:=64) (size:=6) (v:=u11) (xs:=flatE (D)) (n:=(D).length) (m:=1) (news:=Ent.cells x) rfl _ _ 31 rfl Tryz.underlying31 hi0 hz0 hz1 hz2 rfl (by omega) hA sR (by(try simp only[Act.eval,eV])<;>exact rfl) (by(try simp only[Act.eval,eV])<;>exact rfl) rfl (hA.cells_reads sR _ _) (Ent.one _) (by unfold maxLen;omega) (by omega) ?_;intro v2 w1 hB;rw[Zbt] at hB;replace hA:=hB;clear hF hB;obtain⟨hA,hF⟩:=fZ hA))
     go_roundg (gk - 1);case measure=>omega
     case rel=>exact⟨i + 1,by simp,by omega,by rw[hn.out];exact(Zbs hA sR hcl hcap1 hcm hct).pick pR⟩
  have eL:L.take i=L:=List.take_of_length_le (by omega);rw[eL] at hA;obtain⟨dx,dn,dcap,hdv,hdn⟩:=hA.row_hid (v:=u11) (n:=(dropF all p n f L).length) (xs:=flatE (dropF all p n f L)) sR;subst hdv;obtain⟨hA,hF⟩:=fZ hA
  go_wp2_with ((with_reducible refine gst ?_);refine wTz hA ?_;clear hF hA;intro w1 hA hF)
  refine bodyPost_ret (v:=.agg #[.int .u64 first,.slice dx dn dcap,.slice cx ck cc]) (by simp[results,Tryz.results56,go_sem,hF]) rfl ⟨_,rfl,?_⟩;exact hA.pick pR
end Lock
end
section
namespace Lock
open Go.RowKit
open Go.Maps (Keyed)
open Path (bl Zaf overB)
abbrev boxE0 (b:Nat):Part:=.cells b [.string .empty,.int .u64 0,.string .empty,.int .i64 0,.int .u64 0,.int .i64 0] 64
theorem Zly {L:List Ent} {n:Int} {f:ByteArray} {i:Nat} (hi:i < L.length):heldN (L.take (i + 1)) n f=heldN (L.take i) n f + if L[i].of n f then 1 else 0:=by
 rw[List.take_succ_eq_append_getElem hi,Zfu]
theorem Zli {L:List Ent} {p:ByteArray} {i:Nat} (hi:i < L.length):maxS (L.take (i + 1)) p=if overB (bl L[i].path) (bl p) then max (maxS (L.take i) p) L[i].stamp else maxS (L.take i) p:=by
 rw[List.take_succ_eq_append_getElem hi,Zg7]
theorem Zjj {L:List Ent} {p:ByteArray} {n:Int} {f:ByteArray}:((find L p n f).isSome=true→0≤idxD L p n f)∧((find L p n f).isSome=false→idxD L p n f= -1):=by
 unfold idxD Zi3
 have h:(L.findIdx? (·.is p n f)).isSome=(find L p n f).isSome:=by
  unfold find;rw[List.findIdx?_isSome]
  cases hq:L.find? (·.is p n f) with
  |none=>
   have:=List.find?_eq_none.1 hq;simp only[Option.isSome_none,List.any_eq_false];intro x hx
   simpa using this x hx
  |some y=>
   simp only[Option.isSome_some,List.any_eq_true];exact⟨y,List.mem_of_find?_eq_some hq,by have:=List.find?_some hq;simpa using this⟩
 rw[←h]
 cases hq:L.findIdx? (·.is p n f) with
 |none=>simp
 |some k=>simp
def AddRel (w:World) (first:Int) (vL vC:Value) (L:List Ent) (cs:List (ByteArray × Int)) (p:ByteArray) (n:Int) (f:ByteArray) (b5 b10 b11:Nat) (k:Nat) (u13 u14 u15:Value) (wr:World):Prop:=
 ∃i:Nat,u15=.int .i64 i∧u13=.int .i64 (heldN (L.take i) n f)∧u14=.int .i64 (maxS (L.take i) p)∧i + k=L.length∧At [rowE vL L,rowC vC cs] w [boxE0 b11,boxB b10 0 (.slice none 0 0) (.slice none 0 0),boxB b5 first vL vC,rowE vL L,rowC vC cs] wr
def Zmx (w:World) (vL vC:Value) (s:S3) (p:ByteArray) (n:Int) (f:ByteArray) (mode:Int) (e:Ending) (w':World):Prop:=
 (s.may p n f mode≠0∧e=.returned (.tuple #[.agg #[.int .u64 s.first,vL,vC],nullE.val,.int .i64 (s.may p n f mode)])∧At [rowE vL s.es,rowC vC s.cs] w [rowE vL s.es,rowC vC s.cs] w')∨
 (s.may p n f mode=0∧∃vL' vC',e=.returned (.tuple #[.agg #[.int .u64 s.first,vL',vC'],(s.addE p n f mode).val,.int .i64 0])∧At [rowE vL s.es,rowC vC s.cs] w [rowE vL' (s.add p n f mode).es,rowC vC' (s.add p n f mode).cs,rowE vL s.es,rowC vC s.cs] w')
theorem ZcI {w w':World} {vL vC:Value} {s:S3} {p:ByteArray} {n:Int} {f:ByteArray} {mode:Int} {e:Ending} {c:Int} (hc:s.may p n f mode=c) (h0:c≠0) (he:e=.returned (.tuple #[.agg #[.int .u64 s.first,vL,vC],nullE.val,.int .i64 c])) (h:At [rowE vL s.es,rowC vC s.cs] w [rowE vL s.es,rowC vC s.cs] w'):Zmx w vL vC s p n f mode e w':=
 .inl ⟨by rw[hc];exact h0,by rw[hc];exact he,h⟩
theorem Zmh {w:World} {vL vC:Value} {first:Int} {L:List Ent} {cs:List (ByteArray × Int)} (h:Sep [rowE vL L,rowC vC cs] w) (p:ByteArray) (n:Int) (f:ByteArray) (mode:Int) (hp:p.size≤1000) (hmax:L.length≤1000000) (hmaxc:cs.length≤1000000) (hok:∀x ∈ L,x.path.size≤1000∧x.stamp≤1000000000) (hc0:0≤counter first cs p):
 Calls Tryz.prog 102 #[.agg #[.int .u64 first,vL,vC],.string p,.int .u64 n,.string f,.int .i64 mode] w (Zmx w vL vC ⟨first,L,cs⟩ p n f mode):=by
 obtain⟨i0,hi0,hz0,hz1,hz2⟩:=info_parts infoE;have hA:=At.start h;have hF:=hA.facts;clear h;obtain⟨ax,cap,rfl,hax,hcap,_⟩:=hA.row_form (v:=vL) (xs:=flatE L) sR;obtain⟨cx,cap2,rfl,hcx,hcap2,_⟩:=hA.row_form (v:=vC) (xs:=flatC cs) sR;have hcode:(⟨first,L,cs⟩:S3).may p n f mode=if Zbh p mode=false then 10 else if(find L p n f).isSome=true then 15 else if 64≤heldN L n f then 14 else if lastN≤counter first cs p then 53 else 0:=rfl
 have hfi:=Zjj (L:=L) (p:=p) (n:=n) (f:=f)
 obtain⟨rb,hrb⟩:∃rb,Zaf (bl p)=rb:=⟨_,rfl⟩
 have hrr:=fun w1=>Path.ZbG w1 (by omega) hrb;have hrb':=Hd hrb;clear hrb;have hcode':=Hd hcode;have hfi':=Hd hfi;clear hcode hfi;obtain⟨hA,hF⟩:=fZ hA;go_enter Tryz.func102,Tryz.ntmps102
 go_wp2_with (first
  |((with_reducible refine gbx ?_);refine wCz (E:=34) hA ?_;clear hF hA;intro bB w1 hA hbB hF)
  |((with_reducible refine gal ?_);refine g9 hA ?_;clear hF hA;intro bZ w1 hA hbZ hF)
  |((with_reducible refine gal ?_);refine g6 hA ?_;clear hF hA;intro bE w1 hA hbE hF)
  |((with_reducible refine gst ?_);refine wTz hA ?_;clear hF hA;intro w1 hA hF)|((with_reducible refine gbx ?_);refine wCz hA ?_;clear hF hA;intro b1 w1 hA hb1 hF))
 refine(hrr _).mono ?_;clear hrr;rintro e w2 ⟨rfl,hx⟩;replace hA:=hA.ext hx;clear hF hx;obtain⟨hA,hF⟩:=fZ hA
 cases hrm:Zbh p mode with
 |false=>
  have hc1:=Hd (hcode'.out.trans (if_pos hrm))
  have hcs:rb=false∨(rb=true∧mode < 1)∨(rb=true∧¬mode < 1∧2 < mode):=by
   unfold Zbh at hrm;rw[hrb'.out] at hrm;cases rb
   · exact .inl rfl
   right
   simp at hrm
   by_cases hm:mode < 1
   · exact .inl ⟨rfl,hm⟩
   exact .inr ⟨rfl,hm,by omega⟩
  clear hrm;rcases hcs with rfl|⟨rfl,m1⟩|⟨rfl,m1,m2⟩
  all_goals
   go_wp2_with ((with_reducible refine gst ?_);refine wTz hA ?_;clear hF hA;intro w1 hA hF)
   refine bodyPost_ret (v:=.tuple #[.agg #[.int .u64 first,.slice ax L.length cap,.slice cx cs.length cap2],nullE.val,.int .i64 10]) (by simp[results,Tryz.results102,go_sem,hF,nullE,Ent.val]<;>rfl) rfl ?_;exact ZcI hc1.out (by omega) rfl (hA.pick pR)
 |true=>
  have hc1:=Hd (hcode'.out.trans (if_neg (by rw[hrm];simp)));obtain⟨hr1,hr2⟩:=ZdM hrm;have hrt:rb=true:=by rw[←hrb'.out];exact hr1
  subst hrt;have m1:¬mode < 1:=by omega
  have m2:¬2 < mode:=by omega
  clear hrm hr1 hr2 hcode';go_wp2_with fail;refine(findR_any (hA.sep1 (A:=rowE (.slice ax L.length cap) L) sR) first (.slice cx cs.length cap2) ⟨_,_,_,rfl⟩ p n f hmax).mono ?_;generalize idxD L p n f=ix at *
  rintro e w3 ⟨rfl,hT⟩;replace hA:=hA.call1 (A:=rowE (.slice ax L.length cap) L) sR hT;clear hF hT;obtain⟨hA,hF⟩:=fZ hA
  cases hfs:(find L p n f).isSome with
  |true=>
   have hc2:=Hd (hc1.out.trans (if_pos hfs));have hix:=hfi'.out.1 hfs;clear hfs
   go_wp2_with ((with_reducible refine gst ?_);refine wTz hA ?_;clear hF hA;intro w1 hA hF)
   refine bodyPost_ret (v:=.tuple #[.agg #[.int .u64 first,.slice ax L.length cap,.slice cx cs.length cap2],nullE.val,.int .i64 15]) (by simp[results,Tryz.results102,go_sem,hF,nullE,Ent.val]<;>rfl) rfl ?_;exact ZcI hc2.out (by omega) rfl (hA.pick pR)
  |false=>
   have hc2:=Hd (hc1.out.trans (if_neg (by rw[hfs];simp)));have hix:=hfi'.out.2 hfs;subst hix;clear hfs hfi';go_wp2_with fail;(try go_frame);go_loopg [13,14,15] L.length (AddRel w first (.slice ax L.length cap) (.slice cx cs.length cap2) L cs p n f bB bZ bE)
   case atStart=>exact⟨0,rfl,by simp[heldN],by simp[maxS],by simp,hA.pick pR⟩
   case round=>
    obtain⟨i,rfl,rfl,rfl,hik,hB⟩:=hrel;clear hF hA;have hA:=hB;clear hB;by_cases hi:i < L.length
    · have hh:=Zly (n:=n) (f:=f) hi;have hm:=Zli (p:=p) hi;have hhl:=Zd3 (L.take i) n f;have hml:=Zdu (l:=L.take i) (p:=p) (B:=1000000000) (by omega) (fun x hx=>(hok x (List.mem_of_mem_take hx)).2);obtain⟨hx1,hx2⟩:=hok L[i] (List.getElem_mem hi);have htl:(L.take i).length≤1000000:=by rw[List.length_take];omega
      obtain⟨g,c,rfl,hcap1,hcm,hcl,hct,hB⟩:=hA.row_open (ax:=ax) (cap:=cap) (n:=L.length) (xs:=flatE L) sR (by omega);have hx:L[i]? =some L[i]:=List.getElem?_eq_getElem hi;(have c0:c[i * 6]? =some (.string L[i].path):=Zae Ent.cells_len hct hx 0 (by omega));(have c1:c[i * 6 + 1]? =some (.int .u64 L[i].num):=Zae Ent.cells_len hct hx 1 (by omega));(have c2:c[i * 6 + 2]? =some (.string L[i].foot):=Zae Ent.cells_len hct hx 2 (by omega));(have c3:c[i * 6 + 3]? =some (.int .i64 L[i].mode):=Zae Ent.cells_len hct hx 3 (by omega));(have c4:c[i * 6 + 4]? =some (.int .u64 L[i].n):=Zae Ent.cells_len hct hx 4 (by omega));(have c5:c[i * 6 + 5]? =some (.int .i64 L[i].stamp):=Zae Ent.cells_len hct hx 5 (by omega))
      clear hA hx;have hA:=hB;clear hB
      obtain⟨x,hxi⟩:∃x,L[i]=x:=⟨_,rfl⟩
      simp only[hxi] at hh hm hx1 hx2 c0 c1 c2 c3 c4 c5;clear hxi;have hov:=fun w1=>Path.ZdO x.path p w1 (by omega) (by omega);generalize overB (bl x.path) (bl p)=ob at *
      generalize heldN (L.take i) n f=hn at *
      generalize maxS (L.take i) p=ms at *
      have hh':=Hd hh;have hm':=Hd hm
      have hcs:((x.num==n)=false∧Hid (x.of n f=false))∨((x.num==n)=true∧(x.foot.toList==f.toList)=false∧Hid (x.of n f=false))∨((x.num==n)=true∧(x.foot.toList==f.toList)=true∧Hid (x.of n f=true)):=by
       by_cases h1:x.num=n
       · by_cases h2:x.foot=f
         · right;right
           exact⟨by simp[h1],by simp[h2],Hd (by simp[Ent.of,h1,h2])⟩
         right;left
         exact⟨by simp[h1],by rw[same_ba];exact decide_eq_false h2,Hd (by simp[Ent.of,h2])⟩
       left;exact⟨by simp[h1],Hd (by simp[Ent.of,h1])⟩
      clear hh hm;obtain⟨hA,hF⟩:=fZ hA;rcases hcs with⟨e1,hof⟩|⟨e1,e2,hof⟩|⟨e1,e2,hof⟩
      all_goals
       go_wp2_with fail;refine(hov _).mono ?_;clear hov;rintro e w4 ⟨rfl,hx⟩;replace hA:=hA.ext hx;clear hF hx;obtain⟨hA,hF⟩:=fZ hA;cases ob
       · go_wp2_with fail;go_roundg (gk - 1);case measure=>omega
         case rel=>exact⟨i + 1,by simp,by rw[hh'.out,hof.out];simp,by rw[hm'.out];simp,by omega,(Zbs hA sR hcl hcap1 hcm hct).pick pR⟩
       by_cases hg:ms < x.stamp
       · have hmx:Hid (max ms x.stamp=x.stamp):=Hd (by omega);go_wp2_with fail;go_roundg (gk - 1);case measure=>omega
         case rel=>exact⟨i + 1,by simp,by rw[hh'.out,hof.out];simp,by rw[hm'.out];simp[hmx.out],by omega,(Zbs hA sR hcl hcap1 hcm hct).pick pR⟩
       have hmx:Hid (max ms x.stamp=ms):=Hd (by omega);go_wp2_with fail;go_roundg (gk - 1);case measure=>omega
       case rel=>exact⟨i + 1,by simp,by rw[hh'.out,hof.out];simp,by rw[hm'.out];simp[hmx.out],by omega,(Zbs hA sR hcl hcap1 hcm hct).pick pR⟩
    have eL:L.take i=L:=List.take_of_length_le (by omega);rw[eL];have hq0:=Zd3 L n f;have hms:=Zdu (l:=L) (p:=p) (B:=1000000000) (by omega) (fun x hx=>(hok x hx).2);have hnew:∀q,64≤q→(if 64≤q then(14:Int) else if lastN≤counter first cs p then 53 else 0)=14:=fun q hq=>if_pos hq;generalize hhd:heldN L n f=hd at *
    generalize hmm:maxS L p=ms at *
    by_cases hq:64≤hd
    · have hc3:=Hd (hc2.out.trans (if_pos hq));have hq':(64:Int)≤(hd:Int):=by omega
      clear hq hnew hhd hmm;obtain⟨hA,hF⟩:=fZ hA
      go_wp2_with ((with_reducible refine gst ?_);refine wTz hA ?_;clear hF hA;intro w1 hA hF)
      refine bodyPost_ret (v:=.tuple #[.agg #[.int .u64 first,.slice ax L.length cap,.slice cx cs.length cap2],nullE.val,.int .i64 14]) (by simp[results,Tryz.results102,go_sem,hF,nullE,Ent.val]<;>rfl) rfl ?_;exact ZcI hc3.out (by omega) rfl (hA.pick pR)
    have hc3:=Hd (hc2.out.trans (if_neg hq));have hq':¬(64:Int)≤(hd:Int):=by omega
    have hhd':=Hd hhd;have hmm':=Hd hmm;clear hq hnew hhd hmm;have hct:=fun(w1:World) (q:Sep [rowC (.slice cx cs.length cap2) cs] w1)=>Zhz q first (.slice ax L.length cap) ⟨_,_,_,rfl⟩ p hmaxc
    obtain⟨cc,hcc⟩:∃cc,counter first cs p=cc:=⟨_,rfl⟩
    rw[hcc] at hct hc0;have hcc':=Hd hcc;have hc4:=Hd (hcc ▸ hc3.out);clear hcc hc3;obtain⟨hA,hF⟩:=fZ hA;go_wp2_with fail;refine(hct _ (hA.sep1 (A:=rowC (.slice cx cs.length cap2) cs) sR)).mono ?_;rintro e w5 ⟨rfl,hT⟩;replace hA:=hA.call1 (A:=rowC (.slice cx cs.length cap2) cs) sR hT;clear hF hT;obtain⟨hA,hF⟩:=fZ hA;by_cases hl:9223372036854775807≤cc
    · have hc5:=Hd (hc4.out.trans (if_pos hl));clear hct
      go_wp2_with ((with_reducible refine gst ?_);refine wTz hA ?_;clear hF hA;intro w1 hA hF)
      refine bodyPost_ret (v:=.tuple #[.agg #[.int .u64 first,.slice ax L.length cap,.slice cx cs.length cap2],nullE.val,.int .i64 53]) (by simp[results,Tryz.results102,go_sem,hF,nullE,Ent.val]<;>rfl) rfl ?_;exact ZcI hc5.out (by omega) rfl (hA.pick pR)
    have hc5:=Hd (hc4.out.trans (if_neg hl));have hwr:IntKind.u64.wrap (cc + 1)=cc + 1:=by rw[IntKind.wrap_u64];omega
    go_wp2_with fail;refine(hct _ (hA.sep1 (A:=rowC (.slice cx cs.length cap2) cs) sR)).mono ?_;clear hct;rintro e w6 ⟨rfl,hT⟩;replace hA:=hA.call1 (A:=rowC (.slice cx cs.length cap2) cs) sR hT;clear hF hT;obtain⟨hA,hF⟩:=fZ hA
    go_wp2_with (first|((with_reducible refine gal ?_);refine g6 hA ?_;clear hF hA;intro bX w1 hA hbX hF)|((with_reducible refine gst ?_);refine wTz hA ?_;clear hF hA;intro w1 hA hF))
    refine(Ziq (hA.sep1 (A:=rowC (.slice cx cs.length cap2) cs) sR) first (.slice ax L.length cap) ⟨_,_,_,rfl⟩ p (cc + 1) hmaxc).mono ?_;rintro e w7 ⟨vC',rfl,hT⟩;have hB:=hA.call1 (A:=rowC (.slice cx cs.length cap2) cs) sR hT;obtain⟨dx,dn,dcap,hdv,hdn⟩:=hB.row_hid (v:=vC') (n:=(putC cs p (cc + 1)).length) (xs:=flatC (putC cs p (cc + 1))) .here;subst hdv;clear hF hA hT;have hA:=ZbA hB;clear hB;simp only[uA] at hA;obtain⟨hA,hF⟩:=fZ hA;have hr0:=hA.row_reads (v:=.slice ax L.length cap) (n:=L.length) (xs:=flatE L) sR
    go_wp2_with (first
     |((with_reducible refine gst ?_);refine wTz hA ?_;clear hF hA;intro w1 hA hF)|((with_reducible refine gbx ?_);refine wCz hA ?_;clear hF hA;intro b1 w1 hA hb1 hF)
     |((with_reducible show wpList _ _ _ ({dst:=_,op:=Op.buildSlice _ _ _,type:=_,pos:=_,after:=_,guard:=_}::_) _ _);refine Zao (e:=64) (vs:=Ent.cells ⟨p,n,f,mode,cc + 1,ms + 1⟩) rfl rfl (by(try simp only[Act.eval,eV])<;>exact rfl) (fun _=>one_E ⟨p,n,f,mode,cc + 1,ms + 1⟩ _) hA ?_;intro b2 w1 hB hb2;replace hA:=hB;clear hF hB;obtain⟨hA,hF⟩:=fZ hA)
     |((with_reducible show wpList _ _ _ ({dst:=_,op:=Op.call {callee:=Callee.builtin Builtin.append,args:=_,argTypes:=_},type:=_,pos:=_,after:=_,guard:=_}::_) _ _);refine Zad (e:=64) (size:=6) (v:=.slice ax3 n3 cap3) (xs:=flatE L) (n:=L.length) (m:=1) (news:=Ent.cells ⟨p,n,f,mode,cc + 1,ms + 1⟩) rfl _ _ 31 rfl Tryz.underlying31 hi0 hz0 hz1 hz2 rfl (by omega) hA sR (by(try simp only[Act.eval,eV])<;>exact rfl) (by(try simp only[Act.eval,eV])<;>exact rfl) rfl (hA.cells_reads sR _ _) (Ent.one _) (by unfold maxLen;omega) (by omega) ?_;intro v2 w1 hB;rw[Zbt] at hB;obtain⟨ax4,n4,cap4,hv4,hn4⟩:=hB.row_hid .here;subst hv4;replace hA:=hB;clear hF hB;obtain⟨hA,hF⟩:=fZ hA)
     |((with_reducible show wpList _ _ _ ({dst:=_,op:=Op.call {callee:=Callee.builtin Builtin.append,args:=_,argTypes:=_},type:=_,pos:=_,after:=_,guard:=_}::_) _ _);refine Zad (e:=64) (size:=6) (v:=.slice none 0 0) (xs:=flatE []) (n:=([]:List Ent).length) (m:=L.length) (news:=flatE L) rfl _ _ 31 rfl Tryz.underlying31 hi0 hz0 hz1 hz2 rfl (by omega) hA sR (by(try simp only[Act.eval,eV])<;>exact rfl) (by(try simp only[Act.eval,eV])<;>exact rfl) (ZlD _) (hA.row_reads (v:=.slice ax L.length cap) (n:=L.length) (xs:=flatE L) sR) (ZlC _) (by unfold maxLen;simp;omega) (by simp;omega) ?_;intro v1 w1 hB;rw[ZkT] at hB;obtain⟨ax3,n3,cap3,hv3,hn3⟩:=hB.row_hid .here;subst hv3;replace hA:=hB;clear hF hB;obtain⟨hA,hF⟩:=fZ hA))
    (try go_frame);(refine Zcg (a1:= ?a1_q1) (v:= ?v_q1) 2 34 _ _ (b:=bZ) (j:=0) (us:=[.int .u64 first,.slice ax4 n4 cap4,.slice dx dn dcap]) (by kernel_rfl) (by kernel_rfl) rfl hA sR ?h1_q1 ?hx_q1 ?hy_q1 ?hu_q1 ?hsz_q1 ?hus_q1 ?hl_q1 ?h2_q1);(case h1_q1=>(intro R wR hR;(try clear hF);(simp only[List.take_succ_cons,List.take_zero,List.drop_succ_cons,List.drop_zero]);(have hn1:=Cl.none hR);(have hn2:=Cl.none2 hR);(repeat(first|go_big_quiet_skip|(go_big_quiet_want;(first|(refine qM 34 3 ?_;go_frame;go_big_quiet_on)|(refine qM 64 6 ?_;go_frame;go_big_quiet_on)|(refine qL ?_;go_frame;go_big_quiet_on)|(go_big_quiet_op;(first|go_big_quiet_on))))));(refine wpQuiet_nil ?_);exact rfl));(case hx_q1=>(first|exact rfl|((try simp only[Act.eval,Array.getD_eq_getD_getElem?,List.getElem?_toArray,List.getElem?_cons_succ,List.getElem?_cons_zero,Option.getD_some]);exact rfl)));(case hy_q1=>(first|exact rfl|((try simp only[Act.eval,Array.getD_eq_getD_getElem?,List.getElem?_toArray,List.getElem?_cons_succ,List.getElem?_cons_zero,Option.getD_some]);exact rfl)));(case hu_q1=>exact rfl);(case hsz_q1=>kernel_rfl);(case hus_q1=>rfl);(case hl_q1=>(first|decide|(simp;done)|(simp;omega)));(intro w1 hB;replace hA:=hB;clear hF hB;(simp only[List.drop_succ_cons,List.drop_zero]);obtain⟨hA,hF⟩:=fZ hA;(try go_frame))
    go_wp2_with ((with_reducible refine gst ?_);refine wTz hA ?_;clear hF hA;intro w1 hA hF)
    refine bodyPost_ret (v:=.tuple #[.agg #[.int .u64 first,.slice ax4 n4 cap4,.slice dx dn dcap],.agg #[.string p,.int .u64 n,.string f,.int .i64 mode,.int .u64 (cc + 1),.int .i64 (ms + 1)],.int .i64 0]) (by simp[results,Tryz.results102,go_sem,hF]) rfl ?_;refine .inr ⟨hc5.out,?_⟩;unfold S3.addE S3.add S3.added S3.newE;rw[hc5.out,if_pos rfl,if_pos rfl];simp only[hcc'.out,hmm'.out];exact⟨_,_,rfl,hA.pick pR⟩
end Lock
end
end Go.Proofs.YtknoefbcmomalabGreatDoor
