/- The sorts that are used, laid by the kit's tools. -/
import Derived.Shelf.SlSortCmp.NoneTotal
import Derived.Shelf.SlGeneric
import Derived.Ground.SlsfProg
import Derived.Test.YtbeckijoabapkaaGreatDoorProg
namespace Go.Proofs
open Go.Shelf
def Tryz.sort71_ren:Go.Shelf.Ren:=⟨fun|6=>71|15=>96|14=>95|28=>118|29=>119|20=>110|21=>111|22=>112|23=>113|24=>114|25=>115|26=>116|27=>117|46=>129|47=>130|48=>131|49=>132|50=>133|57=>141|n=>n,fun|22=>55|24=>33|25=>153|3=>3|39=>147|0=>0|53=>47|55=>22|4=>4|46=>205|45=>204|50=>157|5=>5|9=>9|66=>217|70=>221|76=>232|77=>233|n=>n,fun|n=>n⟩
theorem Tryz.sort71:Go.Proofs.SlLaysF0.n6 Tryz.prog Tryz.sort71_ren:={
 mixed:=by kernel_rfl
 f6:=⟨Tryz.f71.name,by decide,Tryz.func71.trans (congrArg some (by kernel_rfl))⟩
 f14:=⟨Tryz.f95.name,by decide,Tryz.func95.trans (congrArg some (by kernel_rfl))⟩
 f15:=Tryz.func96.trans (congrArg some (by kernel_rfl))
 f20:=⟨Tryz.f110.name,by decide,Tryz.func110.trans (congrArg some (by kernel_rfl))⟩
 f21:=⟨Tryz.f111.name,by decide,Tryz.func111.trans (congrArg some (by kernel_rfl))⟩
 f22:=⟨Tryz.f112.name,by decide,Tryz.func112.trans (congrArg some (by kernel_rfl))⟩
 f23:=⟨Tryz.f113.name,by decide,Tryz.func113.trans (congrArg some (by kernel_rfl))⟩
 f24:=⟨Tryz.f114.name,by decide,Tryz.func114.trans (congrArg some (by kernel_rfl))⟩
 f25:=⟨Tryz.f115.name,by decide,Tryz.func115.trans (congrArg some (by kernel_rfl))⟩
 f26:=⟨Tryz.f116.name,by decide,Tryz.func116.trans (congrArg some (by kernel_rfl))⟩
 f27:=⟨Tryz.f117.name,by decide,Tryz.func117.trans (congrArg some (by kernel_rfl))⟩
 f28:=Tryz.func118.trans (congrArg some (by kernel_rfl))
 f29:=Tryz.func119.trans (congrArg some (by kernel_rfl))
 f46:=⟨Tryz.f129.name,by decide,Tryz.func129.trans (congrArg some (by kernel_rfl))⟩
 f47:=Tryz.func130.trans (congrArg some (by kernel_rfl))
 f48:=Tryz.func131.trans (congrArg some (by kernel_rfl))
 f49:=⟨Tryz.f132.name,by decide,Tryz.func132.trans (congrArg some (by kernel_rfl))⟩
 f50:=⟨Tryz.f133.name,by decide,Tryz.func133.trans (congrArg some (by kernel_rfl))⟩
 f57:=⟨Tryz.f141.name,by decide,Tryz.func141.trans (congrArg some (by kernel_rfl))⟩
 t0:=Tryz.underlying0
 a0:=Tryz.isAgg0
 z0:=Tryz.sizeOf0
 v0:=Tryz.zeroValue0
 t3:=Tryz.underlying3
 a3:=Tryz.isAgg3
 z3:=Tryz.sizeOf3
 v3:=Tryz.zeroValue3
 t4:=Tryz.underlying4
 a4:=Tryz.isAgg4
 z4:=Tryz.sizeOf4
 v4:=Tryz.zeroValue4
 t5:=Tryz.underlying5
 a5:=Tryz.isAgg5
 z5:=Tryz.sizeOf5
 v5:=Tryz.zeroValue5
 t9:=Tryz.underlying9
 a9:=Tryz.isAgg9
 z9:=Tryz.sizeOf9
 v9:=Tryz.zeroValue9
 t22:=Tryz.underlying55
 a22:=Tryz.isAgg55
 z22:=Tryz.sizeOf55
 v22:=Tryz.zeroValue55
 t25:=Tryz.underlying153
 a25:=Tryz.isAgg153
 z25:=Tryz.sizeOf153
 v25:=Tryz.zeroValue153
 t39:=Tryz.underlying147
 a39:=Tryz.isAgg147
 z39:=Tryz.sizeOf147
 v39:=Tryz.zeroValue147
 t45:=Tryz.underlying204
 a45:=Tryz.isAgg204
 z45:=Tryz.sizeOf204
 v45:=Tryz.zeroValue204
 t46:=Tryz.underlying205
 a46:=Tryz.isAgg205
 z46:=Tryz.sizeOf205
 v46:=Tryz.zeroValue205
 t50:=Tryz.underlying157
 a50:=Tryz.isAgg157
 z50:=Tryz.sizeOf157
 v50:=Tryz.zeroValue157
 t53:=Tryz.underlying47
 a53:=Tryz.isAgg47
 z53:=Tryz.sizeOf47
 v53:=Tryz.zeroValue47
 t55:=Tryz.underlying22
 a55:=Tryz.isAgg22
 z55:=Tryz.sizeOf22
 v55:=Tryz.zeroValue22
 t66:=Tryz.underlying217
 a66:=Tryz.isAgg217
 z66:=Tryz.sizeOf217
 v66:=Tryz.zeroValue217
 t70:=Tryz.underlying221
 a70:=Tryz.isAgg221
 z70:=Tryz.sizeOf221
 v70:=Tryz.zeroValue221
 t76:=Tryz.underlying232
 a76:=Tryz.isAgg232
 z76:=Tryz.sizeOf232
 v76:=Tryz.zeroValue232
 t77:=Tryz.underlying233
 a77:=Tryz.isAgg233
 z77:=Tryz.sizeOf233
 v77:=Tryz.zeroValue233}
end Go.Proofs
