/- Part 16 of the proof. -/
import Derived.Test.YtekkdllchjmhdaaGreatF6
import Derived.Test.YtekkdllchjmhdaaGreatF9
import Derived.Test.YtekkdllchjmhdaaGreatF2
import Derived.Test.YtekkdllchjmhdaaGreatF10
import Derived.Test.YtekkdllchjmhdaaGreatF13
import Derived.Test.YtekkdllchjmhdaaGreatF14
import Derived.Test.YtekkdllchjmhdaaGreatF15
import Derived.WalkKit
import Derived.Shelf.SlGeneric
set_option linter.unusedSectionVars false
set_option linter.unusedSimpArgs false
set_option linter.unusedVariables false
set_option maxHeartbeats 32000000
namespace Go.Proofs
open Go.Shelf
def Tryz.laysSort_ren:Go.Shelf.Ren:=⟨fun|189=>120|125=>183|257=>182|128=>222|129=>223|294=>213|295=>214|296=>215|297=>216|298=>217|299=>218|216=>219|300=>220|301=>221|328=>263|329=>264|330=>265|331=>266|332=>267|215=>268|343=>286|n=>n,fun|28=>22|3=>3|46=>216|0=>0|51=>245|53=>247|4=>4|183=>238|182=>237|131=>56|5=>5|9=>9|218=>276|222=>280|228=>293|229=>81|n=>n,fun|n=>n⟩
theorem Tryz.laysSort:Go.Proofs.Lays.n189 Tryz.prog Tryz.laysSort_ren:={
 mixed:=by kernel_rfl
 f125:=Tryz.func183.trans (congrArg some (by kernel_rfl))
 f128:=Tryz.func222.trans (congrArg some (by kernel_rfl))
 f129:=Tryz.func223.trans (congrArg some (by kernel_rfl))
 f189:=Tryz.func120.trans (congrArg some (by kernel_rfl))
 f215:=Tryz.func268.trans (congrArg some (by kernel_rfl))
 f216:=Tryz.func219.trans (congrArg some (by kernel_rfl))
 f257:=Tryz.func182.trans (congrArg some (by kernel_rfl))
 f294:=Tryz.func213.trans (congrArg some (by kernel_rfl))
 f295:=Tryz.func214.trans (congrArg some (by kernel_rfl))
 f296:=Tryz.func215.trans (congrArg some (by kernel_rfl))
 f297:=Tryz.func216.trans (congrArg some (by kernel_rfl))
 f298:=Tryz.func217.trans (congrArg some (by kernel_rfl))
 f299:=Tryz.func218.trans (congrArg some (by kernel_rfl))
 f300:=Tryz.func220.trans (congrArg some (by kernel_rfl))
 f301:=Tryz.func221.trans (congrArg some (by kernel_rfl))
 f328:=Tryz.func263.trans (congrArg some (by kernel_rfl))
 f329:=Tryz.func264.trans (congrArg some (by kernel_rfl))
 f330:=Tryz.func265.trans (congrArg some (by kernel_rfl))
 f331:=Tryz.func266.trans (congrArg some (by kernel_rfl))
 f332:=Tryz.func267.trans (congrArg some (by kernel_rfl))
 f343:=Tryz.func286.trans (congrArg some (by kernel_rfl))
 t0:=Tryz.underlying0
 a0:=Tryz.isAgg0
 z0:=Tryz.sizeOf0
 v0:=Tryz.zeroValue0
 t3:=Tryz.underlying3
 a3:=Tryz.isAgg3
 z3:=Tryz.sizeOf3
 v3:=Tryz.zeroValue3
 t4:=Tryz.underlying4
 a4:=Tryz.isAgg4
 z4:=Tryz.sizeOf4
 v4:=Tryz.zeroValue4
 t5:=Tryz.underlying5
 a5:=Tryz.isAgg5
 z5:=Tryz.sizeOf5
 v5:=Tryz.zeroValue5
 t9:=Tryz.underlying9
 a9:=Tryz.isAgg9
 z9:=Tryz.sizeOf9
 v9:=Tryz.zeroValue9
 t28:=Tryz.underlying22
 a28:=Tryz.isAgg22
 z28:=Tryz.sizeOf22
 v28:=Tryz.zeroValue22
 t46:=Tryz.underlying216
 a46:=Tryz.isAgg216
 z46:=Tryz.sizeOf216
 v46:=Tryz.zeroValue216
 t51:=Tryz.underlying245
 a51:=Tryz.isAgg245
 z51:=Tryz.sizeOf245
 v51:=Tryz.zeroValue245
 t53:=Tryz.underlying247
 a53:=Tryz.isAgg247
 z53:=Tryz.sizeOf247
 v53:=Tryz.zeroValue247
 t131:=Tryz.underlying56
 a131:=Tryz.isAgg56
 z131:=Tryz.sizeOf56
 v131:=Tryz.zeroValue56
 t182:=Tryz.underlying237
 a182:=Tryz.isAgg237
 z182:=Tryz.sizeOf237
 v182:=Tryz.zeroValue237
 t183:=Tryz.underlying238
 a183:=Tryz.isAgg238
 z183:=Tryz.sizeOf238
 v183:=Tryz.zeroValue238
 t218:=Tryz.underlying276
 a218:=Tryz.isAgg276
 z218:=Tryz.sizeOf276
 v218:=Tryz.zeroValue276
 t222:=Tryz.underlying280
 a222:=Tryz.isAgg280
 z222:=Tryz.sizeOf280
 v222:=Tryz.zeroValue280
 t228:=Tryz.underlying293
 a228:=Tryz.isAgg293
 z228:=Tryz.sizeOf293
 v228:=Tryz.zeroValue293
 t229:=Tryz.underlying81
 a229:=Tryz.isAgg81
 z229:=Tryz.sizeOf81
 v229:=Tryz.zeroValue81 }
def Tryz.laysSortW_ren:Go.Shelf.Ren:=⟨fun|6=>157|15=>183|14=>203|28=>222|29=>223|20=>236|21=>237|22=>238|23=>239|24=>240|25=>241|26=>242|27=>243|46=>275|47=>264|48=>265|49=>276|50=>277|57=>287|n=>n,fun|22=>35|24=>112|25=>200|3=>3|39=>216|0=>0|53=>245|55=>247|4=>4|46=>238|45=>237|50=>56|5=>5|9=>9|66=>276|70=>280|76=>293|77=>81|n=>n,fun|n=>n⟩
theorem Tryz.laysSortW:Go.Proofs.SlLaysF0.n6 Tryz.prog Tryz.laysSortW_ren:={
 mixed:=by kernel_rfl
 f6:=⟨Tryz.f157.name,by decide,Tryz.func157.trans (congrArg some (by kernel_rfl))⟩
 f14:=⟨Tryz.f203.name,by decide,Tryz.func203.trans (congrArg some (by kernel_rfl))⟩
 f15:=Tryz.func183.trans (congrArg some (by kernel_rfl))
 f20:=⟨Tryz.f236.name,by decide,Tryz.func236.trans (congrArg some (by kernel_rfl))⟩
 f21:=⟨Tryz.f237.name,by decide,Tryz.func237.trans (congrArg some (by kernel_rfl))⟩
 f22:=⟨Tryz.f238.name,by decide,Tryz.func238.trans (congrArg some (by kernel_rfl))⟩
 f23:=⟨Tryz.f239.name,by decide,Tryz.func239.trans (congrArg some (by kernel_rfl))⟩
 f24:=⟨Tryz.f240.name,by decide,Tryz.func240.trans (congrArg some (by kernel_rfl))⟩
 f25:=⟨Tryz.f241.name,by decide,Tryz.func241.trans (congrArg some (by kernel_rfl))⟩
 f26:=⟨Tryz.f242.name,by decide,Tryz.func242.trans (congrArg some (by kernel_rfl))⟩
 f27:=⟨Tryz.f243.name,by decide,Tryz.func243.trans (congrArg some (by kernel_rfl))⟩
 f28:=Tryz.func222.trans (congrArg some (by kernel_rfl))
 f29:=Tryz.func223.trans (congrArg some (by kernel_rfl))
 f46:=⟨Tryz.f275.name,by decide,Tryz.func275.trans (congrArg some (by kernel_rfl))⟩
 f47:=Tryz.func264.trans (congrArg some (by kernel_rfl))
 f48:=Tryz.func265.trans (congrArg some (by kernel_rfl))
 f49:=⟨Tryz.f276.name,by decide,Tryz.func276.trans (congrArg some (by kernel_rfl))⟩
 f50:=⟨Tryz.f277.name,by decide,Tryz.func277.trans (congrArg some (by kernel_rfl))⟩
 f57:=⟨Tryz.f287.name,by decide,Tryz.func287.trans (congrArg some (by kernel_rfl))⟩
 t0:=Tryz.underlying0
 a0:=Tryz.isAgg0
 z0:=Tryz.sizeOf0
 v0:=Tryz.zeroValue0
 t3:=Tryz.underlying3
 a3:=Tryz.isAgg3
 z3:=Tryz.sizeOf3
 v3:=Tryz.zeroValue3
 t4:=Tryz.underlying4
 a4:=Tryz.isAgg4
 z4:=Tryz.sizeOf4
 v4:=Tryz.zeroValue4
 t5:=Tryz.underlying5
 a5:=Tryz.isAgg5
 z5:=Tryz.sizeOf5
 v5:=Tryz.zeroValue5
 t9:=Tryz.underlying9
 a9:=Tryz.isAgg9
 z9:=Tryz.sizeOf9
 v9:=Tryz.zeroValue9
 t22:=Tryz.underlying35
 a22:=Tryz.isAgg35
 z22:=Tryz.sizeOf35
 v22:=Tryz.zeroValue35
 t25:=Tryz.underlying200
 a25:=Tryz.isAgg200
 z25:=Tryz.sizeOf200
 v25:=Tryz.zeroValue200
 t39:=Tryz.underlying216
 a39:=Tryz.isAgg216
 z39:=Tryz.sizeOf216
 v39:=Tryz.zeroValue216
 t45:=Tryz.underlying237
 a45:=Tryz.isAgg237
 z45:=Tryz.sizeOf237
 v45:=Tryz.zeroValue237
 t46:=Tryz.underlying238
 a46:=Tryz.isAgg238
 z46:=Tryz.sizeOf238
 v46:=Tryz.zeroValue238
 t50:=Tryz.underlying56
 a50:=Tryz.isAgg56
 z50:=Tryz.sizeOf56
 v50:=Tryz.zeroValue56
 t53:=Tryz.underlying245
 a53:=Tryz.isAgg245
 z53:=Tryz.sizeOf245
 v53:=Tryz.zeroValue245
 t55:=Tryz.underlying247
 a55:=Tryz.isAgg247
 z55:=Tryz.sizeOf247
 v55:=Tryz.zeroValue247
 t66:=Tryz.underlying276
 a66:=Tryz.isAgg276
 z66:=Tryz.sizeOf276
 v66:=Tryz.zeroValue276
 t70:=Tryz.underlying280
 a70:=Tryz.isAgg280
 z70:=Tryz.sizeOf280
 v70:=Tryz.zeroValue280
 t76:=Tryz.underlying293
 a76:=Tryz.isAgg293
 z76:=Tryz.sizeOf293
 v76:=Tryz.zeroValue293
 t77:=Tryz.underlying81
 a77:=Tryz.isAgg81
 z77:=Tryz.sizeOf81
 v77:=Tryz.zeroValue81 }
def Tryz.laysSortC_ren:Go.Shelf.Ren:=⟨fun|6=>162|15=>183|14=>207|28=>222|29=>223|20=>245|21=>246|22=>247|23=>248|24=>249|25=>250|26=>251|27=>252|46=>278|47=>264|48=>265|49=>279|50=>280|57=>288|n=>n,fun|22=>36|24=>117|25=>204|3=>3|39=>216|0=>0|53=>245|55=>247|4=>4|46=>238|45=>237|50=>56|5=>5|9=>9|66=>276|70=>280|76=>293|77=>81|n=>n,fun|n=>n⟩
theorem Tryz.laysSortC:Go.Proofs.SlLaysF0.n6 Tryz.prog Tryz.laysSortC_ren:={
 mixed:=by kernel_rfl
 f6:=⟨Tryz.f162.name,by decide,Tryz.func162.trans (congrArg some (by kernel_rfl))⟩
 f14:=⟨Tryz.f207.name,by decide,Tryz.func207.trans (congrArg some (by kernel_rfl))⟩
 f15:=Tryz.func183.trans (congrArg some (by kernel_rfl))
 f20:=⟨Tryz.f245.name,by decide,Tryz.func245.trans (congrArg some (by kernel_rfl))⟩
 f21:=⟨Tryz.f246.name,by decide,Tryz.func246.trans (congrArg some (by kernel_rfl))⟩
 f22:=⟨Tryz.f247.name,by decide,Tryz.func247.trans (congrArg some (by kernel_rfl))⟩
 f23:=⟨Tryz.f248.name,by decide,Tryz.func248.trans (congrArg some (by kernel_rfl))⟩
 f24:=⟨Tryz.f249.name,by decide,Tryz.func249.trans (congrArg some (by kernel_rfl))⟩
 f25:=⟨Tryz.f250.name,by decide,Tryz.func250.trans (congrArg some (by kernel_rfl))⟩
 f26:=⟨Tryz.f251.name,by decide,Tryz.func251.trans (congrArg some (by kernel_rfl))⟩
 f27:=⟨Tryz.f252.name,by decide,Tryz.func252.trans (congrArg some (by kernel_rfl))⟩
 f28:=Tryz.func222.trans (congrArg some (by kernel_rfl))
 f29:=Tryz.func223.trans (congrArg some (by kernel_rfl))
 f46:=⟨Tryz.f278.name,by decide,Tryz.func278.trans (congrArg some (by kernel_rfl))⟩
 f47:=Tryz.func264.trans (congrArg some (by kernel_rfl))
 f48:=Tryz.func265.trans (congrArg some (by kernel_rfl))
 f49:=⟨Tryz.f279.name,by decide,Tryz.func279.trans (congrArg some (by kernel_rfl))⟩
 f50:=⟨Tryz.f280.name,by decide,Tryz.func280.trans (congrArg some (by kernel_rfl))⟩
 f57:=⟨Tryz.f288.name,by decide,Tryz.func288.trans (congrArg some (by kernel_rfl))⟩
 t0:=Tryz.underlying0
 a0:=Tryz.isAgg0
 z0:=Tryz.sizeOf0
 v0:=Tryz.zeroValue0
 t3:=Tryz.underlying3
 a3:=Tryz.isAgg3
 z3:=Tryz.sizeOf3
 v3:=Tryz.zeroValue3
 t4:=Tryz.underlying4
 a4:=Tryz.isAgg4
 z4:=Tryz.sizeOf4
 v4:=Tryz.zeroValue4
 t5:=Tryz.underlying5
 a5:=Tryz.isAgg5
 z5:=Tryz.sizeOf5
 v5:=Tryz.zeroValue5
 t9:=Tryz.underlying9
 a9:=Tryz.isAgg9
 z9:=Tryz.sizeOf9
 v9:=Tryz.zeroValue9
 t22:=Tryz.underlying36
 a22:=Tryz.isAgg36
 z22:=Tryz.sizeOf36
 v22:=Tryz.zeroValue36
 t25:=Tryz.underlying204
 a25:=Tryz.isAgg204
 z25:=Tryz.sizeOf204
 v25:=Tryz.zeroValue204
 t39:=Tryz.underlying216
 a39:=Tryz.isAgg216
 z39:=Tryz.sizeOf216
 v39:=Tryz.zeroValue216
 t45:=Tryz.underlying237
 a45:=Tryz.isAgg237
 z45:=Tryz.sizeOf237
 v45:=Tryz.zeroValue237
 t46:=Tryz.underlying238
 a46:=Tryz.isAgg238
 z46:=Tryz.sizeOf238
 v46:=Tryz.zeroValue238
 t50:=Tryz.underlying56
 a50:=Tryz.isAgg56
 z50:=Tryz.sizeOf56
 v50:=Tryz.zeroValue56
 t53:=Tryz.underlying245
 a53:=Tryz.isAgg245
 z53:=Tryz.sizeOf245
 v53:=Tryz.zeroValue245
 t55:=Tryz.underlying247
 a55:=Tryz.isAgg247
 z55:=Tryz.sizeOf247
 v55:=Tryz.zeroValue247
 t66:=Tryz.underlying276
 a66:=Tryz.isAgg276
 z66:=Tryz.sizeOf276
 v66:=Tryz.zeroValue276
 t70:=Tryz.underlying280
 a70:=Tryz.isAgg280
 z70:=Tryz.sizeOf280
 v70:=Tryz.zeroValue280
 t76:=Tryz.underlying293
 a76:=Tryz.isAgg293
 z76:=Tryz.sizeOf293
 v76:=Tryz.zeroValue293
 t77:=Tryz.underlying81
 a77:=Tryz.isAgg81
 z77:=Tryz.sizeOf81
 v77:=Tryz.zeroValue81 }
def Tryz.laysSortD_ren:Go.Shelf.Ren:=⟨fun|6=>166|15=>183|14=>209|28=>222|29=>223|20=>253|21=>254|22=>255|23=>256|24=>257|25=>258|26=>259|27=>260|46=>281|47=>264|48=>265|49=>282|50=>283|57=>289|n=>n,fun|22=>37|24=>68|25=>206|3=>3|39=>216|0=>0|53=>245|55=>247|4=>4|46=>238|45=>237|50=>56|5=>5|9=>9|66=>276|70=>280|76=>293|77=>81|n=>n,fun|n=>n⟩
theorem Tryz.laysSortD:Go.Proofs.SlLaysF0.n6 Tryz.prog Tryz.laysSortD_ren:={
 mixed:=by kernel_rfl
 f6:=⟨Tryz.f166.name,by decide,Tryz.func166.trans (congrArg some (by kernel_rfl))⟩
 f14:=⟨Tryz.f209.name,by decide,Tryz.func209.trans (congrArg some (by kernel_rfl))⟩
 f15:=Tryz.func183.trans (congrArg some (by kernel_rfl))
 f20:=⟨Tryz.f253.name,by decide,Tryz.func253.trans (congrArg some (by kernel_rfl))⟩
 f21:=⟨Tryz.f254.name,by decide,Tryz.func254.trans (congrArg some (by kernel_rfl))⟩
 f22:=⟨Tryz.f255.name,by decide,Tryz.func255.trans (congrArg some (by kernel_rfl))⟩
 f23:=⟨Tryz.f256.name,by decide,Tryz.func256.trans (congrArg some (by kernel_rfl))⟩
 f24:=⟨Tryz.f257.name,by decide,Tryz.func257.trans (congrArg some (by kernel_rfl))⟩
 f25:=⟨Tryz.f258.name,by decide,Tryz.func258.trans (congrArg some (by kernel_rfl))⟩
 f26:=⟨Tryz.f259.name,by decide,Tryz.func259.trans (congrArg some (by kernel_rfl))⟩
 f27:=⟨Tryz.f260.name,by decide,Tryz.func260.trans (congrArg some (by kernel_rfl))⟩
 f28:=Tryz.func222.trans (congrArg some (by kernel_rfl))
 f29:=Tryz.func223.trans (congrArg some (by kernel_rfl))
 f46:=⟨Tryz.f281.name,by decide,Tryz.func281.trans (congrArg some (by kernel_rfl))⟩
 f47:=Tryz.func264.trans (congrArg some (by kernel_rfl))
 f48:=Tryz.func265.trans (congrArg some (by kernel_rfl))
 f49:=⟨Tryz.f282.name,by decide,Tryz.func282.trans (congrArg some (by kernel_rfl))⟩
 f50:=⟨Tryz.f283.name,by decide,Tryz.func283.trans (congrArg some (by kernel_rfl))⟩
 f57:=⟨Tryz.f289.name,by decide,Tryz.func289.trans (congrArg some (by kernel_rfl))⟩
 t0:=Tryz.underlying0
 a0:=Tryz.isAgg0
 z0:=Tryz.sizeOf0
 v0:=Tryz.zeroValue0
 t3:=Tryz.underlying3
 a3:=Tryz.isAgg3
 z3:=Tryz.sizeOf3
 v3:=Tryz.zeroValue3
 t4:=Tryz.underlying4
 a4:=Tryz.isAgg4
 z4:=Tryz.sizeOf4
 v4:=Tryz.zeroValue4
 t5:=Tryz.underlying5
 a5:=Tryz.isAgg5
 z5:=Tryz.sizeOf5
 v5:=Tryz.zeroValue5
 t9:=Tryz.underlying9
 a9:=Tryz.isAgg9
 z9:=Tryz.sizeOf9
 v9:=Tryz.zeroValue9
 t22:=Tryz.underlying37
 a22:=Tryz.isAgg37
 z22:=Tryz.sizeOf37
 v22:=Tryz.zeroValue37
 t25:=Tryz.underlying206
 a25:=Tryz.isAgg206
 z25:=Tryz.sizeOf206
 v25:=Tryz.zeroValue206
 t39:=Tryz.underlying216
 a39:=Tryz.isAgg216
 z39:=Tryz.sizeOf216
 v39:=Tryz.zeroValue216
 t45:=Tryz.underlying237
 a45:=Tryz.isAgg237
 z45:=Tryz.sizeOf237
 v45:=Tryz.zeroValue237
 t46:=Tryz.underlying238
 a46:=Tryz.isAgg238
 z46:=Tryz.sizeOf238
 v46:=Tryz.zeroValue238
 t50:=Tryz.underlying56
 a50:=Tryz.isAgg56
 z50:=Tryz.sizeOf56
 v50:=Tryz.zeroValue56
 t53:=Tryz.underlying245
 a53:=Tryz.isAgg245
 z53:=Tryz.sizeOf245
 v53:=Tryz.zeroValue245
 t55:=Tryz.underlying247
 a55:=Tryz.isAgg247
 z55:=Tryz.sizeOf247
 v55:=Tryz.zeroValue247
 t66:=Tryz.underlying276
 a66:=Tryz.isAgg276
 z66:=Tryz.sizeOf276
 v66:=Tryz.zeroValue276
 t70:=Tryz.underlying280
 a70:=Tryz.isAgg280
 z70:=Tryz.sizeOf280
 v70:=Tryz.zeroValue280
 t76:=Tryz.underlying293
 a76:=Tryz.isAgg293
 z76:=Tryz.sizeOf293
 v76:=Tryz.zeroValue293
 t77:=Tryz.underlying81
 a77:=Tryz.isAgg81
 z77:=Tryz.sizeOf81
 v77:=Tryz.zeroValue81 }
end Go.Proofs
namespace Go.V
open Go.RowKit Go.Sort Go.Proofs Go.Shelf
theorem zcP (x y:List Int) (W:World) (hx:x.length=2) (hy:y.length=2) (hx0:0<=hdR x) (hx1:hdR x<4611686018427387904) (hy0:0<=hdR y) (hy1:hdR y<4611686018427387904):Calls Tryz.prog 158 #[.agg (x.map (Value.int .i64)).toArray,.agg (y.map (Value.int .i64)).toArray] W fun e w'=>e=.returned (.int .i64 (hdR x - hdR y))/\∃ q os',w'=grow (W.drewN q) os':=by
 match x,hx,y,hy with
 | [x0,x1],_,[y0,y1],_ =>
  show Calls Tryz.prog 158 #[.agg #[.int .i64 x0,.int .i64 x1],.agg #[.int .i64 y0,.int .i64 y1]] W fun e w'=>e=.returned (.int .i64 (x0 - y0))/\∃ q os',w'=grow (W.drewN q) os'
  have hx0:0<=x0:=hx0
  have hx1:x0<4611686018427387904:=hx1
  have hy0:0<=y0:=hy0
  have hy1:y0<4611686018427387904:=hy1
  have hw:IntKind.i64.wrap (x0 - y0)=x0 - y0:=En (by omega) (by omega)
  go_enter Tryz.func158,Tryz.ntmps158
  go_wp2
  go_ret
  exact ⟨rfl,0,_,by rw [alloc_eq_grow,alloc_eq_grow,grow_grow];rfl⟩
theorem zcR (x y:List Int) (W:World) (hx:x.length=21) (hy:y.length=21) (hx0:0<=hdR x) (hx1:hdR x<4611686018427387904) (hy0:0<=hdR y) (hy1:hdR y<4611686018427387904):Calls Tryz.prog 163 #[.agg (x.map (Value.int .i64)).toArray,.agg (y.map (Value.int .i64)).toArray] W fun e w'=>e=.returned (.int .i64 (hdR x - hdR y))/\∃ q os',w'=grow (W.drewN q) os':=by
 match x,hx,y,hy with
 | [x0,x1,x2,x3,x4,x5,x6,x7,x8,x9,x10,x11,x12,x13,x14,x15,x16,x17,x18,x19,x20],_,[y0,y1,y2,y3,y4,y5,y6,y7,y8,y9,y10,y11,y12,y13,y14,y15,y16,y17,y18,y19,y20],_ =>
  show Calls Tryz.prog 163 #[.agg #[.int .i64 x0,.int .i64 x1,.int .i64 x2,.int .i64 x3,.int .i64 x4,.int .i64 x5,.int .i64 x6,.int .i64 x7,.int .i64 x8,.int .i64 x9,.int .i64 x10,.int .i64 x11,.int .i64 x12,.int .i64 x13,.int .i64 x14,.int .i64 x15,.int .i64 x16,.int .i64 x17,.int .i64 x18,.int .i64 x19,.int .i64 x20],.agg #[.int .i64 y0,.int .i64 y1,.int .i64 y2,.int .i64 y3,.int .i64 y4,.int .i64 y5,.int .i64 y6,.int .i64 y7,.int .i64 y8,.int .i64 y9,.int .i64 y10,.int .i64 y11,.int .i64 y12,.int .i64 y13,.int .i64 y14,.int .i64 y15,.int .i64 y16,.int .i64 y17,.int .i64 y18,.int .i64 y19,.int .i64 y20]] W fun e w'=>e=.returned (.int .i64 (x0 - y0))/\∃ q os',w'=grow (W.drewN q) os'
  have hx0:0<=x0:=hx0
  have hx1:x0<4611686018427387904:=hx1
  have hy0:0<=y0:=hy0
  have hy1:y0<4611686018427387904:=hy1
  have hw:IntKind.i64.wrap (x0 - y0)=x0 - y0:=En (by omega) (by omega)
  go_enter Tryz.func163,Tryz.ntmps163
  go_wp2
  go_ret
  exact ⟨rfl,0,_,by rw [alloc_eq_grow,alloc_eq_grow,grow_grow];rfl⟩
theorem zcQ (x y:List Int) (W:World) (hx:x.length=3) (hy:y.length=3) (hx0:0<=hdR x) (hx1:hdR x<4611686018427387904) (hy0:0<=hdR y) (hy1:hdR y<4611686018427387904):Calls Tryz.prog 167 #[.agg (x.map (Value.int .i64)).toArray,.agg (y.map (Value.int .i64)).toArray] W fun e w'=>e=.returned (.int .i64 (hdR x - hdR y))/\∃ q os',w'=grow (W.drewN q) os':=by
 match x,hx,y,hy with
 | [x0,x1,x2],_,[y0,y1,y2],_ =>
  show Calls Tryz.prog 167 #[.agg #[.int .i64 x0,.int .i64 x1,.int .i64 x2],.agg #[.int .i64 y0,.int .i64 y1,.int .i64 y2]] W fun e w'=>e=.returned (.int .i64 (x0 - y0))/\∃ q os',w'=grow (W.drewN q) os'
  have hx0:0<=x0:=hx0
  have hx1:x0<4611686018427387904:=hx1
  have hy0:0<=y0:=hy0
  have hy1:y0<4611686018427387904:=hy1
  have hw:IntKind.i64.wrap (x0 - y0)=x0 - y0:=En (by omega) (by omega)
  go_enter Tryz.func167,Tryz.ntmps167
  go_wp2
  go_ret
  exact ⟨rfl,0,_,by rw [alloc_eq_grow,alloc_eq_grow,grow_grow];rfl⟩
theorem zaS [GK]:C8 Tryz.prog XS:=by
 intro f args H res H' h
 unfold XS at h
 by_cases h1 : f=120
 ·subst h1
  rw [if_pos rfl] at h
  exact ⟨by kernel_rfl,zcX Tryz.laysSort h⟩
 ·rw [if_neg h1] at h
  by_cases h2 : f=103
  ·subst h2
   rw [if_pos rfl] at h
   exact ⟨by kernel_rfl,XO h⟩
  ·rw [if_neg h2] at h
   by_cases h3 : f=104
   ·subst h3
    rw [if_pos rfl] at h
    exact ⟨by kernel_rfl,XT h⟩
   ·rw [if_neg h3] at h
    by_cases h4:f=105
    ·subst h4
     rw [if_pos rfl] at h
     exact ⟨by kernel_rfl,XR h⟩
    ·rw [if_neg h4] at h
     by_cases h5:f=106
     ·subst h5
      rw [if_pos rfl] at h
      exact ⟨by kernel_rfl,XU h⟩
     ·rw [if_neg h5] at h
      by_cases h6:f=107
      ·subst h6
       rw [if_pos rfl] at h
       exact ⟨by kernel_rfl,XP h⟩
      ·rw [if_neg h6] at h
       by_cases h7:f=108
       ·subst h7
        rw [if_pos rfl] at h
        exact ⟨by kernel_rfl,XQ h⟩
       ·rw [if_neg h7] at h
        by_cases h8:f=128
        ·subst h8
         rw [if_pos rfl] at h
         exact ⟨by kernel_rfl,zaT h⟩
        ·rw [if_neg h8] at h
         by_cases h9:f=116
         ·subst h9
          rw [if_pos rfl] at h
          exact ⟨by kernel_rfl,zaU h⟩
         ·rw [if_neg h9] at h
          by_cases h10:f=129
          ·subst h10
           rw [if_pos rfl] at h
           exact ⟨by kernel_rfl,zcb h⟩
          ·rw [if_neg h10] at h
           by_cases h11:f=160
           ·subst h11
            rw [if_pos rfl] at h
            exact ⟨by kernel_rfl,zaV h⟩
           ·rw [if_neg h11] at h
            by_cases h12:f=157
            ·subst h12
             rw [if_pos rfl] at h
             exact ⟨by kernel_rfl,Mk Tryz.laysSortW (by decide) Tryz.isAgg112 Tryz.sizeOf112 (enters_of Tryz.func158 (by kernel_rfl) rfl) (fun x y W a1 a2 a3 a4 a5 a6=>zcP x y W a1 a2 a3 a4 a5 a6) h⟩
            ·rw [if_neg h12] at h
             by_cases h13:f=162
             ·subst h13
              rw [if_pos rfl] at h
              exact ⟨by kernel_rfl,Mk Tryz.laysSortC (by decide) Tryz.isAgg117 Tryz.sizeOf117 (enters_of Tryz.func163 (by kernel_rfl) rfl) (fun x y W a1 a2 a3 a4 a5 a6=>zcR x y W a1 a2 a3 a4 a5 a6) h⟩
             ·rw [if_neg h13] at h
              by_cases h14:f=166
              ·subst h14
               rw [if_pos rfl] at h
               exact ⟨by kernel_rfl,Mk Tryz.laysSortD (by decide) Tryz.isAgg68 Tryz.sizeOf68 (enters_of Tryz.func167 (by kernel_rfl) rfl) (fun x y W a1 a2 a3 a4 a5 a6=>zcQ x y W a1 a2 a3 a4 a5 a6) h⟩
              ·rw [if_neg h14] at h
               cases h
theorem zcc [GK]:C8 Tryz.prog V:=V6 zaS (by kernel_rfl) zbs
theorem zbt:ownKnob Tryz.prog.godebug=none:=by kernel_rfl
theorem zad:laidOutB Tryz.prog=true:=by kernel_rfl
theorem Nt {H:Type} {enc:TypeId × Value->H} {P:Program} {w:World} {base:Nat} {sp:Nat->Bool} {hd:Bool}:∀ {ts:List TypeId} {vs:List Value} {ds:List (DataW H)} {ps:List MemPlace},DataW.TrodAll enc P w base sp hd ts vs ds ps->ds.length=ts.length
 | [],_,_,_,h=>by
  obtain ⟨rfl,rfl,rfl⟩:=ChangeShapes.trodAll_nil h
  rfl
 | _::_,_,_,_,h=>by
  obtain ⟨v,vs1,d,ds1,a,b,rfl,rfl,rfl,_,h2⟩:=ChangeShapes.trodAll_cons h
  simp [Nt h2]
end Go.V
