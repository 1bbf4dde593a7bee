/- Part 14 of the proof. -/
import Derived.Test.YtddgomjodbmohaaDoorB7
import Derived.Test.YtddgomjodbmohaaDoorB10
import Derived.Test.YtddgomjodbmohaaDoorB5
import Derived.Test.YtddgomjodbmohaaDoorB13
import Derived.WalkKit
import Derived.Shelf.Strings.Shaped
set_option linter.unusedSectionVars false
set_option linter.unusedSimpArgs false
set_option linter.unusedVariables false
namespace Go.Proofs
open Go.Shelf
def Tryd.lays156_ren : Go.Shelf.Ren:=⟨fun | 156=>33 | 165=>44 | 166=>45 | 169=>46 | 240=>65 | 241=>66 | 276=>81 | 277=>82 | n=>n,fun | 31=>39 | 9=>9 | 3=>3 | 4=>4 | 0=>0 | 20=>20 | 72=>72 | 76=>76 | 70=>70 | 37=>46 | 75=>75 | 127=>96 | 164=>112 | 5=>5 | 80=>78 | n=>n,fun | n=>n⟩
theorem Tryd.lays156 : Go.Proofs.Lays.n156 Tryd.prog Tryd.lays156_ren:={
 mixed:=by kernel_rfl
 f156:=Tryd.func33.trans (congrArg some (by kernel_rfl))
 f165:=Tryd.func44.trans (congrArg some (by kernel_rfl))
 f166:=Tryd.func45.trans (congrArg some (by kernel_rfl))
 f169:=Tryd.func46.trans (congrArg some (by kernel_rfl))
 f240:=Tryd.func65.trans (congrArg some (by kernel_rfl))
 f241:=Tryd.func66.trans (congrArg some (by kernel_rfl))
 f276:=Tryd.func81.trans (congrArg some (by kernel_rfl))
 f277:=Tryd.func82.trans (congrArg some (by kernel_rfl))
 t0:=Tryd.underlying0
 a0:=Tryd.isAgg0
 z0:=Tryd.sizeOf0
 v0:=Tryd.zeroValue0
 t3:=Tryd.underlying3
 a3:=Tryd.isAgg3
 z3:=Tryd.sizeOf3
 v3:=Tryd.zeroValue3
 t4:=Tryd.underlying4
 a4:=Tryd.isAgg4
 z4:=Tryd.sizeOf4
 v4:=Tryd.zeroValue4
 t9:=Tryd.underlying9
 a9:=Tryd.isAgg9
 z9:=Tryd.sizeOf9
 v9:=Tryd.zeroValue9
 t20:=Tryd.underlying20
 a20:=Tryd.isAgg20
 z20:=Tryd.sizeOf20
 v20:=Tryd.zeroValue20
 t31:=Tryd.underlying39
 a31:=Tryd.isAgg39
 z31:=Tryd.sizeOf39
 v31:=Tryd.zeroValue39
 t37:=Tryd.underlying46
 a37:=Tryd.isAgg46
 z37:=Tryd.sizeOf46
 v37:=Tryd.zeroValue46
 t70:=Tryd.underlying70
 a70:=Tryd.isAgg70
 z70:=Tryd.sizeOf70
 v70:=Tryd.zeroValue70
 t72:=Tryd.underlying72
 a72:=Tryd.isAgg72
 z72:=Tryd.sizeOf72
 v72:=Tryd.zeroValue72
 t75:=Tryd.underlying75
 a75:=Tryd.isAgg75
 z75:=Tryd.sizeOf75
 v75:=Tryd.zeroValue75
 t76:=Tryd.underlying76
 a76:=Tryd.isAgg76
 z76:=Tryd.sizeOf76
 v76:=Tryd.zeroValue76
 t127:=Tryd.underlying96
 a127:=Tryd.isAgg96
 z127:=Tryd.sizeOf96
 v127:=Tryd.zeroValue96
 t164:=Tryd.underlying112
 a164:=Tryd.isAgg112
 z164:=Tryd.sizeOf112
 v164:=Tryd.zeroValue112 }
theorem Tryd.Builder_Extra_156 : Builder.Extra Tryd.prog Tryd.lays156_ren:={
 sizeBuilder:=by kernel_rfl
 liesBuilder:=by kernel_rfl
 t5:=Tryd.underlying5
 a5:=Tryd.isAgg5
 z5:=Tryd.sizeOf5
 v5:=Tryd.zeroValue5
 infoByte:=by kernel_rfl
 cellsByte:=by kernel_rfl
 sizeByte:=by kernel_rfl
 neB5:=by decide }
def Tryd.lays146_ren : Go.Shelf.Ren:=⟨fun | 146=>26 | 221=>37 | 268=>50 | 138=>51 | 143=>52 | 195=>68 | 197=>69 | 218=>70 | 219=>71 | 260=>84 | 217=>85 | 225=>86 | 224=>87 | 267=>88 | 266=>94 | 314=>95 | n=>n,fun | 9=>9 | 31=>39 | 3=>3 | 4=>4 | 0=>0 | 105=>99 | 21=>21 | 5=>5 | 46=>69 | 119=>121 | 139=>124 | 138=>123 | 146=>125 | 51=>92 | n=>n,fun | 1=>0 | 3=>2 | 4=>3 | n=>n⟩
theorem Tryd.lays146 : Go.Proofs.Lays.n146 Tryd.prog Tryd.lays146_ren:={
 mixed:=by kernel_rfl
 f138:=Tryd.func51.trans (congrArg some (by kernel_rfl))
 f143:=Tryd.func52.trans (congrArg some (by kernel_rfl))
 f146:=Tryd.func26.trans (congrArg some (by kernel_rfl))
 f195:=Tryd.func68.trans (congrArg some (by kernel_rfl))
 f197:=Tryd.func69.trans (congrArg some (by kernel_rfl))
 f217:=Tryd.func85.trans (congrArg some (by kernel_rfl))
 f218:=Tryd.func70.trans (congrArg some (by kernel_rfl))
 f219:=Tryd.func71.trans (congrArg some (by kernel_rfl))
 f221:=Tryd.func37.trans (congrArg some (by kernel_rfl))
 f224:=Tryd.func87.trans (congrArg some (by kernel_rfl))
 f225:=Tryd.func86.trans (congrArg some (by kernel_rfl))
 f260:=Tryd.func84.trans (congrArg some (by kernel_rfl))
 f266:=Tryd.func94.trans (congrArg some (by kernel_rfl))
 f267:=Tryd.func88.trans (congrArg some (by kernel_rfl))
 f268:=Tryd.func50.trans (congrArg some (by kernel_rfl))
 f314:=Tryd.func95.trans (congrArg some (by kernel_rfl))
 t0:=Tryd.underlying0
 a0:=Tryd.isAgg0
 z0:=Tryd.sizeOf0
 v0:=Tryd.zeroValue0
 t3:=Tryd.underlying3
 a3:=Tryd.isAgg3
 z3:=Tryd.sizeOf3
 v3:=Tryd.zeroValue3
 t4:=Tryd.underlying4
 a4:=Tryd.isAgg4
 z4:=Tryd.sizeOf4
 v4:=Tryd.zeroValue4
 t5:=Tryd.underlying5
 a5:=Tryd.isAgg5
 z5:=Tryd.sizeOf5
 v5:=Tryd.zeroValue5
 t9:=Tryd.underlying9
 a9:=Tryd.isAgg9
 z9:=Tryd.sizeOf9
 v9:=Tryd.zeroValue9
 t21:=Tryd.underlying21
 a21:=Tryd.isAgg21
 z21:=Tryd.sizeOf21
 v21:=Tryd.zeroValue21
 t31:=Tryd.underlying39
 a31:=Tryd.isAgg39
 z31:=Tryd.sizeOf39
 v31:=Tryd.zeroValue39
 t46:=Tryd.underlying69
 a46:=Tryd.isAgg69
 z46:=Tryd.sizeOf69
 v46:=Tryd.zeroValue69
 t51:=Tryd.underlying92
 a51:=Tryd.isAgg92
 z51:=Tryd.sizeOf92
 v51:=Tryd.zeroValue92
 t105:=Tryd.underlying99
 a105:=Tryd.isAgg99
 z105:=Tryd.sizeOf99
 v105:=Tryd.zeroValue99
 t119:=Tryd.underlying121
 a119:=Tryd.isAgg121
 z119:=Tryd.sizeOf121
 t138:=Tryd.underlying123
 a138:=Tryd.isAgg123
 z138:=Tryd.sizeOf123
 v138:=Tryd.zeroValue123
 t139:=Tryd.underlying124
 a139:=Tryd.isAgg124
 z139:=Tryd.sizeOf124
 v139:=Tryd.zeroValue124
 t146:=Tryd.underlying125
 a146:=Tryd.isAgg125
 z146:=Tryd.sizeOf125
 v146:=Tryd.zeroValue125
 g1:=by kernel_rfl
 g3:=by kernel_rfl
 g4:=by kernel_rfl }
def Tryd.lays145_ren : Go.Shelf.Ren:=⟨fun | 145=>38 | 220=>53 | 219=>71 | 217=>85 | 225=>86 | 224=>87 | 267=>88 | 266=>94 | 314=>95 | n=>n,fun | 9=>9 | 4=>4 | 59=>63 | 3=>3 | 5=>5 | 46=>69 | 146=>125 | 51=>92 | n=>n,fun | 1=>0 | n=>n⟩
theorem Tryd.lays145 : Go.Proofs.Lays.n145 Tryd.prog Tryd.lays145_ren:={
 mixed:=by kernel_rfl
 f145:=Tryd.func38.trans (congrArg some (by kernel_rfl))
 f217:=Tryd.func85.trans (congrArg some (by kernel_rfl))
 f219:=Tryd.func71.trans (congrArg some (by kernel_rfl))
 f220:=Tryd.func53.trans (congrArg some (by kernel_rfl))
 f224:=Tryd.func87.trans (congrArg some (by kernel_rfl))
 f225:=Tryd.func86.trans (congrArg some (by kernel_rfl))
 f266:=Tryd.func94.trans (congrArg some (by kernel_rfl))
 f267:=Tryd.func88.trans (congrArg some (by kernel_rfl))
 f314:=Tryd.func95.trans (congrArg some (by kernel_rfl))
 t3:=Tryd.underlying3
 a3:=Tryd.isAgg3
 z3:=Tryd.sizeOf3
 v3:=Tryd.zeroValue3
 t4:=Tryd.underlying4
 a4:=Tryd.isAgg4
 z4:=Tryd.sizeOf4
 v4:=Tryd.zeroValue4
 t5:=Tryd.underlying5
 a5:=Tryd.isAgg5
 z5:=Tryd.sizeOf5
 v5:=Tryd.zeroValue5
 t9:=Tryd.underlying9
 a9:=Tryd.isAgg9
 z9:=Tryd.sizeOf9
 v9:=Tryd.zeroValue9
 t46:=Tryd.underlying69
 a46:=Tryd.isAgg69
 z46:=Tryd.sizeOf69
 v46:=Tryd.zeroValue69
 t51:=Tryd.underlying92
 a51:=Tryd.isAgg92
 z51:=Tryd.sizeOf92
 v51:=Tryd.zeroValue92
 t59:=Tryd.underlying63
 a59:=Tryd.isAgg63
 z59:=Tryd.sizeOf63
 v59:=Tryd.zeroValue63
 t146:=Tryd.underlying125
 a146:=Tryd.isAgg125
 z146:=Tryd.sizeOf125
 v146:=Tryd.zeroValue125
 g1:=by kernel_rfl }
def Tryd.laysM171_ren : Go.Shelf.Ren:=⟨fun | 171=>32 | 243=>43 | 246=>64 | 283=>77 | 284=>78 | 285=>79 | 286=>80 | 129=>63 | 317=>90 | 318=>91 | 319=>92 | 320=>93 | 337=>96 | 338=>97 | n=>n,fun | 3=>3 | 9=>9 | 2=>2 | 4=>4 | 171=>108 | 0=>0 | 53=>94 | 37=>46 | 5=>5 | 173=>110 | 212=>119 | 51=>92 | 20=>20 | 213=>120 | 46=>69 | 232=>127 | 233=>128 | n=>n,fun | 17=>1 | 18=>4 | 19=>5 | n=>n⟩
theorem Tryd.laysM171 : Go.Proofs.LaysM.n171 Tryd.prog Tryd.laysM171_ren:={
 mixed:=by kernel_rfl
 f129:=Tryd.func63.trans (congrArg some (by kernel_rfl))
 f171:=Tryd.func32.trans (congrArg some (by kernel_rfl))
 f243:=Tryd.func43.trans (congrArg some (by kernel_rfl))
 f246:=Tryd.func64.trans (congrArg some (by kernel_rfl))
 f283:=Tryd.func77.trans (congrArg some (by kernel_rfl))
 f284:=Tryd.func78.trans (congrArg some (by kernel_rfl))
 f285:=Tryd.func79.trans (congrArg some (by kernel_rfl))
 f286:=Tryd.func80.trans (congrArg some (by kernel_rfl))
 f317:=Tryd.func90.trans (congrArg some (by kernel_rfl))
 f318:=Tryd.func91.trans (congrArg some (by kernel_rfl))
 f319:=Tryd.func92.trans (congrArg some (by kernel_rfl))
 f320:=Tryd.func93.trans (congrArg some (by kernel_rfl))
 f337:=Tryd.func96.trans (congrArg some (by kernel_rfl))
 f338:=Tryd.func97.trans (congrArg some (by kernel_rfl))
 t0:=Tryd.underlying0
 a0:=Tryd.isAgg0
 z0:=Tryd.sizeOf0
 v0:=Tryd.zeroValue0
 t2:=Tryd.underlying2
 a2:=Tryd.isAgg2
 z2:=Tryd.sizeOf2
 v2:=Tryd.zeroValue2
 t3:=Tryd.underlying3
 a3:=Tryd.isAgg3
 z3:=Tryd.sizeOf3
 v3:=Tryd.zeroValue3
 t4:=Tryd.underlying4
 a4:=Tryd.isAgg4
 z4:=Tryd.sizeOf4
 v4:=Tryd.zeroValue4
 t5:=Tryd.underlying5
 a5:=Tryd.isAgg5
 z5:=Tryd.sizeOf5
 v5:=Tryd.zeroValue5
 t9:=Tryd.underlying9
 a9:=Tryd.isAgg9
 z9:=Tryd.sizeOf9
 v9:=Tryd.zeroValue9
 t20:=Tryd.underlying20
 a20:=Tryd.isAgg20
 z20:=Tryd.sizeOf20
 v20:=Tryd.zeroValue20
 t37:=Tryd.underlying46
 a37:=Tryd.isAgg46
 z37:=Tryd.sizeOf46
 v37:=Tryd.zeroValue46
 t46:=Tryd.underlying69
 a46:=Tryd.isAgg69
 z46:=Tryd.sizeOf69
 v46:=Tryd.zeroValue69
 t51:=Tryd.underlying92
 a51:=Tryd.isAgg92
 z51:=Tryd.sizeOf92
 v51:=Tryd.zeroValue92
 t53:=Tryd.underlying94
 a53:=Tryd.isAgg94
 z53:=Tryd.sizeOf94
 v53:=Tryd.zeroValue94
 t171:=Tryd.underlying108
 a171:=Tryd.isAgg108
 z171:=Tryd.sizeOf108
 v171:=Tryd.zeroValue108
 t173:=Tryd.underlying110
 a173:=Tryd.isAgg110
 z173:=Tryd.sizeOf110
 v173:=Tryd.zeroValue110
 t212:=Tryd.underlying119
 a212:=Tryd.isAgg119
 z212:=Tryd.sizeOf119
 v212:=Tryd.zeroValue119
 t213:=Tryd.underlying120
 a213:=Tryd.isAgg120
 z213:=Tryd.sizeOf120
 t232:=Tryd.underlying127
 a232:=Tryd.isAgg127
 z232:=Tryd.sizeOf127
 v232:=Tryd.zeroValue127
 t233:=Tryd.underlying128
 a233:=Tryd.isAgg128
 z233:=Tryd.sizeOf128
 v233:=Tryd.zeroValue128
 g17:=by kernel_rfl
 g18:=by kernel_rfl
 g19:=by kernel_rfl
 i0:=by kernel_rfl
 i2:=by kernel_rfl
 i3:=by kernel_rfl
 i4:=by kernel_rfl
 i5:=by kernel_rfl
 i9:=by kernel_rfl
 i20:=by kernel_rfl
 i37:=by kernel_rfl
 i46:=by kernel_rfl
 i51:=by kernel_rfl
 i53:=by kernel_rfl
 i171:=by kernel_rfl
 i173:=by kernel_rfl
 i212:=by kernel_rfl
 i232:=by kernel_rfl
 i233:=by kernel_rfl
 m17:=by kernel_rfl
 m18:=by kernel_rfl
 m19:=by kernel_rfl }
def Tryd.laysSortF_ren : Go.Shelf.Ren:=⟨fun | 6=>30 | 15=>42 | 14=>41 | 28=>62 | 29=>63 | 20=>54 | 21=>55 | 22=>56 | 23=>57 | 24=>58 | 25=>59 | 26=>60 | 27=>61 | 46=>72 | 47=>73 | 48=>74 | 49=>75 | 50=>76 | 57=>89 | n=>n,fun | 22=>47 | 24=>50 | 25=>56 | 3=>3 | 39=>69 | 0=>0 | 53=>92 | 55=>94 | 4=>4 | 46=>86 | 45=>85 | 50=>79 | 5=>5 | 9=>9 | 66=>102 | 70=>106 | 76=>115 | 77=>116 | n=>n,fun | n=>n⟩
theorem Tryd.laysSortF : Go.Proofs.SlLaysF0.n6 Tryd.prog Tryd.laysSortF_ren:={
 mixed:=by kernel_rfl
 f6:=⟨Tryd.f30.name,by decide,Tryd.func30.trans (congrArg some (by kernel_rfl))⟩
 f14:=⟨Tryd.f41.name,by decide,Tryd.func41.trans (congrArg some (by kernel_rfl))⟩
 f15:=Tryd.func42.trans (congrArg some (by kernel_rfl))
 f20:=⟨Tryd.f54.name,by decide,Tryd.func54.trans (congrArg some (by kernel_rfl))⟩
 f21:=⟨Tryd.f55.name,by decide,Tryd.func55.trans (congrArg some (by kernel_rfl))⟩
 f22:=⟨Tryd.f56.name,by decide,Tryd.func56.trans (congrArg some (by kernel_rfl))⟩
 f23:=⟨Tryd.f57.name,by decide,Tryd.func57.trans (congrArg some (by kernel_rfl))⟩
 f24:=⟨Tryd.f58.name,by decide,Tryd.func58.trans (congrArg some (by kernel_rfl))⟩
 f25:=⟨Tryd.f59.name,by decide,Tryd.func59.trans (congrArg some (by kernel_rfl))⟩
 f26:=⟨Tryd.f60.name,by decide,Tryd.func60.trans (congrArg some (by kernel_rfl))⟩
 f27:=⟨Tryd.f61.name,by decide,Tryd.func61.trans (congrArg some (by kernel_rfl))⟩
 f28:=Tryd.func62.trans (congrArg some (by kernel_rfl))
 f29:=Tryd.func63.trans (congrArg some (by kernel_rfl))
 f46:=⟨Tryd.f72.name,by decide,Tryd.func72.trans (congrArg some (by kernel_rfl))⟩
 f47:=Tryd.func73.trans (congrArg some (by kernel_rfl))
 f48:=Tryd.func74.trans (congrArg some (by kernel_rfl))
 f49:=⟨Tryd.f75.name,by decide,Tryd.func75.trans (congrArg some (by kernel_rfl))⟩
 f50:=⟨Tryd.f76.name,by decide,Tryd.func76.trans (congrArg some (by kernel_rfl))⟩
 f57:=⟨Tryd.f89.name,by decide,Tryd.func89.trans (congrArg some (by kernel_rfl))⟩
 t0:=Tryd.underlying0
 a0:=Tryd.isAgg0
 z0:=Tryd.sizeOf0
 v0:=Tryd.zeroValue0
 t3:=Tryd.underlying3
 a3:=Tryd.isAgg3
 z3:=Tryd.sizeOf3
 v3:=Tryd.zeroValue3
 t4:=Tryd.underlying4
 a4:=Tryd.isAgg4
 z4:=Tryd.sizeOf4
 v4:=Tryd.zeroValue4
 t5:=Tryd.underlying5
 a5:=Tryd.isAgg5
 z5:=Tryd.sizeOf5
 v5:=Tryd.zeroValue5
 t9:=Tryd.underlying9
 a9:=Tryd.isAgg9
 z9:=Tryd.sizeOf9
 v9:=Tryd.zeroValue9
 t22:=Tryd.underlying47
 a22:=Tryd.isAgg47
 z22:=Tryd.sizeOf47
 v22:=Tryd.zeroValue47
 t25:=Tryd.underlying56
 a25:=Tryd.isAgg56
 z25:=Tryd.sizeOf56
 v25:=Tryd.zeroValue56
 t39:=Tryd.underlying69
 a39:=Tryd.isAgg69
 z39:=Tryd.sizeOf69
 v39:=Tryd.zeroValue69
 t45:=Tryd.underlying85
 a45:=Tryd.isAgg85
 z45:=Tryd.sizeOf85
 v45:=Tryd.zeroValue85
 t46:=Tryd.underlying86
 a46:=Tryd.isAgg86
 z46:=Tryd.sizeOf86
 v46:=Tryd.zeroValue86
 t50:=Tryd.underlying79
 a50:=Tryd.isAgg79
 z50:=Tryd.sizeOf79
 v50:=Tryd.zeroValue79
 t53:=Tryd.underlying92
 a53:=Tryd.isAgg92
 z53:=Tryd.sizeOf92
 v53:=Tryd.zeroValue92
 t55:=Tryd.underlying94
 a55:=Tryd.isAgg94
 z55:=Tryd.sizeOf94
 v55:=Tryd.zeroValue94
 t66:=Tryd.underlying102
 a66:=Tryd.isAgg102
 z66:=Tryd.sizeOf102
 v66:=Tryd.zeroValue102
 t70:=Tryd.underlying106
 a70:=Tryd.isAgg106
 z70:=Tryd.sizeOf106
 v70:=Tryd.zeroValue106
 t76:=Tryd.underlying115
 a76:=Tryd.isAgg115
 z76:=Tryd.sizeOf115
 v76:=Tryd.zeroValue115
 t77:=Tryd.underlying116
 a77:=Tryd.isAgg116
 z77:=Tryd.sizeOf116
 v77:=Tryd.zeroValue116 }
end Go.Proofs
namespace Go.V
open Go.RowKit Go.Sort Go.Proofs Go.Shelf
theorem span_less (x y : Int × Int) (W : World) (hx0 : 0 <= x.1) (hx1 : x.1 < 4611686018427387904) (hy0 : 0 <= y.1) (hy1 : y.1 < 4611686018427387904) : Calls Tryd.prog 31 #[.agg #[.int .i64 x.1,.int .i64 x.2],.agg #[.int .i64 y.1,.int .i64 y.2]] W fun e w'=>e = .returned (.int .i64 (x.1 - y.1)) /\ ∃ q os',w' = grow (W.drewN q) os':=by
 have hw : IntKind.i64.wrap (x.1 - y.1) = x.1 - y.1:=wrap64 (by omega) (by omega)
 go_enter Tryd.func31,Tryd.ntmps31
 go_wp2
 go_ret
 exact ⟨rfl,0,_,by rw [alloc_eq_grow,alloc_eq_grow,grow_grow]; rfl⟩
theorem XS_sound [GK] (hM : ∀ w, Keep w → ∃ m, w.cell? ⟨0, 0, none⟩ = some (.int .i64 m)) (hT : ∀ w, Keep w → Lib.TabIs Tryd.prog w "internal/strconv.uint64pow10" .u64 Lib.pow10Tab) : CallsSound Tryd.prog XS := by
 intro f args H res H' h
 unfold XS at h
 by_cases h0 : f = 26
 ·subst h0
  rw [if_pos rfl] at h
  exact ⟨by kernel_rfl,XSplit_ok Tryd.lays146 (by kernel_rfl) hM h⟩
 ·rw [if_neg h0] at h
  by_cases h1 : f = 33
  ·subst h1
   rw [if_pos rfl] at h
   exact ⟨by kernel_rfl,XJoin_ok Tryd.lays156 Tryd.Builder_Extra_156 h⟩
  ·rw [if_neg h1] at h
   by_cases h2 : f = 32
   ·subst h2
    rw [if_pos rfl] at h
    exact ⟨by kernel_rfl,XItoa_ok Tryd.laysM171 hT h⟩
   ·rw [if_neg h2] at h
    by_cases h3 : f = 38
    ·subst h3
     rw [if_pos rfl] at h
     exact ⟨by kernel_rfl,XCut_ok Tryd.lays145 hM h⟩
    ·rw [if_neg h3] at h
     by_cases h4 : f = 30
     ·subst h4
      rw [if_pos rfl] at h
      exact ⟨by kernel_rfl,XQ_ok Tryd.laysSortF Tryd.isAgg50 Tryd.sizeOf50 (enters_of Tryd.func31 (by kernel_rfl) rfl) (fun x y W h1 h2 h3 h4=>span_less x y W h1 h2 h3 h4) h⟩
     ·rw [if_neg h4] at h
      cases h
theorem V_sound [GK] (hM : ∀ w, Keep w → ∃ m, w.cell? ⟨0, 0, none⟩ = some (.int .i64 m)) (hT : ∀ w, Keep w → Lib.TabIs Tryd.prog w "internal/strconv.uint64pow10" .u64 Lib.pow10Tab) : CallsSound Tryd.prog V := vcall_sound (XS_sound hM hT) (by kernel_rfl) prog_ok
@[reducible] def gkOf (W : World) (n : Nat) : GK:=⟨fun b=>if b < n then W.heap[b]? else none⟩
theorem gkOf_at {W : World} {n : Nat} : ∀ b B,(gkOf W n).K b = some B -> W.heap[b]? = some B:=fun b B h=>by
 change (if b < n then W.heap[b]? else none) = some B at h
 split at h
 .exact h
 .cases h
theorem keep_cell {W : World} {n g i : Nat} {v : Value} (hg : g < n) (h : W.cell? ⟨g,i,none⟩ = some v) : ∀ w,@Keep (gkOf W n) w -> w.cell? ⟨g,i,none⟩ = some v:=fun w hk=>by
 have hb : W.heap[g]? ≠ none:=fun e=>by simp [World.cell?,e] at h
 obtain ⟨B,hB⟩:=Option.ne_none_iff_exists'.1 hb
 have:=hk g B (by show (if g < n then W.heap[g]? else none) = some B; rw [if_pos hg]; exact hB)
 rw [<- h]
 exact World.cell?_of_block (by simpa using this.trans hB.symm)
theorem maxLen_int {W : World} (h : W.ShapedOpen Tryd.prog) : ∃ m,W.cell? ⟨0,0,none⟩ = some (.int .i64 m) :=
 Go.Proofs.cell_of_shapedOpen_int (zero:=#[.int .i64 0]) (t:=3) h (of_decide_eq_true (by kernel_rfl)) (by kernel_rfl) rfl (by kernel_rfl) (by kernel_rfl) Tryd.underlying3
theorem keep_tab {W : World} {n g : Nat} {name : String} {k : IntKind} {zs : List Int} (hn : Tryd.prog.globalNamed name = some g) (hg : g < n) (h : Lib.TabIs Tryd.prog W name k zs) : ∀ w,@Keep (gkOf W n) w -> Lib.TabIs Tryd.prog w name k zs:=fun w hk=>by
 unfold Lib.TabIs World.var? at h ⊢
 rw [hn] at h ⊢
 simp only [Option.bind_some] at h ⊢
 cases hB : W.heap[g]? with
 | none=>rw [hB] at h; cases h
 | some B =>
  have:=hk g B (by show (if g < n then W.heap[g]? else none) = some B; rw [if_pos hg]; exact hB)
  rw [hB] at h
  rw [this]
  exact h
theorem own_try : ownKnob Tryd.prog.godebug = none:=by kernel_rfl
theorem laid_try : laidOutB Tryd.prog = true:=by kernel_rfl
theorem trodAll_len {H : Type} {enc : TypeId × Value -> H} {P : Program} {w : World} {base : Nat} {sp : Nat -> Bool} {hd : Bool} : ∀ {ts : List TypeId} {vs : List Value} {ds : List (DataW H)} {ps : List MemPlace},DataW.TrodAll enc P w base sp hd ts vs ds ps -> ds.length = ts.length
 | [],_,_,_,h=>by
  obtain ⟨rfl,rfl,rfl⟩:=ChangeShapes.trodAll_nil h
  rfl
 | _ :: _,_,_,_,h=>by
  obtain ⟨v,vs1,d,ds1,a,b,rfl,rfl,rfl,_,h2⟩:=ChangeShapes.trodAll_cons h
  simp [trodAll_len h2]
end Go.V
