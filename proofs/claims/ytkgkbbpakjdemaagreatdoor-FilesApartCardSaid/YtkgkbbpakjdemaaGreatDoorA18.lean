/- Part 18 of the proof. -/
import Derived.Test.YtkgkbbpakjdemaaGreatDoorA9
import Derived.Test.YtkgkbbpakjdemaaGreatDoorA12
import Derived.Test.YtkgkbbpakjdemaaGreatDoorA6
import Derived.Test.YtkgkbbpakjdemaaGreatDoorA15
import Derived.Test.YtkgkbbpakjdemaaGreatDoorA16
import Derived.Test.YtkgkbbpakjdemaaGreatDoorA17
import Derived.WalkKit
import Derived.Shelf.Strings.Shaped
import Derived.Test.YtkgkbbpakjdemaaGreatDoorA7
set_option linter.unusedSectionVars false
set_option linter.unusedSimpArgs false
set_option linter.unusedVariables false
open Nat renaming reduceAdd → rA, reduceSub → rS, reduceEqDiff → rE, reduceLeDiff → rL
open List renaming map_cons → lpc, map_nil → lpn, length_map → llm
namespace Go.Proofs
open Go.Shelf
def Tryz.lays156_ren : Go.Shelf.Ren:=⟨fun | 156=>83 | 165=>95 | 166=>96 | 169=>97 | 240=>108 | 241=>109 | 276=>128 | 277=>129 | n=>n,fun | 31=>41 | 9=>9 | 3=>3 | 4=>4 | 0=>0 | 20=>20 | 72=>119 | 76=>123 | 70=>117 | 37=>62 | 75=>122 | 127=>134 | 164=>151 | 5=>5 | 80=>125 | n=>n,fun | n=>n⟩
theorem Tryz.lays156 : Go.Proofs.Lays.n156 Tryz.prog Tryz.lays156_ren:={
 mixed:=by kernel_rfl
 f156:=Tryz.func83.trans (congrArg some (by kernel_rfl))
 f165:=Tryz.func95.trans (congrArg some (by kernel_rfl))
 f166:=Tryz.func96.trans (congrArg some (by kernel_rfl))
 f169:=Tryz.func97.trans (congrArg some (by kernel_rfl))
 f240:=Tryz.func108.trans (congrArg some (by kernel_rfl))
 f241:=Tryz.func109.trans (congrArg some (by kernel_rfl))
 f276:=Tryz.func128.trans (congrArg some (by kernel_rfl))
 f277:=Tryz.func129.trans (congrArg some (by kernel_rfl))
 t0:=Tryz.underlying0
 a0:=Tryz.isAgg0
 z0:=Tryz.sizeOf0
 v0:=Tryz.zeroValue0
 t3:=Tryz.underlying3
 a3:=Tryz.isAgg3
 z3:=Tryz.sizeOf3
 v3:=Tryz.zeroValue3
 t4:=Tryz.underlying4
 a4:=Tryz.isAgg4
 z4:=Tryz.sizeOf4
 v4:=Tryz.zeroValue4
 t9:=Tryz.underlying9
 a9:=Tryz.isAgg9
 z9:=Tryz.sizeOf9
 v9:=Tryz.zeroValue9
 t20:=Tryz.underlying20
 a20:=Tryz.isAgg20
 z20:=Tryz.sizeOf20
 v20:=Tryz.zeroValue20
 t31:=Tryz.underlying41
 a31:=Tryz.isAgg41
 z31:=Tryz.sizeOf41
 v31:=Tryz.zeroValue41
 t37:=Tryz.underlying62
 a37:=Tryz.isAgg62
 z37:=Tryz.sizeOf62
 v37:=Tryz.zeroValue62
 t70:=Tryz.underlying117
 a70:=Tryz.isAgg117
 z70:=Tryz.sizeOf117
 v70:=Tryz.zeroValue117
 t72:=Tryz.underlying119
 a72:=Tryz.isAgg119
 z72:=Tryz.sizeOf119
 v72:=Tryz.zeroValue119
 t75:=Tryz.underlying122
 a75:=Tryz.isAgg122
 z75:=Tryz.sizeOf122
 v75:=Tryz.zeroValue122
 t76:=Tryz.underlying123
 a76:=Tryz.isAgg123
 z76:=Tryz.sizeOf123
 v76:=Tryz.zeroValue123
 t127:=Tryz.underlying134
 a127:=Tryz.isAgg134
 z127:=Tryz.sizeOf134
 v127:=Tryz.zeroValue134
 t164:=Tryz.underlying151
 a164:=Tryz.isAgg151
 z164:=Tryz.sizeOf151
 v164:=Tryz.zeroValue151 }
theorem Tryz.Builder_Extra_156 : Builder.Extra Tryz.prog Tryz.lays156_ren:={
 sizeBuilder:=by kernel_rfl
 liesBuilder:=by kernel_rfl
 t5:=Tryz.underlying5
 a5:=Tryz.isAgg5
 z5:=Tryz.sizeOf5
 v5:=Tryz.zeroValue5
 infoByte:=by kernel_rfl
 cellsByte:=by kernel_rfl
 sizeByte:=by kernel_rfl
 neB5:=by decide }
def Tryz.lays146_ren : Go.Shelf.Ren:=⟨fun | 146=>67 | 221=>81 | 268=>91 | 138=>92 | 143=>93 | 195=>104 | 197=>105 | 218=>106 | 219=>107 | 260=>124 | 217=>90 | 225=>125 | 224=>126 | 267=>127 | 266=>103 | 314=>139 | n=>n,fun | 9=>9 | 31=>41 | 3=>3 | 4=>4 | 0=>0 | 105=>132 | 21=>21 | 5=>5 | 46=>130 | 119=>162 | 139=>165 | 138=>164 | 146=>166 | 51=>144 | n=>n,fun | 1=>0 | 3=>2 | 4=>3 | n=>n⟩
theorem Tryz.lays146 : Go.Proofs.Lays.n146 Tryz.prog Tryz.lays146_ren:={
 mixed:=by kernel_rfl
 f138:=Tryz.func92.trans (congrArg some (by kernel_rfl))
 f143:=Tryz.func93.trans (congrArg some (by kernel_rfl))
 f146:=Tryz.func67.trans (congrArg some (by kernel_rfl))
 f195:=Tryz.func104.trans (congrArg some (by kernel_rfl))
 f197:=Tryz.func105.trans (congrArg some (by kernel_rfl))
 f217:=Tryz.func90.trans (congrArg some (by kernel_rfl))
 f218:=Tryz.func106.trans (congrArg some (by kernel_rfl))
 f219:=Tryz.func107.trans (congrArg some (by kernel_rfl))
 f221:=Tryz.func81.trans (congrArg some (by kernel_rfl))
 f224:=Tryz.func126.trans (congrArg some (by kernel_rfl))
 f225:=Tryz.func125.trans (congrArg some (by kernel_rfl))
 f260:=Tryz.func124.trans (congrArg some (by kernel_rfl))
 f266:=Tryz.func103.trans (congrArg some (by kernel_rfl))
 f267:=Tryz.func127.trans (congrArg some (by kernel_rfl))
 f268:=Tryz.func91.trans (congrArg some (by kernel_rfl))
 f314:=Tryz.func139.trans (congrArg some (by kernel_rfl))
 t0:=Tryz.underlying0
 a0:=Tryz.isAgg0
 z0:=Tryz.sizeOf0
 v0:=Tryz.zeroValue0
 t3:=Tryz.underlying3
 a3:=Tryz.isAgg3
 z3:=Tryz.sizeOf3
 v3:=Tryz.zeroValue3
 t4:=Tryz.underlying4
 a4:=Tryz.isAgg4
 z4:=Tryz.sizeOf4
 v4:=Tryz.zeroValue4
 t5:=Tryz.underlying5
 a5:=Tryz.isAgg5
 z5:=Tryz.sizeOf5
 v5:=Tryz.zeroValue5
 t9:=Tryz.underlying9
 a9:=Tryz.isAgg9
 z9:=Tryz.sizeOf9
 v9:=Tryz.zeroValue9
 t21:=Tryz.underlying21
 a21:=Tryz.isAgg21
 z21:=Tryz.sizeOf21
 v21:=Tryz.zeroValue21
 t31:=Tryz.underlying41
 a31:=Tryz.isAgg41
 z31:=Tryz.sizeOf41
 v31:=Tryz.zeroValue41
 t46:=Tryz.underlying130
 a46:=Tryz.isAgg130
 z46:=Tryz.sizeOf130
 v46:=Tryz.zeroValue130
 t51:=Tryz.underlying144
 a51:=Tryz.isAgg144
 z51:=Tryz.sizeOf144
 v51:=Tryz.zeroValue144
 t105:=Tryz.underlying132
 a105:=Tryz.isAgg132
 z105:=Tryz.sizeOf132
 v105:=Tryz.zeroValue132
 t119:=Tryz.underlying162
 a119:=Tryz.isAgg162
 z119:=Tryz.sizeOf162
 t138:=Tryz.underlying164
 a138:=Tryz.isAgg164
 z138:=Tryz.sizeOf164
 v138:=Tryz.zeroValue164
 t139:=Tryz.underlying165
 a139:=Tryz.isAgg165
 z139:=Tryz.sizeOf165
 v139:=Tryz.zeroValue165
 t146:=Tryz.underlying166
 a146:=Tryz.isAgg166
 z146:=Tryz.sizeOf166
 v146:=Tryz.zeroValue166
 g1:=by kernel_rfl
 g3:=by kernel_rfl
 g4:=by kernel_rfl }
def Tryz.lays145_ren : Go.Shelf.Ren:=⟨fun | 145=>82 | 220=>94 | 219=>107 | 217=>90 | 225=>125 | 224=>126 | 267=>127 | 266=>103 | 314=>139 | n=>n,fun | 9=>9 | 4=>4 | 59=>103 | 3=>3 | 5=>5 | 46=>130 | 146=>166 | 51=>144 | n=>n,fun | 1=>0 | n=>n⟩
theorem Tryz.lays145 : Go.Proofs.Lays.n145 Tryz.prog Tryz.lays145_ren:={
 mixed:=by kernel_rfl
 f145:=Tryz.func82.trans (congrArg some (by kernel_rfl))
 f217:=Tryz.func90.trans (congrArg some (by kernel_rfl))
 f219:=Tryz.func107.trans (congrArg some (by kernel_rfl))
 f220:=Tryz.func94.trans (congrArg some (by kernel_rfl))
 f224:=Tryz.func126.trans (congrArg some (by kernel_rfl))
 f225:=Tryz.func125.trans (congrArg some (by kernel_rfl))
 f266:=Tryz.func103.trans (congrArg some (by kernel_rfl))
 f267:=Tryz.func127.trans (congrArg some (by kernel_rfl))
 f314:=Tryz.func139.trans (congrArg some (by kernel_rfl))
 t3:=Tryz.underlying3
 a3:=Tryz.isAgg3
 z3:=Tryz.sizeOf3
 v3:=Tryz.zeroValue3
 t4:=Tryz.underlying4
 a4:=Tryz.isAgg4
 z4:=Tryz.sizeOf4
 v4:=Tryz.zeroValue4
 t5:=Tryz.underlying5
 a5:=Tryz.isAgg5
 z5:=Tryz.sizeOf5
 v5:=Tryz.zeroValue5
 t9:=Tryz.underlying9
 a9:=Tryz.isAgg9
 z9:=Tryz.sizeOf9
 v9:=Tryz.zeroValue9
 t46:=Tryz.underlying130
 a46:=Tryz.isAgg130
 z46:=Tryz.sizeOf130
 v46:=Tryz.zeroValue130
 t51:=Tryz.underlying144
 a51:=Tryz.isAgg144
 z51:=Tryz.sizeOf144
 v51:=Tryz.zeroValue144
 t59:=Tryz.underlying103
 a59:=Tryz.isAgg103
 z59:=Tryz.sizeOf103
 v59:=Tryz.zeroValue103
 t146:=Tryz.underlying166
 a146:=Tryz.isAgg166
 z146:=Tryz.sizeOf166
 v146:=Tryz.zeroValue166
 g1:=by kernel_rfl }
def Tryz.lays137_ren : Go.Shelf.Ren:=⟨fun | 137=>78 | 217=>90 | 266=>103 | n=>n,fun | 9=>9 | 5=>5 | 3=>3 | n=>n,fun | n=>n⟩
theorem Tryz.lays137 : Go.Proofs.Lays.n137 Tryz.prog Tryz.lays137_ren:={
 mixed:=by kernel_rfl
 f137:=Tryz.func78.trans (congrArg some (by kernel_rfl))
 f217:=Tryz.func90.trans (congrArg some (by kernel_rfl))
 f266:=Tryz.func103.trans (congrArg some (by kernel_rfl))
 t3:=Tryz.underlying3
 a3:=Tryz.isAgg3
 z3:=Tryz.sizeOf3
 v3:=Tryz.zeroValue3
 t5:=Tryz.underlying5
 a5:=Tryz.isAgg5
 z5:=Tryz.sizeOf5
 v5:=Tryz.zeroValue5
 t9:=Tryz.underlying9
 a9:=Tryz.isAgg9
 z9:=Tryz.sizeOf9
 v9:=Tryz.zeroValue9 }
def Tryz.lays102_ren : Go.Shelf.Ren:=⟨fun | 102=>39 | 209=>62 | 207=>76 | n=>n,fun | 9=>9 | 4=>4 | 3=>3 | n=>n,fun | n=>n⟩
theorem Tryz.lays102 : Go.Proofs.Lays.n102 Tryz.prog Tryz.lays102_ren:={
 mixed:=by kernel_rfl
 f102:=Tryz.func39.trans (congrArg some (by kernel_rfl))
 f207:=Tryz.func76.trans (congrArg some (by kernel_rfl))
 f209:=Tryz.func62.trans (congrArg some (by kernel_rfl))
 t3:=Tryz.underlying3
 a3:=Tryz.isAgg3
 z3:=Tryz.sizeOf3
 v3:=Tryz.zeroValue3
 t4:=Tryz.underlying4
 a4:=Tryz.isAgg4
 z4:=Tryz.sizeOf4
 v4:=Tryz.zeroValue4
 t9:=Tryz.underlying9
 a9:=Tryz.isAgg9
 z9:=Tryz.sizeOf9
 v9:=Tryz.zeroValue9 }
def Tryz.laysM171_ren : Go.Shelf.Ren:=⟨fun | 171=>77 | 243=>89 | 246=>102 | 283=>120 | 284=>121 | 285=>122 | 286=>123 | 129=>119 | 317=>135 | 318=>136 | 319=>137 | 320=>138 | 337=>141 | 338=>142 | n=>n,fun | 3=>3 | 9=>9 | 2=>2 | 4=>4 | 171=>147 | 0=>0 | 53=>146 | 37=>62 | 5=>5 | 173=>149 | 212=>160 | 51=>144 | 20=>20 | 213=>161 | 46=>130 | 232=>171 | 233=>172 | n=>n,fun | 17=>1 | 18=>4 | 19=>5 | n=>n⟩
theorem Tryz.laysM171 : Go.Proofs.LaysM.n171 Tryz.prog Tryz.laysM171_ren:={
 mixed:=by kernel_rfl
 f129:=Tryz.func119.trans (congrArg some (by kernel_rfl))
 f171:=Tryz.func77.trans (congrArg some (by kernel_rfl))
 f243:=Tryz.func89.trans (congrArg some (by kernel_rfl))
 f246:=Tryz.func102.trans (congrArg some (by kernel_rfl))
 f283:=Tryz.func120.trans (congrArg some (by kernel_rfl))
 f284:=Tryz.func121.trans (congrArg some (by kernel_rfl))
 f285:=Tryz.func122.trans (congrArg some (by kernel_rfl))
 f286:=Tryz.func123.trans (congrArg some (by kernel_rfl))
 f317:=Tryz.func135.trans (congrArg some (by kernel_rfl))
 f318:=Tryz.func136.trans (congrArg some (by kernel_rfl))
 f319:=Tryz.func137.trans (congrArg some (by kernel_rfl))
 f320:=Tryz.func138.trans (congrArg some (by kernel_rfl))
 f337:=Tryz.func141.trans (congrArg some (by kernel_rfl))
 f338:=Tryz.func142.trans (congrArg some (by kernel_rfl))
 t0:=Tryz.underlying0
 a0:=Tryz.isAgg0
 z0:=Tryz.sizeOf0
 v0:=Tryz.zeroValue0
 t2:=Tryz.underlying2
 a2:=Tryz.isAgg2
 z2:=Tryz.sizeOf2
 v2:=Tryz.zeroValue2
 t3:=Tryz.underlying3
 a3:=Tryz.isAgg3
 z3:=Tryz.sizeOf3
 v3:=Tryz.zeroValue3
 t4:=Tryz.underlying4
 a4:=Tryz.isAgg4
 z4:=Tryz.sizeOf4
 v4:=Tryz.zeroValue4
 t5:=Tryz.underlying5
 a5:=Tryz.isAgg5
 z5:=Tryz.sizeOf5
 v5:=Tryz.zeroValue5
 t9:=Tryz.underlying9
 a9:=Tryz.isAgg9
 z9:=Tryz.sizeOf9
 v9:=Tryz.zeroValue9
 t20:=Tryz.underlying20
 a20:=Tryz.isAgg20
 z20:=Tryz.sizeOf20
 v20:=Tryz.zeroValue20
 t37:=Tryz.underlying62
 a37:=Tryz.isAgg62
 z37:=Tryz.sizeOf62
 v37:=Tryz.zeroValue62
 t46:=Tryz.underlying130
 a46:=Tryz.isAgg130
 z46:=Tryz.sizeOf130
 v46:=Tryz.zeroValue130
 t51:=Tryz.underlying144
 a51:=Tryz.isAgg144
 z51:=Tryz.sizeOf144
 v51:=Tryz.zeroValue144
 t53:=Tryz.underlying146
 a53:=Tryz.isAgg146
 z53:=Tryz.sizeOf146
 v53:=Tryz.zeroValue146
 t171:=Tryz.underlying147
 a171:=Tryz.isAgg147
 z171:=Tryz.sizeOf147
 v171:=Tryz.zeroValue147
 t173:=Tryz.underlying149
 a173:=Tryz.isAgg149
 z173:=Tryz.sizeOf149
 v173:=Tryz.zeroValue149
 t212:=Tryz.underlying160
 a212:=Tryz.isAgg160
 z212:=Tryz.sizeOf160
 v212:=Tryz.zeroValue160
 t213:=Tryz.underlying161
 a213:=Tryz.isAgg161
 z213:=Tryz.sizeOf161
 t232:=Tryz.underlying171
 a232:=Tryz.isAgg171
 z232:=Tryz.sizeOf171
 v232:=Tryz.zeroValue171
 t233:=Tryz.underlying172
 a233:=Tryz.isAgg172
 z233:=Tryz.sizeOf172
 v233:=Tryz.zeroValue172
 g17:=by kernel_rfl
 g18:=by kernel_rfl
 g19:=by kernel_rfl
 i0:=by kernel_rfl
 i2:=by kernel_rfl
 i3:=by kernel_rfl
 i4:=by kernel_rfl
 i5:=by kernel_rfl
 i9:=by kernel_rfl
 i20:=by kernel_rfl
 i37:=by kernel_rfl
 i46:=by kernel_rfl
 i51:=by kernel_rfl
 i53:=by kernel_rfl
 i171:=by kernel_rfl
 i173:=by kernel_rfl
 i212:=by kernel_rfl
 i232:=by kernel_rfl
 i233:=by kernel_rfl
 m17:=by kernel_rfl
 m18:=by kernel_rfl
 m19:=by kernel_rfl }
def Tryz.laysSortF_ren : Go.Shelf.Ren:=⟨fun | 6=>87 | 15=>101 | 14=>100 | 28=>118 | 29=>119 | 20=>110 | 21=>111 | 22=>112 | 23=>113 | 24=>114 | 25=>115 | 26=>116 | 27=>117 | 46=>130 | 47=>131 | 48=>132 | 49=>133 | 50=>134 | 57=>140 | n=>n,fun | 22=>106 | 24=>108 | 25=>114 | 3=>3 | 39=>130 | 0=>0 | 53=>144 | 55=>146 | 4=>4 | 46=>137 | 45=>136 | 50=>141 | 5=>5 | 9=>9 | 66=>154 | 70=>85 | 76=>168 | 77=>169 | n=>n,fun | n=>n⟩
theorem Tryz.laysSortF : Go.Proofs.SlLaysF0.n6 Tryz.prog Tryz.laysSortF_ren:={
 mixed:=by kernel_rfl
 f6:=⟨Tryz.f87.name,by decide,Tryz.func87.trans (congrArg some (by kernel_rfl))⟩
 f14:=⟨Tryz.f100.name,by decide,Tryz.func100.trans (congrArg some (by kernel_rfl))⟩
 f15:=Tryz.func101.trans (congrArg some (by kernel_rfl))
 f20:=⟨Tryz.f110.name,by decide,Tryz.func110.trans (congrArg some (by kernel_rfl))⟩
 f21:=⟨Tryz.f111.name,by decide,Tryz.func111.trans (congrArg some (by kernel_rfl))⟩
 f22:=⟨Tryz.f112.name,by decide,Tryz.func112.trans (congrArg some (by kernel_rfl))⟩
 f23:=⟨Tryz.f113.name,by decide,Tryz.func113.trans (congrArg some (by kernel_rfl))⟩
 f24:=⟨Tryz.f114.name,by decide,Tryz.func114.trans (congrArg some (by kernel_rfl))⟩
 f25:=⟨Tryz.f115.name,by decide,Tryz.func115.trans (congrArg some (by kernel_rfl))⟩
 f26:=⟨Tryz.f116.name,by decide,Tryz.func116.trans (congrArg some (by kernel_rfl))⟩
 f27:=⟨Tryz.f117.name,by decide,Tryz.func117.trans (congrArg some (by kernel_rfl))⟩
 f28:=Tryz.func118.trans (congrArg some (by kernel_rfl))
 f29:=Tryz.func119.trans (congrArg some (by kernel_rfl))
 f46:=⟨Tryz.f130.name,by decide,Tryz.func130.trans (congrArg some (by kernel_rfl))⟩
 f47:=Tryz.func131.trans (congrArg some (by kernel_rfl))
 f48:=Tryz.func132.trans (congrArg some (by kernel_rfl))
 f49:=⟨Tryz.f133.name,by decide,Tryz.func133.trans (congrArg some (by kernel_rfl))⟩
 f50:=⟨Tryz.f134.name,by decide,Tryz.func134.trans (congrArg some (by kernel_rfl))⟩
 f57:=⟨Tryz.f140.name,by decide,Tryz.func140.trans (congrArg some (by kernel_rfl))⟩
 t0:=Tryz.underlying0
 a0:=Tryz.isAgg0
 z0:=Tryz.sizeOf0
 v0:=Tryz.zeroValue0
 t3:=Tryz.underlying3
 a3:=Tryz.isAgg3
 z3:=Tryz.sizeOf3
 v3:=Tryz.zeroValue3
 t4:=Tryz.underlying4
 a4:=Tryz.isAgg4
 z4:=Tryz.sizeOf4
 v4:=Tryz.zeroValue4
 t5:=Tryz.underlying5
 a5:=Tryz.isAgg5
 z5:=Tryz.sizeOf5
 v5:=Tryz.zeroValue5
 t9:=Tryz.underlying9
 a9:=Tryz.isAgg9
 z9:=Tryz.sizeOf9
 v9:=Tryz.zeroValue9
 t22:=Tryz.underlying106
 a22:=Tryz.isAgg106
 z22:=Tryz.sizeOf106
 v22:=Tryz.zeroValue106
 t25:=Tryz.underlying114
 a25:=Tryz.isAgg114
 z25:=Tryz.sizeOf114
 v25:=Tryz.zeroValue114
 t39:=Tryz.underlying130
 a39:=Tryz.isAgg130
 z39:=Tryz.sizeOf130
 v39:=Tryz.zeroValue130
 t45:=Tryz.underlying136
 a45:=Tryz.isAgg136
 z45:=Tryz.sizeOf136
 v45:=Tryz.zeroValue136
 t46:=Tryz.underlying137
 a46:=Tryz.isAgg137
 z46:=Tryz.sizeOf137
 v46:=Tryz.zeroValue137
 t50:=Tryz.underlying141
 a50:=Tryz.isAgg141
 z50:=Tryz.sizeOf141
 v50:=Tryz.zeroValue141
 t53:=Tryz.underlying144
 a53:=Tryz.isAgg144
 z53:=Tryz.sizeOf144
 v53:=Tryz.zeroValue144
 t55:=Tryz.underlying146
 a55:=Tryz.isAgg146
 z55:=Tryz.sizeOf146
 v55:=Tryz.zeroValue146
 t66:=Tryz.underlying154
 a66:=Tryz.isAgg154
 z66:=Tryz.sizeOf154
 v66:=Tryz.zeroValue154
 t70:=Tryz.underlying85
 a70:=Tryz.isAgg85
 z70:=Tryz.sizeOf85
 v70:=Tryz.zeroValue85
 t76:=Tryz.underlying168
 a76:=Tryz.isAgg168
 z76:=Tryz.sizeOf168
 v76:=Tryz.zeroValue168
 t77:=Tryz.underlying169
 a77:=Tryz.isAgg169
 z77:=Tryz.sizeOf169
 v77:=Tryz.zeroValue169 }
end Go.Proofs
namespace Go.V
open Go.RowKit Go.Sort Go.Proofs Go.Shelf
theorem span_less (x y : Int × Int) (W : World) (hx0 : 0 <= x.1) (hx1 : x.1 < 4611686018427387904) (hy0 : 0 <= y.1) (hy1 : y.1 < 4611686018427387904) : Calls Tryz.prog 88 #[.agg #[.int .i64 x.1,.int .i64 x.2],.agg #[.int .i64 y.1,.int .i64 y.2]] W fun e w'=>e = .returned (.int .i64 (x.1 - y.1)) /\ ∃ q os',w' = grow (W.drewN q) os':=by
 have hw : IntKind.i64.wrap (x.1 - y.1) = x.1 - y.1:=wrap64 (by omega) (by omega)
 go_enter Tryz.func88,Tryz.ntmps88
 go_wp2
 go_ret
 exact ⟨rfl,0,_,by rw [alloc_eq_grow,alloc_eq_grow,grow_grow]; rfl⟩
theorem XS_sound [GK] (hM : ∀ w, Keep w → ∃ m, w.cell? ⟨0, 0, none⟩ = some (.int .i64 m)) (hT : ∀ w, Keep w → Lib.TabIs Tryz.prog w "internal/strconv.uint64pow10" .u64 Lib.pow10Tab) : CallsSound Tryz.prog XS := by
 intro f args H res H' h
 unfold XS at h
 by_cases h0 : f = 67
 ·subst h0
  rw [if_pos rfl] at h
  exact ⟨by kernel_rfl,XSplit_ok Tryz.lays146 (by kernel_rfl) hM h⟩
 ·rw [if_neg h0] at h
  by_cases h1 : f = 83
  ·subst h1
   rw [if_pos rfl] at h
   exact ⟨by kernel_rfl,XJoin_ok Tryz.lays156 Tryz.Builder_Extra_156 h⟩
  ·rw [if_neg h1] at h
   by_cases h2 : f = 77
   ·subst h2
    rw [if_pos rfl] at h
    exact ⟨by kernel_rfl,XItoa_ok Tryz.laysM171 hT h⟩
   ·rw [if_neg h2] at h
    by_cases h3 : f = 82
    ·subst h3
     rw [if_pos rfl] at h
     exact ⟨by kernel_rfl,XCut_ok Tryz.lays145 hM h⟩
    ·rw [if_neg h3] at h
     by_cases h4 : f = 87
     ·subst h4
      rw [if_pos rfl] at h
      exact ⟨by kernel_rfl,XQ_ok Tryz.laysSortF Tryz.isAgg108 Tryz.sizeOf108 (enters_of Tryz.func88 (by kernel_rfl) rfl) (fun x y W h1 h2 h3 h4=>span_less x y W h1 h2 h3 h4) h⟩
     ·rw [if_neg h4] at h
      by_cases h5 : f = 78
      ·subst h5
       rw [if_pos rfl] at h
       exact ⟨by kernel_rfl,XIdxB_ok Tryz.lays137 h⟩
      ·rw [if_neg h5] at h
       by_cases h6 : f = 39
       ·subst h6
        rw [if_pos rfl] at h
        exact ⟨by kernel_rfl,XTrim_ok Tryz.lays102 h⟩
       ·rw [if_neg h6] at h
        by_cases h7 : f = 45
        ·subst h7
         rw [if_pos rfl] at h
         exact ⟨by kernel_rfl,XCloneI_ok h⟩
        ·rw [if_neg h7] at h
         by_cases h8 : f = 46
         ·subst h8
          rw [if_pos rfl] at h
          exact ⟨by kernel_rfl,XCloneD_ok h⟩
         ·rw [if_neg h8] at h
          cases h
theorem V_sound [GK] (hM : ∀ w, Keep w → ∃ m, w.cell? ⟨0, 0, none⟩ = some (.int .i64 m)) (hT : ∀ w, Keep w → Lib.TabIs Tryz.prog w "internal/strconv.uint64pow10" .u64 Lib.pow10Tab) : CallsSound Tryz.prog V := vcall_sound (XS_sound hM hT) (by kernel_rfl) prog_ok
@[reducible] def gkOf (W : World) (n : Nat) : GK:=⟨fun b=>if b < n then W.heap[b]? else none⟩
theorem gkOf_at {W : World} {n : Nat} : ∀ b B,(gkOf W n).K b = some B -> W.heap[b]? = some B:=fun b B h=>by
 change (if b < n then W.heap[b]? else none) = some B at h
 split at h
 .exact h
 .cases h
theorem keep_cell {W : World} {n g i : Nat} {v : Value} (hg : g < n) (h : W.cell? ⟨g,i,none⟩ = some v) : ∀ w,@Keep (gkOf W n) w -> w.cell? ⟨g,i,none⟩ = some v:=fun w hk=>by
 have hb : W.heap[g]? ≠ none:=fun e=>by simp [World.cell?,e] at h
 obtain ⟨B,hB⟩:=Option.ne_none_iff_exists'.1 hb
 have:=hk g B (by show (if g < n then W.heap[g]? else none) = some B; rw [if_pos hg]; exact hB)
 rw [<- h]
 exact World.cell?_of_block (by simpa using this.trans hB.symm)
theorem maxLen_int {W : World} (h : W.ShapedOpen Tryz.prog) : ∃ m,W.cell? ⟨0,0,none⟩ = some (.int .i64 m) :=
 Go.Proofs.cell_of_shapedOpen_int (zero:=#[.int .i64 0]) (t:=3) h (of_decide_eq_true (by kernel_rfl)) (by kernel_rfl) rfl (by kernel_rfl) (by kernel_rfl) Tryz.underlying3
theorem keep_tab {W : World} {n g : Nat} {name : String} {k : IntKind} {zs : List Int} (hn : Tryz.prog.globalNamed name = some g) (hg : g < n) (h : Lib.TabIs Tryz.prog W name k zs) : ∀ w,@Keep (gkOf W n) w -> Lib.TabIs Tryz.prog w name k zs:=fun w hk=>by
 unfold Lib.TabIs World.var? at h ⊢
 rw [hn] at h ⊢
 simp only [Option.bind_some] at h ⊢
 cases hB : W.heap[g]? with
 | none=>rw [hB] at h; cases h
 | some B =>
  have:=hk g B (by show (if g < n then W.heap[g]? else none) = some B; rw [if_pos hg]; exact hB)
  rw [hB] at h
  rw [this]
  exact h
theorem own_try : ownKnob Tryz.prog.godebug = none:=by kernel_rfl
theorem laid_try : laidOutB Tryz.prog = true:=by kernel_rfl
theorem trodAll_len {H : Type} {enc : TypeId × Value -> H} {P : Program} {w : World} {base : Nat} {sp : Nat -> Bool} {hd : Bool} : ∀ {ts : List TypeId} {vs : List Value} {ds : List (DataW H)} {ps : List MemPlace},DataW.TrodAll enc P w base sp hd ts vs ds ps -> ds.length = ts.length
 | [],_,_,_,h=>by
  obtain ⟨rfl,rfl,rfl⟩:=ChangeShapes.trodAll_nil h
  rfl
 | _ :: _,_,_,_,h=>by
  obtain ⟨v,vs1,d,ds1,a,b,rfl,rfl,rfl,_,h2⟩:=ChangeShapes.trodAll_cons h
  simp [trodAll_len h2]
theorem u16_range {n : Int} (h : (Lit.int IntKind.u16 n).wf = true) : 0 <= n /\ n < 65536:=by
 have e : ((Lit.int IntKind.u16 n).wf = true) = (IntKind.u16.min <= n /\ n <= IntKind.u16.max):=by
  simp [Lit.wf]
 rw [e] at h
 have h1 : IntKind.u16.min = 0:=by decide
 have h2 : IntKind.u16.max = 65535:=by decide
 omega
end Go.V
namespace Go.V
theorem rd_bytes {k g : Nat} {s a : Stg} {x : ByteArray} (hk : k < 9) (hg : g < 9) (hs : checkS s = true) (ha : checkS a = true) (hne : g ≠ k) (h : wrF k s x = (a,0)) : (rdA g a).1 = (rdA g s).1 \/ (k = 2 /\ g = 3 /\ (rdA g a).1 = ⟨#[48,10]⟩):=by
 rw [(back_all hg hs).1,(back_all hg ha).1]
 rcases apart hk hg hne h with e | ⟨e1,e2,e3⟩
 ·left
  simp only [e]
 ·right
  refine ⟨e1,e2,?_⟩
  subst e2
  simp only [rdF,e3]
  have e : formatN 0 = ([48],0):=by
   rw [formatN,if_neg (by omega),if_neg (by omega),decB,itoa_pos (by omega)]
   exact congrArg (fun l=>(l,(0 : Int))) (dec_small (u:=0) (by omega))
  rw [e]
  rfl
theorem wrA_none {k : Nat} {s : Stg} {x : ByteArray} (h : wrA k s x = (none,0)) : False:=by
 unfold wrA at h
 split at h
 ·cases h
 ·split at h
  ·cases h
  ·split at h
   ·rename_i h2
    exact h2 (Prod.mk.inj h).2
   .split at h <;> cases h
theorem chk_lens {s : Stg} (h : checkS s = true) : s.cpus.length < 1000000 /\ s.mems.length < 1000000:=by
 obtain ⟨_,_,_,_,_,_,h1,h2,_⟩:=chk2 h
 have a1:=asc_len (ascOk_ii.1 h1).1 (ascOk_ii.1 h1).2
 have a2:=asc_len (ascOk_ii.1 h2).1 (ascOk_ii.1 h2).2
 omega
abbrev stI (s : Stg) (i : Nat) : List VVal:=[.p (.int .i64 s.pids),.p (.int .i64 s.weight),.p (.int .i64 s.quota),.p (.int .i64 s.period),.p (.int .i64 s.burst),.p (.int .i64 s.cmin),.p (.int .i64 s.cmax),.own (.slot i 8) 0 0 s.cpus.length,.own (.slot i 9) 0 0 s.mems.length,.p (.int .i64 s.part),.p (.int .i64 0),.p (.int .i64 0),.p (.int .i64 4611686018427387904),.p (.int .i64 4611686018427387904),.p (.int .i64 4611686018427387904),.p (.bool false),.own (.slot i 17) 0 0 0]
set_option maxHeartbeats 8000000 in
theorem filesApart_eq (L : List Int) : V 4 [.p (intsP L)] [] = some (.p (.bool true),[]):=by
 refine V_wp (vf:=vf4) rfl ?_
 have hsane:=sane12_eq
 have hli:=light_eq (L.map (.int .i64))
 rw [llm] at hli
 by_cases hlen : ¬ L.length <= 600
 ·simp -implicitDefEqProofs (disch:=omega) only [vf4,vb4,hli,hlen,hsane,go_sem,↓reduceIte,rA,rS,rE,rL,reduceCtorEq]
 have hlen:=Decidable.not_not.1 hlen
 have hroll:=roll_eq L
 have hset:=settings_eq L 0 (by omega)
 have hok:=dStg_ok L 0
 obtain ⟨l1,l2⟩:=dStg_lens L 0
 rw [show diceB L 0 = Ob.box [.p (intsP L),.p (.int .i64 0)] from rfl] at hset
 generalize dStg L 0 = q at hset hok l1 l2
 obtain ⟨g,a1⟩:=q
 simp only at hset hok l1 l2
 obtain ⟨f,hf12,hfile⟩:=file_eq L a1 (by omega)
 obtain ⟨x,a2,hx,hxs,htext⟩:=text_eq L (nextA L a1 12) (by omega)
 generalize nextA L a1 12 = b1 at *
 by_cases hf9 : ¬ f < 9
 ·have hno:=write_no (nmX_no hf9) g x
  have k4 : decide ((4 : Int) = 0) = false:=rfl
  simp -implicitDefEqProofs (disch:=omega) only [vf4,vb4,hli,hlen,hroll,hset,hfile,htext,hno,hsane,k4,go_sem,↓reduceIte,rA,rS,rE,rL,reduceCtorEq]
 have hf9:=Decidable.not_not.1 hf9
 have hw:=write_eq hf9 g l1 l2 x (by omega) hx
 have e : nmX f = nmF f:=by rw [nmX,if_pos hf9]
 rw [e] at hfile
 obtain ⟨o,e,he⟩ : ∃ o e,wrA f g x = (o,e):=⟨_,_,rfl⟩
 rw [he] at hw
 by_cases he0 : ¬ e = 0
 ·cases o with
  | none=>simp -implicitDefEqProofs (disch:=omega) only [vf4,vb4,hli,hlen,hroll,hset,hfile,htext,hw,he0,hsane,go_sem,↓reduceIte,rA,rS,rE,rL,reduceCtorEq]
  | some o=>simp -implicitDefEqProofs (disch:=omega) only [vf4,vb4,hli,hlen,hroll,hset,hfile,htext,hw,he0,hsane,go_sem,↓reduceIte,rA,rS,rE,rL,reduceCtorEq]
 have he0:=Decidable.not_not.1 he0
 subst he0
 cases o with
 | none=>exact absurd he wrA_none
 | some a =>
  obtain ⟨_,hca,hwf⟩:=wrA_some he
  obtain ⟨m1,m2⟩:=chk_lens hca
  have hrc:=rcheck_ok a hca m1 m2
  have hrd : ∀ k,k < 9 -> k ≠ f -> (rdA k a).1 = (rdA k g).1 \/ (f = 2 /\ k = 3 /\ (rdA k a).1 = ⟨#[48,10]⟩):=fun k hk hne=>rd_bytes hf9 hk hok hca hne hwf
  clear he hwf
  have hnm:=rnames_eq
  have hnl:=nmL_len 9
  have hng:=fun k h=>@nmL_get k 9 h
  generalize nmL 9 = A at hnm hnl hng
  simp only [wrV] at hw
  simp -implicitDefEqProofs (disch:=omega) only [vf4,vb4,hli,hlen,hroll,hset,hfile,htext,hw,hnm,hnl,go_sem,↓reduceIte,rA,rS,rE,rL,reduceCtorEq]
  obtain ⟨I,hI⟩ : ∃ I : Nat -> St -> Prop,∀ k s,I k s ↔ s.pe 4 = .ptr (.slot 4 0) 0 0 /\ s.pe 5 = .p (.str (nmF f)) /\ s.pe 6 = .ptr (.slot 6 0) 0 0 /\ s.pe 35 = .own (.slot 35 1) 0 0 9 /\ s.pe 36 = .p (.int .i64 9) /\ s.pe 37 = .p (.int .i64 k) /\ s.h (.slot 4 0) = some (0,Ob.box (stC g)) /\ s.h (.slot 6 0) = some (0,Ob.box (stI a 29)) /\ s.h (.slot 29 8) = some (0,Ob.arr 1 (a.cpus.map (.int .i64))) /\ s.h (.slot 29 9) = some (0,Ob.arr 1 (a.mems.map (.int .i64))) /\ s.h (.slot 29 17) = some (0,Ob.arr 7 []) /\ s.h (.slot 35 1) = some (0,Ob.arr 1 A):=⟨_,fun _ _=>Iff.rfl⟩
  refine wp_count (9) I ?_ ?_
  ·refine (hI _ _).2 ⟨?_,?_,?_,?_,?_,?_,?_,?_,?_,?_,?_,?_⟩
   all_goals exact cl0
  intro k s hk hIk
  obtain ⟨h4,h5,h6,h35,h36,h37,hh4_0,hh6_0,hh29_8,hh29_9,hh29_17,hh35_1⟩:=(hI _ _).1 hIk
  clear hIk
  by_cases hk9 : k < 9
  ·have hlt : (k : Int) < 9:=by omega
   have hc:=hng k hk9
   have hr1:=read_eq hk9 g l1 l2
   have hr2:=read_eq hk9 a m1 m2
   have e1 : rdA k g = ((rdA k g).1,0):=by rw [(back_all hk9 hok).1]
   have e2 : rdA k a = ((rdA k a).1,0):=by rw [(back_all hk9 hca).1]
   have z1 : (rdA k g).2 = 0:=by rw [e1]
   have z2 : (rdA k a).2 = 0:=by rw [e2]
   rw [z1] at hr1
   rw [z2] at hr2
   clear e1 e2 z1 z2
   have w1 : IntKind.i64.wrap ((k : Int) + 1) = ((k + 1 : Nat) : Int):=wrap64 (by omega) (by omega)
   have key : (rdA k g).1 = (rdA k a).1 \/ k = f \/ (f = 2 /\ k = 3 /\ (rdA k a).1 = ⟨#[48,10]⟩):=by
    by_cases hkf : k = f
    ·exact .inr (.inl hkf)
    ·rcases hrd k hk9 hkf with h | h
     .exact .inl h.symm
     .exact .inr (.inr h)
   generalize (rdA k g).1 = X at hr1 key
   generalize (rdA k a).1 = Y at hr2 key
   by_cases hxy : X = Y
   ·have hd : decide (X = Y) = true:=decide_eq_true hxy
    simp -implicitDefEqProofs (disch:=omega) only [h4,h5,h6,h35,h36,h37,hh4_0,hh6_0,hh29_8,hh29_9,hh29_17,hh35_1,hlt,hc,hr1,hr2,hd,w1,go_sem,↓reduceIte,rA,rS,rE,rL,reduceCtorEq]
    try refine And.intro (by omega) ?_
    refine (hI _ _).2 ⟨?_,?_,?_,?_,?_,?_,?_,?_,?_,?_,?_,?_⟩
    all_goals exact cl0
   ·have hd : decide (X = Y) = false:=decide_eq_false hxy
    rcases key.resolve_left hxy with hkf | ⟨f2,k3,hy⟩
    ·subst hkf
     generalize nmF k = F at *
     have hdf : decide (F = F) = true:=decide_eq_true rfl
     simp -implicitDefEqProofs (disch:=omega) only [h4,h5,h6,h35,h36,h37,hh4_0,hh6_0,hh29_8,hh29_9,hh29_17,hh35_1,hlt,hc,hr1,hr2,hd,hdf,w1,go_sem,↓reduceIte,rA,rS,rE,rL,reduceCtorEq]
     try refine And.intro (by omega) ?_
     refine (hI _ _).2 ⟨?_,?_,?_,?_,?_,?_,?_,?_,?_,?_,?_,?_⟩
     all_goals exact cl0
    ·have d1 : decide (nmF k = nmF f) = false:=decide_eq_false (by subst f2 k3; decide)
     have d2 : decide (nmF f = ⟨#[99,112,117,46,109,97,120]⟩) = true:=decide_eq_true (by subst f2; rfl)
     have d3 : decide (nmF k = ⟨#[99,112,117,46,109,97,120,46,98,117,114,115,116]⟩) = true:=decide_eq_true (by subst k3; rfl)
     have d4 : decide (Y = ⟨#[48,10]⟩) = true:=decide_eq_true hy
     generalize nmF k = F at *
     generalize nmF f = F' at *
     simp -implicitDefEqProofs (disch:=omega) only [h4,h5,h6,h35,h36,h37,hh4_0,hh6_0,hh29_8,hh29_9,hh29_17,hh35_1,hlt,hc,hr1,hr2,hd,d1,d2,d3,d4,w1,go_sem,↓reduceIte,rA,rS,rE,rL,reduceCtorEq]
     try refine And.intro (by omega) ?_
     refine (hI _ _).2 ⟨?_,?_,?_,?_,?_,?_,?_,?_,?_,?_,?_,?_⟩
     all_goals exact cl0
  ·have hlt : ¬ (k : Int) < 9:=by omega
   simp -implicitDefEqProofs (disch:=omega) only [h4,h5,h6,h35,h36,h37,hh4_0,hh6_0,hh29_8,hh29_9,hh29_17,hh35_1,hlt,hrc,hsane,go_sem,↓reduceIte,rA,rS,rE,rL,reduceCtorEq]
end Go.V
namespace Go.V
theorem itoaS_txtD (k : Nat) : itoaS (k : Int) = txtD k:=by
 show (⟨(Lib.itoa (k : Int)).toArray⟩ : ByteArray) = _
 rw [itoa_pos (Int.natCast_nonneg k),Int.toNat_natCast]
theorem dec_eq {k : Nat} (h : k < 1000000000) : V 12 [.p (.int .i64 k)] [] = some (.p (.str (txtD k)),[]):=by
 rw [decimal_eq k h,itoaS_txtD]
theorem txtD_ok (k : Nat) : txtOk (txtD k):=by
 have:=asc_dec (n:=(k : Int)) (Int.natCast_nonneg k)
 rw [decB,itoa_pos (Int.natCast_nonneg k),Int.toNat_natCast] at this
 exact this
theorem forms2 {g : Stg} (hs : checkS g = true) {k j : Nat} (h1 : 1 <= k) (h2 : k <= 900) (hj : j < 2) : ∃ o,checkS o = true /\ wrA j g (txtD k) = (some o,0) /\ wrA j g (⟨#[48]⟩ ++ txtD k ++ ⟨#[10]⟩) = (some o,0) /\ rdA j o = (txtD k ++ ⟨#[10]⟩,0):=by
 have : j = 0 \/ j = 1:=by omega
 rcases this with rfl | rfl
 ·obtain ⟨a1,a2,a3,_⟩:=forms_pids hs h1 h2
  exact ⟨_,(wrA_some a1).2.1,a1,a2,a3⟩
 ·obtain ⟨a1,a2,a3⟩:=forms_weight hs h1 h2
  exact ⟨_,(wrA_some a1).2.1,a1,a2,a3⟩
abbrev nm2 : List PV:=[.str (nmF 0),.str (nmF 1)]
theorem nm2_get {k : Nat} (h : k < 2) : nm2[k]? = some (.str (nmF k)):=by
 have : k = 0 \/ k = 1:=by omega
 rcases this with rfl | rfl <;> rfl
set_option maxHeartbeats 8000000 in
theorem filesForms_eq (L : List Int) (n : Int) (hn0 : 0 <= n) (hn1 : n < 65536) : V 5 [.p (intsP L),.p (.int .u16 n)] [] = some (.p (.bool true),[]):=by
 refine V_wp (vf:=vf5) rfl ?_
 have hsane:=sane12_eq
 have hli:=light_eq (L.map (.int .i64))
 rw [llm] at hli
 by_cases hlen : ¬ L.length <= 600
 ·simp -implicitDefEqProofs (disch:=omega) only [vf5,vb5,hli,hlen,hsane,go_sem,↓reduceIte,rA,rS,rE,rL,reduceCtorEq]
 have hlen:=Decidable.not_not.1 hlen
 have hroll:=roll_eq L
 have hset:=settings_eq L 0 (by omega)
 have hok:=dStg_ok L 0
 rw [show diceB L 0 = Ob.box [.p (intsP L),.p (.int .i64 0)] from rfl] at hset
 generalize dStg L 0 = q at hset hok
 obtain ⟨g,a1⟩:=q
 simp only at hset hok
 obtain ⟨l1,l2⟩:=chk_lens hok
 obtain ⟨K,hK,hK1,hK9⟩ : ∃ K : Nat,(K : Int) = 1 + n.tmod 900 /\ 1 <= K /\ K <= 900:=by
  rw [Int.tmod_eq_emod_of_nonneg hn0]
  exact ⟨(1 + n % 900).toNat,by omega,by omega,by omega⟩
 have w0 : IntKind.i64.wrap n = n:=wrap64 (by omega) (by omega)
 have w1 : IntKind.i64.wrap (1 + n.tmod 900) = (K : Int):=by rw [<- hK]; exact wrap64 (by omega) (by omega)
 have hdec:=dec_eq (k:=K) (by omega)
 have hT : (txtD K).size <= 7:=by rw [size_bs]; exact (dec_line K (by omega)).2
 have hTo:=txtD_ok K
 have hg2:=fun k h=>@nm2_get k h
 have hf2:=fun j h=>@forms2 g hok K j hK1 hK9 h
 have hfp:=(forms_pids hok hK1 hK9).2.2.2
 have hwK:=write_eq (k:=0) (by omega) g l1 l2 (txtD K ++ (⟨#[75]⟩ : ByteArray)) (by have : (⟨#[75]⟩ : ByteArray).size = 1:=rfl; rw [ByteArray.size_append]; omega) (txt_app (y:=⟨#[75]⟩) hTo rfl)
 rw [hfp] at hwK
 obtain ⟨f1,f2⟩:=forms_cpus hok
 have hw6:=write_eq (k:=6) (by omega) g l1 l2 ⟨#[51,44,49,45,50,44,48]⟩ (by decide) rfl
 rw [f1] at hw6
 have hr6:=read_eq (k:=6) (by omega) { g with cpus:=[0,1,2,3] } (by show 4 < _; omega) l2
 rw [f2] at hr6
 clear f1 f2 hfp
 have n0 : nmF 0 = ⟨#[112,105,100,115,46,109,97,120]⟩:=rfl
 have n1 : nmF 1 = ⟨#[99,112,117,46,119,101,105,103,104,116]⟩:=rfl
 have n6 : nmF 6 = ⟨#[99,112,117,115,101,116,46,99,112,117,115]⟩:=rfl
 rw [n0] at hwK
 rw [n6] at hw6 hr6
 simp only [wrV,stF,stC,intsP,lpc,lpn] at hwK hw6 hr6
 generalize hTd : txtD K = T at *
 simp -implicitDefEqProofs (disch:=omega) only [vf5,vb5,hli,hlen,hroll,hset,w0,w1,go_sem,↓reduceIte,rA,rS,rE,rL,reduceCtorEq]
 obtain ⟨I,hI⟩ : ∃ I : Nat -> St -> Prop,∀ k s,I k s ↔ s.pe 5 = .ptr (.slot 5 0) 0 0 /\ s.pe 6 = .p (.int .i64 K) /\ s.pe 33 = .own (.slot 33 0) 0 0 2 /\ s.pe 34 = .p (.int .i64 2) /\ s.pe 35 = .p (.int .i64 k) /\ s.h (.slot 5 0) = some (0,Ob.box (stC g)) /\ s.h (.slot 33 0) = some (0,Ob.arr 1 nm2):=⟨_,fun _ _=>Iff.rfl⟩
 refine wp_count (2) I ?_ ?_
 ·refine (hI _ _).2 ⟨?_,?_,?_,?_,?_,?_,?_⟩
  all_goals exact cl0
 intro k s hk hIk
 obtain ⟨h5,h6,h33,h34,h35,hh5_0,hh33_0⟩:=(hI _ _).1 hIk
 clear hIk
 have s1 : (⟨#[48]⟩ : ByteArray).size = 1:=rfl
 have s2 : (⟨#[10]⟩ : ByteArray).size = 1:=rfl
 have s3 : (⟨#[75]⟩ : ByteArray).size = 1:=rfl
 have s4 : ((⟨#[48]⟩ : ByteArray) ++ T).size = 1 + T.size:=ByteArray.size_append
 have w2 : IntKind.i64.wrap ((k : Int) + 1) = ((k + 1 : Nat) : Int):=wrap64 (by omega) (by omega)
 by_cases hk2 : k < 2
 ·have hlt : (k : Int) < 2:=by omega
  have hc:=hg2 k hk2
  obtain ⟨o,o0,o1,o2,o3⟩:=hf2 k hk2
  obtain ⟨m1,m2⟩:=chk_lens o0
  have hwa:=write_eq (k:=k) (by omega) g l1 l2 T (by omega) hTo
  have hwb:=write_eq (k:=k) (by omega) g l1 l2 ((⟨#[48]⟩ : ByteArray) ++ T ++ (⟨#[10]⟩ : ByteArray)) (by rw [ByteArray.size_append]; omega) (txt_app (y:=⟨#[10]⟩) (txt_app (x:=⟨#[48]⟩) rfl hTo) rfl)
  have hra:=read_eq (k:=k) (by omega) o m1 m2
  rw [o1] at hwa
  rw [o2] at hwb
  rw [o3] at hra
  have hsm:=rsame_eq o m1 m2
  simp only [wrV,stF] at hwa hwb
  generalize nmF k = F at *
  simp -implicitDefEqProofs (disch:=omega) only [h5,h6,h33,h34,h35,hh5_0,hh33_0,hlt,hc,hdec,hwa,hwb,hra,hsm,s1,s2,s3,s4,w2,go_sem,↓reduceIte,rA,rS,rE,rL,reduceCtorEq]
  try refine And.intro (by omega) ?_
  refine (hI _ _).2 ⟨?_,?_,?_,?_,?_,?_,?_⟩
  all_goals exact cl0
 ·have hlt : ¬ (k : Int) < 2:=by omega
  have hm : decide (((1024 * K : Nat) : Int) = 1024 * (K : Int)) = true:=decide_eq_true (by omega)
  simp -implicitDefEqProofs (disch:=omega) only [h5,h6,h33,h34,h35,hh5_0,hh33_0,hlt,hdec,hwK,hw6,hr6,hsane,s3,hm,go_sem,↓reduceIte,rA,rS,rE,rL,reduceCtorEq]
end Go.V
namespace Go.V
set_option maxHeartbeats 8000000 in
theorem filesBandwidth_eq (L : List Int) (n m : Int) (hn0 : 0 <= n) (hn1 : n < 65536) (hm0 : 0 <= m) (hm1 : m < 65536) : V 3 [.p (intsP L),.p (.int .u16 n),.p (.int .u16 m)] [] = some (.p (.bool true),[]):=by
 refine V_wp (vf:=vf3) rfl ?_
 have hsane:=sane12_eq
 have hli:=light_eq (L.map (.int .i64))
 rw [llm] at hli
 by_cases hlen : ¬ L.length <= 600
 ·simp -implicitDefEqProofs (disch:=omega) only [vf3,vb3,hli,hlen,hsane,go_sem,↓reduceIte,rA,rS,rE,rL,reduceCtorEq]
 have hlen:=Decidable.not_not.1 hlen
 have hroll:=roll_eq L
 have hset:=settings_eq L 0 (by omega)
 have hok:=dStg_ok L 0
 rw [show diceB L 0 = Ob.box [.p (intsP L),.p (.int .i64 0)] from rfl] at hset
 generalize dStg L 0 = q at hset hok
 obtain ⟨g,a1⟩:=q
 simp only at hset hok
 obtain ⟨l1,l2⟩:=chk_lens hok
 obtain ⟨Q,hQ,hQ1,hQ9⟩ : ∃ Q : Nat,(Q : Int) = 1 + n /\ 1 <= Q /\ Q <= 65536:=⟨(1 + n).toNat,by omega,by omega,by omega⟩
 obtain ⟨P,hP,hP1,hP9⟩ : ∃ P : Nat,(P : Int) = 1 + m /\ 1 <= P /\ P <= 65536:=⟨(1 + m).toNat,by omega,by omega,by omega⟩
 have w0 : IntKind.i64.wrap n = n:=wrap64 (by omega) (by omega)
 have w1 : IntKind.i64.wrap m = m:=wrap64 (by omega) (by omega)
 have w2 : IntKind.i64.wrap (1 + n) = (Q : Int):=by rw [<- hQ]; exact wrap64 (by omega) (by omega)
 have w3 : IntKind.i64.wrap (1 + m) = (P : Int):=by rw [<- hP]; exact wrap64 (by omega) (by omega)
 have hdq:=dec_eq (k:=Q) (by omega)
 have hdp:=dec_eq (k:=P) (by omega)
 have zq : (txtD Q).size <= 7:=by rw [size_bs]; exact (dec_line Q (by omega)).2
 have zp : (txtD P).size <= 7:=by rw [size_bs]; exact (dec_line P (by omega)).2
 have s1 : (⟨#[32]⟩ : ByteArray).size = 1:=rfl
 have s2 : (txtD Q ++ (⟨#[32]⟩ : ByteArray)).size = (txtD Q).size + 1:=ByteArray.size_append
 have hwa:=write_eq (k:=2) (by omega) g l1 l2 (txtD Q ++ (⟨#[32]⟩ : ByteArray) ++ txtD P) (by rw [ByteArray.size_append]; omega) (txt_app (txt_app (y:=⟨#[32]⟩) (txtD_ok Q) rfl) (txtD_ok P))
 have hwb:=write_eq (k:=2) (by omega) g l1 l2 (txtD Q) (by omega) (txtD_ok Q)
 have hwc:=write_eq (k:=2) (by omega) g l1 l2 ⟨#[109,97,120]⟩ (by decide) rfl
 obtain ⟨a2,ca⟩:=band_two hok ⟨hQ1,hQ9⟩ ⟨hP1,hP9⟩
 obtain ⟨b2,cb⟩:=band_one hok ⟨hQ1,hQ9⟩
 obtain ⟨c2,cc⟩:=band_max hok
 rw [a2] at hwa
 rw [b2] at hwb
 rw [c2] at hwc
 have ra:=rcheck_ok _ ca l1 l2
 have rb:=rcheck_ok _ cb l1 l2
 have rc:=rcheck_ok _ cc l1 l2
 have n2 : nmF 2 = ⟨#[99,112,117,46,109,97,120]⟩:=rfl
 rw [n2] at hwa hwb hwc
 simp only [wrV,stF,stC,intsP] at hwa hwb hwc ra rb rc
 clear a2 b2 c2 ca cb cc
 generalize txtD Q = T at *
 generalize txtD P = U at *
 by_cases hb : (Q : Int) < g.burst
 ·simp only [burstQ,hb,if_true] at hwa hwb ra rb
  simp -implicitDefEqProofs (disch:=omega) only [vf3,vb3,hli,hlen,hroll,hset,w0,w1,w2,w3,hdq,hdp,s1,s2,hwa,hwb,hwc,hb,ra,rb,rc,hsane,beq_self_eq_true,bne_self_eq_false,go_sem,↓reduceIte,rA,rS,rE,rL,reduceCtorEq]
 ·simp only [burstQ,hb,if_false] at hwa hwb ra rb
  simp -implicitDefEqProofs (disch:=omega) only [vf3,vb3,hli,hlen,hroll,hset,w0,w1,w2,w3,hdq,hdp,s1,s2,hwa,hwb,hwc,hb,ra,rb,rc,hsane,beq_self_eq_true,bne_self_eq_false,go_sem,↓reduceIte,rA,rS,rE,rL,reduceCtorEq]
end Go.V
