/- Part 18 of the proof. -/
import Derived.Test.YtmfbifkaonehkaaGreatH13
import Derived.Test.YtmfbifkaonehkaaGreatH16
import Derived.Test.YtmfbifkaonehkaaGreatH3
import Derived.Test.YtmfbifkaonehkaaGreatH17
import Derived.Test.YtmfbifkaonehkaaGreatH2
import Derived.WalkKit
import Derived.Shelf.SlGeneric
set_option linter.unusedSimpArgs false
set_option linter.unusedVariables false
namespace Go.Proofs
open Go.Shelf
def Tryz.laysSort_ren : Go.Shelf.Ren:=⟨fun | 189=>110 | 125=>123 | 257=>122 | 128=>136 | 129=>137 | 294=>127 | 295=>128 | 296=>129 | 297=>130 | 298=>131 | 299=>132 | 216=>133 | 300=>134 | 301=>135 | 328=>146 | 329=>147 | 330=>148 | 331=>149 | 332=>150 | 215=>151 | 343=>155 | n=>n,fun | 28=>22 | 3=>3 | 46=>172 | 0=>0 | 51=>186 | 53=>188 | 4=>4 | 183=>178 | 182=>177 | 131=>183 | 5=>5 | 9=>9 | 218=>194 | 222=>198 | 228=>202 | 229=>203 | n=>n,fun | n=>n⟩
theorem Tryz.laysSort : Go.Proofs.Lays.n189 Tryz.prog Tryz.laysSort_ren:={
 mixed:=by kernel_rfl
 f125:=Tryz.func123.trans (congrArg some (by kernel_rfl))
 f128:=Tryz.func136.trans (congrArg some (by kernel_rfl))
 f129:=Tryz.func137.trans (congrArg some (by kernel_rfl))
 f189:=Tryz.func110.trans (congrArg some (by kernel_rfl))
 f215:=Tryz.func151.trans (congrArg some (by kernel_rfl))
 f216:=Tryz.func133.trans (congrArg some (by kernel_rfl))
 f257:=Tryz.func122.trans (congrArg some (by kernel_rfl))
 f294:=Tryz.func127.trans (congrArg some (by kernel_rfl))
 f295:=Tryz.func128.trans (congrArg some (by kernel_rfl))
 f296:=Tryz.func129.trans (congrArg some (by kernel_rfl))
 f297:=Tryz.func130.trans (congrArg some (by kernel_rfl))
 f298:=Tryz.func131.trans (congrArg some (by kernel_rfl))
 f299:=Tryz.func132.trans (congrArg some (by kernel_rfl))
 f300:=Tryz.func134.trans (congrArg some (by kernel_rfl))
 f301:=Tryz.func135.trans (congrArg some (by kernel_rfl))
 f328:=Tryz.func146.trans (congrArg some (by kernel_rfl))
 f329:=Tryz.func147.trans (congrArg some (by kernel_rfl))
 f330:=Tryz.func148.trans (congrArg some (by kernel_rfl))
 f331:=Tryz.func149.trans (congrArg some (by kernel_rfl))
 f332:=Tryz.func150.trans (congrArg some (by kernel_rfl))
 f343:=Tryz.func155.trans (congrArg some (by kernel_rfl))
 t0:=Tryz.underlying0
 a0:=Tryz.isAgg0
 z0:=Tryz.sizeOf0
 v0:=Tryz.zeroValue0
 t3:=Tryz.underlying3
 a3:=Tryz.isAgg3
 z3:=Tryz.sizeOf3
 v3:=Tryz.zeroValue3
 t4:=Tryz.underlying4
 a4:=Tryz.isAgg4
 z4:=Tryz.sizeOf4
 v4:=Tryz.zeroValue4
 t5:=Tryz.underlying5
 a5:=Tryz.isAgg5
 z5:=Tryz.sizeOf5
 v5:=Tryz.zeroValue5
 t9:=Tryz.underlying9
 a9:=Tryz.isAgg9
 z9:=Tryz.sizeOf9
 v9:=Tryz.zeroValue9
 t28:=Tryz.underlying22
 a28:=Tryz.isAgg22
 z28:=Tryz.sizeOf22
 v28:=Tryz.zeroValue22
 t46:=Tryz.underlying172
 a46:=Tryz.isAgg172
 z46:=Tryz.sizeOf172
 v46:=Tryz.zeroValue172
 t51:=Tryz.underlying186
 a51:=Tryz.isAgg186
 z51:=Tryz.sizeOf186
 v51:=Tryz.zeroValue186
 t53:=Tryz.underlying188
 a53:=Tryz.isAgg188
 z53:=Tryz.sizeOf188
 v53:=Tryz.zeroValue188
 t131:=Tryz.underlying183
 a131:=Tryz.isAgg183
 z131:=Tryz.sizeOf183
 v131:=Tryz.zeroValue183
 t182:=Tryz.underlying177
 a182:=Tryz.isAgg177
 z182:=Tryz.sizeOf177
 v182:=Tryz.zeroValue177
 t183:=Tryz.underlying178
 a183:=Tryz.isAgg178
 z183:=Tryz.sizeOf178
 v183:=Tryz.zeroValue178
 t218:=Tryz.underlying194
 a218:=Tryz.isAgg194
 z218:=Tryz.sizeOf194
 v218:=Tryz.zeroValue194
 t222:=Tryz.underlying198
 a222:=Tryz.isAgg198
 z222:=Tryz.sizeOf198
 v222:=Tryz.zeroValue198
 t228:=Tryz.underlying202
 a228:=Tryz.isAgg202
 z228:=Tryz.sizeOf202
 v228:=Tryz.zeroValue202
 t229:=Tryz.underlying203
 a229:=Tryz.isAgg203
 z229:=Tryz.sizeOf203
 v229:=Tryz.zeroValue203 }
def Tryz.laysSortF_ren : Go.Shelf.Ren:=⟨fun | 6=>118 | 15=>123 | 14=>124 | 28=>136 | 29=>137 | 20=>138 | 21=>139 | 22=>140 | 23=>141 | 24=>142 | 25=>143 | 26=>144 | 27=>145 | 46=>152 | 47=>147 | 48=>148 | 49=>153 | 50=>154 | 57=>156 | n=>n,fun | 22=>141 | 24=>147 | 25=>169 | 3=>3 | 39=>172 | 0=>0 | 53=>186 | 55=>188 | 4=>4 | 46=>178 | 45=>177 | 50=>183 | 5=>5 | 9=>9 | 66=>194 | 70=>198 | 76=>202 | 77=>203 | n=>n,fun | n=>n⟩
theorem Tryz.laysSortF : Go.Proofs.SlLaysF0.n6 Tryz.prog Tryz.laysSortF_ren:={
 mixed:=by kernel_rfl
 f6:=⟨Tryz.f118.name,by decide,Tryz.func118.trans (congrArg some (by kernel_rfl))⟩
 f14:=⟨Tryz.f124.name,by decide,Tryz.func124.trans (congrArg some (by kernel_rfl))⟩
 f15:=Tryz.func123.trans (congrArg some (by kernel_rfl))
 f20:=⟨Tryz.f138.name,by decide,Tryz.func138.trans (congrArg some (by kernel_rfl))⟩
 f21:=⟨Tryz.f139.name,by decide,Tryz.func139.trans (congrArg some (by kernel_rfl))⟩
 f22:=⟨Tryz.f140.name,by decide,Tryz.func140.trans (congrArg some (by kernel_rfl))⟩
 f23:=⟨Tryz.f141.name,by decide,Tryz.func141.trans (congrArg some (by kernel_rfl))⟩
 f24:=⟨Tryz.f142.name,by decide,Tryz.func142.trans (congrArg some (by kernel_rfl))⟩
 f25:=⟨Tryz.f143.name,by decide,Tryz.func143.trans (congrArg some (by kernel_rfl))⟩
 f26:=⟨Tryz.f144.name,by decide,Tryz.func144.trans (congrArg some (by kernel_rfl))⟩
 f27:=⟨Tryz.f145.name,by decide,Tryz.func145.trans (congrArg some (by kernel_rfl))⟩
 f28:=Tryz.func136.trans (congrArg some (by kernel_rfl))
 f29:=Tryz.func137.trans (congrArg some (by kernel_rfl))
 f46:=⟨Tryz.f152.name,by decide,Tryz.func152.trans (congrArg some (by kernel_rfl))⟩
 f47:=Tryz.func147.trans (congrArg some (by kernel_rfl))
 f48:=Tryz.func148.trans (congrArg some (by kernel_rfl))
 f49:=⟨Tryz.f153.name,by decide,Tryz.func153.trans (congrArg some (by kernel_rfl))⟩
 f50:=⟨Tryz.f154.name,by decide,Tryz.func154.trans (congrArg some (by kernel_rfl))⟩
 f57:=⟨Tryz.f156.name,by decide,Tryz.func156.trans (congrArg some (by kernel_rfl))⟩
 t0:=Tryz.underlying0
 a0:=Tryz.isAgg0
 z0:=Tryz.sizeOf0
 v0:=Tryz.zeroValue0
 t3:=Tryz.underlying3
 a3:=Tryz.isAgg3
 z3:=Tryz.sizeOf3
 v3:=Tryz.zeroValue3
 t4:=Tryz.underlying4
 a4:=Tryz.isAgg4
 z4:=Tryz.sizeOf4
 v4:=Tryz.zeroValue4
 t5:=Tryz.underlying5
 a5:=Tryz.isAgg5
 z5:=Tryz.sizeOf5
 v5:=Tryz.zeroValue5
 t9:=Tryz.underlying9
 a9:=Tryz.isAgg9
 z9:=Tryz.sizeOf9
 v9:=Tryz.zeroValue9
 t22:=Tryz.underlying141
 a22:=Tryz.isAgg141
 z22:=Tryz.sizeOf141
 v22:=Tryz.zeroValue141
 t25:=Tryz.underlying169
 a25:=Tryz.isAgg169
 z25:=Tryz.sizeOf169
 v25:=Tryz.zeroValue169
 t39:=Tryz.underlying172
 a39:=Tryz.isAgg172
 z39:=Tryz.sizeOf172
 v39:=Tryz.zeroValue172
 t45:=Tryz.underlying177
 a45:=Tryz.isAgg177
 z45:=Tryz.sizeOf177
 v45:=Tryz.zeroValue177
 t46:=Tryz.underlying178
 a46:=Tryz.isAgg178
 z46:=Tryz.sizeOf178
 v46:=Tryz.zeroValue178
 t50:=Tryz.underlying183
 a50:=Tryz.isAgg183
 z50:=Tryz.sizeOf183
 v50:=Tryz.zeroValue183
 t53:=Tryz.underlying186
 a53:=Tryz.isAgg186
 z53:=Tryz.sizeOf186
 v53:=Tryz.zeroValue186
 t55:=Tryz.underlying188
 a55:=Tryz.isAgg188
 z55:=Tryz.sizeOf188
 v55:=Tryz.zeroValue188
 t66:=Tryz.underlying194
 a66:=Tryz.isAgg194
 z66:=Tryz.sizeOf194
 v66:=Tryz.zeroValue194
 t70:=Tryz.underlying198
 a70:=Tryz.isAgg198
 z70:=Tryz.sizeOf198
 v70:=Tryz.zeroValue198
 t76:=Tryz.underlying202
 a76:=Tryz.isAgg202
 z76:=Tryz.sizeOf202
 v76:=Tryz.zeroValue202
 t77:=Tryz.underlying203
 a77:=Tryz.isAgg203
 z77:=Tryz.sizeOf203
 v77:=Tryz.zeroValue203 }
end Go.Proofs
namespace Go.V
open Go.RowKit Go.Sort Go.Proofs Go.Shelf
theorem take_less (x y : Int × Int) (W : World) (hx0 : 0 <= x.1) (hx1 : x.1 < 4611686018427387904) (hy0 : 0 <= y.1) (hy1 : y.1 < 4611686018427387904) : Calls Tryz.prog 119 #[.agg #[.int .i64 x.1,.int .i64 x.2],.agg #[.int .i64 y.1,.int .i64 y.2]] W fun e w'=>e = .returned (.int .i64 (x.1 - y.1)) /\ ∃ q os',w' = grow (W.drewN q) os':=by
 have hw : IntKind.i64.wrap (x.1 - y.1) = x.1 - y.1:=wrap64 (by omega) (by omega)
 go_enter Tryz.func119,Tryz.ntmps119
 go_wp2
 go_ret
 exact ⟨rfl,0,_,by rw [alloc_eq_grow,alloc_eq_grow,grow_grow]; rfl⟩
theorem XS_sound : CallsSound Tryz.prog XS:=by
 intro f args H res H' h
 unfold XS at h
 by_cases h1 : f = 110
 ·subst h1
  rw [if_pos rfl] at h
  exact ⟨by kernel_rfl,XI_ok Tryz.laysSort h⟩
 ·rw [if_neg h1] at h
  by_cases h2 : f = 118
  ·subst h2
   rw [if_pos rfl] at h
   exact ⟨by kernel_rfl,XP_ok Tryz.laysSortF Tryz.isAgg147 Tryz.sizeOf147 (enters_of Tryz.func119 (by kernel_rfl) rfl) (fun x y W h1 h2 h3 h4=>take_less x y W h1 h2 h3 h4) h⟩
  ·rw [if_neg h2] at h
   cases h
theorem V_sound : CallsSound Tryz.prog V:=vcall_sound XS_sound (by kernel_rfl) prog_ok
theorem own_try : ownKnob Tryz.prog.godebug = none:=by kernel_rfl
theorem laid_try : laidOutB Tryz.prog = true:=by kernel_rfl
theorem trodAll_len {H : Type} {enc : TypeId × Value -> H} {P : Program} {w : World} {base : Nat} {sp : Nat -> Bool} {hd : Bool} : ∀ {ts : List TypeId} {vs : List Value} {ds : List (DataW H)} {ps : List MemPlace},DataW.TrodAll enc P w base sp hd ts vs ds ps -> ds.length = ts.length
 | [],_,_,_,h=>by
  obtain ⟨rfl,rfl,rfl⟩:=ChangeShapes.trodAll_nil h
  rfl
 | _ :: _,_,_,_,h=>by
  obtain ⟨v,vs1,d,ds1,a,b,rfl,rfl,rfl,_,h2⟩:=ChangeShapes.trodAll_cons h
  simp [trodAll_len h2]
end Go.V
