import Derived.Test.YtdbjijjeolnboaaGreatA14
import Derived.Test.YtdbjijjeolnboaaGreatA17
import Derived.Test.YtdbjijjeolnboaaGreatA2
import Derived.Test.YtdbjijjeolnboaaGreatA18
import Derived.WalkKit
import Derived.Shelf.SlGeneric
set_option linter.unusedSectionVars false
set_option linter.unusedSimpArgs false
set_option linter.unusedVariables false
set_option maxHeartbeats 32000000
namespace Go.Proofs
open Go.Shelf
def Tryz.laysSort_ren : Go.Shelf.Ren:=⟨fun | 189=>118 | 125=>149 | 257=>148 | 128=>169 | 129=>170 | 294=>160 | 295=>161 | 296=>162 | 297=>163 | 298=>164 | 299=>165 | 216=>166 | 300=>167 | 301=>168 | 328=>181 | 329=>182 | 330=>183 | 331=>184 | 332=>185 | 215=>186 | 343=>190 | n=>n,fun | 28=>22 | 3=>3 | 46=>190 | 0=>0 | 51=>208 | 53=>210 | 4=>4 | 183=>200 | 182=>199 | 131=>205 | 5=>5 | 9=>9 | 218=>219 | 222=>223 | 228=>227 | 229=>228 | n=>n,fun | n=>n⟩
theorem Tryz.laysSort : Go.Proofs.Lays.n189 Tryz.prog Tryz.laysSort_ren:={
 mixed:=by kernel_rfl
 f125:=Tryz.func149.trans (congrArg some (by kernel_rfl))
 f128:=Tryz.func169.trans (congrArg some (by kernel_rfl))
 f129:=Tryz.func170.trans (congrArg some (by kernel_rfl))
 f189:=Tryz.func118.trans (congrArg some (by kernel_rfl))
 f215:=Tryz.func186.trans (congrArg some (by kernel_rfl))
 f216:=Tryz.func166.trans (congrArg some (by kernel_rfl))
 f257:=Tryz.func148.trans (congrArg some (by kernel_rfl))
 f294:=Tryz.func160.trans (congrArg some (by kernel_rfl))
 f295:=Tryz.func161.trans (congrArg some (by kernel_rfl))
 f296:=Tryz.func162.trans (congrArg some (by kernel_rfl))
 f297:=Tryz.func163.trans (congrArg some (by kernel_rfl))
 f298:=Tryz.func164.trans (congrArg some (by kernel_rfl))
 f299:=Tryz.func165.trans (congrArg some (by kernel_rfl))
 f300:=Tryz.func167.trans (congrArg some (by kernel_rfl))
 f301:=Tryz.func168.trans (congrArg some (by kernel_rfl))
 f328:=Tryz.func181.trans (congrArg some (by kernel_rfl))
 f329:=Tryz.func182.trans (congrArg some (by kernel_rfl))
 f330:=Tryz.func183.trans (congrArg some (by kernel_rfl))
 f331:=Tryz.func184.trans (congrArg some (by kernel_rfl))
 f332:=Tryz.func185.trans (congrArg some (by kernel_rfl))
 f343:=Tryz.func190.trans (congrArg some (by kernel_rfl))
 t0:=Tryz.underlying0
 a0:=Tryz.isAgg0
 z0:=Tryz.sizeOf0
 v0:=Tryz.zeroValue0
 t3:=Tryz.underlying3
 a3:=Tryz.isAgg3
 z3:=Tryz.sizeOf3
 v3:=Tryz.zeroValue3
 t4:=Tryz.underlying4
 a4:=Tryz.isAgg4
 z4:=Tryz.sizeOf4
 v4:=Tryz.zeroValue4
 t5:=Tryz.underlying5
 a5:=Tryz.isAgg5
 z5:=Tryz.sizeOf5
 v5:=Tryz.zeroValue5
 t9:=Tryz.underlying9
 a9:=Tryz.isAgg9
 z9:=Tryz.sizeOf9
 v9:=Tryz.zeroValue9
 t28:=Tryz.underlying22
 a28:=Tryz.isAgg22
 z28:=Tryz.sizeOf22
 v28:=Tryz.zeroValue22
 t46:=Tryz.underlying190
 a46:=Tryz.isAgg190
 z46:=Tryz.sizeOf190
 v46:=Tryz.zeroValue190
 t51:=Tryz.underlying208
 a51:=Tryz.isAgg208
 z51:=Tryz.sizeOf208
 v51:=Tryz.zeroValue208
 t53:=Tryz.underlying210
 a53:=Tryz.isAgg210
 z53:=Tryz.sizeOf210
 v53:=Tryz.zeroValue210
 t131:=Tryz.underlying205
 a131:=Tryz.isAgg205
 z131:=Tryz.sizeOf205
 v131:=Tryz.zeroValue205
 t182:=Tryz.underlying199
 a182:=Tryz.isAgg199
 z182:=Tryz.sizeOf199
 v182:=Tryz.zeroValue199
 t183:=Tryz.underlying200
 a183:=Tryz.isAgg200
 z183:=Tryz.sizeOf200
 v183:=Tryz.zeroValue200
 t218:=Tryz.underlying219
 a218:=Tryz.isAgg219
 z218:=Tryz.sizeOf219
 v218:=Tryz.zeroValue219
 t222:=Tryz.underlying223
 a222:=Tryz.isAgg223
 z222:=Tryz.sizeOf223
 v222:=Tryz.zeroValue223
 t228:=Tryz.underlying227
 a228:=Tryz.isAgg227
 z228:=Tryz.sizeOf227
 v228:=Tryz.zeroValue227
 t229:=Tryz.underlying228
 a229:=Tryz.isAgg228
 z229:=Tryz.sizeOf228
 v229:=Tryz.zeroValue228 }
def Tryz.laysSortF_ren : Go.Shelf.Ren:=⟨fun | 6=>125 | 15=>149 | 14=>150 | 28=>169 | 29=>170 | 20=>171 | 21=>172 | 22=>173 | 23=>174 | 24=>175 | 25=>176 | 26=>177 | 27=>178 | 46=>187 | 47=>182 | 48=>183 | 49=>188 | 50=>189 | 57=>191 | n=>n,fun | 22=>124 | 24=>130 | 25=>174 | 3=>3 | 39=>190 | 0=>0 | 53=>208 | 55=>210 | 4=>4 | 46=>200 | 45=>199 | 50=>205 | 5=>5 | 9=>9 | 66=>219 | 70=>223 | 76=>227 | 77=>228 | n=>n,fun | n=>n⟩
theorem Tryz.laysSortF : Go.Proofs.SlLaysF0.n6 Tryz.prog Tryz.laysSortF_ren:={
 mixed:=by kernel_rfl
 f6:=⟨Tryz.f125.name,by decide,Tryz.func125.trans (congrArg some (by kernel_rfl))⟩
 f14:=⟨Tryz.f150.name,by decide,Tryz.func150.trans (congrArg some (by kernel_rfl))⟩
 f15:=Tryz.func149.trans (congrArg some (by kernel_rfl))
 f20:=⟨Tryz.f171.name,by decide,Tryz.func171.trans (congrArg some (by kernel_rfl))⟩
 f21:=⟨Tryz.f172.name,by decide,Tryz.func172.trans (congrArg some (by kernel_rfl))⟩
 f22:=⟨Tryz.f173.name,by decide,Tryz.func173.trans (congrArg some (by kernel_rfl))⟩
 f23:=⟨Tryz.f174.name,by decide,Tryz.func174.trans (congrArg some (by kernel_rfl))⟩
 f24:=⟨Tryz.f175.name,by decide,Tryz.func175.trans (congrArg some (by kernel_rfl))⟩
 f25:=⟨Tryz.f176.name,by decide,Tryz.func176.trans (congrArg some (by kernel_rfl))⟩
 f26:=⟨Tryz.f177.name,by decide,Tryz.func177.trans (congrArg some (by kernel_rfl))⟩
 f27:=⟨Tryz.f178.name,by decide,Tryz.func178.trans (congrArg some (by kernel_rfl))⟩
 f28:=Tryz.func169.trans (congrArg some (by kernel_rfl))
 f29:=Tryz.func170.trans (congrArg some (by kernel_rfl))
 f46:=⟨Tryz.f187.name,by decide,Tryz.func187.trans (congrArg some (by kernel_rfl))⟩
 f47:=Tryz.func182.trans (congrArg some (by kernel_rfl))
 f48:=Tryz.func183.trans (congrArg some (by kernel_rfl))
 f49:=⟨Tryz.f188.name,by decide,Tryz.func188.trans (congrArg some (by kernel_rfl))⟩
 f50:=⟨Tryz.f189.name,by decide,Tryz.func189.trans (congrArg some (by kernel_rfl))⟩
 f57:=⟨Tryz.f191.name,by decide,Tryz.func191.trans (congrArg some (by kernel_rfl))⟩
 t0:=Tryz.underlying0
 a0:=Tryz.isAgg0
 z0:=Tryz.sizeOf0
 v0:=Tryz.zeroValue0
 t3:=Tryz.underlying3
 a3:=Tryz.isAgg3
 z3:=Tryz.sizeOf3
 v3:=Tryz.zeroValue3
 t4:=Tryz.underlying4
 a4:=Tryz.isAgg4
 z4:=Tryz.sizeOf4
 v4:=Tryz.zeroValue4
 t5:=Tryz.underlying5
 a5:=Tryz.isAgg5
 z5:=Tryz.sizeOf5
 v5:=Tryz.zeroValue5
 t9:=Tryz.underlying9
 a9:=Tryz.isAgg9
 z9:=Tryz.sizeOf9
 v9:=Tryz.zeroValue9
 t22:=Tryz.underlying124
 a22:=Tryz.isAgg124
 z22:=Tryz.sizeOf124
 v22:=Tryz.zeroValue124
 t25:=Tryz.underlying174
 a25:=Tryz.isAgg174
 z25:=Tryz.sizeOf174
 v25:=Tryz.zeroValue174
 t39:=Tryz.underlying190
 a39:=Tryz.isAgg190
 z39:=Tryz.sizeOf190
 v39:=Tryz.zeroValue190
 t45:=Tryz.underlying199
 a45:=Tryz.isAgg199
 z45:=Tryz.sizeOf199
 v45:=Tryz.zeroValue199
 t46:=Tryz.underlying200
 a46:=Tryz.isAgg200
 z46:=Tryz.sizeOf200
 v46:=Tryz.zeroValue200
 t50:=Tryz.underlying205
 a50:=Tryz.isAgg205
 z50:=Tryz.sizeOf205
 v50:=Tryz.zeroValue205
 t53:=Tryz.underlying208
 a53:=Tryz.isAgg208
 z53:=Tryz.sizeOf208
 v53:=Tryz.zeroValue208
 t55:=Tryz.underlying210
 a55:=Tryz.isAgg210
 z55:=Tryz.sizeOf210
 v55:=Tryz.zeroValue210
 t66:=Tryz.underlying219
 a66:=Tryz.isAgg219
 z66:=Tryz.sizeOf219
 v66:=Tryz.zeroValue219
 t70:=Tryz.underlying223
 a70:=Tryz.isAgg223
 z70:=Tryz.sizeOf223
 v70:=Tryz.zeroValue223
 t76:=Tryz.underlying227
 a76:=Tryz.isAgg227
 z76:=Tryz.sizeOf227
 v76:=Tryz.zeroValue227
 t77:=Tryz.underlying228
 a77:=Tryz.isAgg228
 z77:=Tryz.sizeOf228
 v77:=Tryz.zeroValue228 }
end Go.Proofs
namespace Go.V
open Go.RowKit Go.Sort Go.Proofs Go.Shelf
theorem Yn (x y : Int × Int) (W : World) (hx0 : 0 <= x.1) (hx1 : x.1 < 4611686018427387904) (hy0 : 0 <= y.1) (hy1 : y.1 < 4611686018427387904) : Calls Tryz.prog 126 #[.agg #[.int .i64 x.1,.int .i64 x.2],.agg #[.int .i64 y.1,.int .i64 y.2]] W fun e w'=>e = .returned (.int .i64 (x.1 - y.1)) /\ ∃ q os',w' = grow (W.drewN q) os':=by
 have hw : IntKind.i64.wrap (x.1 - y.1) = x.1 - y.1:=It (by omega) (by omega)
 go_enter Tryz.func126,Tryz.ntmps126
 go_wp2
 go_ret
 exact ⟨rfl,0,_,by rw [alloc_eq_grow,alloc_eq_grow,grow_grow]; rfl⟩
theorem za6 [GK] : De Tryz.prog XS:=by
 intro f args H res H' h
 unfold XS at h
 by_cases h1 : f = 118
 ·subst h1
  rw [if_pos rfl] at h
  exact ⟨by kernel_rfl,zcO Tryz.laysSort h⟩
 ·rw [if_neg h1] at h
  by_cases h2 : f = 125
  ·subst h2
   rw [if_pos rfl] at h
   exact ⟨by kernel_rfl,zcN Tryz.laysSortF Tryz.isAgg130 Tryz.sizeOf130 (enters_of Tryz.func126 (by kernel_rfl) rfl) (fun x y W h1 h2 h3 h4=>Yn x y W h1 h2 h3 h4) h⟩
  ·rw [if_neg h2] at h
   cases h
theorem zcg [GK] : De Tryz.prog V:=Wu za6 (by kernel_rfl) zbs
theorem zbv : ownKnob Tryz.prog.godebug = none:=by kernel_rfl
theorem zax : laidOutB Tryz.prog = true:=by kernel_rfl
theorem OF {H : Type} {enc : TypeId × Value -> H} {P : Program} {w : World} {base : Nat} {sp : Nat -> Bool} {hd : Bool} : ∀ {ts : List TypeId} {vs : List Value} {ds : List (DataW H)} {ps : List MemPlace},DataW.TrodAll enc P w base sp hd ts vs ds ps -> ds.length = ts.length
 | [],_,_,_,h=>by
  obtain ⟨rfl,rfl,rfl⟩:=ChangeShapes.trodAll_nil h
  rfl
 | _ :: _,_,_,_,h=>by
  obtain ⟨v,vs1,d,ds1,a,b,rfl,rfl,rfl,_,h2⟩:=ChangeShapes.trodAll_cons h
  simp [OF h2]
end Go.V
