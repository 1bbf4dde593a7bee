/- Part 16 of the proof. -/
import Derived.Test.YtekkdllchjmhdaaGreatE6
import Derived.Test.YtekkdllchjmhdaaGreatE9
import Derived.Test.YtekkdllchjmhdaaGreatE2
import Derived.Test.YtekkdllchjmhdaaGreatE10
import Derived.Test.YtekkdllchjmhdaaGreatE13
import Derived.Test.YtekkdllchjmhdaaGreatE14
import Derived.Test.YtekkdllchjmhdaaGreatE15
import Derived.WalkKit
import Derived.Shelf.SlGeneric
set_option linter.unusedSectionVars false
set_option linter.unusedSimpArgs false
set_option linter.unusedVariables false
set_option maxHeartbeats 32000000
namespace Go.Proofs
open Go.Shelf
def Tryz.laysSort_ren:Go.Shelf.Ren:=⟨fun|189=>120|125=>183|257=>182|128=>222|129=>223|294=>213|295=>214|296=>215|297=>216|298=>217|299=>218|216=>219|300=>220|301=>221|328=>263|329=>264|330=>265|331=>266|332=>267|215=>268|343=>286|n=>n,fun|28=>22|3=>3|46=>216|0=>0|51=>245|53=>247|4=>4|183=>238|182=>237|131=>56|5=>5|9=>9|218=>276|222=>280|228=>293|229=>81|n=>n,fun|n=>n⟩
theorem Tryz.laysSort:Go.Proofs.Lays.n189 Tryz.prog Tryz.laysSort_ren:={
 mixed:=by kernel_rfl
 f125:=Tryz.func183.trans (congrArg some (by kernel_rfl))
 f128:=Tryz.func222.trans (congrArg some (by kernel_rfl))
 f129:=Tryz.func223.trans (congrArg some (by kernel_rfl))
 f189:=Tryz.func120.trans (congrArg some (by kernel_rfl))
 f215:=Tryz.func268.trans (congrArg some (by kernel_rfl))
 f216:=Tryz.func219.trans (congrArg some (by kernel_rfl))
 f257:=Tryz.func182.trans (congrArg some (by kernel_rfl))
 f294:=Tryz.func213.trans (congrArg some (by kernel_rfl))
 f295:=Tryz.func214.trans (congrArg some (by kernel_rfl))
 f296:=Tryz.func215.trans (congrArg some (by kernel_rfl))
 f297:=Tryz.func216.trans (congrArg some (by kernel_rfl))
 f298:=Tryz.func217.trans (congrArg some (by kernel_rfl))
 f299:=Tryz.func218.trans (congrArg some (by kernel_rfl))
 f300:=Tryz.func220.trans (congrArg some (by kernel_rfl))
 f301:=Tryz.func221.trans (congrArg some (by kernel_rfl))
 f328:=Tryz.func263.trans (congrArg some (by kernel_rfl))
 f329:=Tryz.func264.trans (congrArg some (by kernel_rfl))
 f330:=Tryz.func265.trans (congrArg some (by kernel_rfl))
 f331:=Tryz.func266.trans (congrArg some (by kernel_rfl))
 f332:=Tryz.func267.trans (congrArg some (by kernel_rfl))
 f343:=Tryz.func286.trans (congrArg some (by kernel_rfl))
 t0:=Tryz.underlying0
 a0:=Tryz.isAgg0
 z0:=Tryz.sizeOf0
 v0:=Tryz.zeroValue0
 t3:=Tryz.underlying3
 a3:=Tryz.isAgg3
 z3:=Tryz.sizeOf3
 v3:=Tryz.zeroValue3
 t4:=Tryz.underlying4
 a4:=Tryz.isAgg4
 z4:=Tryz.sizeOf4
 v4:=Tryz.zeroValue4
 t5:=Tryz.underlying5
 a5:=Tryz.isAgg5
 z5:=Tryz.sizeOf5
 v5:=Tryz.zeroValue5
 t9:=Tryz.underlying9
 a9:=Tryz.isAgg9
 z9:=Tryz.sizeOf9
 v9:=Tryz.zeroValue9
 t28:=Tryz.underlying22
 a28:=Tryz.isAgg22
 z28:=Tryz.sizeOf22
 v28:=Tryz.zeroValue22
 t46:=Tryz.underlying216
 a46:=Tryz.isAgg216
 z46:=Tryz.sizeOf216
 v46:=Tryz.zeroValue216
 t51:=Tryz.underlying245
 a51:=Tryz.isAgg245
 z51:=Tryz.sizeOf245
 v51:=Tryz.zeroValue245
 t53:=Tryz.underlying247
 a53:=Tryz.isAgg247
 z53:=Tryz.sizeOf247
 v53:=Tryz.zeroValue247
 t131:=Tryz.underlying56
 a131:=Tryz.isAgg56
 z131:=Tryz.sizeOf56
 v131:=Tryz.zeroValue56
 t182:=Tryz.underlying237
 a182:=Tryz.isAgg237
 z182:=Tryz.sizeOf237
 v182:=Tryz.zeroValue237
 t183:=Tryz.underlying238
 a183:=Tryz.isAgg238
 z183:=Tryz.sizeOf238
 v183:=Tryz.zeroValue238
 t218:=Tryz.underlying276
 a218:=Tryz.isAgg276
 z218:=Tryz.sizeOf276
 v218:=Tryz.zeroValue276
 t222:=Tryz.underlying280
 a222:=Tryz.isAgg280
 z222:=Tryz.sizeOf280
 v222:=Tryz.zeroValue280
 t228:=Tryz.underlying293
 a228:=Tryz.isAgg293
 z228:=Tryz.sizeOf293
 v228:=Tryz.zeroValue293
 t229:=Tryz.underlying81
 a229:=Tryz.isAgg81
 z229:=Tryz.sizeOf81
 v229:=Tryz.zeroValue81 }
end Go.Proofs
namespace Go.V
open Go.RowKit Go.Sort Go.Proofs Go.Shelf
theorem ZH [GK]:C3 Tryz.prog XS:=by
 intro f args H res H' h
 unfold XS at h
 by_cases h1:f=120
 ·subst h1
  rw [if_pos rfl] at h
  exact ⟨by kernel_rfl,zbz Tryz.laysSort h⟩
 ·rw [if_neg h1] at h
  by_cases h2:f=103
  ·subst h2
   rw [if_pos rfl] at h
   exact ⟨by kernel_rfl,WG h⟩
  ·rw [if_neg h2] at h
   by_cases h3:f=104
   ·subst h3
    rw [if_pos rfl] at h
    exact ⟨by kernel_rfl,WK h⟩
   ·rw [if_neg h3] at h
    by_cases h4:f=105
    ·subst h4
     rw [if_pos rfl] at h
     exact ⟨by kernel_rfl,WJ h⟩
    ·rw [if_neg h4] at h
     by_cases h5:f=106
     ·subst h5
      rw [if_pos rfl] at h
      exact ⟨by kernel_rfl,WL h⟩
     ·rw [if_neg h5] at h
      by_cases h6:f=107
      ·subst h6
       rw [if_pos rfl] at h
       exact ⟨by kernel_rfl,WH h⟩
      ·rw [if_neg h6] at h
       by_cases h7:f=108
       ·subst h7
        rw [if_pos rfl] at h
        exact ⟨by kernel_rfl,WI h⟩
       ·rw [if_neg h7] at h
        by_cases h8:f=128
        ·subst h8
         rw [if_pos rfl] at h
         exact ⟨by kernel_rfl,ZI h⟩
        ·rw [if_neg h8] at h
         by_cases h9:f=116
         ·subst h9
          rw [if_pos rfl] at h
          exact ⟨by kernel_rfl,ZJ h⟩
         ·rw [if_neg h9] at h
          by_cases h10:f=129
          ·subst h10
           rw [if_pos rfl] at h
           exact ⟨by kernel_rfl,zaY h⟩
          ·rw [if_neg h10] at h
           cases h
theorem zaZ [GK]:C3 Tryz.prog V:=U2 ZH (by kernel_rfl) zae
theorem zaf:ownKnob Tryz.prog.godebug=none:=by kernel_rfl
theorem Y2:laidOutB Tryz.prog=true:=by kernel_rfl
theorem Nt {H:Type} {enc:TypeId × Value->H} {P:Program} {w:World} {base:Nat} {sp:Nat->Bool} {hd:Bool}:∀ {ts:List TypeId} {vs:List Value} {ds:List (DataW H)} {ps:List MemPlace},DataW.TrodAll enc P w base sp hd ts vs ds ps->ds.length=ts.length
 | [],_,_,_,h=>by
  obtain ⟨rfl,rfl,rfl⟩:=ChangeShapes.trodAll_nil h
  rfl
 | _::_,_,_,_,h=>by
  obtain ⟨v,vs1,d,ds1,a,b,rfl,rfl,rfl,_,h2⟩:=ChangeShapes.trodAll_cons h
  simp [Nt h2]
end Go.V
