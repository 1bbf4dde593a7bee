/- Part 14 of the proof. -/
import Derived.Test.YtddgomjodbmohaaGreatDoorA6
import Derived.Test.YtddgomjodbmohaaGreatDoorA9
import Derived.Test.YtddgomjodbmohaaGreatDoorA3
import Derived.Test.YtddgomjodbmohaaGreatDoorA11
import Derived.Test.YtddgomjodbmohaaGreatDoorA12
import Derived.Test.YtddgomjodbmohaaGreatDoorA13
import Derived.WalkKit
import Derived.Shelf.Strings.Shaped
import Derived.Test.YtddgomjodbmohaaGreatDoorA4
set_option linter.unusedSectionVars false
set_option linter.unusedSimpArgs false
set_option linter.unusedVariables false
open Nat renaming reduceAdd → rA, reduceSub → rS, reduceEqDiff → rE, reduceLeDiff → rL
open List renaming getElem?_eq_getElem → lgg, getElem?_eq_some_iff → lgs, mem_of_getElem? → lmg, drop_eq_getElem_cons → ldg, drop_of_length_le → ldl, mem_map → lmm, take_of_length_le → ltl, getElem?_of_mem → lgm, length_map → llm, getElem_mem → lgk
open Bool renaming and_eq_true → bat, false_and → bfa, false_eq_true → bft, true_and → bta
namespace Go.Proofs
open Go.Shelf
def Tryz.lays156_ren : Go.Shelf.Ren:=⟨fun | 156=>82 | 165=>128 | 166=>129 | 169=>130 | 240=>150 | 241=>151 | 276=>179 | 277=>180 | n=>n,fun | 31=>95 | 9=>9 | 3=>3 | 4=>4 | 0=>0 | 20=>20 | 72=>138 | 76=>142 | 70=>135 | 37=>136 | 75=>141 | 127=>160 | 164=>181 | 5=>5 | 80=>83 | n=>n,fun | n=>n⟩
theorem Tryz.lays156 : Go.Proofs.Lays.n156 Tryz.prog Tryz.lays156_ren:={
 mixed:=by kernel_rfl
 f156:=Tryz.func82.trans (congrArg some (by kernel_rfl))
 f165:=Tryz.func128.trans (congrArg some (by kernel_rfl))
 f166:=Tryz.func129.trans (congrArg some (by kernel_rfl))
 f169:=Tryz.func130.trans (congrArg some (by kernel_rfl))
 f240:=Tryz.func150.trans (congrArg some (by kernel_rfl))
 f241:=Tryz.func151.trans (congrArg some (by kernel_rfl))
 f276:=Tryz.func179.trans (congrArg some (by kernel_rfl))
 f277:=Tryz.func180.trans (congrArg some (by kernel_rfl))
 t0:=Tryz.underlying0
 a0:=Tryz.isAgg0
 z0:=Tryz.sizeOf0
 v0:=Tryz.zeroValue0
 t3:=Tryz.underlying3
 a3:=Tryz.isAgg3
 z3:=Tryz.sizeOf3
 v3:=Tryz.zeroValue3
 t4:=Tryz.underlying4
 a4:=Tryz.isAgg4
 z4:=Tryz.sizeOf4
 v4:=Tryz.zeroValue4
 t9:=Tryz.underlying9
 a9:=Tryz.isAgg9
 z9:=Tryz.sizeOf9
 v9:=Tryz.zeroValue9
 t20:=Tryz.underlying20
 a20:=Tryz.isAgg20
 z20:=Tryz.sizeOf20
 v20:=Tryz.zeroValue20
 t31:=Tryz.underlying95
 a31:=Tryz.isAgg95
 z31:=Tryz.sizeOf95
 v31:=Tryz.zeroValue95
 t37:=Tryz.underlying136
 a37:=Tryz.isAgg136
 z37:=Tryz.sizeOf136
 v37:=Tryz.zeroValue136
 t70:=Tryz.underlying135
 a70:=Tryz.isAgg135
 z70:=Tryz.sizeOf135
 v70:=Tryz.zeroValue135
 t72:=Tryz.underlying138
 a72:=Tryz.isAgg138
 z72:=Tryz.sizeOf138
 v72:=Tryz.zeroValue138
 t75:=Tryz.underlying141
 a75:=Tryz.isAgg141
 z75:=Tryz.sizeOf141
 v75:=Tryz.zeroValue141
 t76:=Tryz.underlying142
 a76:=Tryz.isAgg142
 z76:=Tryz.sizeOf142
 v76:=Tryz.zeroValue142
 t127:=Tryz.underlying160
 a127:=Tryz.isAgg160
 z127:=Tryz.sizeOf160
 v127:=Tryz.zeroValue160
 t164:=Tryz.underlying181
 a164:=Tryz.isAgg181
 z164:=Tryz.sizeOf181
 v164:=Tryz.zeroValue181 }
theorem Tryz.Builder_Extra_156 : Builder.Extra Tryz.prog Tryz.lays156_ren:={
 sizeBuilder:=by kernel_rfl
 liesBuilder:=by kernel_rfl
 t5:=Tryz.underlying5
 a5:=Tryz.isAgg5
 z5:=Tryz.sizeOf5
 v5:=Tryz.zeroValue5
 infoByte:=by kernel_rfl
 cellsByte:=by kernel_rfl
 sizeByte:=by kernel_rfl
 neB5:=by decide }
def Tryz.lays146_ren : Go.Shelf.Ren:=⟨fun | 146=>79 | 221=>126 | 268=>145 | 138=>146 | 143=>147 | 195=>175 | 197=>176 | 218=>177 | 219=>178 | 260=>197 | 217=>198 | 225=>199 | 224=>200 | 267=>201 | 266=>207 | 314=>208 | n=>n,fun | 9=>9 | 31=>95 | 3=>3 | 4=>4 | 0=>0 | 105=>176 | 21=>21 | 5=>5 | 46=>43 | 119=>205 | 139=>208 | 138=>207 | 146=>209 | 51=>157 | n=>n,fun | 1=>2 | 3=>4 | 4=>5 | n=>n⟩
theorem Tryz.lays146 : Go.Proofs.Lays.n146 Tryz.prog Tryz.lays146_ren:={
 mixed:=by kernel_rfl
 f138:=Tryz.func146.trans (congrArg some (by kernel_rfl))
 f143:=Tryz.func147.trans (congrArg some (by kernel_rfl))
 f146:=Tryz.func79.trans (congrArg some (by kernel_rfl))
 f195:=Tryz.func175.trans (congrArg some (by kernel_rfl))
 f197:=Tryz.func176.trans (congrArg some (by kernel_rfl))
 f217:=Tryz.func198.trans (congrArg some (by kernel_rfl))
 f218:=Tryz.func177.trans (congrArg some (by kernel_rfl))
 f219:=Tryz.func178.trans (congrArg some (by kernel_rfl))
 f221:=Tryz.func126.trans (congrArg some (by kernel_rfl))
 f224:=Tryz.func200.trans (congrArg some (by kernel_rfl))
 f225:=Tryz.func199.trans (congrArg some (by kernel_rfl))
 f260:=Tryz.func197.trans (congrArg some (by kernel_rfl))
 f266:=Tryz.func207.trans (congrArg some (by kernel_rfl))
 f267:=Tryz.func201.trans (congrArg some (by kernel_rfl))
 f268:=Tryz.func145.trans (congrArg some (by kernel_rfl))
 f314:=Tryz.func208.trans (congrArg some (by kernel_rfl))
 t0:=Tryz.underlying0
 a0:=Tryz.isAgg0
 z0:=Tryz.sizeOf0
 v0:=Tryz.zeroValue0
 t3:=Tryz.underlying3
 a3:=Tryz.isAgg3
 z3:=Tryz.sizeOf3
 v3:=Tryz.zeroValue3
 t4:=Tryz.underlying4
 a4:=Tryz.isAgg4
 z4:=Tryz.sizeOf4
 v4:=Tryz.zeroValue4
 t5:=Tryz.underlying5
 a5:=Tryz.isAgg5
 z5:=Tryz.sizeOf5
 v5:=Tryz.zeroValue5
 t9:=Tryz.underlying9
 a9:=Tryz.isAgg9
 z9:=Tryz.sizeOf9
 v9:=Tryz.zeroValue9
 t21:=Tryz.underlying21
 a21:=Tryz.isAgg21
 z21:=Tryz.sizeOf21
 v21:=Tryz.zeroValue21
 t31:=Tryz.underlying95
 a31:=Tryz.isAgg95
 z31:=Tryz.sizeOf95
 v31:=Tryz.zeroValue95
 t46:=Tryz.underlying43
 a46:=Tryz.isAgg43
 z46:=Tryz.sizeOf43
 v46:=Tryz.zeroValue43
 t51:=Tryz.underlying157
 a51:=Tryz.isAgg157
 z51:=Tryz.sizeOf157
 v51:=Tryz.zeroValue157
 t105:=Tryz.underlying176
 a105:=Tryz.isAgg176
 z105:=Tryz.sizeOf176
 v105:=Tryz.zeroValue176
 t119:=Tryz.underlying205
 a119:=Tryz.isAgg205
 z119:=Tryz.sizeOf205
 t138:=Tryz.underlying207
 a138:=Tryz.isAgg207
 z138:=Tryz.sizeOf207
 v138:=Tryz.zeroValue207
 t139:=Tryz.underlying208
 a139:=Tryz.isAgg208
 z139:=Tryz.sizeOf208
 v139:=Tryz.zeroValue208
 t146:=Tryz.underlying209
 a146:=Tryz.isAgg209
 z146:=Tryz.sizeOf209
 v146:=Tryz.zeroValue209
 g1:=by kernel_rfl
 g3:=by kernel_rfl
 g4:=by kernel_rfl }
def Tryz.lays7_27_ren : Go.Shelf.Ren:=⟨fun | 27=>127 | 28=>148 | 29=>149 | n=>n,fun | 25=>43 | 3=>3 | 27=>157 | 22=>159 | 4=>4 | 53=>179 | 0=>0 | 5=>5 | 54=>180 | n=>n,fun | 0=>0 | 1=>1 | n=>n⟩
theorem Tryz.lays7_27 : Go.Proofs.Lays7.n27 Tryz.prog Tryz.lays7_27_ren:={
 mixed:=by kernel_rfl
 f27:=Tryz.func127.trans (congrArg some (by kernel_rfl))
 f28:=Tryz.func148.trans (congrArg some (by kernel_rfl))
 f29:=Tryz.func149.trans (congrArg some (by kernel_rfl))
 t0:=Tryz.underlying0
 a0:=Tryz.isAgg0
 z0:=Tryz.sizeOf0
 v0:=Tryz.zeroValue0
 i0:=by kernel_rfl
 t3:=Tryz.underlying3
 a3:=Tryz.isAgg3
 z3:=Tryz.sizeOf3
 v3:=Tryz.zeroValue3
 i3:=by kernel_rfl
 t4:=Tryz.underlying4
 a4:=Tryz.isAgg4
 z4:=Tryz.sizeOf4
 v4:=Tryz.zeroValue4
 i4:=by kernel_rfl
 t5:=Tryz.underlying5
 a5:=Tryz.isAgg5
 z5:=Tryz.sizeOf5
 v5:=Tryz.zeroValue5
 i5:=by kernel_rfl
 t22:=Tryz.underlying159
 a22:=Tryz.isAgg159
 z22:=Tryz.sizeOf159
 v22:=Tryz.zeroValue159
 i22:=by kernel_rfl
 t25:=Tryz.underlying43
 a25:=Tryz.isAgg43
 z25:=Tryz.sizeOf43
 v25:=Tryz.zeroValue43
 i25:=by kernel_rfl
 t27:=Tryz.underlying157
 a27:=Tryz.isAgg157
 z27:=Tryz.sizeOf157
 v27:=Tryz.zeroValue157
 i27:=by kernel_rfl
 t53:=Tryz.underlying179
 a53:=Tryz.isAgg179
 z53:=Tryz.sizeOf179
 v53:=Tryz.zeroValue179
 i53:=by kernel_rfl
 t54:=Tryz.underlying180
 a54:=Tryz.isAgg180
 z54:=Tryz.sizeOf180
 g0:=by kernel_rfl
 g1:=by kernel_rfl }
def Tryz.lays189_ren : Go.Shelf.Ren:=⟨fun | 189=>119 | 125=>141 | 257=>143 | 128=>163 | 129=>164 | 294=>166 | 295=>167 | 296=>168 | 297=>169 | 298=>170 | 299=>171 | 216=>172 | 300=>173 | 301=>174 | 328=>193 | 329=>185 | 330=>186 | 331=>194 | 332=>195 | 215=>196 | 343=>206 | n=>n,fun | 28=>22 | 3=>3 | 46=>43 | 0=>0 | 51=>157 | 53=>159 | 4=>4 | 183=>164 | 182=>163 | 131=>108 | 5=>5 | 9=>9 | 218=>186 | 222=>190 | 228=>198 | 229=>199 | n=>n,fun | n=>n⟩
theorem Tryz.lays189 : Go.Proofs.Lays.n189 Tryz.prog Tryz.lays189_ren:={
 mixed:=by kernel_rfl
 f125:=Tryz.func141.trans (congrArg some (by kernel_rfl))
 f128:=Tryz.func163.trans (congrArg some (by kernel_rfl))
 f129:=Tryz.func164.trans (congrArg some (by kernel_rfl))
 f189:=Tryz.func119.trans (congrArg some (by kernel_rfl))
 f215:=Tryz.func196.trans (congrArg some (by kernel_rfl))
 f216:=Tryz.func172.trans (congrArg some (by kernel_rfl))
 f257:=Tryz.func143.trans (congrArg some (by kernel_rfl))
 f294:=Tryz.func166.trans (congrArg some (by kernel_rfl))
 f295:=Tryz.func167.trans (congrArg some (by kernel_rfl))
 f296:=Tryz.func168.trans (congrArg some (by kernel_rfl))
 f297:=Tryz.func169.trans (congrArg some (by kernel_rfl))
 f298:=Tryz.func170.trans (congrArg some (by kernel_rfl))
 f299:=Tryz.func171.trans (congrArg some (by kernel_rfl))
 f300:=Tryz.func173.trans (congrArg some (by kernel_rfl))
 f301:=Tryz.func174.trans (congrArg some (by kernel_rfl))
 f328:=Tryz.func193.trans (congrArg some (by kernel_rfl))
 f329:=Tryz.func185.trans (congrArg some (by kernel_rfl))
 f330:=Tryz.func186.trans (congrArg some (by kernel_rfl))
 f331:=Tryz.func194.trans (congrArg some (by kernel_rfl))
 f332:=Tryz.func195.trans (congrArg some (by kernel_rfl))
 f343:=Tryz.func206.trans (congrArg some (by kernel_rfl))
 t0:=Tryz.underlying0
 a0:=Tryz.isAgg0
 z0:=Tryz.sizeOf0
 v0:=Tryz.zeroValue0
 t3:=Tryz.underlying3
 a3:=Tryz.isAgg3
 z3:=Tryz.sizeOf3
 v3:=Tryz.zeroValue3
 t4:=Tryz.underlying4
 a4:=Tryz.isAgg4
 z4:=Tryz.sizeOf4
 v4:=Tryz.zeroValue4
 t5:=Tryz.underlying5
 a5:=Tryz.isAgg5
 z5:=Tryz.sizeOf5
 v5:=Tryz.zeroValue5
 t9:=Tryz.underlying9
 a9:=Tryz.isAgg9
 z9:=Tryz.sizeOf9
 v9:=Tryz.zeroValue9
 t28:=Tryz.underlying22
 a28:=Tryz.isAgg22
 z28:=Tryz.sizeOf22
 v28:=Tryz.zeroValue22
 t46:=Tryz.underlying43
 a46:=Tryz.isAgg43
 z46:=Tryz.sizeOf43
 v46:=Tryz.zeroValue43
 t51:=Tryz.underlying157
 a51:=Tryz.isAgg157
 z51:=Tryz.sizeOf157
 v51:=Tryz.zeroValue157
 t53:=Tryz.underlying159
 a53:=Tryz.isAgg159
 z53:=Tryz.sizeOf159
 v53:=Tryz.zeroValue159
 t131:=Tryz.underlying108
 a131:=Tryz.isAgg108
 z131:=Tryz.sizeOf108
 v131:=Tryz.zeroValue108
 t182:=Tryz.underlying163
 a182:=Tryz.isAgg163
 z182:=Tryz.sizeOf163
 v182:=Tryz.zeroValue163
 t183:=Tryz.underlying164
 a183:=Tryz.isAgg164
 z183:=Tryz.sizeOf164
 v183:=Tryz.zeroValue164
 t218:=Tryz.underlying186
 a218:=Tryz.isAgg186
 z218:=Tryz.sizeOf186
 v218:=Tryz.zeroValue186
 t222:=Tryz.underlying190
 a222:=Tryz.isAgg190
 z222:=Tryz.sizeOf190
 v222:=Tryz.zeroValue190
 t228:=Tryz.underlying198
 a228:=Tryz.isAgg198
 z228:=Tryz.sizeOf198
 v228:=Tryz.zeroValue198
 t229:=Tryz.underlying199
 a229:=Tryz.isAgg199
 z229:=Tryz.sizeOf199
 v229:=Tryz.zeroValue199 }
def Tryz.lays2_20_ren : Go.Shelf.Ren:=⟨fun | 20=>120 | n=>n,fun | 22=>22 | 3=>3 | 4=>4 | 0=>0 | n=>n,fun | n=>n⟩
theorem Tryz.lays2_20 : Go.Proofs.Lays2.n20 Tryz.prog Tryz.lays2_20_ren:={
 mixed:=by kernel_rfl
 f20:=Tryz.func120.trans (congrArg some (by kernel_rfl))
 t0:=Tryz.underlying0
 a0:=Tryz.isAgg0
 z0:=Tryz.sizeOf0
 v0:=Tryz.zeroValue0
 t3:=Tryz.underlying3
 a3:=Tryz.isAgg3
 z3:=Tryz.sizeOf3
 v3:=Tryz.zeroValue3
 t4:=Tryz.underlying4
 a4:=Tryz.isAgg4
 z4:=Tryz.sizeOf4
 v4:=Tryz.zeroValue4
 t22:=Tryz.underlying22
 a22:=Tryz.isAgg22
 z22:=Tryz.sizeOf22
 v22:=Tryz.zeroValue22
 i3:=by kernel_rfl }
end Go.Proofs
namespace Go.V
open Go.RowKit Go.Sort Go.Proofs Go.Shelf
theorem XS_sound [GK] (hM : ∀ w,Keep w -> ∃ m,w.cell? ⟨2,0,none⟩ = some (.int .i64 m)) (hT : ∀ w,Keep w -> TabAt 1 Lib.deBruijn64tab w) : CallsSound Tryz.prog XS:=by
 intro f args H res H' h
 unfold XS at h
 by_cases h0 : f = 79
 ·subst h0
  rw [if_pos rfl] at h
  exact ⟨by kernel_rfl,XSplit_ok Tryz.lays146 (by kernel_rfl) hM h⟩
 ·rw [if_neg h0] at h
  by_cases h1 : f = 82
  ·subst h1
   rw [if_pos rfl] at h
   exact ⟨by kernel_rfl,XJoin_ok Tryz.lays156 Tryz.Builder_Extra_156 h⟩
  ·rw [if_neg h1] at h
   by_cases h2 : f = 127
   ·subst h2
    rw [if_pos rfl] at h
    exact ⟨by kernel_rfl,XTz_ok Tryz.lays7_27 hT h⟩
   ·rw [if_neg h2] at h
    by_cases h3 : f = 119
    ·subst h3
     rw [if_pos rfl] at h
     exact ⟨by kernel_rfl,XI_ok Tryz.lays189 h⟩
    ·rw [if_neg h3] at h
     by_cases h4 : f = 120
     ·subst h4
      rw [if_pos rfl] at h
      exact ⟨by kernel_rfl,XC_ok Tryz.lays2_20 h⟩
     ·rw [if_neg h4] at h
      by_cases h5 : f = 107
      ·subst h5
       rw [if_pos rfl] at h
       exact ⟨by kernel_rfl,XCloneN_ok h⟩
      ·rw [if_neg h5] at h
       by_cases h6 : f = 108
       ·subst h6
        rw [if_pos rfl] at h
        exact ⟨by kernel_rfl,XCloneT_ok h⟩
       ·rw [if_neg h6] at h
        cases h
theorem V_sound [GK] (hM : ∀ w,Keep w -> ∃ m,w.cell? ⟨2,0,none⟩ = some (.int .i64 m)) (hT : ∀ w,Keep w -> TabAt 1 Lib.deBruijn64tab w) : CallsSound Tryz.prog V:=vcall_sound (XS_sound hM hT) (by kernel_rfl) prog_ok
@[reducible] def gkOf (W : World) (n : Nat) : GK:=⟨fun b=>if b < n then W.heap[b]? else none⟩
theorem gkOf_at {W : World} {n : Nat} : ∀ b B,(gkOf W n).K b = some B -> W.heap[b]? = some B:=fun b B h=>by
 change (if b < n then W.heap[b]? else none) = some B at h
 split at h
 .exact h
 .cases h
theorem keep_cell {W : World} {n g i : Nat} {v : Value} (hg : g < n) (h : W.cell? ⟨g,i,none⟩ = some v) : ∀ w,@Keep (gkOf W n) w -> w.cell? ⟨g,i,none⟩ = some v:=fun w hk=>by
 have hb : W.heap[g]? ≠ none:=fun e=>by simp [World.cell?,e] at h
 obtain ⟨B,hB⟩:=Option.ne_none_iff_exists'.1 hb
 have:=hk g B (by show (if g < n then W.heap[g]? else none) = some B; rw [if_pos hg]; exact hB)
 rw [<- h]
 exact World.cell?_of_block (by simpa using this.trans hB.symm)
theorem maxLen_int {W : World} (h : W.ShapedOpen Tryz.prog) : ∃ m,W.cell? ⟨2,0,none⟩ = some (.int .i64 m) :=
 Go.Proofs.cell_of_shapedOpen_int (zero:=#[.int .i64 0]) (t:=3) h (of_decide_eq_true (by kernel_rfl)) (by kernel_rfl) rfl (by kernel_rfl) (by kernel_rfl) Tryz.underlying3
theorem own_try : ownKnob Tryz.prog.godebug = none:=by kernel_rfl
theorem laid_try : laidOutB Tryz.prog = true:=by kernel_rfl
theorem trodAll_len {H : Type} {enc : TypeId × Value -> H} {P : Program} {w : World} {base : Nat} {sp : Nat -> Bool} {hd : Bool} : ∀ {ts : List TypeId} {vs : List Value} {ds : List (DataW H)} {ps : List MemPlace},DataW.TrodAll enc P w base sp hd ts vs ds ps -> ds.length = ts.length
 | [],_,_,_,h=>by
  obtain ⟨rfl,rfl,rfl⟩:=ChangeShapes.trodAll_nil h
  rfl
 | _ :: _,_,_,_,h=>by
  obtain ⟨v,vs1,d,ds1,a,b,rfl,rfl,rfl,_,h2⟩:=ChangeShapes.trodAll_cons h
  simp [trodAll_len h2]
end Go.V
namespace Go.V
theorem tab2 : ∀ c d : Fin 32,(0 <= antI .i64 ((c.val : Nat) : Int) ((d.val : Nat) : Int) /\ antI .i64 ((c.val : Nat) : Int) ((d.val : Nat) : Int) <= 31) /\ (0 <= orI .i64 ((c.val : Nat) : Int) ((d.val : Nat) : Int) /\ orI .i64 ((c.val : Nat) : Int) ((d.val : Nat) : Int) <= 31) /\
  andI .i64 (antI .i64 ((c.val : Nat) : Int) ((d.val : Nat) : Int)) 6 = antI .i64 (andI .i64 ((c.val : Nat) : Int) 6) ((d.val : Nat) : Int):=by decide +kernel
structure In5 (c : Int) : Prop where
 a : 0 <= c
 b : c <= 31
theorem In5.fin {c : Int} (h : In5 c) : ∃ m : Fin 32,c = ((m.val : Nat) : Int):=⟨⟨c.toNat,by have:=h.a; have:=h.b; omega⟩,by have:=h.a; simp only; omega⟩
theorem In5.ant {c d : Int} (h : In5 c) (k : In5 d) : In5 (antI .i64 c d):=by
 obtain ⟨m,rfl⟩:=h.fin
 obtain ⟨n,rfl⟩:=k.fin
 exact ⟨(tab2 m n).1.1,(tab2 m n).1.2⟩
theorem In5.or {c d : Int} (h : In5 c) (k : In5 d) : In5 (orI .i64 c d):=by
 obtain ⟨m,rfl⟩:=h.fin
 obtain ⟨n,rfl⟩:=k.fin
 exact ⟨(tab2 m n).2.1.1,(tab2 m n).2.1.2⟩
theorem In5.dom {c d : Int} (h : In5 c) (k : In5 d) : andI .i64 (antI .i64 c d) 6 = antI .i64 (andI .i64 c 6) d:=by
 obtain ⟨m,rfl⟩:=h.fin
 obtain ⟨n,rfl⟩:=k.fin
 exact (tab2 m n).2.2
theorem setB_in {n : Int} (h : setB n = true) : In5 n:=by
 unfold setB at h
 simp only [bat,decide_eq_true_eq] at h
 exact ⟨h.1,h.2⟩
theorem node_in {t : Tr} (ht : treeOk t = true) {n : Nd} (hn : n ∈ t.nodes) : In5 n.control:=⟨(treeOk_control ht hn).1,(treeOk_control ht hn).2⟩
theorem cset_eq (n : Int) (hn : n < 9223372036854775808) : V 56 [.p (.int .i64 n)] [] = some (.p (.bool (setB n)),[]):=by
 refine V_wp (vf:=vf56) rfl ?_
 unfold setB
 by_cases h0 : 0 <= n
 ·have e:=antI31 h0 hn
  by_cases h1 : n <= 31
  ·have e2 : antI .i64 n 31 = 0:=e ▸ h1
   simp -implicitDefEqProofs (disch:=omega) only [vf56,vb56,h0,h1,e2,go_sem,↓reduceIte,rA,rS,rE,rL,reduceCtorEq]
  ·have e2 : ¬ antI .i64 n 31 = 0:=fun h=>h1 (e ▸ h)
   simp -implicitDefEqProofs (disch:=omega) only [vf56,vb56,h0,h1,e2,go_sem,↓reduceIte,rA,rS,rE,rL,reduceCtorEq]
 .simp -implicitDefEqProofs (disch:=omega) only [vf56,vb56,h0,go_sem,↓reduceIte,rA,rS,rE,rL,reduceCtorEq]
theorem ccopy_eq (h : Hy) (hl : h.ts.length < 1000000) (hn : h.t.nodes.length < 1000000) : V 58 [h.vv] [] = some (h.fv,[]):=by
 refine V_wp (vf:=vf58) rfl ?_
 have h1:=cloneN_x (xs:=h.t.nodes.map Nd.pv) (by rw [llm]; exact hn)
 have h2:=cloneT_x (xs:=h.ts.map Tk.pv) (by rw [llm]; exact hl)
 have ht1 : List.take h.t.nodes.length (h.t.nodes.map Nd.pv) = h.t.nodes.map Nd.pv:=ltl (by simp)
 have ht2 : List.take h.ts.length (h.ts.map Tk.pv) = h.ts.map Tk.pv:=ltl (by simp)
 simp -implicitDefEqProofs (disch:=omega) only [vf58,vb58,h1,h2,ht1,ht2,go_sem,↓reduceIte,rA,rS,rE,rL,reduceCtorEq]
theorem setN_at {ns : List Nd} (hp : ns.Pairwise fun a b=>a.id < b.id) {k : Nat} {x y : Nd} (hk : ns[k]? = some x) (he : y.id = x.id) : ns.set k y = setN ns y:=by
 apply List.ext_getElem?
 intro j
 unfold setN
 rw [List.getElem?_set,List.getElem?_map]
 have hkl:=(lgs.1 hk).1
 by_cases hj : k = j
 ·subst hj
  rw [if_pos rfl,if_pos hkl,hk]
  simp [he]
 ·rw [if_neg hj]
  cases hn : ns[j]? with
  | none=>rfl
  | some n =>
   have hne : ¬ n.id = y.id:=fun e=>by
    have:=inc_same hp (lmg hn) (lmg hk) (e.trans he)
    subst this
    have hjl:=(lgs.1 hn).1
    have hpi:=List.pairwise_iff_getElem.1 hp
    rcases Nat.lt_or_ge k j with h1 | h1
    ·have:=hpi k j hkl hjl h1
     rw [(lgs.1 hk).2,(lgs.1 hn).2] at this
     omega
    ·have:=hpi j k hjl hkl (by omega)
     rw [(lgs.1 hk).2,(lgs.1 hn).2] at this
     omega
   simp [hne]
set_option maxHeartbeats 16000000 in
theorem cwrite_eq (h : Hy) (id add drop : Int) (hfit : h.t.Fits) (ha63 : add < 9223372036854775808) (hd63 : drop < 9223372036854775808) (hl : h.ts.length < 1000000) (hn : h.t.nodes.length < 1000000) :
  V 16 [h.vv,.p (.int .i64 id),.p (.int .i64 add),.p (.int .i64 drop)] [] = some (.tup [wrO h id add drop,.p (.int .i64 (wrE h id add drop))],[]):=by
 refine V_wp (vf:=vf16) rfl ?_
 have hs:=csound_eq h hfit hl hn
 rw [<- sound_eq] at hs
 have ha:=cset_eq add ha63
 have hd:=cset_eq drop hd63
 have err : ∀ e : Int,wrE h id add drop = e -> e ≠ 0 -> (VVal.tup [noH,.p (.int .i64 e)],([] : List Ob)) = (VVal.tup [wrO h id add drop,.p (.int .i64 (wrE h id add drop))],([] : List Ob)):=fun e he hne=>by
  unfold wrO
  rw [he,if_neg hne]
 by_cases hS : soundR h = false
 ·have he : wrE h id add drop = 1:=by unfold wrE; rw [if_neg (fun e=>by rw [hS] at e; exact Bool.false_ne_true e.1)]
  rw [hS] at hs
  simp -implicitDefEqProofs (disch:=omega) only [vf16,vb16,hs,go_sem,↓reduceIte,rA,rS,rE,rL,reduceCtorEq]
  exact err 1 he (by decide)
 by_cases hA : setB add = false
 ·have hS : soundR h = true:=by simpa using hS
  have he : wrE h id add drop = 1:=by unfold wrE; rw [if_neg (fun e=>by rw [hA] at e; exact Bool.false_ne_true e.2.1)]
  rw [hS] at hs
  rw [hA] at ha
  simp -implicitDefEqProofs (disch:=omega) only [vf16,vb16,hs,ha,go_sem,↓reduceIte,rA,rS,rE,rL,reduceCtorEq]
  exact err 1 he (by decide)
 by_cases hD : setB drop = false
 ·have hS : soundR h = true:=by simpa using hS
  have hA : setB add = true:=by simpa using hA
  have he : wrE h id add drop = 1:=by unfold wrE; rw [if_neg (fun e=>by rw [hD] at e; exact Bool.false_ne_true e.2.2.1)]
  rw [hS] at hs
  rw [hA] at ha
  rw [hD] at hd
  simp -implicitDefEqProofs (disch:=omega) only [vf16,vb16,hs,ha,hd,go_sem,↓reduceIte,rA,rS,rE,rL,reduceCtorEq]
  exact err 1 he (by decide)
 have hS : soundR h = true:=by simpa using hS
 have hA : setB add = true:=by simpa using hA
 have hD : setB drop = true:=by simpa using hD
 rw [hS] at hs
 rw [hA] at ha
 rw [hD] at hd
 by_cases h0 : andI .i64 add drop = 0
 rotate_left
 ·have he : wrE h id add drop = 1:=by unfold wrE; rw [if_neg (fun e=>h0 e.2.2.2)]
  simp -implicitDefEqProofs (disch:=omega) only [vf16,vb16,hs,ha,hd,h0,go_sem,↓reduceIte,rA,rS,rE,rL,reduceCtorEq]
  exact err 1 he (by decide)
 have hm:=sound_memOk hS
 have ht:=memOk_tree hm
 have hat:=at_eq h.t id hn
 rcases idxOf_lt h.t.nodes id with ⟨hi,hfn⟩ | ⟨q,x,hi,hq,hfn,hxid⟩
 ·have he : wrE h id add drop = 4:=by unfold wrE findT; rw [if_pos ⟨hS,hA,hD,h0⟩,if_pos ht,hfn]
  generalize idxOf h.t.nodes id = i at hat hi
  simp -implicitDefEqProofs (disch:=omega) only [vf16,vb16,hs,ha,hd,h0,hat,hi,go_sem,↓reduceIte,rA,rS,rE,rL,reduceCtorEq]
  exact err 4 he (by decide)
 have hft : findT h.t id = some x:=by unfold findT; rw [if_pos ht,hfn]
 have hxm:=lmg hq
 have hql:=(lgs.1 hq).1
 rw [hi] at hat
 have hqn : ¬ ((q : Nat) : Int) < 0:=by omega
 have hfr:=cfrom_eq h.t x hn
 rw [<- avail_from ht hxm,hxid] at hfr
 have heq : wrE h id add drop = if antI .i64 add (availR h.t id) = 0 then if dropB h.t.nodes id drop = true then 9 else if antI .i64 (andI .i64 (nowI x add drop) 6) x.control = 0 \/ id = 1 \/ (∀ y ∈ h.ts,y.group ≠ id) then 0 else 6 else 9:=by
  unfold wrE; rw [if_pos ⟨hS,hA,hD,h0⟩,hft]
 generalize availR h.t id = av at hfr heq
 unfold Nd.vv at hfr
 by_cases h1 : antI .i64 add av = 0
 rotate_left
 ·rw [if_neg h1] at heq
  simp -implicitDefEqProofs (disch:=omega) only [vf16,vb16,hs,ha,hd,h0,hat,hqn,hq,hfr,h1,go_sem,↓reduceIte,rA,rS,rE,rL,reduceCtorEq]
  exact err 9 heq (by decide)
 rw [if_pos h1] at heq
 generalize hab : dropB h.t.nodes id drop = ab at heq
 unfold dropB at hab
 simp -implicitDefEqProofs (disch:=omega) only [vf16,vb16,hs,ha,hd,h0,hat,hqn,hq,hfr,h1,go_sem,↓reduceIte,rA,rS,rE,rL,reduceCtorEq]
 obtain ⟨I,hI⟩ : ∃ I : Nat -> St -> Prop,∀ k s,I k s ↔ ab = (h.t.nodes.drop k).any (fun n=>decide (n.parent = id) && decide (andI .i64 n.control drop ≠ 0)) /\ s.pe 1 = .p (.int .i64 id) /\ s.pe 2 = .p (.int .i64 add) /\ s.pe 3 = .p (.int .i64 drop) /\ s.pe 4 = .ptr (.slot 4 0) 0 0 /\ s.pe 8 = .ptr (.slot 8 0) 0 0 /\ s.pe 10 = .p (.int .i64 ↑q) /\ s.pe 11 = .ptr (.slot 11 0) 0 0 /\ s.pe 59 = .p (nodesP h.t.nodes) /\ s.pe 60 = .p (.int .i64 ↑h.t.nodes.length) /\ s.pe 61 = .p (.int .i64 k) /\ s.h (.slot 4 0) = some (0,Ob.box [.p (nodesP h.t.nodes),.p (.int .i64 h.t.next),.p (tasksP h.ts),.p (.int .i64 h.next)]) /\ s.h (.slot 8 0) = some (0,Ob.box [.own (.slot 8 1) 0 0 0,.p (.int .i64 0),.own (.slot 8 3) 0 0 0,.p (.int .i64 0)]) /\ s.h (.slot 8 1) = some (0,Ob.arr 6 []) /\ s.h (.slot 8 3) = some (0,Ob.arr 4 []) /\ s.h (.slot 11 0) = some (0,Ob.box [.p (.int .i64 x.id),.p (.int .i64 x.parent),.p (PV.str x.name),.p (.int .i64 x.control),.p (.int .i64 x.kind),.p (.int .i64 x.owner)]):=⟨_,fun _ _=>Iff.rfl⟩
 refine wp_count (h.t.nodes.length) I ?_ ?_
 ·refine (hI _ _).2 ⟨?_,?_,?_,?_,?_,?_,?_,?_,?_,?_,?_,?_,?_,?_,?_,?_⟩
  ·exact hab.symm
  all_goals exact cl0
 intro k s hk hIk
 obtain ⟨hqa,h1,h2,h3,h4,h8,h10,h11,h59,h60,h61,hh4_0,hh8_0,hh8_1,hh8_3,hh11_0⟩:=(hI _ _).1 hIk
 clear hIk
 simp -implicitDefEqProofs (disch:=omega) only [h1,h2,h3,h4,h8,h10,h11,h59,h60,h61,hh4_0,hh8_0,hh8_1,hh8_3,hh11_0,go_sem,↓reduceIte,rA,rS,rE,rL,reduceCtorEq]
 refine wp_if_d (fun hlt=>?_) (fun hge=>?_)
 ·have hc : h.t.nodes[k]? = some h.t.nodes[k]:=lgg (by omega)
  have hdr : h.t.nodes.drop k = h.t.nodes[k] :: h.t.nodes.drop (k + 1):=ldg (by omega)
  generalize h.t.nodes[k] = y at hc hdr
  rw [hdr,List.any_cons] at hqa
  by_cases hp : y.parent = id
  ·by_cases hy : andI .i64 y.control drop = 0
   ·rw [decide_eq_false (show ¬ (andI .i64 y.control drop ≠ 0) from fun e=>e hy),Bool.and_false,Bool.false_or] at hqa
    simp -implicitDefEqProofs (disch:=omega) only [h1,h2,h3,h4,h8,h10,h11,h59,h60,h61,hh4_0,hh8_0,hh8_1,hh8_3,hh11_0,hlt,hc,hp,hy,go_sem,↓reduceIte,rA,rS,rE,rL,reduceCtorEq]
    try refine And.intro (by omega) ?_
    refine (hI _ _).2 ⟨?_,?_,?_,?_,?_,?_,?_,?_,?_,?_,?_,?_,?_,?_,?_,?_⟩
    ·exact hqa
    all_goals exact cl0
   ·rw [decide_eq_true hp,decide_eq_true hy,bta,Bool.true_or] at hqa
    rw [hqa,if_pos rfl] at heq
    simp -implicitDefEqProofs (disch:=omega) only [h1,h2,h3,h4,h8,h10,h11,h59,h60,h61,hh4_0,hh8_0,hh8_1,hh8_3,hh11_0,hlt,hc,hp,hy,go_sem,↓reduceIte,rA,rS,rE,rL,reduceCtorEq]
    exact err 9 heq (by decide)
  ·rw [decide_eq_false hp,bfa,Bool.false_or] at hqa
   simp -implicitDefEqProofs (disch:=omega) only [h1,h2,h3,h4,h8,h10,h11,h59,h60,h61,hh4_0,hh8_0,hh8_1,hh8_3,hh11_0,hlt,hc,hp,go_sem,↓reduceIte,rA,rS,rE,rL,reduceCtorEq]
   try refine And.intro (by omega) ?_
   refine (hI _ _).2 ⟨?_,?_,?_,?_,?_,?_,?_,?_,?_,?_,?_,?_,?_,?_,?_,?_⟩
   ·exact hqa
   all_goals exact cl0
 ·rw [ldl (by omega),List.any_nil] at hqa
  rw [hqa,if_neg Bool.false_ne_true] at heq
  have htk:=ctasks_eq h id hl
  have hcr:=crewL_nil id h.ts
  have hcp:=ccopy_eq h hl hn
  have hinc:=((treeOk_iff _).1 ht).inc
  have hset : ((h.t.nodes.map Nd.pv).set q (.agg [.int .i64 x.id,.int .i64 x.parent,.str x.name,.int .i64 (nowI x add drop),.int .i64 x.kind,.int .i64 x.owner])) = (setN h.t.nodes ⟨x.id,x.parent,x.name,nowI x add drop,x.kind,x.owner⟩).map Nd.pv:=by
   rw [<- setN_at hinc hq (y:=⟨x.id,x.parent,x.name,nowI x add drop,x.kind,x.owner⟩) rfl,List.map_set]
   rfl
  have hsl:=setN_len h.t.nodes ⟨x.id,x.parent,x.name,nowI x add drop,x.kind,x.owner⟩
  have hoo : wrE h id add drop = 0 -> wrO h id add drop = (⟨⟨setN h.t.nodes ⟨x.id,x.parent,x.name,nowI x add drop,x.kind,x.owner⟩,h.t.next⟩,h.ts,h.next⟩ : Hy).fv:=fun e=>by
   unfold wrO
   rw [e,if_pos rfl,hft,Option.getD_some]
   rfl
  have hdom : andI .i64 (antI .i64 (nowI x add drop) x.control) 6 = antI .i64 (andI .i64 (nowI x add drop) 6) x.control:=by
   have hx5:=node_in ht hxm
   exact In5.dom ((hx5.ant (setB_in hD)).or (setB_in hA)) hx5
  rw [<- hdom] at heq
  clear hdom
  generalize setN h.t.nodes ⟨x.id,x.parent,x.name,nowI x add drop,x.kind,x.owner⟩ = ns at hset hsl hoo
  unfold nowI at hset heq
  have ht1 : List.take h.t.nodes.length (ns.map Nd.pv) = ns.map Nd.pv:=ltl (Nat.le_of_eq (by rw [llm,hsl]))
  have ht2 : List.take h.ts.length (h.ts.map Tk.pv) = h.ts.map Tk.pv:=ltl (by simp)
  have fin : wrE h id add drop = 0 -> (VVal.tup [(⟨⟨ns,h.t.next⟩,h.ts,h.next⟩ : Hy).fv,.p (.int .i64 0)],([] : List Ob)) = (VVal.tup [wrO h id add drop,.p (.int .i64 (wrE h id add drop))],([] : List Ob)):=fun e=>by
   rw [hoo e,e]
  by_cases h6 : andI .i64 (antI .i64 (orI .i64 (antI .i64 x.control drop) add) x.control) 6 = 0
  ·rw [if_pos (Or.inl h6)] at heq
   simp -implicitDefEqProofs (disch:=omega) only [h1,h2,h3,h4,h8,h10,h11,h59,h60,h61,hh4_0,hh8_0,hh8_1,hh8_3,hh11_0,hge,h6,hcp,hq,hql,hset,ht1,ht2,go_sem,↓reduceIte,rA,rS,rE,rL,reduceCtorEq]
   exact fin heq
  ·by_cases hi1 : id = 1
   ·rw [if_pos (Or.inr (Or.inl hi1))] at heq
    subst hi1
    simp -implicitDefEqProofs (disch:=omega) only [h1,h2,h3,h4,h8,h10,h11,h59,h60,h61,hh4_0,hh8_0,hh8_1,hh8_3,hh11_0,hge,h6,hcp,hq,hql,hset,ht1,ht2,go_sem,↓reduceIte,rA,rS,rE,rL,reduceCtorEq]
    exact fin heq
   ·by_cases hz0 : (crewL id h.ts).length = 0
    ·rw [if_pos (Or.inr (Or.inr (hcr.1 hz0)))] at heq
     have hz2 : ¬ (0 : Int) < ((crewL id h.ts).length : Nat):=by omega
     simp -implicitDefEqProofs (disch:=omega) only [h1,h2,h3,h4,h8,h10,h11,h59,h60,h61,hh4_0,hh8_0,hh8_1,hh8_3,hh11_0,hge,h6,hi1,htk,hz2,hcp,hq,hql,hset,ht1,ht2,go_sem,↓reduceIte,rA,rS,rE,rL,reduceCtorEq]
     exact fin heq
    ·rw [if_neg (fun e=>by rcases e with e | e | e; exact h6 e; exact hi1 e; exact hz0 (hcr.2 e))] at heq
     have hz2 : (0 : Int) < ((crewL id h.ts).length : Nat):=by omega
     simp -implicitDefEqProofs (disch:=omega) only [h1,h2,h3,h4,h8,h10,h11,h59,h60,h61,hh4_0,hh8_0,hh8_1,hh8_3,hh11_0,hge,h6,hi1,htk,hz2,go_sem,↓reduceIte,rA,rS,rE,rL,reduceCtorEq]
     exact err 6 heq (by decide)
end Go.V
namespace Go.V
set_option maxHeartbeats 4000000 in
theorem sameT_refl (t : Tr) (hn : t.nodes.length < 1000000) : V 59 [t.vv,t.vv] [] = some (.p (.bool true),[]):=by
 refine V_wp (vf:=vf59) rfl ?_
 simp -implicitDefEqProofs (disch:=omega) only [vf59,vb59,go_sem,↓reduceIte,rA,rS,rE,rL,reduceCtorEq]
 obtain ⟨I,hI⟩ : ∃ I : Nat -> St -> Prop,∀ k s,I k s ↔ s.pe 2 = .ptr (.slot 2 0) 0 0 /\ s.pe 3 = .ptr (.slot 3 0) 0 0 /\ s.pe 5 = .p (.int .i64 k) /\ s.h (.slot 2 0) = some (0,Ob.box [.p (nodesP t.nodes),.p (.int .i64 t.next)]) /\ s.h (.slot 3 0) = some (0,Ob.box [.p (nodesP t.nodes),.p (.int .i64 t.next)]):=⟨_,fun _ _=>Iff.rfl⟩
 refine wp_count (t.nodes.length) I ?_ ?_
 ·refine (hI _ _).2 ⟨?_,?_,?_,?_,?_⟩
  all_goals exact cl0
 intro k s hk hIk
 obtain ⟨h2,h3,h5,hh2_0,hh3_0⟩:=(hI _ _).1 hIk
 clear hIk
 simp -implicitDefEqProofs (disch:=omega) only [h2,h3,h5,hh2_0,hh3_0,go_sem,↓reduceIte,rA,rS,rE,rL,reduceCtorEq]
 refine wp_if_d (fun hlt=>?_) (fun hge=>?_)
 ·have hc : t.nodes[k]? = some t.nodes[k]:=lgg (by omega)
  generalize t.nodes[k] = x at hc
  simp -implicitDefEqProofs (disch:=omega) only [h2,h3,h5,hh2_0,hh3_0,hlt,hc,go_sem,↓reduceIte,rA,rS,rE,rL,reduceCtorEq]
  try refine And.intro (by omega) ?_
  refine (hI _ _).2 ⟨?_,?_,?_,?_,?_⟩
  all_goals exact cl0
 .simp -implicitDefEqProofs (disch:=omega) only [h2,h3,h5,hh2_0,hh3_0,hge,go_sem,↓reduceIte,rA,rS,rE,rL,reduceCtorEq]
set_option maxHeartbeats 4000000 in
theorem sameH_refl (h : Hy) (hl : h.ts.length < 1000000) (hn : h.t.nodes.length < 1000000) : V 17 [h.vv,h.vv] [] = some (.p (.bool true),[]):=by
 refine V_wp (vf:=vf17) rfl ?_
 have hs:=sameT_refl h.t hn
 simp -implicitDefEqProofs (disch:=omega) only [vf17,vb17,hs,go_sem,↓reduceIte,rA,rS,rE,rL,reduceCtorEq]
 obtain ⟨I,hI⟩ : ∃ I : Nat -> St -> Prop,∀ k s,I k s ↔ s.pe 2 = .ptr (.slot 2 0) 0 0 /\ s.pe 3 = .ptr (.slot 3 0) 0 0 /\ s.pe 5 = .p (.int .i64 k) /\ s.h (.slot 2 0) = some (0,Ob.box [.p (nodesP h.t.nodes),.p (.int .i64 h.t.next),.p (tasksP h.ts),.p (.int .i64 h.next)]) /\ s.h (.slot 3 0) = some (0,Ob.box [.p (nodesP h.t.nodes),.p (.int .i64 h.t.next),.p (tasksP h.ts),.p (.int .i64 h.next)]):=⟨_,fun _ _=>Iff.rfl⟩
 refine wp_count (h.ts.length) I ?_ ?_
 ·refine (hI _ _).2 ⟨?_,?_,?_,?_,?_⟩
  all_goals exact cl0
 intro k s hk hIk
 obtain ⟨h2,h3,h5,hh2_0,hh3_0⟩:=(hI _ _).1 hIk
 clear hIk
 simp -implicitDefEqProofs (disch:=omega) only [h2,h3,h5,hh2_0,hh3_0,go_sem,↓reduceIte,rA,rS,rE,rL,reduceCtorEq]
 refine wp_if_d (fun hlt=>?_) (fun hge=>?_)
 ·have hc : h.ts[k]? = some h.ts[k]:=lgg (by omega)
  generalize h.ts[k] = x at hc
  simp -implicitDefEqProofs (disch:=omega) only [h2,h3,h5,hh2_0,hh3_0,hlt,hc,go_sem,↓reduceIte,rA,rS,rE,rL,reduceCtorEq]
  try refine And.intro (by omega) ?_
  refine (hI _ _).2 ⟨?_,?_,?_,?_,?_⟩
  all_goals exact cl0
 .simp -implicitDefEqProofs (disch:=omega) only [h2,h3,h5,hh2_0,hh3_0,hge,go_sem,↓reduceIte,rA,rS,rE,rL,reduceCtorEq]
end Go.V
namespace Go.V
abbrev A5 (c d : Int) : Int:=antI .i64 c d
abbrev O5 (c d : Int) : Int:=orI .i64 c d
abbrev N5 (c d : Int) : Int:=andI .i64 c d
abbrev f5 (m : Fin 32) : Int:=((m.val : Nat) : Int)
theorem tabP : ∀ c a : Fin 32,A5 (f5 c) (O5 (f5 c) (f5 a)) = 0 /\ A5 (f5 a) (O5 (f5 c) (f5 a)) = 0 /\ (N5 (f5 a) (f5 c) = 0 -> O5 (A5 (O5 (f5 c) (f5 a)) (f5 a)) 0 = f5 c) /\ N5 (A5 (f5 a) (f5 c)) (f5 c) = 0 /\
  (A5 (f5 c) (f5 a) = 0 -> A5 (A5 (f5 c) 6) (A5 (f5 a) 6) = 0) /\ (A5 (N5 (f5 a) 6) (f5 c) = 0 -> N5 (f5 c) 6 = 0 -> N5 (f5 a) 6 = 0) /\ A5 (N5 (f5 c) 6) (O5 (f5 c) (f5 a)) = 0:=by decide +kernel
theorem tabU : ∀ c : Fin 32,A5 (f5 c) 0 = f5 c /\ O5 (f5 c) 0 = f5 c /\ A5 (N5 (f5 c) 6) (f5 c) = 0 /\ A5 (f5 c) (f5 c) = 0:=by decide +kernel
theorem tabT : ∀ m c d : Fin 32,(A5 (f5 m) (f5 c) = 0 -> A5 (f5 c) (f5 d) = 0 -> A5 (f5 m) (f5 d) = 0) /\ (A5 (f5 m) (f5 d) = 0 -> A5 (f5 c) (f5 d) = 0 -> A5 (O5 (f5 m) (f5 c)) (f5 d) = 0) /\
  (A5 (f5 m) (f5 c) = 0 -> N5 (f5 d) (f5 c) = 0 -> N5 (f5 m) (f5 d) = 0):=by decide +kernel
section
variable {m c d : Int}
theorem In5.le_or (h : In5 c) (k : In5 d) : A5 c (O5 c d) = 0:=by
 obtain ⟨m,rfl⟩:=h.fin; obtain ⟨n,rfl⟩:=k.fin
 exact (tabP m n).1
theorem In5.or_back (h : In5 c) (k : In5 d) (e : N5 d c = 0) : O5 (A5 (O5 c d) d) 0 = c:=by
 obtain ⟨m,rfl⟩:=h.fin; obtain ⟨n,rfl⟩:=k.fin
 exact (tabP m n).2.2.1 e
theorem In5.ant_and (h : In5 c) (k : In5 d) : N5 (A5 d c) c = 0:=by
 obtain ⟨m,rfl⟩:=h.fin; obtain ⟨n,rfl⟩:=k.fin
 exact (tabP m n).2.2.2.1
theorem In5.mono6 (h : In5 c) (k : In5 d) (e : A5 c d = 0) : A5 (A5 c 6) (A5 d 6) = 0:=by
 obtain ⟨m,rfl⟩:=h.fin; obtain ⟨n,rfl⟩:=k.fin
 exact (tabP m n).2.2.2.2.1 e
theorem In5.dom0 (h : In5 c) (k : In5 d) (e : A5 (N5 d 6) c = 0) (e2 : N5 c 6 = 0) : N5 d 6 = 0:=by
 obtain ⟨m,rfl⟩:=h.fin; obtain ⟨n,rfl⟩:=k.fin
 exact (tabP m n).2.2.2.2.2.1 e e2
theorem In5.dom_or (h : In5 c) (k : In5 d) : A5 (N5 c 6) (O5 c d) = 0:=by
 obtain ⟨m,rfl⟩:=h.fin; obtain ⟨n,rfl⟩:=k.fin
 exact (tabP m n).2.2.2.2.2.2
theorem In5.a0 (h : In5 c) : A5 c 0 = c:=by obtain ⟨m,rfl⟩:=h.fin; exact (tabU m).1
theorem In5.o0 (h : In5 c) : O5 c 0 = c:=by obtain ⟨m,rfl⟩:=h.fin; exact (tabU m).2.1
theorem In5.dom1 (h : In5 c) : A5 (N5 c 6) c = 0:=by obtain ⟨m,rfl⟩:=h.fin; exact (tabU m).2.2.1
theorem In5.self (h : In5 c) : A5 c c = 0:=by obtain ⟨m,rfl⟩:=h.fin; exact (tabU m).2.2.2
theorem In5.trans (g : In5 m) (h : In5 c) (k : In5 d) (e1 : A5 m c = 0) (e2 : A5 c d = 0) : A5 m d = 0:=by
 obtain ⟨m,rfl⟩:=g.fin; obtain ⟨c,rfl⟩:=h.fin; obtain ⟨d,rfl⟩:=k.fin
 exact (tabT m c d).1 e1 e2
theorem In5.or_le (g : In5 m) (h : In5 c) (k : In5 d) (e1 : A5 m d = 0) (e2 : A5 c d = 0) : A5 (O5 m c) d = 0:=by
 obtain ⟨m,rfl⟩:=g.fin; obtain ⟨c,rfl⟩:=h.fin; obtain ⟨d,rfl⟩:=k.fin
 exact (tabT m c d).2.1 e1 e2
theorem In5.apart (g : In5 m) (h : In5 c) (k : In5 d) (e1 : A5 m c = 0) (e2 : N5 d c = 0) : N5 m d = 0:=by
 obtain ⟨m,rfl⟩:=g.fin; obtain ⟨c,rfl⟩:=h.fin; obtain ⟨d,rfl⟩:=k.fin
 exact (tabT m c d).2.2 e1 e2
end
theorem z5 : In5 0:=⟨by decide,by decide⟩
theorem full5 : In5 31:=⟨by decide,by decide⟩
theorem In5.set {c : Int} (h : In5 c) : setB c = true:=by
 unfold setB
 simp only [bat,decide_eq_true_eq]
 exact ⟨h.a,h.b⟩
theorem upC_in {t : Tr} (ht : treeOk t = true) (n : Nd) : In5 (upC t n):=⟨(upC_bound ht n).1,(upC_bound ht n).2⟩
theorem fromV_in {t : Tr} (ht : treeOk t = true) (n : Nd) : In5 (fromV t n):=⟨(fromV_bound ht n).1,(fromV_bound ht n).2⟩
def ctlF (id c : Int) (n : Nd) : Nd:=⟨n.id,n.parent,n.name,if n.id = id then c else n.control,n.kind,n.owner⟩
theorem ctlF_keeps (id c : Int) : KeepsN (ctlF id c):=⟨fun _=>rfl,fun _=>rfl,fun _=>rfl,fun _=>rfl⟩
def setC (h : Hy) (id c : Int) : Hy:=⟨⟨h.t.nodes.map (ctlF id c),h.t.next⟩,h.ts,h.next⟩
theorem wrH_setC {h : Hy} (ht : treeOk h.t = true) {x : Nd} (hx : x ∈ h.t.nodes) (add drop : Int) : wrH h x add drop = setC h x.id (nowI x add drop):=by
 unfold wrH setC setN
 congr 2
 refine List.map_congr_left fun n hn=>?_
 unfold ctlF
 by_cases e : n.id = x.id
 ·have:=inc_same ((treeOk_iff _).1 ht).inc hn hx e
  subst this
  simp
 .simp only [if_neg e]
theorem setC_tree {h : Hy} (m : MemP h) {id c : Int} (hc : In5 c) : MemP (setC h id c):=memP_map (ctlF_keeps id c) m fun n hn=>by
 obtain ⟨b1,b2,b3,b4⟩:=tree_bound m.tree hn
 refine ⟨?_,?_,b3,b4⟩
 ·show 0 <= (if n.id = id then c else n.control)
  split
  .exact hc.a
  .exact b1
 ·show (if n.id = id then c else n.control) <= 31
  split
  .exact hc.b
  .exact b2
theorem upC_setC {h : Hy} (ht : treeOk h.t = true) {x : Nd} (hx : x ∈ h.t.nodes) {c : Int} (hc : In5 c) (hle : A5 x.control c = 0) {n : Nd} (hn : n ∈ h.t.nodes) : A5 (upC h.t n) (upC (setC h x.id c).t (ctlF x.id c n)) = 0:=by
 have hf : findN (setC h x.id c).t.nodes n.parent = (findN h.t.nodes n.parent).map (ctlF x.id c):=findN_map (ctlF_keeps x.id c) _ _
 unfold upC
 show A5 _ (if n.id = 1 then 31 else ((findN (setC h x.id c).t.nodes n.parent).getD zeroNd).control) = 0
 by_cases h1 : n.id = 1
 ·rw [if_pos h1,if_pos h1]
  exact full5.self
 ·rw [if_neg h1,if_neg h1,hf]
  cases hq : findN h.t.nodes n.parent with
  | none=>exact z5.self
  | some p =>
   have hp:=List.mem_of_find?_eq_some hq
   show A5 p.control (if p.id = x.id then c else p.control) = 0
   by_cases e : p.id = x.id
   ·have:=inc_same ((treeOk_iff _).1 ht).inc hp hx e
    subst this
    rw [if_pos rfl]
    exact hle
   ·rw [if_neg e]
    exact (node_in ht hp).self
theorem fromV_setC {h : Hy} (ht : treeOk h.t = true) {x : Nd} (hx : x ∈ h.t.nodes) {c : Int} (hc : In5 c) (ht2 : treeOk (setC h x.id c).t = true) (hle : A5 x.control c = 0) {n : Nd} (hn : n ∈ h.t.nodes) : A5 (fromV h.t n) (fromV (setC h x.id c).t (ctlF x.id c n)) = 0:=by
 have hu:=upC_setC ht hx hc hle hn
 have i1:=upC_in ht n
 have i2:=upC_in ht2 (ctlF x.id c n)
 unfold fromV
 show A5 _ (if n.kind = 1 then antI .i64 (upC (setC h x.id c).t (ctlF x.id c n)) 6 else upC (setC h x.id c).t (ctlF x.id c n)) = 0
 by_cases hk : n.kind = 1
 ·rw [if_pos hk,if_pos hk]
  exact i1.mono6 i2 hu
 ·rw [if_neg hk,if_neg hk]
  exact hu
theorem give_sound {h : Hy} (hs : soundR h = true) {x : Nd} (hx : x ∈ h.t.nodes) {add : Int} (ha : In5 add) (hav : A5 add (fromV h.t x) = 0)
  (hr : A5 (N5 (O5 x.control add) 6) x.control = 0 \/ x.id = 1 \/ ∀ y ∈ h.ts,y.group ≠ x.id) : soundR (setC h x.id (O5 x.control add)) = true:=by
 obtain ⟨m,hn⟩:=(soundR_iff h).1 hs
 have ht:=m.tree
 have hcx:=node_in ht hx
 have hc : In5 (O5 x.control add):=hcx.or ha
 have m2:=setC_tree m (id:=x.id) hc
 have hle:=hcx.le_or ha
 refine (soundR_iff _).2 ⟨m2,fun y hy=>?_⟩
 have hy0:=hy
 obtain ⟨n,hnm,rfl⟩:=lmm.1 hy
 obtain ⟨n1,n2⟩:=hn n hnm
 rw [avail_from ht hnm] at n1
 have hgrow:=fromV_setC ht hx hc m2.tree hle hnm
 have i1:=fromV_in ht n
 have i2:=fromV_in m2.tree (ctlF x.id (O5 x.control add) n)
 unfold NodeP
 rw [avail_from m2.tree hy0]
 have hnc:=node_in ht hnm
 show A5 (if n.id = x.id then O5 x.control add else n.control) _ = 0 /\ (n.id = 1 \/ N5 (if n.id = x.id then O5 x.control add else n.control) 6 = 0 \/ ∀ y ∈ h.ts,y.group ≠ n.id)
 by_cases e : n.id = x.id
 ·have:=inc_same ((treeOk_iff _).1 ht).inc hnm hx e
  subst this
  rw [if_pos rfl]
  refine ⟨hc.trans i1 i2 (hcx.or_le ha i1 n1 hav) hgrow,?_⟩
  rcases hr with hr | hr | hr
  ·rcases n2 with n2 | n2 | n2
   .exact .inl n2
   .exact .inr (.inl (hcx.dom0 hc hr n2))
   .exact .inr (.inr n2)
  .exact .inl hr
  .exact .inr (.inr hr)
 ·rw [if_neg e]
  exact ⟨hnc.trans i1 i2 n1 hgrow,n2⟩
theorem no_self {t : Tr} (ht : treeOk t = true) {x : Nd} (hx : x ∈ t.nodes) : x.parent ≠ x.id:=fun e=>by
 obtain ⟨i,hi⟩:=lgm hx
 have:=par_lt ((treeOk_iff _).1 ht) hi hi e.symm
 omega
theorem fromV_own {h : Hy} (ht : treeOk h.t = true) {x : Nd} (hx : x ∈ h.t.nodes) (c : Int) : fromV (setC h x.id c).t (ctlF x.id c x) = fromV h.t x:=by
 have hf : findN (setC h x.id c).t.nodes x.parent = (findN h.t.nodes x.parent).map (ctlF x.id c):=findN_map (ctlF_keeps x.id c) _ _
 have hu : upC (setC h x.id c).t (ctlF x.id c x) = upC h.t x:=by
  unfold upC
  show (if x.id = 1 then 31 else ((findN (setC h x.id c).t.nodes x.parent).getD zeroNd).control) = _
  rw [hf]
  by_cases h1 : x.id = 1
  ·rw [if_pos h1,if_pos h1]
  ·rw [if_neg h1,if_neg h1]
   cases hq : findN h.t.nodes x.parent with
   | none=>rfl
   | some p =>
    have hp : p.id = x.parent:=by simpa using List.find?_some hq
    have hne : p.id ≠ x.id:=fun e=>no_self ht hx (hp.symm.trans e)
    show (if p.id = x.id then c else p.control) = p.control
    rw [if_neg hne]
 unfold fromV
 show (if x.kind = 1 then antI .i64 (upC (setC h x.id c).t (ctlF x.id c x)) 6 else upC (setC h x.id c).t (ctlF x.id c x)) = _
 rw [hu]
end Go.V
namespace Go.V
theorem give_E {h : Hy} (hs : soundR h = true) {x : Nd} (hx : x ∈ h.t.nodes) {add : Int} (ha : In5 add) : wrE h x.id add 0 = if A5 add (fromV h.t x) = 0 then if A5 (N5 (O5 x.control add) 6) x.control = 0 \/ x.id = 1 \/ (∀ y ∈ h.ts,y.group ≠ x.id) then 0 else 6 else 9:=by
 have ht:=(sound_mem hs).tree
 have hf : findT h.t x.id = some x:=by
  rw [findT,if_pos ht]
  exact findN_self ((treeOk_iff _).1 ht).inc hx
 have h0 : andI .i64 add 0 = 0:=by
  obtain ⟨m,rfl⟩:=ha.fin
  exact (by decide +kernel : ∀ m : Fin 32,andI .i64 (f5 m) 0 = 0) m
 have hd : dropB h.t.nodes x.id 0 = false:=by
  unfold dropB
  rw [List.any_eq_false]
  intro n hn e
  simp only [bat,decide_eq_true_eq] at e
  obtain ⟨m,hm⟩:=(node_in ht hn).fin
  rw [hm] at e
  exact e.2 ((by decide +kernel : ∀ m : Fin 32,andI .i64 (f5 m) 0 = 0) m)
 have hnow : nowI x add 0 = O5 x.control add:=by
  unfold nowI
  have:=(node_in ht hx).a0
  unfold A5 at this
  rw [this]
 unfold wrE
 rw [if_pos ⟨hs,ha.set,z5.set,h0⟩,hf]
 simp only [hd,hnow,avail_from ht hx,bft,if_false]
theorem give_H {h : Hy} (hs : soundR h = true) {x : Nd} (hx : x ∈ h.t.nodes) (add : Int) : wrH h x add 0 = setC h x.id (O5 x.control add):=by
 have ht:=(sound_mem hs).tree
 rw [wrH_setC ht hx]
 unfold nowI
 have:=(node_in ht hx).a0
 unfold A5 at this
 rw [this]
theorem give_ok {h : Hy} (hs : soundR h = true) {x : Nd} (hx : x ∈ h.t.nodes) {add : Int} (ha : In5 add) : wrE h x.id add 0 = 0 ↔ A5 add (fromV h.t x) = 0 /\ (A5 (N5 (O5 x.control add) 6) x.control = 0 \/ x.id = 1 \/ (∀ y ∈ h.ts,y.group ≠ x.id)):=by
 rw [give_E hs hx ha]
 by_cases h1 : A5 add (fromV h.t x) = 0
 ·rw [if_pos h1]
  by_cases h2 : A5 (N5 (O5 x.control add) 6) x.control = 0 \/ x.id = 1 \/ (∀ y ∈ h.ts,y.group ≠ x.id)
  ·rw [if_pos h2]
   exact ⟨fun _=>⟨h1,h2⟩,fun _=>rfl⟩
  ·rw [if_neg h2]
   exact ⟨fun e=>absurd e (by decide),fun e=>absurd e.2 h2⟩
 ·rw [if_neg h1]
  exact ⟨fun e=>absurd e (by decide),fun e=>absurd e.1 h1⟩
theorem give_4 {h : Hy} (hs : soundR h = true) {x : Nd} (hx : x ∈ h.t.nodes) {add : Int} (ha : In5 add) : wrE h x.id add 0 ≠ 4:=by
 rw [give_E hs hx ha]
 split
 .split <;> decide
 .decide
theorem setC_mem {h : Hy} {x : Nd} (hx : x ∈ h.t.nodes) (c : Int) : (⟨x.id,x.parent,x.name,c,x.kind,x.owner⟩ : Nd) ∈ (setC h x.id c).t.nodes:=by
 have:=List.mem_map_of_mem (f:=ctlF x.id c) hx
 unfold ctlF at this
 rw [if_pos rfl] at this
 exact this
theorem setC_twice {h : Hy} (id c d : Int) : setC (setC h id c) id d = setC h id d:=by
 unfold setC
 simp only [List.map_map]
 congr 2
 refine List.map_congr_left fun n _=>?_
 simp only [Function.comp,ctlF]
 by_cases e : n.id = id
 .simp only [if_pos e]
 .simp only [if_neg e]
theorem setC_self {h : Hy} (ht : treeOk h.t = true) {x : Nd} (hx : x ∈ h.t.nodes) : setC h x.id x.control = h:=by
 unfold setC
 have : h.t.nodes.map (ctlF x.id x.control) = h.t.nodes:=by
  conv=>rhs; rw [<- List.map_id h.t.nodes]
  refine List.map_congr_left fun n hn=>?_
  unfold ctlF
  by_cases e : n.id = x.id
  ·have:=inc_same ((treeOk_iff _).1 ht).inc hn hx e
   subst this
   simp
  ·simp only [if_neg e]
   rfl
 rw [this]
theorem give_back {h : Hy} (hs : soundR h = true) {x : Nd} (hx : x ∈ h.t.nodes) {add : Int} (ha : In5 add) (hd : N5 add x.control = 0) (hs2 : soundR (setC h x.id (O5 x.control add)) = true) :
  wrE (setC h x.id (O5 x.control add)) x.id 0 add = 0 /\ wrH (setC h x.id (O5 x.control add)) ⟨x.id,x.parent,x.name,O5 x.control add,x.kind,x.owner⟩ 0 add = h:=by
 have ht:=(sound_mem hs).tree
 have ht2:=(sound_mem hs2).tree
 have hcx:=node_in ht hx
 have hx2:=setC_mem hx (O5 x.control add)
 have hf : findT (setC h x.id (O5 x.control add)).t x.id = some ⟨x.id,x.parent,x.name,O5 x.control add,x.kind,x.owner⟩:=by
  rw [findT,if_pos ht2]
  exact findN_self ((treeOk_iff _).1 ht2).inc hx2
 have hnow : nowI ⟨x.id,x.parent,x.name,O5 x.control add,x.kind,x.owner⟩ 0 add = x.control:=hcx.or_back ha hd
 have hdr : dropB (setC h x.id (O5 x.control add)).t.nodes x.id add = false:=by
  unfold dropB
  rw [List.any_eq_false]
  intro y hy e
  simp only [bat,decide_eq_true_eq] at e
  obtain ⟨n,hn,rfl⟩:=lmm.1 hy
  obtain ⟨e1,e2⟩:=e
  have e1 : n.parent = x.id:=e1
  have hne : n.id ≠ x.id:=fun e=>by
   have:=inc_same ((treeOk_iff _).1 ht).inc hn hx e
   subst this
   exact no_self ht hn e1
  apply e2
  show N5 (if n.id = x.id then O5 x.control add else n.control) add = 0
  rw [if_neg hne]
  have hn1 : n.id ≠ 1:=fun e=>by
   have h:=(treeOk_iff _).1 ht
   obtain ⟨i,hi⟩:=lgm hn
   rcases h.nodeAt hi with ⟨_,_,e0⟩ | ⟨_,e0,_⟩
   ·have:=h.pos x hx
    omega
   ·omega
  have hsub:=(((soundR_iff h).1 hs).2 n hn).1
  rw [avail_from ht hn] at hsub
  have hup : upC h.t n = x.control:=by
   unfold upC
   rw [if_neg hn1,e1,findN_self ((treeOk_iff _).1 ht).inc hx]
   rfl
  have hnc:=node_in ht hn
  have hfu : A5 (fromV h.t n) x.control = 0:=by
   rw [<- hup]
   unfold fromV
   have hu:=upC_in ht n
   split
   ·obtain ⟨m,hm⟩:=hu.fin
    rw [hm]
    exact (by decide +kernel : ∀ m : Fin 32,A5 (antI .i64 (f5 m) 6) (f5 m) = 0) m
   .exact hu.self
  exact hnc.apart hcx ha (hnc.trans (fromV_in ht n) hcx hsub hfu) hd
 constructor
 ·unfold wrE
  rw [if_pos ⟨hs2,z5.set,ha.set,and0 add⟩,hf]
  simp only [hdr,hnow,ant0,bft,if_false,if_true]
  rw [if_pos (Or.inl (hcx.dom_or ha))]
 ·have:=wrH_setC ht2 hx2 0 add
  rw [this,hnow,setC_twice]
  exact setC_self ht hx
end Go.V
namespace Go.V
theorem wp_state {c : VCode} {s : St} {Q : VExit × St -> Prop} (P : St -> Prop) (hp : P s) (h : ∀ s,P s -> wp (exec V c s) Q) : wp (exec V c s) Q:=h s hp
def keepC_r0 : VCode:=.region ⟨[
      { dst:=.t 71,op:=.move (.v 12) },
      { dst:=.t 72,op:=.move (.t 71) },
      { dst:=.t 73,op:=.fieldAddr 3 (.v 11),guard:=some (.t 72,true) },
      { dst:=.t 74,op:=.load none (.t 73),guard:=some (.t 72,true) },
      { dst:=.t 75,op:=.fieldAddr 3 (.v 6),guard:=some (.t 72,true) },
      { dst:=.t 76,op:=.load none (.t 75),guard:=some (.t 72,true) },
      { dst:=.t 77,op:=.move (.v 8),guard:=some (.t 72,true) },
      { dst:=.t 78,op:=.bin .or (.t 76) (.t 77),guard:=some (.t 72,true) },
      { dst:=.t 79,op:=.bin .eql (.t 74) (.t 78),guard:=some (.t 72,true) },
      { dst:=.t 80,op:=.pick (.t 72) (.t 79) (.c (.bool false)) },
      { dst:=.t 81,op:=.move (.t 80) },
      { dst:=.t 82,op:=.load (some 4) (.v 9),guard:=some (.t 81,true) },
      { dst:=.t 83,op:=.call 20 [.t 82],guard:=some (.t 81,true) },
      { dst:=.t 84,op:=.pick (.t 81) (.t 83) (.c (.bool false)) },
      { dst:=.t 85,op:=.move (.t 84) },
      { dst:=.t 86,op:=.move (.v 14),guard:=some (.t 85,true) },
      { dst:=.t 87,op:=.bin .eql (.t 86) (.c (.int .i64 0)),guard:=some (.t 85,true) },
      { dst:=.t 88,op:=.pick (.t 85) (.t 87) (.c (.bool false)) },
      { dst:=.t 89,op:=.move (.t 88) },
      { dst:=.t 90,op:=.load (some 4) (.v 13),guard:=some (.t 89,true) },
      { dst:=.t 91,op:=.load (some 4) (.v 4),guard:=some (.t 89,true) },
      { dst:=.t 92,op:=.call 17 [.t 90,.t 91],guard:=some (.t 89,true) },
      { dst:=.t 93,op:=.pick (.t 89) (.t 92) (.c (.bool false)) },
      { dst:=.t 94,op:=.move (.t 93) },
      { dst:=.t 95,op:=.call 9 [],guard:=some (.t 94,true) },
      { dst:=.t 96,op:=.pick (.t 94) (.t 95) (.c (.bool false)) },
      { dst:=.v 2,op:=.move (.t 96) }],[68],[]⟩
theorem keepC_eq : vb5 =
    .seq (.region ⟨[
      { dst:=.v 2,op:=.move (.c (.bool false)) }],[],[]⟩) (.seq (.seq (.region ⟨[
      { dst:=.t 15,op:=.move (.v 0) },
      { dst:=.t 16,op:=.call 8 [.t 15] },
      { dst:=.v 17,op:=.not (.t 16) }],[],[]⟩) (.cond (.v 17) (.seq (.region ⟨[
      { dst:=.t 18,op:=.call 9 [] },
      { dst:=.v 2,op:=.move (.t 18) }],[],[]⟩) (.ret)) (.skip))) (.seq (.region ⟨[
      { dst:=.t 19,op:=.move (.v 0) },
      { dst:=.t 20,op:=.call 10 [.t 19] },
      { dst:=.v 3,op:=.move (.t 20) }],[],[]⟩) (.seq (.region ⟨[
      { dst:=.t 21,op:=.move (.v 3) },
      { dst:=.t 22,op:=.call 11 [.t 21,.c (.int .i64 6),.c (.int .i64 6)] },
      { dst:=.v 4,op:=.alloc [.nil 6,.c (.int .i64 0),.nil 4,.c (.int .i64 0)] },
      { dst:=.none,op:=.store 4 (.v 4) (.t 22) }],[],[]⟩) (.seq (.region ⟨[
      { dst:=.t 23,op:=.move (.v 3) },
      { dst:=.t 24,op:=.fieldAddr 0 (.v 4) },
      { dst:=.t 25,op:=.load (some 2) (.t 24) },
      { dst:=.t 26,op:=.call 18 [.t 23,.t 25] },
      { dst:=.v 5,op:=.move (.t 26) }],[],[]⟩) (.seq (.region ⟨[
      { dst:=.t 28,op:=.fieldAddr 0 (.v 4) },
      { dst:=.t 29,op:=.load (some 2) (.t 28) },
      { dst:=.t 30,op:=.move (.v 5) },
      { dst:=.t 31,op:=.call 19 [.t 29,.t 30] },
      { dst:=.t 27,op:=.move (.t 31) },
      { dst:=.t 32,op:=.extract (.t 27) 0 },
      { dst:=.t 33,op:=.extract (.t 27) 1 },
      { dst:=.v 6,op:=.alloc [.c (.int .i64 0),.c (.int .i64 0),.c (.str ⟨#[]⟩),.c (.int .i64 0),.c (.int .i64 0),.c (.int .i64 0)] },
      { dst:=.none,op:=.store 6 (.v 6) (.t 32) },
      { dst:=.v 7,op:=.move (.t 33) }],[],[]⟩) (.seq (.region ⟨[
      { dst:=.t 34,op:=.move (.v 3) },
      { dst:=.t 35,op:=.call 15 [.t 34,.c (.int .i64 32)] },
      { dst:=.t 36,op:=.fieldAddr 3 (.v 6) },
      { dst:=.t 37,op:=.load none (.t 36) },
      { dst:=.t 38,op:=.bin .andNot (.t 35) (.t 37) },
      { dst:=.v 8,op:=.move (.t 38) }],[],[(1,3)]⟩) (.seq (.region ⟨[
      { dst:=.t 40,op:=.load (some 4) (.v 4) },
      { dst:=.t 41,op:=.move (.v 5) },
      { dst:=.t 42,op:=.move (.v 8) },
      { dst:=.t 43,op:=.call 16 [.t 40,.t 41,.t 42,.c (.int .i64 0)] },
      { dst:=.t 39,op:=.move (.t 43) },
      { dst:=.t 44,op:=.extract (.t 39) 0 },
      { dst:=.t 45,op:=.extract (.t 39) 1 },
      { dst:=.v 9,op:=.alloc [.nil 6,.c (.int .i64 0),.nil 4,.c (.int .i64 0)] },
      { dst:=.none,op:=.store 4 (.v 9) (.t 44) },
      { dst:=.v 10,op:=.move (.t 45) }],[],[]⟩) (.seq (.seq (.region ⟨[
      { dst:=.t 46,op:=.move (.v 10) },
      { dst:=.v 47,op:=.bin .neq (.t 46) (.c (.int .i64 0)) }],[43],[]⟩) (.cond (.v 47) (.seq (.region ⟨[
      { dst:=.t 48,op:=.move (.v 7) },
      { dst:=.t 49,op:=.not (.t 48) },
      { dst:=.t 50,op:=.move (.t 49) },
      { dst:=.t 51,op:=.move (.v 10),guard:=some (.t 50,false) },
      { dst:=.t 52,op:=.bin .neq (.t 51) (.c (.int .i64 4)),guard:=some (.t 50,false) },
      { dst:=.t 53,op:=.pick (.t 50) (.c (.bool true)) (.t 52) },
      { dst:=.t 54,op:=.move (.t 53) },
      { dst:=.t 55,op:=.call 9 [],guard:=some (.t 54,true) },
      { dst:=.t 56,op:=.pick (.t 54) (.t 55) (.c (.bool false)) },
      { dst:=.v 2,op:=.move (.t 56) }],[],[]⟩) (.ret)) (.skip))) (.seq (.region ⟨[
      { dst:=.t 58,op:=.fieldAddr 0 (.v 9) },
      { dst:=.t 59,op:=.load (some 2) (.t 58) },
      { dst:=.t 60,op:=.move (.v 5) },
      { dst:=.t 61,op:=.call 19 [.t 59,.t 60] },
      { dst:=.t 57,op:=.move (.t 61) },
      { dst:=.t 62,op:=.extract (.t 57) 0 },
      { dst:=.t 63,op:=.extract (.t 57) 1 },
      { dst:=.v 11,op:=.alloc [.c (.int .i64 0),.c (.int .i64 0),.c (.str ⟨#[]⟩),.c (.int .i64 0),.c (.int .i64 0),.c (.int .i64 0)] },
      { dst:=.none,op:=.store 6 (.v 11) (.t 62) },
      { dst:=.v 12,op:=.move (.t 63) }],[],[]⟩) (.seq (.region ⟨[
      { dst:=.t 65,op:=.load (some 4) (.v 9) },
      { dst:=.t 66,op:=.move (.v 5) },
      { dst:=.t 67,op:=.move (.v 8) },
      { dst:=.t 68,op:=.call 16 [.t 65,.t 66,.c (.int .i64 0),.t 67] },
      { dst:=.t 64,op:=.move (.t 68) },
      { dst:=.t 69,op:=.extract (.t 64) 0 },
      { dst:=.t 70,op:=.extract (.t 64) 1 },
      { dst:=.v 13,op:=.alloc [.nil 6,.c (.int .i64 0),.nil 4,.c (.int .i64 0)] },
      { dst:=.none,op:=.store 4 (.v 13) (.t 69) },
      { dst:=.v 14,op:=.move (.t 70) }],[],[]⟩) (.seq keepC_r0 (.ret)))))))))))):=rfl
set_option maxHeartbeats 16000000 in
theorem controlKeeps_eq (L : List Int) : V 5 [.p (intsP L)] [] = some (.p (.bool true),[]):=by
 refine V_wp (vf:=vf5) rfl ?_
 have hlight:=light_eq (L.map (.int .i64))
 rw [llm] at hlight
 have hsane:=sane7_eq
 by_cases h6 : L.length <= 600
 rotate_left
 ·simp -implicitDefEqProofs (disch:=omega) only [vf5,keepC_eq,hlight,h6,hsane,go_sem,↓reduceIte,rA,rS,rE,rL,reduceCtorEq]
 have hroll:=roll_eq L
 obtain ⟨h,a0,hhy0,hs⟩:=hier_ok L 0 6 6 (by omega) (by omega) (by omega)
 have hhy : V 11 [.ptr (.arg 0 0) 0 0,.p (.int .i64 6),.p (.int .i64 6)] [.box [.p (intsP L),.p (.int .i64 0)]] = some (h.vv,[diceB L a0]):=hhy0
 clear hhy0
 have hL : L.length < 4611686018427387904:=by omega
 have m:=sound_mem hs
 have ht:=(treeOk_iff _).1 m.tree
 obtain ⟨l1,l2,l3,l4⟩:=sound_len hs
 have hl : h.ts.length < 1000000:=by omega
 have hn : h.t.nodes.length < 1000000:=by omega
 have hgr:=group_eq L a0 h.t hL hn
 generalize (groupD L a0 h.t.nodes).1 = g at hgr
 generalize (groupD L a0 h.t.nodes).2 = a1 at hgr
 have h32:=next_eq L a1 32 hL (by omega)
 have n0:=nextV_nonneg L a1 32
 have n1:=nextV_lt L a1 (n:=32) (by omega)
 generalize nextV L a1 32 = nx at h32 n0 n1
 generalize nextA L a1 32 = a2 at h32
 have hnx : In5 nx:=⟨n0,by omega⟩
 have hfi:=rfind_eq h.t g hn
 cases hq : findT h.t g with
 | none =>
  rw [hq] at hfi
  simp only [Option.getD_none,Option.isSome_none,Nd.vv,zeroNd] at hfi
  have ha:=hnx.ant z5
  have hw:=cwrite_eq h g (antI .i64 nx 0) 0 ht.fits (by have:=ha.b; omega) (by omega) hl hn
  have he : wrE h g (antI .i64 nx 0) 0 = 4:=by
   have h0 : andI .i64 (antI .i64 nx 0) 0 = 0:=by
    obtain ⟨c,hc⟩:=ha.fin
    rw [hc]
    exact (by decide +kernel : ∀ m : Fin 32,andI .i64 (f5 m) 0 = 0) c
   unfold wrE
   rw [if_pos ⟨hs,ha.set,z5.set,h0⟩,hq]
  unfold wrO at hw
  rw [he,if_neg (by decide)] at hw
  have n40 : ¬ (4 : Int) = 0:=by decide
  simp -implicitDefEqProofs (disch:=omega) only [vf5,keepC_eq,hlight,h6,hroll,hhy,hgr,hfi,h32,hw,n40,hsane,go_sem,↓reduceIte,rA,rS,rE,rL,reduceCtorEq]
 | some x =>
  rw [hq] at hfi
  simp only [Option.getD_some,Option.isSome_some,Nd.vv] at hfi
  obtain ⟨_,hfn⟩:=findT_N hq
  have hx:=List.mem_of_find?_eq_some hfn
  have hxg : x.id = g:=by simpa using List.find?_some hfn
  have hcx:=node_in m.tree hx
  have ha:=hnx.ant hcx
  have hdis : N5 (antI .i64 nx x.control) x.control = 0:=hcx.ant_and hnx
  have hw:=cwrite_eq h g (antI .i64 nx x.control) 0 ht.fits (by have:=ha.b; omega) (by omega) hl hn
  generalize hadd : antI .i64 nx x.control = add at ha hdis hw
  have hn4:=give_4 hs hx ha
  have hok:=give_ok hs hx ha
  rw [hxg] at hn4 hok
  unfold wrO at hw
  rw [hq,Option.getD_some] at hw
  by_cases he : wrE h g add 0 = 0
  rotate_left
  ·rw [if_neg he] at hw
   generalize wrE h g add 0 = e at hw he hn4
   simp -implicitDefEqProofs (disch:=omega) only [vf5,keepC_eq,hlight,h6,hroll,hhy,hgr,hfi,h32,hadd,hw,he,hn4,hsane,go_sem,↓reduceIte,rA,rS,rE,rL,reduceCtorEq]
  rw [if_pos he,he,give_H hs hx] at hw
  obtain ⟨k1,k2⟩:=hok.1 he
  have hs2:=give_sound hs hx ha k1 (by rw [hxg]; exact k2)
  obtain ⟨b1,b2⟩:=give_back hs hx ha hdis hs2
  have hx2:=setC_mem hx (O5 x.control add)
  have hlen : (setC h x.id (O5 x.control add)).t.nodes.length = h.t.nodes.length:=by unfold setC; simp
  have hts : (setC h x.id (O5 x.control add)).ts = h.ts:=rfl
  generalize setC h x.id (O5 x.control add) = u at hw hs2 b1 b2 hx2 hlen hts
  have mu:=sound_mem hs2
  have htu:=(treeOk_iff _).1 mu.tree
  have hlu : u.ts.length < 1000000:=by rw [hts]; exact hl
  have hnu : u.t.nodes.length < 1000000:=by omega
  have hqu : findT u.t g = some ⟨x.id,x.parent,x.name,O5 x.control add,x.kind,x.owner⟩:=by
   rw [findT,if_pos mu.tree,<- hxg]
   exact findN_self htu.inc hx2
  have hfu:=rfind_eq u.t g hnu
  rw [hqu] at hfu
  simp only [Option.getD_some,Option.isSome_some,Nd.vv] at hfu
  have hwu:=cwrite_eq u g 0 add htu.fits (by omega) (by have:=ha.b; omega) hlu hnu
  rw [hxg] at b1
  unfold wrO at hwu
  rw [b1,if_pos rfl,hqu,Option.getD_some,b2] at hwu
  have hsu:=rsound_eq u hlu hnu
  rw [hs2] at hsu
  have hsame:=sameH_refl h hl hn
  have ht1 : List.take u.t.nodes.length (u.t.nodes.map Nd.pv) = u.t.nodes.map Nd.pv:=ltl (by simp)
  have ht2 : List.take u.ts.length (u.ts.map Tk.pv) = u.ts.map Tk.pv:=ltl (by simp)
  have ht3 : List.take h.t.nodes.length (h.t.nodes.map Nd.pv) = h.t.nodes.map Nd.pv:=ltl (by simp)
  have ht4 : List.take h.ts.length (h.ts.map Tk.pv) = h.ts.map Tk.pv:=ltl (by simp)
  unfold O5 at hfu
  simp -implicitDefEqProofs (disch:=omega) only [vf5,keepC_eq,hlight,h6,hroll,hhy,hgr,hfi,h32,hadd,hw,ht1,ht2,go_sem,↓reduceIte,rA,rS,rE,rL,reduceCtorEq]
  simp -implicitDefEqProofs (disch:=omega) only [hfu,ht1,ht2,go_sem,↓reduceIte,rA,rS,rE,rL,reduceCtorEq]
  simp -implicitDefEqProofs (disch:=omega) only [hwu,ht3,ht4,go_sem,↓reduceIte,rA,rS,rE,rL,reduceCtorEq]
  refine wp_state (fun s=>s.pe 4 = .ptr (.slot 4 0) 0 0 /\ s.pe 6 = .ptr (.slot 6 0) 0 0 /\ s.pe 8 = .p (.int .i64 add) /\ s.pe 9 = .ptr (.slot 9 0) 0 0 /\ s.pe 11 = .ptr (.slot 11 0) 0 0 /\ s.pe 12 = .p (.bool true) /\ s.pe 13 = .ptr (.slot 13 0) 0 0 /\ s.pe 14 = .p (.int .i64 0) /\
   s.h (.slot 4 0) = some (0,.box [.p (nodesP h.t.nodes),.p (.int .i64 h.t.next),.p (tasksP h.ts),.p (.int .i64 h.next)]) /\ s.h (.slot 9 0) = some (0,.box [.p (nodesP u.t.nodes),.p (.int .i64 u.t.next),.p (tasksP u.ts),.p (.int .i64 u.next)]) /\
   s.h (.slot 6 0) = some (0,.box [.p (.int .i64 x.id),.p (.int .i64 x.parent),.p (.str x.name),.p (.int .i64 x.control),.p (.int .i64 x.kind),.p (.int .i64 x.owner)]) /\
   s.h (.slot 11 0) = some (0,.box [.p (.int .i64 x.id),.p (.int .i64 x.parent),.p (.str x.name),.p (.int .i64 (orI .i64 x.control add)),.p (.int .i64 x.kind),.p (.int .i64 x.owner)]) /\
   ∃ X Y,s.h (.slot 13 0) = some (0,.box [X,.p (.int .i64 h.t.next),Y,.p (.int .i64 h.next)]) /\ fz0 [68] s.h X = .p (nodesP h.t.nodes) /\ fz0 [68] s.h Y = .p (tasksP h.ts)) ?_ ?_
  ·simp -implicitDefEqProofs (disch:=omega) only [go_sem,↓reduceIte,rA,rS,rE,rL,reduceCtorEq]
   refine ⟨_,_,rfl,?_,?_⟩
   .simp -implicitDefEqProofs (disch:=omega) only [ht3,go_sem,↓reduceIte,rA,rS,rE,rL,reduceCtorEq]
   .simp -implicitDefEqProofs (disch:=omega) only [ht4,go_sem,↓reduceIte,rA,rS,rE,rL,reduceCtorEq]
  rintro s ⟨p4,p6,p8,p9,p11,p12,p13,p14,q4,q9,q6,q11,X,Y,q13,qX,qY⟩
  simp -implicitDefEqProofs (disch:=omega) only [keepC_r0,p4,p6,p8,p9,p11,p12,p13,p14,q4,q9,q6,q11,q13,qX,qY,hsu,hsame,hsane,go_sem,↓reduceIte,rA,rS,rE,rL,reduceCtorEq]
end Go.V
namespace Go.V
def lowK (a : Int) (k : Nat) : Int:=N5 a (((2 ^ k - 1 : Nat)) : Int)
abbrev inK (a : Int) (k : Nat) : Prop:=andI .i64 (shrI .i64 a (k : Int)) 1 = 1
abbrev bitK (k : Nat) : Int:=shlI .i64 1 (k : Int)
theorem tabWh : ∀ k : Fin 5,∀ a c : Fin 32,
  (¬ inK (f5 a) k.val -> lowK (f5 a) (k.val + 1) = lowK (f5 a) k.val) /\
  (inK (f5 a) k.val -> O5 (O5 (f5 c) (lowK (f5 a) k.val)) (bitK k.val) = O5 (f5 c) (lowK (f5 a) (k.val + 1)) /\
   (A5 (lowK (f5 a) (k.val + 1)) (f5 c) = 0 ↔ A5 (lowK (f5 a) k.val) (f5 c) = 0 /\ A5 (bitK k.val) (f5 c) = 0) /\
   (A5 (N5 (O5 (f5 c) (lowK (f5 a) (k.val + 1))) 6) (f5 c) = 0 ↔ A5 (N5 (O5 (f5 c) (lowK (f5 a) k.val)) 6) (f5 c) = 0 /\ A5 (N5 (O5 (O5 (f5 c) (lowK (f5 a) k.val)) (bitK k.val)) 6) (O5 (f5 c) (lowK (f5 a) k.val)) = 0)) /\
  (A5 (f5 a) (f5 c) = 0 -> A5 (lowK (f5 a) (k.val + 1)) (f5 c) = 0) /\
  (A5 (N5 (O5 (f5 c) (f5 a)) 6) (f5 c) = 0 -> A5 (N5 (O5 (f5 c) (lowK (f5 a) (k.val + 1))) 6) (f5 c) = 0):=by decide +kernel
theorem tabLo : ∀ a : Fin 32,lowK (f5 a) 0 = 0 /\ lowK (f5 a) 5 = f5 a /\ (∀ k : Fin 6,0 <= lowK (f5 a) k.val /\ lowK (f5 a) k.val <= 31) /\ ∀ k : Fin 5,0 <= bitK k.val /\ bitK k.val <= 31:=by decide +kernel
section
variable {a c F : Int}
theorem low_in (h : In5 a) {k : Nat} (hk : k <= 5) : In5 (lowK a k):=by
 obtain ⟨m,rfl⟩:=h.fin
 have:=(tabLo m).2.2.1 ⟨k,by omega⟩
 exact ⟨this.1,this.2⟩
theorem bit_in {k : Nat} (hk : k < 5) : In5 (bitK k):=by
 have:=(tabLo 0).2.2.2 ⟨k,hk⟩
 exact ⟨this.1,this.2⟩
theorem low_0 (h : In5 a) : lowK a 0 = 0:=by obtain ⟨m,rfl⟩:=h.fin; exact (tabLo m).1
theorem low_5 (h : In5 a) : lowK a 5 = a:=by obtain ⟨m,rfl⟩:=h.fin; exact (tabLo m).2.1
theorem low_not (h : In5 a) {k : Nat} (hk : k < 5) (hi : ¬ inK a k) : lowK a (k + 1) = lowK a k:=by
 obtain ⟨m,rfl⟩:=h.fin
 exact (tabWh ⟨k,hk⟩ m 0).1 hi
theorem low_or (h : In5 a) (hc : In5 c) {k : Nat} (hk : k < 5) (hi : inK a k) : O5 (O5 c (lowK a k)) (bitK k) = O5 c (lowK a (k + 1)):=by
 obtain ⟨m,rfl⟩:=h.fin; obtain ⟨n,rfl⟩:=hc.fin
 exact ((tabWh ⟨k,hk⟩ m n).2.1 hi).1
def GiveP (c F a : Int) (D : Prop) (k : Nat) : Prop:=A5 (lowK a k) F = 0 /\ (A5 (N5 (O5 c (lowK a k)) 6) c = 0 \/ D)
theorem give_step (h : In5 a) (hc : In5 c) (hF : In5 F) (D : Prop) {k : Nat} (hk : k < 5) (hi : inK a k) (hg : GiveP c F a D k) :
  GiveP c F a D (k + 1) ↔ A5 (bitK k) F = 0 /\ (A5 (N5 (O5 (O5 c (lowK a k)) (bitK k)) 6) (O5 c (lowK a k)) = 0 \/ D):=by
 obtain ⟨m,rfl⟩:=h.fin; obtain ⟨n,rfl⟩:=hc.fin; obtain ⟨f,rfl⟩:=hF.fin
 have t1:=((tabWh ⟨k,hk⟩ m f).2.1 hi).2.1
 have t2:=((tabWh ⟨k,hk⟩ m n).2.1 hi).2.2
 obtain ⟨g1,g2⟩:=hg
 unfold GiveP
 simp only at t1 t2
 rw [t1,t2]
 constructor
 ·rintro ⟨⟨_,e⟩,d⟩
  exact ⟨e,d.imp (fun x=>x.2) id⟩
 ·rintro ⟨e,d⟩
  refine ⟨⟨g1,e⟩,?_⟩
  rcases d with d | d
  ·rcases g2 with g2 | g2
   .exact .inl ⟨g2,d⟩
   .exact .inr g2
  .exact .inr d
theorem give_sub (h : In5 a) (hc : In5 c) (hF : In5 F) (D : Prop) {k : Nat} (hk : k < 5) (hg : GiveP c F a D 5) : GiveP c F a D (k + 1):=by
 unfold GiveP at hg ⊢
 rw [low_5 h] at hg
 obtain ⟨m,rfl⟩:=h.fin; obtain ⟨n,rfl⟩:=hc.fin; obtain ⟨f,rfl⟩:=hF.fin
 exact ⟨(tabWh ⟨k,hk⟩ m f).2.2.1 hg.1,hg.2.imp (tabWh ⟨k,hk⟩ m n).2.2.2 id⟩
end
theorem one_more {h : Hy} (hs : soundR h = true) {x : Nd} (hx : x ∈ h.t.nodes) {a : Int} (ha : In5 a) {k : Nat} (hk : k < 5) (hi : inK a k)
  (hg : GiveP x.control (fromV h.t x) a (x.id = 1 \/ ∀ y ∈ h.ts,y.group ≠ x.id) k) :
  soundR (setC h x.id (O5 x.control (lowK a k))) = true /\
  (wrE (setC h x.id (O5 x.control (lowK a k))) x.id (bitK k) 0 = 0 ↔ GiveP x.control (fromV h.t x) a (x.id = 1 \/ ∀ y ∈ h.ts,y.group ≠ x.id) (k + 1)) /\
  (wrE (setC h x.id (O5 x.control (lowK a k))) x.id (bitK k) 0 = 0 -> wrO (setC h x.id (O5 x.control (lowK a k))) x.id (bitK k) 0 = (setC h x.id (O5 x.control (lowK a (k + 1)))).fv):=by
 have ht:=(sound_mem hs).tree
 have hcx:=node_in ht hx
 have hs2:=give_sound hs hx (low_in ha (by omega : k <= 5)) hg.1 hg.2
 have ht2:=(sound_mem hs2).tree
 have hx2:=setC_mem hx (O5 x.control (lowK a k))
 have hok:=give_ok hs2 hx2 (bit_in hk)
 have hH:=give_H hs2 hx2 (bitK k)
 simp only at hok hH
 have hF : fromV (setC h x.id (O5 x.control (lowK a k))).t ⟨x.id,x.parent,x.name,O5 x.control (lowK a k),x.kind,x.owner⟩ = fromV h.t x:=by
  have:=fromV_own ht hx (O5 x.control (lowK a k))
  unfold ctlF at this
  rw [if_pos rfl] at this
  exact this
 rw [hF] at hok
 refine ⟨hs2,hok.trans (give_step ha hcx (fromV_in ht x) _ hk hi hg).symm,fun e=>?_⟩
 have hf : findT (setC h x.id (O5 x.control (lowK a k))).t x.id = some ⟨x.id,x.parent,x.name,O5 x.control (lowK a k),x.kind,x.owner⟩:=by
  rw [findT,if_pos ht2]
  exact findN_self ((treeOk_iff _).1 ht2).inc hx2
 unfold wrO
 rw [if_pos e,hf,Option.getD_some,hH,setC_twice,low_or ha hcx hk hi]
theorem all_once {h : Hy} (hs : soundR h = true) {x : Nd} (hx : x ∈ h.t.nodes) {a : Int} (ha : In5 a) :
  (wrE h x.id a 0 = 0 ↔ GiveP x.control (fromV h.t x) a (x.id = 1 \/ ∀ y ∈ h.ts,y.group ≠ x.id) 5) /\ (wrE h x.id a 0 = 0 -> wrO h x.id a 0 = (setC h x.id (O5 x.control (lowK a 5))).fv):=by
 have ht:=(sound_mem hs).tree
 have hf : findT h.t x.id = some x:=by
  rw [findT,if_pos ht]
  exact findN_self ((treeOk_iff _).1 ht).inc hx
 refine ⟨?_,fun e=>?_⟩
 ·rw [give_ok hs hx ha]
  unfold GiveP
  rw [low_5 ha]
 ·unfold wrO
  rw [if_pos e,hf,Option.getD_some,give_H hs hx,low_5 ha]
theorem give_0 {h : Hy} (hs : soundR h = true) {x : Nd} (hx : x ∈ h.t.nodes) {a : Int} (ha : In5 a) :
  GiveP x.control (fromV h.t x) a (x.id = 1 \/ ∀ y ∈ h.ts,y.group ≠ x.id) 0 /\ setC h x.id (O5 x.control (lowK a 0)) = h:=by
 have ht:=(sound_mem hs).tree
 have hcx:=node_in ht hx
 have hF:=fromV_in ht x
 unfold GiveP
 rw [low_0 ha,hcx.o0]
 refine ⟨⟨?_,.inl hcx.dom1⟩,setC_self ht hx⟩
 obtain ⟨m,hm⟩:=hF.fin
 rw [hm]
 exact (by decide +kernel : ∀ m : Fin 32,A5 0 (f5 m) = 0) m
end Go.V
namespace Go.V
abbrev boxW (u : Hy) : Ob:=.box [.p (nodesP u.t.nodes),.p (.int .i64 u.t.next),.p (tasksP u.ts),.p (.int .i64 u.next)]
def WholeJ (h u7 : Hy) (x : Nd) (ad e : Int) (k : Nat) (s : St) : Prop :=
 GiveP x.control (fromV h.t x) ad (x.id = 1 \/ ∀ y ∈ h.ts,y.group ≠ x.id) k /\ s.pe 5 = .p (.int .i64 x.id) /\ s.pe 6 = .p (.int .i64 ad) /\ s.pe 7 = .ptr (.slot 7 0) 0 0 /\ s.pe 8 = .p (.int .i64 e) /\ s.pe 9 = .ptr (.slot 9 0) 0 0 /\ s.pe 10 = .p (.bool true) /\ s.pe 11 = .p (.int .i64 k) /\
 s.h (.slot 7 0) = some (0,boxW u7) /\ ∃ X Y,s.h (.slot 9 0) = some (0,.box [X,.p (.int .i64 (setC h x.id (O5 x.control (lowK ad k))).t.next),Y,.p (.int .i64 (setC h x.id (O5 x.control (lowK ad k))).next)]) /\
  fz0 [12,60] s.h X = .p (nodesP (setC h x.id (O5 x.control (lowK ad k))).t.nodes) /\ fz0 [12,60] s.h Y = .p (tasksP (setC h x.id (O5 x.control (lowK ad k))).ts)
def WholeE (h u7 : Hy) (x : Nd) (ad e : Int) (r : VExit × St) : Prop :=
 r.1 = .exit 0 /\ ∃ (b : Bool) (u : Hy),(b = true ↔ e = 0) /\ (b = true -> u = u7) /\ r.2.pe 7 = .ptr (.slot 7 0) 0 0 /\ r.2.pe 8 = .p (.int .i64 e) /\ r.2.pe 9 = .ptr (.slot 9 0) 0 0 /\ r.2.pe 10 = .p (.bool b) /\ r.2.h (.slot 7 0) = some (0,boxW u7) /\ r.2.h (.slot 9 0) = some (0,boxW u)
set_option maxHeartbeats 16000000 in
theorem controlWhole_eq (L : List Int) : V 4 [.p (intsP L)] [] = some (.p (.bool true),[]):=by
 refine V_wp (vf:=vf4) rfl ?_
 have hlight:=light_eq (L.map (.int .i64))
 rw [llm] at hlight
 have hsane:=sane7_eq
 by_cases h6 : L.length <= 600
 rotate_left
 ·simp -implicitDefEqProofs (disch:=omega) only [vf4,vb4,hlight,h6,hsane,go_sem,↓reduceIte,rA,rS,rE,rL,reduceCtorEq]
 have hroll:=roll_eq L
 obtain ⟨h,a0,hhy0,hs⟩:=hier_ok L 0 6 6 (by omega) (by omega) (by omega)
 have hhy : V 11 [.ptr (.arg 0 0) 0 0,.p (.int .i64 6),.p (.int .i64 6)] [.box [.p (intsP L),.p (.int .i64 0)]] = some (h.vv,[diceB L a0]):=hhy0
 clear hhy0
 have hL : L.length < 4611686018427387904:=by omega
 have m:=sound_mem hs
 have ht:=(treeOk_iff _).1 m.tree
 obtain ⟨l1,l2,l3,l4⟩:=sound_len hs
 have hl : h.ts.length < 1000000:=by omega
 have hn : h.t.nodes.length < 1000000:=by omega
 have hnx:=next_eq L a0 h.t.nodes.length hL (by omega)
 have q0:=nextV_nonneg L a0 h.t.nodes.length
 have q1:=nextV_lt L a0 (n:=h.t.nodes.length) (by omega)
 generalize nextA L a0 h.t.nodes.length = a1 at hnx
 generalize nextV L a0 h.t.nodes.length = iz at hnx q0 q1
 have hc : h.t.nodes[iz.toNat]? = some (h.t.nodes[iz.toNat]'(by omega)):=lgg (by omega)
 have hx : h.t.nodes[iz.toNat]'(by omega) ∈ h.t.nodes:=lgk _
 generalize h.t.nodes[iz.toNat]'(by omega) = x at hc hx
 have h32:=next_eq L a1 32 hL (by omega)
 have n0:=nextV_nonneg L a1 32
 have n1:=nextV_lt L a1 (n:=32) (by omega)
 generalize nextV L a1 32 = ad at h32 n0 n1
 generalize nextA L a1 32 = a2 at h32
 have had : In5 ad:=⟨n0,by omega⟩
 have hw:=cwrite_eq h x.id ad 0 ht.fits (by omega) (by omega) hl hn
 obtain ⟨u7,hu7,hu0⟩ : ∃ u7 : Hy,wrO h x.id ad 0 = u7.fv /\ (wrE h x.id ad 0 = 0 -> u7 = setC h x.id (O5 x.control (lowK ad 5))):=by
  by_cases e : wrE h x.id ad 0 = 0
  ·exact ⟨_,(all_once hs hx had).2 e,fun _=>rfl⟩
  ·exact ⟨⟨⟨[],0⟩,[],0⟩,by unfold wrO; rw [if_neg e]; rfl,fun e2=>absurd e2 e⟩
 have hall:=(all_once hs hx had).1
 rw [hu7] at hw
 generalize wrE h x.id ad 0 = e at hw hu0 hall
 obtain ⟨g0,hh0⟩:=give_0 hs hx had
 have ht1 : List.take u7.t.nodes.length (u7.t.nodes.map Nd.pv) = u7.t.nodes.map Nd.pv:=ltl (by simp)
 have ht2 : List.take u7.ts.length (u7.ts.map Tk.pv) = u7.ts.map Tk.pv:=ltl (by simp)
 simp -implicitDefEqProofs (disch:=omega) only [vf4,vb4,hlight,h6,hroll,hhy,hnx,q0,hc,h32,hw,ht1,ht2,go_sem,↓reduceIte,rA,rS,rE,rL,reduceCtorEq]
 refine wp_mono (Q:=WholeE h u7 x ad e) (wp_count 5 (WholeJ h u7 x ad e) ?_ ?_) ?_
 ·refine ⟨g0,?_⟩
  rw [hh0]
  simp -implicitDefEqProofs (disch:=omega) only [ht1,ht2,go_sem,↓reduceIte,rA,rS,rE,rL,reduceCtorEq]
  exact ⟨rfl,_,_,rfl,rfl,rfl⟩
 ·rintro k s hk ⟨hg,p5,p6,p7,p8,p9,p10,p11,q7,X,Y,q9,qX,qY⟩
  simp -implicitDefEqProofs (disch:=omega) only [p5,p6,p7,p8,p9,p10,p11,q7,q9,qX,qY,go_sem,↓reduceIte,rA,rS,rE,rL,reduceCtorEq]
  refine wp_if_d (fun hlt=>?_) (fun hge=>?_)
  ·have hk5 : k < 5:=by omega
   have hku : IntKind.u64.wrap (k : Int) = k:=(by decide +kernel : ∀ k : Fin 5,IntKind.u64.wrap ((k.val : Nat) : Int) = ((k.val : Nat) : Int)) ⟨k,hk5⟩
   by_cases hi : inK ad k
   ·obtain ⟨hs2,hok,hO⟩:=one_more hs hx had hk5 hi hg
    have hw2:=cwrite_eq (setC h x.id (O5 x.control (lowK ad k))) x.id (bitK k) 0 ((treeOk_iff _).1 (sound_mem hs2).tree).fits (by have:=(bit_in hk5).b; omega) (by omega) (by unfold setC; simpa using hl) (by unfold setC; simpa using hn)
    by_cases he : wrE (setC h x.id (O5 x.control (lowK ad k))) x.id (bitK k) 0 = 0
    ·rw [hO he,he] at hw2
     have hg2:=hok.1 he
     generalize hu1 : setC h x.id (O5 x.control (lowK ad k)) = u1 at hw2 q9 qX qY
     generalize hu2 : setC h x.id (O5 x.control (lowK ad (k + 1))) = u2 at hw2
     have ht3 : List.take u2.t.nodes.length (u2.t.nodes.map Nd.pv) = u2.t.nodes.map Nd.pv:=ltl (by simp)
     have ht4 : List.take u2.ts.length (u2.ts.map Tk.pv) = u2.ts.map Tk.pv:=ltl (by simp)
     simp -implicitDefEqProofs (disch:=omega) only [p5,p6,p7,p8,p9,p10,p11,q7,q9,qX,qY,hku,hi,hw2,go_sem,↓reduceIte,rA,rS,rE,rL,reduceCtorEq]
     refine ⟨hk5,hg2,?_⟩
     rw [hu2]
     simp -implicitDefEqProofs (disch:=omega) only [p5,p6,p7,p8,p9,p10,p11,q7,q9,qX,qY,go_sem,↓reduceIte,rA,rS,rE,rL,reduceCtorEq]
     refine ⟨rfl,_,_,rfl,?_,?_⟩
     .simp -implicitDefEqProofs (disch:=omega) only [ht3,go_sem,↓reduceIte,rA,rS,rE,rL,reduceCtorEq]
     .simp -implicitDefEqProofs (disch:=omega) only [ht4,go_sem,↓reduceIte,rA,rS,rE,rL,reduceCtorEq]
    ·have hne : ¬ e = 0:=fun e0=>he (hok.2 (give_sub had (node_in m.tree hx) (fromV_in m.tree x) _ hk5 (hall.1 e0)))
     generalize hu1 : setC h x.id (O5 x.control (lowK ad k)) = u1 at hw2 q9 qX qY he
     obtain ⟨u2,hu2⟩ : ∃ u2 : Hy,wrO u1 x.id (bitK k) 0 = u2.fv:=⟨⟨⟨[],0⟩,[],0⟩,by unfold wrO; rw [if_neg he]; rfl⟩
     rw [hu2] at hw2
     generalize wrE u1 x.id (bitK k) 0 = e2 at hw2 he
     simp -implicitDefEqProofs (disch:=omega) only [p5,p6,p7,p8,p9,p10,p11,q7,q9,qX,qY,hku,hi,hw2,he,go_sem,↓reduceIte,rA,rS,rE,rL,reduceCtorEq]
     refine ⟨rfl,false,u1,by simp [hne],(fun e=>by cases e),?_⟩
     simp -implicitDefEqProofs (disch:=omega) only [p5,p6,p7,p8,p9,p10,p11,q7,q9,qX,qY,go_sem,↓reduceIte,rA,rS,rE,rL,reduceCtorEq]
   ·have hlow:=low_not had hk5 hi
    have hg2 : GiveP x.control (fromV h.t x) ad (x.id = 1 \/ ∀ y ∈ h.ts,y.group ≠ x.id) (k + 1):=by
     unfold GiveP at hg ⊢
     rw [hlow]
     exact hg
    generalize hu1 : setC h x.id (O5 x.control (lowK ad k)) = u1 at q9 qX qY
    simp -implicitDefEqProofs (disch:=omega) only [p5,p6,p7,p8,p9,p10,p11,q7,q9,qX,qY,hku,hi,go_sem,↓reduceIte,rA,rS,rE,rL,reduceCtorEq]
    refine ⟨hk5,hg2,?_⟩
    rw [hlow,hu1]
    simp -implicitDefEqProofs (disch:=omega) only [p5,p6,p7,p8,p9,p10,p11,q7,q9,qX,qY,go_sem,↓reduceIte,rA,rS,rE,rL,reduceCtorEq]
    exact ⟨rfl,_,_,rfl,rfl,rfl⟩
  ·have hk5 : k = 5:=by omega
   subst hk5
   simp -implicitDefEqProofs (disch:=omega) only [p5,p6,p7,p8,p9,p10,p11,q7,q9,qX,qY,go_sem,↓reduceIte,rA,rS,rE,rL,reduceCtorEq]
   refine ⟨rfl,true,_,⟨fun _=>hall.2 hg,fun _=>rfl⟩,(fun _=>(hu0 (hall.2 hg)).symm),?_⟩
   simp -implicitDefEqProofs (disch:=omega) only [p5,p6,p7,p8,p9,p10,p11,q7,q9,qX,qY,go_sem,↓reduceIte,rA,rS,rE,rL,reduceCtorEq]
 ·rintro ⟨x0,s⟩ ⟨e0,b,u,hb,hu,p7,p8,p9,p10,q7,q9⟩
  simp only at e0 p7 p8 p9 p10 q7 q9
  subst e0
  cases b with
  | false =>
   have hne : ¬ e = 0:=fun e=>by cases hb.2 e
   simp -implicitDefEqProofs (disch:=omega) only [p7,p8,p9,p10,q7,q9,hne,hsane,go_sem,↓reduceIte,rA,rS,rE,rL,reduceCtorEq]
  | true =>
   have he0 : e = 0:=hb.1 rfl
   have hu8:=hu rfl
   subst hu8
   have hu9:=hu0 he0
   have hsame:=sameH_refl u (by rw [hu9]; unfold setC; simpa using hl) (by rw [hu9]; unfold setC; simpa using hn)
   simp -implicitDefEqProofs (disch:=omega) only [p7,p8,p9,p10,q7,q9,he0,hsame,hsane,go_sem,↓reduceIte,rA,rS,rE,rL,reduceCtorEq]
end Go.V
