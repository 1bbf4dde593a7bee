/- Part 14 of the proof. -/
import Derived.Test.YtddgomjodbmohaaGreatDoorB6
import Derived.Test.YtddgomjodbmohaaGreatDoorB9
import Derived.Test.YtddgomjodbmohaaGreatDoorB3
import Derived.Test.YtddgomjodbmohaaGreatDoorB11
import Derived.Test.YtddgomjodbmohaaGreatDoorB12
import Derived.Test.YtddgomjodbmohaaGreatDoorB13
import Derived.WalkKit
import Derived.Shelf.Strings.Shaped
set_option linter.unusedSectionVars false
set_option linter.unusedSimpArgs false
set_option linter.unusedVariables false
namespace Go.Proofs
open Go.Shelf
def Tryz.lays156_ren : Go.Shelf.Ren:=⟨fun | 156=>82 | 165=>128 | 166=>129 | 169=>130 | 240=>150 | 241=>151 | 276=>179 | 277=>180 | n=>n,fun | 31=>95 | 9=>9 | 3=>3 | 4=>4 | 0=>0 | 20=>20 | 72=>138 | 76=>142 | 70=>135 | 37=>136 | 75=>141 | 127=>160 | 164=>181 | 5=>5 | 80=>83 | n=>n,fun | n=>n⟩
theorem Tryz.lays156 : Go.Proofs.Lays.n156 Tryz.prog Tryz.lays156_ren:={
 mixed:=by kernel_rfl
 f156:=Tryz.func82.trans (congrArg some (by kernel_rfl))
 f165:=Tryz.func128.trans (congrArg some (by kernel_rfl))
 f166:=Tryz.func129.trans (congrArg some (by kernel_rfl))
 f169:=Tryz.func130.trans (congrArg some (by kernel_rfl))
 f240:=Tryz.func150.trans (congrArg some (by kernel_rfl))
 f241:=Tryz.func151.trans (congrArg some (by kernel_rfl))
 f276:=Tryz.func179.trans (congrArg some (by kernel_rfl))
 f277:=Tryz.func180.trans (congrArg some (by kernel_rfl))
 t0:=Tryz.underlying0
 a0:=Tryz.isAgg0
 z0:=Tryz.sizeOf0
 v0:=Tryz.zeroValue0
 t3:=Tryz.underlying3
 a3:=Tryz.isAgg3
 z3:=Tryz.sizeOf3
 v3:=Tryz.zeroValue3
 t4:=Tryz.underlying4
 a4:=Tryz.isAgg4
 z4:=Tryz.sizeOf4
 v4:=Tryz.zeroValue4
 t9:=Tryz.underlying9
 a9:=Tryz.isAgg9
 z9:=Tryz.sizeOf9
 v9:=Tryz.zeroValue9
 t20:=Tryz.underlying20
 a20:=Tryz.isAgg20
 z20:=Tryz.sizeOf20
 v20:=Tryz.zeroValue20
 t31:=Tryz.underlying95
 a31:=Tryz.isAgg95
 z31:=Tryz.sizeOf95
 v31:=Tryz.zeroValue95
 t37:=Tryz.underlying136
 a37:=Tryz.isAgg136
 z37:=Tryz.sizeOf136
 v37:=Tryz.zeroValue136
 t70:=Tryz.underlying135
 a70:=Tryz.isAgg135
 z70:=Tryz.sizeOf135
 v70:=Tryz.zeroValue135
 t72:=Tryz.underlying138
 a72:=Tryz.isAgg138
 z72:=Tryz.sizeOf138
 v72:=Tryz.zeroValue138
 t75:=Tryz.underlying141
 a75:=Tryz.isAgg141
 z75:=Tryz.sizeOf141
 v75:=Tryz.zeroValue141
 t76:=Tryz.underlying142
 a76:=Tryz.isAgg142
 z76:=Tryz.sizeOf142
 v76:=Tryz.zeroValue142
 t127:=Tryz.underlying160
 a127:=Tryz.isAgg160
 z127:=Tryz.sizeOf160
 v127:=Tryz.zeroValue160
 t164:=Tryz.underlying181
 a164:=Tryz.isAgg181
 z164:=Tryz.sizeOf181
 v164:=Tryz.zeroValue181 }
theorem Tryz.Builder_Extra_156 : Builder.Extra Tryz.prog Tryz.lays156_ren:={
 sizeBuilder:=by kernel_rfl
 liesBuilder:=by kernel_rfl
 t5:=Tryz.underlying5
 a5:=Tryz.isAgg5
 z5:=Tryz.sizeOf5
 v5:=Tryz.zeroValue5
 infoByte:=by kernel_rfl
 cellsByte:=by kernel_rfl
 sizeByte:=by kernel_rfl
 neB5:=by decide }
def Tryz.lays146_ren : Go.Shelf.Ren:=⟨fun | 146=>79 | 221=>126 | 268=>145 | 138=>146 | 143=>147 | 195=>175 | 197=>176 | 218=>177 | 219=>178 | 260=>197 | 217=>198 | 225=>199 | 224=>200 | 267=>201 | 266=>207 | 314=>208 | n=>n,fun | 9=>9 | 31=>95 | 3=>3 | 4=>4 | 0=>0 | 105=>176 | 21=>21 | 5=>5 | 46=>43 | 119=>205 | 139=>208 | 138=>207 | 146=>209 | 51=>157 | n=>n,fun | 1=>2 | 3=>4 | 4=>5 | n=>n⟩
theorem Tryz.lays146 : Go.Proofs.Lays.n146 Tryz.prog Tryz.lays146_ren:={
 mixed:=by kernel_rfl
 f138:=Tryz.func146.trans (congrArg some (by kernel_rfl))
 f143:=Tryz.func147.trans (congrArg some (by kernel_rfl))
 f146:=Tryz.func79.trans (congrArg some (by kernel_rfl))
 f195:=Tryz.func175.trans (congrArg some (by kernel_rfl))
 f197:=Tryz.func176.trans (congrArg some (by kernel_rfl))
 f217:=Tryz.func198.trans (congrArg some (by kernel_rfl))
 f218:=Tryz.func177.trans (congrArg some (by kernel_rfl))
 f219:=Tryz.func178.trans (congrArg some (by kernel_rfl))
 f221:=Tryz.func126.trans (congrArg some (by kernel_rfl))
 f224:=Tryz.func200.trans (congrArg some (by kernel_rfl))
 f225:=Tryz.func199.trans (congrArg some (by kernel_rfl))
 f260:=Tryz.func197.trans (congrArg some (by kernel_rfl))
 f266:=Tryz.func207.trans (congrArg some (by kernel_rfl))
 f267:=Tryz.func201.trans (congrArg some (by kernel_rfl))
 f268:=Tryz.func145.trans (congrArg some (by kernel_rfl))
 f314:=Tryz.func208.trans (congrArg some (by kernel_rfl))
 t0:=Tryz.underlying0
 a0:=Tryz.isAgg0
 z0:=Tryz.sizeOf0
 v0:=Tryz.zeroValue0
 t3:=Tryz.underlying3
 a3:=Tryz.isAgg3
 z3:=Tryz.sizeOf3
 v3:=Tryz.zeroValue3
 t4:=Tryz.underlying4
 a4:=Tryz.isAgg4
 z4:=Tryz.sizeOf4
 v4:=Tryz.zeroValue4
 t5:=Tryz.underlying5
 a5:=Tryz.isAgg5
 z5:=Tryz.sizeOf5
 v5:=Tryz.zeroValue5
 t9:=Tryz.underlying9
 a9:=Tryz.isAgg9
 z9:=Tryz.sizeOf9
 v9:=Tryz.zeroValue9
 t21:=Tryz.underlying21
 a21:=Tryz.isAgg21
 z21:=Tryz.sizeOf21
 v21:=Tryz.zeroValue21
 t31:=Tryz.underlying95
 a31:=Tryz.isAgg95
 z31:=Tryz.sizeOf95
 v31:=Tryz.zeroValue95
 t46:=Tryz.underlying43
 a46:=Tryz.isAgg43
 z46:=Tryz.sizeOf43
 v46:=Tryz.zeroValue43
 t51:=Tryz.underlying157
 a51:=Tryz.isAgg157
 z51:=Tryz.sizeOf157
 v51:=Tryz.zeroValue157
 t105:=Tryz.underlying176
 a105:=Tryz.isAgg176
 z105:=Tryz.sizeOf176
 v105:=Tryz.zeroValue176
 t119:=Tryz.underlying205
 a119:=Tryz.isAgg205
 z119:=Tryz.sizeOf205
 t138:=Tryz.underlying207
 a138:=Tryz.isAgg207
 z138:=Tryz.sizeOf207
 v138:=Tryz.zeroValue207
 t139:=Tryz.underlying208
 a139:=Tryz.isAgg208
 z139:=Tryz.sizeOf208
 v139:=Tryz.zeroValue208
 t146:=Tryz.underlying209
 a146:=Tryz.isAgg209
 z146:=Tryz.sizeOf209
 v146:=Tryz.zeroValue209
 g1:=by kernel_rfl
 g3:=by kernel_rfl
 g4:=by kernel_rfl }
def Tryz.lays7_27_ren : Go.Shelf.Ren:=⟨fun | 27=>127 | 28=>148 | 29=>149 | n=>n,fun | 25=>43 | 3=>3 | 27=>157 | 22=>159 | 4=>4 | 53=>179 | 0=>0 | 5=>5 | 54=>180 | n=>n,fun | 0=>0 | 1=>1 | n=>n⟩
theorem Tryz.lays7_27 : Go.Proofs.Lays7.n27 Tryz.prog Tryz.lays7_27_ren:={
 mixed:=by kernel_rfl
 f27:=Tryz.func127.trans (congrArg some (by kernel_rfl))
 f28:=Tryz.func148.trans (congrArg some (by kernel_rfl))
 f29:=Tryz.func149.trans (congrArg some (by kernel_rfl))
 t0:=Tryz.underlying0
 a0:=Tryz.isAgg0
 z0:=Tryz.sizeOf0
 v0:=Tryz.zeroValue0
 i0:=by kernel_rfl
 t3:=Tryz.underlying3
 a3:=Tryz.isAgg3
 z3:=Tryz.sizeOf3
 v3:=Tryz.zeroValue3
 i3:=by kernel_rfl
 t4:=Tryz.underlying4
 a4:=Tryz.isAgg4
 z4:=Tryz.sizeOf4
 v4:=Tryz.zeroValue4
 i4:=by kernel_rfl
 t5:=Tryz.underlying5
 a5:=Tryz.isAgg5
 z5:=Tryz.sizeOf5
 v5:=Tryz.zeroValue5
 i5:=by kernel_rfl
 t22:=Tryz.underlying159
 a22:=Tryz.isAgg159
 z22:=Tryz.sizeOf159
 v22:=Tryz.zeroValue159
 i22:=by kernel_rfl
 t25:=Tryz.underlying43
 a25:=Tryz.isAgg43
 z25:=Tryz.sizeOf43
 v25:=Tryz.zeroValue43
 i25:=by kernel_rfl
 t27:=Tryz.underlying157
 a27:=Tryz.isAgg157
 z27:=Tryz.sizeOf157
 v27:=Tryz.zeroValue157
 i27:=by kernel_rfl
 t53:=Tryz.underlying179
 a53:=Tryz.isAgg179
 z53:=Tryz.sizeOf179
 v53:=Tryz.zeroValue179
 i53:=by kernel_rfl
 t54:=Tryz.underlying180
 a54:=Tryz.isAgg180
 z54:=Tryz.sizeOf180
 g0:=by kernel_rfl
 g1:=by kernel_rfl }
def Tryz.lays189_ren : Go.Shelf.Ren:=⟨fun | 189=>119 | 125=>141 | 257=>143 | 128=>163 | 129=>164 | 294=>166 | 295=>167 | 296=>168 | 297=>169 | 298=>170 | 299=>171 | 216=>172 | 300=>173 | 301=>174 | 328=>193 | 329=>185 | 330=>186 | 331=>194 | 332=>195 | 215=>196 | 343=>206 | n=>n,fun | 28=>22 | 3=>3 | 46=>43 | 0=>0 | 51=>157 | 53=>159 | 4=>4 | 183=>164 | 182=>163 | 131=>108 | 5=>5 | 9=>9 | 218=>186 | 222=>190 | 228=>198 | 229=>199 | n=>n,fun | n=>n⟩
theorem Tryz.lays189 : Go.Proofs.Lays.n189 Tryz.prog Tryz.lays189_ren:={
 mixed:=by kernel_rfl
 f125:=Tryz.func141.trans (congrArg some (by kernel_rfl))
 f128:=Tryz.func163.trans (congrArg some (by kernel_rfl))
 f129:=Tryz.func164.trans (congrArg some (by kernel_rfl))
 f189:=Tryz.func119.trans (congrArg some (by kernel_rfl))
 f215:=Tryz.func196.trans (congrArg some (by kernel_rfl))
 f216:=Tryz.func172.trans (congrArg some (by kernel_rfl))
 f257:=Tryz.func143.trans (congrArg some (by kernel_rfl))
 f294:=Tryz.func166.trans (congrArg some (by kernel_rfl))
 f295:=Tryz.func167.trans (congrArg some (by kernel_rfl))
 f296:=Tryz.func168.trans (congrArg some (by kernel_rfl))
 f297:=Tryz.func169.trans (congrArg some (by kernel_rfl))
 f298:=Tryz.func170.trans (congrArg some (by kernel_rfl))
 f299:=Tryz.func171.trans (congrArg some (by kernel_rfl))
 f300:=Tryz.func173.trans (congrArg some (by kernel_rfl))
 f301:=Tryz.func174.trans (congrArg some (by kernel_rfl))
 f328:=Tryz.func193.trans (congrArg some (by kernel_rfl))
 f329:=Tryz.func185.trans (congrArg some (by kernel_rfl))
 f330:=Tryz.func186.trans (congrArg some (by kernel_rfl))
 f331:=Tryz.func194.trans (congrArg some (by kernel_rfl))
 f332:=Tryz.func195.trans (congrArg some (by kernel_rfl))
 f343:=Tryz.func206.trans (congrArg some (by kernel_rfl))
 t0:=Tryz.underlying0
 a0:=Tryz.isAgg0
 z0:=Tryz.sizeOf0
 v0:=Tryz.zeroValue0
 t3:=Tryz.underlying3
 a3:=Tryz.isAgg3
 z3:=Tryz.sizeOf3
 v3:=Tryz.zeroValue3
 t4:=Tryz.underlying4
 a4:=Tryz.isAgg4
 z4:=Tryz.sizeOf4
 v4:=Tryz.zeroValue4
 t5:=Tryz.underlying5
 a5:=Tryz.isAgg5
 z5:=Tryz.sizeOf5
 v5:=Tryz.zeroValue5
 t9:=Tryz.underlying9
 a9:=Tryz.isAgg9
 z9:=Tryz.sizeOf9
 v9:=Tryz.zeroValue9
 t28:=Tryz.underlying22
 a28:=Tryz.isAgg22
 z28:=Tryz.sizeOf22
 v28:=Tryz.zeroValue22
 t46:=Tryz.underlying43
 a46:=Tryz.isAgg43
 z46:=Tryz.sizeOf43
 v46:=Tryz.zeroValue43
 t51:=Tryz.underlying157
 a51:=Tryz.isAgg157
 z51:=Tryz.sizeOf157
 v51:=Tryz.zeroValue157
 t53:=Tryz.underlying159
 a53:=Tryz.isAgg159
 z53:=Tryz.sizeOf159
 v53:=Tryz.zeroValue159
 t131:=Tryz.underlying108
 a131:=Tryz.isAgg108
 z131:=Tryz.sizeOf108
 v131:=Tryz.zeroValue108
 t182:=Tryz.underlying163
 a182:=Tryz.isAgg163
 z182:=Tryz.sizeOf163
 v182:=Tryz.zeroValue163
 t183:=Tryz.underlying164
 a183:=Tryz.isAgg164
 z183:=Tryz.sizeOf164
 v183:=Tryz.zeroValue164
 t218:=Tryz.underlying186
 a218:=Tryz.isAgg186
 z218:=Tryz.sizeOf186
 v218:=Tryz.zeroValue186
 t222:=Tryz.underlying190
 a222:=Tryz.isAgg190
 z222:=Tryz.sizeOf190
 v222:=Tryz.zeroValue190
 t228:=Tryz.underlying198
 a228:=Tryz.isAgg198
 z228:=Tryz.sizeOf198
 v228:=Tryz.zeroValue198
 t229:=Tryz.underlying199
 a229:=Tryz.isAgg199
 z229:=Tryz.sizeOf199
 v229:=Tryz.zeroValue199 }
def Tryz.lays2_20_ren : Go.Shelf.Ren:=⟨fun | 20=>120 | n=>n,fun | 22=>22 | 3=>3 | 4=>4 | 0=>0 | n=>n,fun | n=>n⟩
theorem Tryz.lays2_20 : Go.Proofs.Lays2.n20 Tryz.prog Tryz.lays2_20_ren:={
 mixed:=by kernel_rfl
 f20:=Tryz.func120.trans (congrArg some (by kernel_rfl))
 t0:=Tryz.underlying0
 a0:=Tryz.isAgg0
 z0:=Tryz.sizeOf0
 v0:=Tryz.zeroValue0
 t3:=Tryz.underlying3
 a3:=Tryz.isAgg3
 z3:=Tryz.sizeOf3
 v3:=Tryz.zeroValue3
 t4:=Tryz.underlying4
 a4:=Tryz.isAgg4
 z4:=Tryz.sizeOf4
 v4:=Tryz.zeroValue4
 t22:=Tryz.underlying22
 a22:=Tryz.isAgg22
 z22:=Tryz.sizeOf22
 v22:=Tryz.zeroValue22
 i3:=by kernel_rfl }
end Go.Proofs
namespace Go.V
open Go.RowKit Go.Sort Go.Proofs Go.Shelf
theorem XS_sound [GK] (hM : ∀ w,Keep w -> ∃ m,w.cell? ⟨2,0,none⟩ = some (.int .i64 m)) (hT : ∀ w,Keep w -> TabAt 1 Lib.deBruijn64tab w) : CallsSound Tryz.prog XS:=by
 intro f args H res H' h
 unfold XS at h
 by_cases h0 : f = 79
 ·subst h0
  rw [if_pos rfl] at h
  exact ⟨by kernel_rfl,XSplit_ok Tryz.lays146 (by kernel_rfl) hM h⟩
 ·rw [if_neg h0] at h
  by_cases h1 : f = 82
  ·subst h1
   rw [if_pos rfl] at h
   exact ⟨by kernel_rfl,XJoin_ok Tryz.lays156 Tryz.Builder_Extra_156 h⟩
  ·rw [if_neg h1] at h
   by_cases h2 : f = 127
   ·subst h2
    rw [if_pos rfl] at h
    exact ⟨by kernel_rfl,XTz_ok Tryz.lays7_27 hT h⟩
   ·rw [if_neg h2] at h
    by_cases h3 : f = 119
    ·subst h3
     rw [if_pos rfl] at h
     exact ⟨by kernel_rfl,XI_ok Tryz.lays189 h⟩
    ·rw [if_neg h3] at h
     by_cases h4 : f = 120
     ·subst h4
      rw [if_pos rfl] at h
      exact ⟨by kernel_rfl,XC_ok Tryz.lays2_20 h⟩
     ·rw [if_neg h4] at h
      by_cases h5 : f = 107
      ·subst h5
       rw [if_pos rfl] at h
       exact ⟨by kernel_rfl,XCloneN_ok h⟩
      ·rw [if_neg h5] at h
       by_cases h6 : f = 108
       ·subst h6
        rw [if_pos rfl] at h
        exact ⟨by kernel_rfl,XCloneT_ok h⟩
       ·rw [if_neg h6] at h
        cases h
theorem V_sound [GK] (hM : ∀ w,Keep w -> ∃ m,w.cell? ⟨2,0,none⟩ = some (.int .i64 m)) (hT : ∀ w,Keep w -> TabAt 1 Lib.deBruijn64tab w) : CallsSound Tryz.prog V:=vcall_sound (XS_sound hM hT) (by kernel_rfl) prog_ok
@[reducible] def gkOf (W : World) (n : Nat) : GK:=⟨fun b=>if b < n then W.heap[b]? else none⟩
theorem gkOf_at {W : World} {n : Nat} : ∀ b B,(gkOf W n).K b = some B -> W.heap[b]? = some B:=fun b B h=>by
 change (if b < n then W.heap[b]? else none) = some B at h
 split at h
 .exact h
 .cases h
theorem keep_cell {W : World} {n g i : Nat} {v : Value} (hg : g < n) (h : W.cell? ⟨g,i,none⟩ = some v) : ∀ w,@Keep (gkOf W n) w -> w.cell? ⟨g,i,none⟩ = some v:=fun w hk=>by
 have hb : W.heap[g]? ≠ none:=fun e=>by simp [World.cell?,e] at h
 obtain ⟨B,hB⟩:=Option.ne_none_iff_exists'.1 hb
 have:=hk g B (by show (if g < n then W.heap[g]? else none) = some B; rw [if_pos hg]; exact hB)
 rw [<- h]
 exact World.cell?_of_block (by simpa using this.trans hB.symm)
theorem maxLen_int {W : World} (h : W.ShapedOpen Tryz.prog) : ∃ m,W.cell? ⟨2,0,none⟩ = some (.int .i64 m) :=
 Go.Proofs.cell_of_shapedOpen_int (zero:=#[.int .i64 0]) (t:=3) h (of_decide_eq_true (by kernel_rfl)) (by kernel_rfl) rfl (by kernel_rfl) (by kernel_rfl) Tryz.underlying3
theorem own_try : ownKnob Tryz.prog.godebug = none:=by kernel_rfl
theorem laid_try : laidOutB Tryz.prog = true:=by kernel_rfl
theorem trodAll_len {H : Type} {enc : TypeId × Value -> H} {P : Program} {w : World} {base : Nat} {sp : Nat -> Bool} {hd : Bool} : ∀ {ts : List TypeId} {vs : List Value} {ds : List (DataW H)} {ps : List MemPlace},DataW.TrodAll enc P w base sp hd ts vs ds ps -> ds.length = ts.length
 | [],_,_,_,h=>by
  obtain ⟨rfl,rfl,rfl⟩:=ChangeShapes.trodAll_nil h
  rfl
 | _ :: _,_,_,_,h=>by
  obtain ⟨v,vs1,d,ds1,a,b,rfl,rfl,rfl,_,h2⟩:=ChangeShapes.trodAll_cons h
  simp [trodAll_len h2]
end Go.V
