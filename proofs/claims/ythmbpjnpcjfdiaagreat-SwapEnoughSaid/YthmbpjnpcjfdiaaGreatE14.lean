/- Part 14 of what the row stands on: the value machine and its walks. Nothing is assumed. -/
import Derived.Test.YthmbpjnpcjfdiaaGreatE9
import Derived.Test.YthmbpjnpcjfdiaaGreatE12
import Derived.Test.YthmbpjnpcjfdiaaGreatE3
import Derived.Test.YthmbpjnpcjfdiaaGreatE13
import Derived.Test.YthmbpjnpcjfdiaaGreatE2
import Derived.WalkKit
import Derived.Shelf.SlGeneric
set_option linter.unusedSimpArgs false
set_option linter.unusedVariables false
namespace Go.Proofs
open Go.Shelf
def Tryz.laysSort_ren : Go.Shelf.Ren := ⟨fun | 189 => 111 | 125 => 128 | 257 => 127 | 128 => 141 | 129 => 142 | 294 => 132 | 295 => 133 | 296 => 134 | 297 => 135 | 298 => 136 | 299 => 137 | 216 => 138 | 300 => 139 | 301 => 140 | 328 => 151 | 329 => 152 | 330 => 153 | 331 => 154 | 332 => 155 | 215 => 156 | 343 => 160 | n => n, fun | 28 => 22 | 3 => 3 | 46 => 162 | 0 => 0 | 51 => 176 | 53 => 178 | 4 => 4 | 183 => 168 | 182 => 167 | 131 => 173 | 5 => 5 | 9 => 9 | 218 => 184 | 222 => 188 | 228 => 192 | 229 => 193 | n => n, fun | n => n⟩
theorem Tryz.laysSort : Go.Proofs.Lays.n189 Tryz.prog Tryz.laysSort_ren := {
 mixed := by kernel_rfl
 f125 := Tryz.func128.trans (congrArg some (by kernel_rfl))
 f128 := Tryz.func141.trans (congrArg some (by kernel_rfl))
 f129 := Tryz.func142.trans (congrArg some (by kernel_rfl))
 f189 := Tryz.func111.trans (congrArg some (by kernel_rfl))
 f215 := Tryz.func156.trans (congrArg some (by kernel_rfl))
 f216 := Tryz.func138.trans (congrArg some (by kernel_rfl))
 f257 := Tryz.func127.trans (congrArg some (by kernel_rfl))
 f294 := Tryz.func132.trans (congrArg some (by kernel_rfl))
 f295 := Tryz.func133.trans (congrArg some (by kernel_rfl))
 f296 := Tryz.func134.trans (congrArg some (by kernel_rfl))
 f297 := Tryz.func135.trans (congrArg some (by kernel_rfl))
 f298 := Tryz.func136.trans (congrArg some (by kernel_rfl))
 f299 := Tryz.func137.trans (congrArg some (by kernel_rfl))
 f300 := Tryz.func139.trans (congrArg some (by kernel_rfl))
 f301 := Tryz.func140.trans (congrArg some (by kernel_rfl))
 f328 := Tryz.func151.trans (congrArg some (by kernel_rfl))
 f329 := Tryz.func152.trans (congrArg some (by kernel_rfl))
 f330 := Tryz.func153.trans (congrArg some (by kernel_rfl))
 f331 := Tryz.func154.trans (congrArg some (by kernel_rfl))
 f332 := Tryz.func155.trans (congrArg some (by kernel_rfl))
 f343 := Tryz.func160.trans (congrArg some (by kernel_rfl))
 t0 := Tryz.underlying0
 a0 := Tryz.isAgg0
 z0 := Tryz.sizeOf0
 v0 := Tryz.zeroValue0
 t3 := Tryz.underlying3
 a3 := Tryz.isAgg3
 z3 := Tryz.sizeOf3
 v3 := Tryz.zeroValue3
 t4 := Tryz.underlying4
 a4 := Tryz.isAgg4
 z4 := Tryz.sizeOf4
 v4 := Tryz.zeroValue4
 t5 := Tryz.underlying5
 a5 := Tryz.isAgg5
 z5 := Tryz.sizeOf5
 v5 := Tryz.zeroValue5
 t9 := Tryz.underlying9
 a9 := Tryz.isAgg9
 z9 := Tryz.sizeOf9
 v9 := Tryz.zeroValue9
 t28 := Tryz.underlying22
 a28 := Tryz.isAgg22
 z28 := Tryz.sizeOf22
 v28 := Tryz.zeroValue22
 t46 := Tryz.underlying162
 a46 := Tryz.isAgg162
 z46 := Tryz.sizeOf162
 v46 := Tryz.zeroValue162
 t51 := Tryz.underlying176
 a51 := Tryz.isAgg176
 z51 := Tryz.sizeOf176
 v51 := Tryz.zeroValue176
 t53 := Tryz.underlying178
 a53 := Tryz.isAgg178
 z53 := Tryz.sizeOf178
 v53 := Tryz.zeroValue178
 t131 := Tryz.underlying173
 a131 := Tryz.isAgg173
 z131 := Tryz.sizeOf173
 v131 := Tryz.zeroValue173
 t182 := Tryz.underlying167
 a182 := Tryz.isAgg167
 z182 := Tryz.sizeOf167
 v182 := Tryz.zeroValue167
 t183 := Tryz.underlying168
 a183 := Tryz.isAgg168
 z183 := Tryz.sizeOf168
 v183 := Tryz.zeroValue168
 t218 := Tryz.underlying184
 a218 := Tryz.isAgg184
 z218 := Tryz.sizeOf184
 v218 := Tryz.zeroValue184
 t222 := Tryz.underlying188
 a222 := Tryz.isAgg188
 z222 := Tryz.sizeOf188
 v222 := Tryz.zeroValue188
 t228 := Tryz.underlying192
 a228 := Tryz.isAgg192
 z228 := Tryz.sizeOf192
 v228 := Tryz.zeroValue192
 t229 := Tryz.underlying193
 a229 := Tryz.isAgg193
 z229 := Tryz.sizeOf193
 v229 := Tryz.zeroValue193 }
def Tryz.laysSortF_ren : Go.Shelf.Ren := ⟨fun | 6 => 118 | 15 => 128 | 14 => 129 | 28 => 141 | 29 => 142 | 20 => 143 | 21 => 144 | 22 => 145 | 23 => 146 | 24 => 147 | 25 => 148 | 26 => 149 | 27 => 150 | 46 => 157 | 47 => 152 | 48 => 153 | 49 => 158 | 50 => 159 | 57 => 161 | n => n, fun | 22 => 122 | 24 => 127 | 25 => 155 | 3 => 3 | 39 => 162 | 0 => 0 | 53 => 176 | 55 => 178 | 4 => 4 | 46 => 168 | 45 => 167 | 50 => 173 | 5 => 5 | 9 => 9 | 66 => 184 | 70 => 188 | 76 => 192 | 77 => 193 | n => n, fun | n => n⟩
theorem Tryz.laysSortF : Go.Proofs.SlLaysF0.n6 Tryz.prog Tryz.laysSortF_ren := {
 mixed := by kernel_rfl
 f6 := ⟨Tryz.f118.name, by decide, Tryz.func118.trans (congrArg some (by kernel_rfl))⟩
 f14 := ⟨Tryz.f129.name, by decide, Tryz.func129.trans (congrArg some (by kernel_rfl))⟩
 f15 := Tryz.func128.trans (congrArg some (by kernel_rfl))
 f20 := ⟨Tryz.f143.name, by decide, Tryz.func143.trans (congrArg some (by kernel_rfl))⟩
 f21 := ⟨Tryz.f144.name, by decide, Tryz.func144.trans (congrArg some (by kernel_rfl))⟩
 f22 := ⟨Tryz.f145.name, by decide, Tryz.func145.trans (congrArg some (by kernel_rfl))⟩
 f23 := ⟨Tryz.f146.name, by decide, Tryz.func146.trans (congrArg some (by kernel_rfl))⟩
 f24 := ⟨Tryz.f147.name, by decide, Tryz.func147.trans (congrArg some (by kernel_rfl))⟩
 f25 := ⟨Tryz.f148.name, by decide, Tryz.func148.trans (congrArg some (by kernel_rfl))⟩
 f26 := ⟨Tryz.f149.name, by decide, Tryz.func149.trans (congrArg some (by kernel_rfl))⟩
 f27 := ⟨Tryz.f150.name, by decide, Tryz.func150.trans (congrArg some (by kernel_rfl))⟩
 f28 := Tryz.func141.trans (congrArg some (by kernel_rfl))
 f29 := Tryz.func142.trans (congrArg some (by kernel_rfl))
 f46 := ⟨Tryz.f157.name, by decide, Tryz.func157.trans (congrArg some (by kernel_rfl))⟩
 f47 := Tryz.func152.trans (congrArg some (by kernel_rfl))
 f48 := Tryz.func153.trans (congrArg some (by kernel_rfl))
 f49 := ⟨Tryz.f158.name, by decide, Tryz.func158.trans (congrArg some (by kernel_rfl))⟩
 f50 := ⟨Tryz.f159.name, by decide, Tryz.func159.trans (congrArg some (by kernel_rfl))⟩
 f57 := ⟨Tryz.f161.name, by decide, Tryz.func161.trans (congrArg some (by kernel_rfl))⟩
 t0 := Tryz.underlying0
 a0 := Tryz.isAgg0
 z0 := Tryz.sizeOf0
 v0 := Tryz.zeroValue0
 t3 := Tryz.underlying3
 a3 := Tryz.isAgg3
 z3 := Tryz.sizeOf3
 v3 := Tryz.zeroValue3
 t4 := Tryz.underlying4
 a4 := Tryz.isAgg4
 z4 := Tryz.sizeOf4
 v4 := Tryz.zeroValue4
 t5 := Tryz.underlying5
 a5 := Tryz.isAgg5
 z5 := Tryz.sizeOf5
 v5 := Tryz.zeroValue5
 t9 := Tryz.underlying9
 a9 := Tryz.isAgg9
 z9 := Tryz.sizeOf9
 v9 := Tryz.zeroValue9
 t22 := Tryz.underlying122
 a22 := Tryz.isAgg122
 z22 := Tryz.sizeOf122
 v22 := Tryz.zeroValue122
 t25 := Tryz.underlying155
 a25 := Tryz.isAgg155
 z25 := Tryz.sizeOf155
 v25 := Tryz.zeroValue155
 t39 := Tryz.underlying162
 a39 := Tryz.isAgg162
 z39 := Tryz.sizeOf162
 v39 := Tryz.zeroValue162
 t45 := Tryz.underlying167
 a45 := Tryz.isAgg167
 z45 := Tryz.sizeOf167
 v45 := Tryz.zeroValue167
 t46 := Tryz.underlying168
 a46 := Tryz.isAgg168
 z46 := Tryz.sizeOf168
 v46 := Tryz.zeroValue168
 t50 := Tryz.underlying173
 a50 := Tryz.isAgg173
 z50 := Tryz.sizeOf173
 v50 := Tryz.zeroValue173
 t53 := Tryz.underlying176
 a53 := Tryz.isAgg176
 z53 := Tryz.sizeOf176
 v53 := Tryz.zeroValue176
 t55 := Tryz.underlying178
 a55 := Tryz.isAgg178
 z55 := Tryz.sizeOf178
 v55 := Tryz.zeroValue178
 t66 := Tryz.underlying184
 a66 := Tryz.isAgg184
 z66 := Tryz.sizeOf184
 v66 := Tryz.zeroValue184
 t70 := Tryz.underlying188
 a70 := Tryz.isAgg188
 z70 := Tryz.sizeOf188
 v70 := Tryz.zeroValue188
 t76 := Tryz.underlying192
 a76 := Tryz.isAgg192
 z76 := Tryz.sizeOf192
 v76 := Tryz.zeroValue192
 t77 := Tryz.underlying193
 a77 := Tryz.isAgg193
 z77 := Tryz.sizeOf193
 v77 := Tryz.zeroValue193 }
end Go.Proofs
namespace Go.V
open Go.RowKit Go.Sort Go.Proofs Go.Shelf
theorem take_less (x y : Int × Int) (W : World) (hx0 : 0 ≤ x.1) (hx1 : x.1 < 4611686018427387904) (hy0 : 0 ≤ y.1) (hy1 : y.1 < 4611686018427387904) : Calls Tryz.prog 119 #[.agg #[.int .i64 x.1, .int .i64 x.2], .agg #[.int .i64 y.1, .int .i64 y.2]] W fun e w' => e = .returned (.int .i64 (x.1 - y.1)) ∧ ∃ q os', w' = grow (W.drewN q) os' := by
 have hw : IntKind.i64.wrap (x.1 - y.1) = x.1 - y.1 := wrap64 (by omega) (by omega)
 go_enter Tryz.func119, Tryz.ntmps119
 go_wp2
 go_ret
 exact ⟨rfl, 0, _, by rw [alloc_eq_grow, alloc_eq_grow, grow_grow]; rfl⟩
theorem XS_sound : CallsSound Tryz.prog XS := by
 intro f args H res H' h
 unfold XS at h
 by_cases h1 : f = 111
 ·subst h1
  rw [if_pos rfl] at h
  exact ⟨by kernel_rfl, XI_ok Tryz.laysSort h⟩
 ·rw [if_neg h1] at h
  by_cases h2 : f = 118
  ·subst h2
   rw [if_pos rfl] at h
   exact ⟨by kernel_rfl, XP_ok Tryz.laysSortF Tryz.isAgg127 Tryz.sizeOf127 (enters_of Tryz.func119 (by kernel_rfl) rfl) (fun x y W h1 h2 h3 h4 => take_less x y W h1 h2 h3 h4) h⟩
  ·rw [if_neg h2] at h
   cases h
theorem V_sound : CallsSound Tryz.prog V := vcall_sound XS_sound (by kernel_rfl) prog_ok
theorem own_try : ownKnob Tryz.prog.godebug = none := by kernel_rfl
theorem laid_try : laidOutB Tryz.prog = true := by kernel_rfl
theorem trodAll_len {H : Type} {enc : TypeId × Value → H} {P : Program} {w : World} {base : Nat} {sp : Nat → Bool} {hd : Bool} : ∀ {ts : List TypeId} {vs : List Value} {ds : List (DataW H)} {ps : List MemPlace}, DataW.TrodAll enc P w base sp hd ts vs ds ps → ds.length = ts.length
 | [], _, _, _, h => by
  obtain ⟨rfl, rfl, rfl⟩ := ChangeShapes.trodAll_nil h
  rfl
 | _ :: _, _, _, _, h => by
  obtain ⟨v, vs1, d, ds1, a, b, rfl, rfl, rfl, _, h2⟩ := ChangeShapes.trodAll_cons h
  simp [trodAll_len h2]
end Go.V
