/- Part 12 of the proof. -/
import Derived.Test.YtgcipcfojdnlkaaDoorA6
import Derived.Test.YtgcipcfojdnlkaaDoorA9
import Derived.Test.YtgcipcfojdnlkaaDoorA3
import Derived.Test.YtgcipcfojdnlkaaDoorA11
import Derived.WalkKit
import Derived.Shelf.Strings.Shaped
set_option linter.unusedSectionVars false
set_option linter.unusedSimpArgs false
set_option linter.unusedVariables false
namespace Go.Proofs
open Go.Shelf
def Tryd.lays156_ren : Go.Shelf.Ren:=⟨fun | 156=>13 | 165=>17 | 166=>18 | 169=>19 | 240=>22 | 241=>23 | 276=>29 | 277=>30 | n=>n,fun | 31=>28 | 9=>9 | 3=>3 | 4=>4 | 0=>0 | 20=>20 | 72=>45 | 76=>49 | 70=>42 | 37=>43 | 75=>48 | 127=>54 | 164=>61 | 5=>5 | 80=>51 | n=>n,fun | n=>n⟩
theorem Tryd.lays156 : Go.Proofs.Lays.n156 Tryd.prog Tryd.lays156_ren:={
 mixed:=by kernel_rfl
 f156:=Tryd.func13.trans (congrArg some (by kernel_rfl))
 f165:=Tryd.func17.trans (congrArg some (by kernel_rfl))
 f166:=Tryd.func18.trans (congrArg some (by kernel_rfl))
 f169:=Tryd.func19.trans (congrArg some (by kernel_rfl))
 f240:=Tryd.func22.trans (congrArg some (by kernel_rfl))
 f241:=Tryd.func23.trans (congrArg some (by kernel_rfl))
 f276:=Tryd.func29.trans (congrArg some (by kernel_rfl))
 f277:=Tryd.func30.trans (congrArg some (by kernel_rfl))
 t0:=Tryd.underlying0
 a0:=Tryd.isAgg0
 z0:=Tryd.sizeOf0
 v0:=Tryd.zeroValue0
 t3:=Tryd.underlying3
 a3:=Tryd.isAgg3
 z3:=Tryd.sizeOf3
 v3:=Tryd.zeroValue3
 t4:=Tryd.underlying4
 a4:=Tryd.isAgg4
 z4:=Tryd.sizeOf4
 v4:=Tryd.zeroValue4
 t9:=Tryd.underlying9
 a9:=Tryd.isAgg9
 z9:=Tryd.sizeOf9
 v9:=Tryd.zeroValue9
 t20:=Tryd.underlying20
 a20:=Tryd.isAgg20
 z20:=Tryd.sizeOf20
 v20:=Tryd.zeroValue20
 t31:=Tryd.underlying28
 a31:=Tryd.isAgg28
 z31:=Tryd.sizeOf28
 v31:=Tryd.zeroValue28
 t37:=Tryd.underlying43
 a37:=Tryd.isAgg43
 z37:=Tryd.sizeOf43
 v37:=Tryd.zeroValue43
 t70:=Tryd.underlying42
 a70:=Tryd.isAgg42
 z70:=Tryd.sizeOf42
 v70:=Tryd.zeroValue42
 t72:=Tryd.underlying45
 a72:=Tryd.isAgg45
 z72:=Tryd.sizeOf45
 v72:=Tryd.zeroValue45
 t75:=Tryd.underlying48
 a75:=Tryd.isAgg48
 z75:=Tryd.sizeOf48
 v75:=Tryd.zeroValue48
 t76:=Tryd.underlying49
 a76:=Tryd.isAgg49
 z76:=Tryd.sizeOf49
 v76:=Tryd.zeroValue49
 t127:=Tryd.underlying54
 a127:=Tryd.isAgg54
 z127:=Tryd.sizeOf54
 v127:=Tryd.zeroValue54
 t164:=Tryd.underlying61
 a164:=Tryd.isAgg61
 z164:=Tryd.sizeOf61
 v164:=Tryd.zeroValue61 }
theorem Tryd.Builder_Extra_156 : Builder.Extra Tryd.prog Tryd.lays156_ren:={
 sizeBuilder:=by kernel_rfl
 liesBuilder:=by kernel_rfl
 t5:=Tryd.underlying5
 a5:=Tryd.isAgg5
 z5:=Tryd.sizeOf5
 v5:=Tryd.zeroValue5
 infoByte:=by kernel_rfl
 cellsByte:=by kernel_rfl
 sizeByte:=by kernel_rfl
 neB5:=by decide }
def Tryd.lays146_ren : Go.Shelf.Ren:=⟨fun | 146=>14 | 221=>20 | 268=>24 | 138=>25 | 143=>26 | 195=>31 | 197=>32 | 218=>33 | 219=>34 | 260=>35 | 217=>36 | 225=>37 | 224=>38 | 267=>39 | 266=>40 | 314=>41 | n=>n,fun | 9=>9 | 31=>28 | 3=>3 | 4=>4 | 0=>0 | 105=>65 | 21=>21 | 5=>5 | 46=>31 | 119=>70 | 139=>73 | 138=>72 | 146=>74 | 51=>58 | n=>n,fun | 1=>2 | 3=>3 | 4=>4 | n=>n⟩
theorem Tryd.lays146 : Go.Proofs.Lays.n146 Tryd.prog Tryd.lays146_ren:={
 mixed:=by kernel_rfl
 f138:=Tryd.func25.trans (congrArg some (by kernel_rfl))
 f143:=Tryd.func26.trans (congrArg some (by kernel_rfl))
 f146:=Tryd.func14.trans (congrArg some (by kernel_rfl))
 f195:=Tryd.func31.trans (congrArg some (by kernel_rfl))
 f197:=Tryd.func32.trans (congrArg some (by kernel_rfl))
 f217:=Tryd.func36.trans (congrArg some (by kernel_rfl))
 f218:=Tryd.func33.trans (congrArg some (by kernel_rfl))
 f219:=Tryd.func34.trans (congrArg some (by kernel_rfl))
 f221:=Tryd.func20.trans (congrArg some (by kernel_rfl))
 f224:=Tryd.func38.trans (congrArg some (by kernel_rfl))
 f225:=Tryd.func37.trans (congrArg some (by kernel_rfl))
 f260:=Tryd.func35.trans (congrArg some (by kernel_rfl))
 f266:=Tryd.func40.trans (congrArg some (by kernel_rfl))
 f267:=Tryd.func39.trans (congrArg some (by kernel_rfl))
 f268:=Tryd.func24.trans (congrArg some (by kernel_rfl))
 f314:=Tryd.func41.trans (congrArg some (by kernel_rfl))
 t0:=Tryd.underlying0
 a0:=Tryd.isAgg0
 z0:=Tryd.sizeOf0
 v0:=Tryd.zeroValue0
 t3:=Tryd.underlying3
 a3:=Tryd.isAgg3
 z3:=Tryd.sizeOf3
 v3:=Tryd.zeroValue3
 t4:=Tryd.underlying4
 a4:=Tryd.isAgg4
 z4:=Tryd.sizeOf4
 v4:=Tryd.zeroValue4
 t5:=Tryd.underlying5
 a5:=Tryd.isAgg5
 z5:=Tryd.sizeOf5
 v5:=Tryd.zeroValue5
 t9:=Tryd.underlying9
 a9:=Tryd.isAgg9
 z9:=Tryd.sizeOf9
 v9:=Tryd.zeroValue9
 t21:=Tryd.underlying21
 a21:=Tryd.isAgg21
 z21:=Tryd.sizeOf21
 v21:=Tryd.zeroValue21
 t31:=Tryd.underlying28
 a31:=Tryd.isAgg28
 z31:=Tryd.sizeOf28
 v31:=Tryd.zeroValue28
 t46:=Tryd.underlying31
 a46:=Tryd.isAgg31
 z46:=Tryd.sizeOf31
 v46:=Tryd.zeroValue31
 t51:=Tryd.underlying58
 a51:=Tryd.isAgg58
 z51:=Tryd.sizeOf58
 v51:=Tryd.zeroValue58
 t105:=Tryd.underlying65
 a105:=Tryd.isAgg65
 z105:=Tryd.sizeOf65
 v105:=Tryd.zeroValue65
 t119:=Tryd.underlying70
 a119:=Tryd.isAgg70
 z119:=Tryd.sizeOf70
 t138:=Tryd.underlying72
 a138:=Tryd.isAgg72
 z138:=Tryd.sizeOf72
 v138:=Tryd.zeroValue72
 t139:=Tryd.underlying73
 a139:=Tryd.isAgg73
 z139:=Tryd.sizeOf73
 v139:=Tryd.zeroValue73
 t146:=Tryd.underlying74
 a146:=Tryd.isAgg74
 z146:=Tryd.sizeOf74
 v146:=Tryd.zeroValue74
 g1:=by kernel_rfl
 g3:=by kernel_rfl
 g4:=by kernel_rfl }
def Tryd.lays7_27_ren : Go.Shelf.Ren:=⟨fun | 27=>21 | 28=>27 | 29=>28 | n=>n,fun | 25=>31 | 3=>3 | 27=>58 | 22=>60 | 4=>4 | 53=>68 | 0=>0 | 5=>5 | 54=>69 | n=>n,fun | 0=>0 | 1=>1 | n=>n⟩
theorem Tryd.lays7_27 : Go.Proofs.Lays7.n27 Tryd.prog Tryd.lays7_27_ren:={
 mixed:=by kernel_rfl
 f27:=Tryd.func21.trans (congrArg some (by kernel_rfl))
 f28:=Tryd.func27.trans (congrArg some (by kernel_rfl))
 f29:=Tryd.func28.trans (congrArg some (by kernel_rfl))
 t0:=Tryd.underlying0
 a0:=Tryd.isAgg0
 z0:=Tryd.sizeOf0
 v0:=Tryd.zeroValue0
 i0:=by kernel_rfl
 t3:=Tryd.underlying3
 a3:=Tryd.isAgg3
 z3:=Tryd.sizeOf3
 v3:=Tryd.zeroValue3
 i3:=by kernel_rfl
 t4:=Tryd.underlying4
 a4:=Tryd.isAgg4
 z4:=Tryd.sizeOf4
 v4:=Tryd.zeroValue4
 i4:=by kernel_rfl
 t5:=Tryd.underlying5
 a5:=Tryd.isAgg5
 z5:=Tryd.sizeOf5
 v5:=Tryd.zeroValue5
 i5:=by kernel_rfl
 t22:=Tryd.underlying60
 a22:=Tryd.isAgg60
 z22:=Tryd.sizeOf60
 v22:=Tryd.zeroValue60
 i22:=by kernel_rfl
 t25:=Tryd.underlying31
 a25:=Tryd.isAgg31
 z25:=Tryd.sizeOf31
 v25:=Tryd.zeroValue31
 i25:=by kernel_rfl
 t27:=Tryd.underlying58
 a27:=Tryd.isAgg58
 z27:=Tryd.sizeOf58
 v27:=Tryd.zeroValue58
 i27:=by kernel_rfl
 t53:=Tryd.underlying68
 a53:=Tryd.isAgg68
 z53:=Tryd.sizeOf68
 v53:=Tryd.zeroValue68
 i53:=by kernel_rfl
 t54:=Tryd.underlying69
 a54:=Tryd.isAgg69
 z54:=Tryd.sizeOf69
 g0:=by kernel_rfl
 g1:=by kernel_rfl }
end Go.Proofs
namespace Go.V
open Go.RowKit Go.Proofs Go.Shelf
theorem XS_sound [GK] (hM : ∀ w,Keep w -> ∃ m,w.cell? ⟨2,0,none⟩ = some (.int .i64 m)) (hT : ∀ w,Keep w -> TabAt 1 Lib.deBruijn64tab w) : CallsSound Tryd.prog XS:=by
 intro f args H res H' h
 unfold XS at h
 by_cases h1 : f = 14
 ·subst h1
  rw [if_pos rfl] at h
  exact ⟨by kernel_rfl,XSplit_ok Tryd.lays146 (by kernel_rfl) hM h⟩
 ·rw [if_neg h1] at h
  by_cases h2 : f = 13
  ·subst h2
   rw [if_pos rfl] at h
   exact ⟨by kernel_rfl,XJoin_ok Tryd.lays156 Tryd.Builder_Extra_156 h⟩
  ·rw [if_neg h2] at h
   by_cases h3 : f = 21
   ·subst h3
    rw [if_pos rfl] at h
    exact ⟨by kernel_rfl,XTz_ok Tryd.lays7_27 hT h⟩
   ·rw [if_neg h3] at h
    cases h
theorem V_sound [GK] (hM : ∀ w,Keep w -> ∃ m,w.cell? ⟨2,0,none⟩ = some (.int .i64 m)) (hT : ∀ w,Keep w -> TabAt 1 Lib.deBruijn64tab w) : CallsSound Tryd.prog V:=vcall_sound (XS_sound hM hT) (by kernel_rfl) prog_ok
@[reducible] def gkOf (W : World) (n : Nat) : GK:=⟨fun b=>if b < n then W.heap[b]? else none⟩
theorem gkOf_at {W : World} {n : Nat} : ∀ b B,(gkOf W n).K b = some B -> W.heap[b]? = some B:=fun b B h=>by
 change (if b < n then W.heap[b]? else none) = some B at h
 split at h
 .exact h
 .cases h
theorem keep_cell {W : World} {n g i : Nat} {v : Value} (hg : g < n) (h : W.cell? ⟨g,i,none⟩ = some v) : ∀ w,@Keep (gkOf W n) w -> w.cell? ⟨g,i,none⟩ = some v:=fun w hk=>by
 have hb : W.heap[g]? ≠ none:=fun e=>by simp [World.cell?,e] at h
 obtain ⟨B,hB⟩:=Option.ne_none_iff_exists'.1 hb
 have:=hk g B (by show (if g < n then W.heap[g]? else none) = some B; rw [if_pos hg]; exact hB)
 rw [<- h]
 exact World.cell?_of_block (by simpa using this.trans hB.symm)
theorem maxLen_int {W : World} (h : W.ShapedOpen Tryd.prog) : ∃ m,W.cell? ⟨2,0,none⟩ = some (.int .i64 m) :=
 Go.Proofs.cell_of_shapedOpen_int (zero:=#[.int .i64 0]) (t:=3) h (of_decide_eq_true (by kernel_rfl)) (by kernel_rfl) rfl (by kernel_rfl) (by kernel_rfl) Tryd.underlying3
theorem own_try : ownKnob Tryd.prog.godebug = none:=by kernel_rfl
theorem laid_try : laidOutB Tryd.prog = true:=by kernel_rfl
theorem trodAll_len {H : Type} {enc : TypeId × Value -> H} {P : Program} {w : World} {base : Nat} {sp : Nat -> Bool} {hd : Bool} : ∀ {ts : List TypeId} {vs : List Value} {ds : List (DataW H)} {ps : List MemPlace},DataW.TrodAll enc P w base sp hd ts vs ds ps -> ds.length = ts.length
 | [],_,_,_,h=>by
  obtain ⟨rfl,rfl,rfl⟩:=ChangeShapes.trodAll_nil h
  rfl
 | _ :: _,_,_,_,h=>by
  obtain ⟨v,vs1,d,ds1,a,b,rfl,rfl,rfl,_,h2⟩:=ChangeShapes.trodAll_cons h
  simp [trodAll_len h2]
end Go.V
