/- SwapProtects holds: for every input the call of the law returns true, and each argument reads afterwards as it read before. No conditions. -/
import Derived.Test.YthmbpjnpcjfdiaaGreatRows
import Derived.Test.YthmbpjnpcjfdiaaGreatB16
import Derived.Test.YthmbpjnpcjfdiaaGreatB6
import Derived.Test.YthmbpjnpcjfdiaaGreatB17
import Derived.ProofKit
set_option linter.unusedSimpArgs false
set_option linter.unusedVariables false
namespace Go.Proofs.YthmbpjnpcjfdiaaGreat
open Go.ChangeShapes Go.WideShapes Go.ChangeAt Go.RowKit Go.V
theorem swapProtects_fit : Tryz.f4.params.toList.all (fitB Tryz.prog) = true := by kernel_rfl
theorem swapProtects_u22 : Tryz.prog.underlying 22 = some (.slice 3) := by kernel_rfl
theorem swapProtects_u3 : Tryz.prog.underlying 3 = some (.int .i64) := by kernel_rfl
theorem swapProtects_call : ∀ us : List VVal, us.length = Tryz.f4.params.toList.length → (∀ (i : Nat) (t : TypeId) (u : VVal), Tryz.f4.params.toList[i]? = some t → us[i]? = some u → Fit Tryz.prog t u) → V 4 us [] = some (.p (.bool true), []) := by
 intro us hlen hfit
 rw [Tryz.params4] at hlen hfit
 match us, hlen with
 | [x0, x1], _ =>
  obtain ⟨a0, rfl, w0⟩ := (hfit 0 22 x0 rfl rfl).isInts swapProtects_u22 swapProtects_u3
  obtain ⟨a1, rfl, w1⟩ := (hfit 1 3 x1 rfl rfl).isInt swapProtects_u3
  exact swapProtects_eq a0 a1
set_option maxRecDepth 100000 in
theorem swapProtects_lifted (os : Os) (started : os.Started) (H : Type) (enc : TypeId × Value → H) :
  ReturnsInHanded {} Tryz.checked os 4 .any (Rows.swapProtectsSpec.pre6 enc Tryz.prog Tryz.f4 Rows.swapProtectsRow.domain false) (Rows.swapProtectsSpec.post enc Tryz.prog Tryz.f4 false true false false) := by
 refine returnsInHanded_of_change (C := Tryz.checked) own_try started (by kernel_rfl) Tryz.func4
  (ChangeSpec.witness6 (enc := enc) (C := Tryz.checked) false ⟨#[], #[.slice none 0 0, .int .i64 0], []⟩ 8 (by kernel_rfl) (by kernel_rfl) (by kernel_rfl) (by kernel_rfl)) ?_
 intro W base args ds gs before hval0 hW _ _
 have hval : ∀ (j : Nat) t v, Tryz.f4.params[j]? = some t → args[j]? = some v → Value.okWide Tryz.prog W .any base t v := hval0
 have hW' := hW
 obtain ⟨p, q, hA0, hV, hbe, _, _⟩ := hW
 have hA : DataW.TrodAll enc Tryz.prog W 0 (fun _ => true) true Tryz.f4.params.toList args.toList ds p := hA0
 refine (law_calls V_sound swapProtects_fit (fun j t v ht hv => hval j t v (by simpa using ht) hv) hA swapProtects_call).mono fun e W' ⟨he, hb⟩ => ?_
 subst he
 have hlen := trodAll_len hA
 rw [Tryz.params4] at hlen
 obtain ⟨hgs, _⟩ := trodVars_none hV
 have hfn : ∀ ds : List (DataW H), ds.length = 2 → (Rows.swapProtectsSpec.fn H (ds ++ [])).results = [.lit (.bool true)] ∧ (Rows.swapProtectsSpec.fn H (ds ++ [])).args = ds ∧ (Rows.swapProtectsSpec.fn H (ds ++ [])).vars = [] := by
  intro ds hl
  match ds, hl with
  | [_, _], _ => exact ⟨rfl, rfl, rfl⟩
 obtain ⟨e1, e2, e3⟩ := hfn ds hlen
 exact ⟨_, rfl, law_post laid_try hW' rfl swapProtects_fit hA hV hbe (t := 4) (by kernel_rfl) (by kernel_rfl) (by rw [hgs]; exact e1) (by rw [hgs]; exact e2) (by rw [hgs]; exact e3) hb⟩
theorem swapProtects_k0 : (Rows.swapProtectsRow.wf (OpenSpec.ofChange Rows.swapProtectsSpec)) = true := by kernel_rfl
theorem swapProtects_k1 : (laidOutB Tryz.prog) = true := by kernel_rfl
theorem swapProtects_k2 : (mapsRowed Tryz.prog) = true := by kernel_rfl
theorem swapProtects_k3 : (Tryz.f4.params.all (Tryz.prog.readableRec ·)) = true := by kernel_rfl
theorem swapProtects_k4 : (namedTie Tryz.prog Rows.swapProtectsRow.named Rows.swapProtectsSpec.vars) = true := by kernel_rfl
theorem swapProtects_k5 : ((Rows.swapProtectsRow.stops == [])) = true := by kernel_rfl
theorem swapProtects_k6 : ((Tryz.prog.stops == [])) = true := by kernel_rfl
theorem swapProtects_k7 : ((Rows.swapProtectsRow.knobs == [])) = true := by kernel_rfl
theorem swapProtects_k8 : ((Tryz.prog.stopKnobs == [])) = true := by kernel_rfl
theorem swapProtects_k9 : ((Rows.swapProtectsRow.inPlace == Tryz.prog.inPlace 4)) = true := by kernel_rfl
theorem swapProtects_k10 : ((Rows.swapProtectsRow.unfollowed == Tryz.prog.unfollowed 4)) = true := by kernel_rfl
theorem swapProtects_k11 : ((Rows.swapProtectsRow.recurses == Tryz.prog.recurses 4)) = true := by kernel_rfl
theorem swapProtects_k12 : ((Rows.swapProtectsRow.named == Tryz.prog.varsNamed 4)) = true := by kernel_rfl
theorem swapProtects_k13 : ((Rows.swapProtectsRow.maps == (Tryz.f4.params.toList ++ Rows.swapProtectsSpec.plain.varTypes Tryz.prog).any (Tryz.prog.mapsRec ·))) = true := by kernel_rfl
theorem swapProtects_k14 : ((Rows.swapProtectsRow.ifaces == (Tryz.f4.params.toList ++ Rows.swapProtectsSpec.plain.varTypes Tryz.prog).any (Tryz.prog.ifacesRec ·))) = true := by kernel_rfl
theorem swapProtects_k15 : ((Rows.swapProtectsRow.mapsOut == Tryz.prog.mapsAmong Tryz.f4.resultTypes.toList)) = true := by kernel_rfl
theorem swapProtects_k16 : ((Rows.swapProtectsRow.loops == (Tryz.f4.params.toList ++ Rows.swapProtectsSpec.plain.varTypes Tryz.prog).any (Tryz.prog.loopsFrom ·))) = true := by kernel_rfl
theorem swapProtects_k17 : ((Rows.swapProtectsRow.wideKeys == (Tryz.f4.params.toList ++ Rows.swapProtectsSpec.plain.varTypes Tryz.prog ++ Tryz.f4.resultTypes.toList).any (Tryz.prog.wideKeysFrom ·))) = true := by kernel_rfl
theorem swapProtects_k18 : (Rows.swapProtectsSpec.vars.all (Tryz.prog.varReadable ·)) = true := by kernel_rfl
theorem swapProtects_k19 : (Tryz.f4.resultTypes.all (fun t => Tryz.prog.readableRec t && decide (t < Tryz.prog.types.size))) = true := by kernel_rfl
theorem swapProtects_k20 : ((Rows.swapProtectsRow.ifacesOut == Tryz.f4.resultTypes.toList.any (Tryz.prog.ifacesRec ·))) = true := by kernel_rfl
theorem swapProtects_k21 : ((Rows.swapProtectsRow.loopsOut == Tryz.f4.resultTypes.toList.any (Tryz.prog.loopsFrom ·))) = true := by kernel_rfl
theorem swapProtects_k22 : ((Rows.swapProtectsRow.plainKeys == Tryz.prog.plainKeys)) = true := by kernel_rfl
theorem swapProtects_k23 : (Rows.swapProtectsRow.shortTexts.isNone) = true := by kernel_rfl
theorem swapProtects_k24 : (Tryz.prog.stopsHeard) = true := by kernel_rfl
theorem swapProtects_k25 : (Tryz.prog.mayEnter) = true := by exact try_mayEnter
theorem swapProtects_k26 : ((Rows.swapProtectsRow.lifted == Tryz.prog.liftsFinal)) = true := by rw [try_lifts]; kernel_rfl
theorem swapProtects_k27 : ((Tryz.prog.make == some Rows.swapProtectsRow.make)) = true := by rw [try_make]; kernel_rfl
theorem swapProtects_k28 : ((Rows.swapProtectsRow.kinds == (if Rows.swapProtectsRow.domain.isEmpty then [] else Tryz.f4.params.toList.map fun t => match Tryz.prog.underlying t with | some (.int k) => some k | _ => none))) = true := by kernel_rfl
theorem swapProtects_k29 : ((Rows.swapProtectsRow.pinned == Rows.swapProtectsRow.pinnedBy)) = true := by kernel_rfl
theorem swapProtects_k30 : ((Rows.swapProtectsRow.veiled == (Tryz.f4.params.toList ++ Rows.swapProtectsSpec.plain.varTypes Tryz.prog ++ Tryz.f4.resultTypes.toList).any (Tryz.prog.veiledRec ·))) = true := by kernel_rfl
theorem swapProtects_k31 : (Rows.swapProtectsRow.veiledFits Tryz.prog Tryz.f4.params.toList (Tryz.f4.params.toList ++ Rows.swapProtectsSpec.plain.varTypes Tryz.prog ++ Tryz.f4.resultTypes.toList)) = true := by kernel_rfl
set_option maxRecDepth 100000 in
theorem swapProtects_closed : joinedFacts Tryz.prog 4 Tryz.f4 Rows.swapProtectsSpec Rows.swapProtectsRow = true := by
 unfold joinedFacts
 exact and_mk (and_mk (and_mk (and_mk (and_mk (and_mk (and_mk (and_mk (and_mk (and_mk (and_mk (and_mk (and_mk (and_mk (and_mk (and_mk (and_mk (and_mk (and_mk (and_mk (and_mk (and_mk (and_mk (and_mk (and_mk (and_mk (and_mk (and_mk (and_mk (and_mk (and_mk (swapProtects_k0) swapProtects_k1) swapProtects_k2) swapProtects_k3) swapProtects_k4) swapProtects_k5) swapProtects_k6) swapProtects_k7) swapProtects_k8) swapProtects_k9) swapProtects_k10) swapProtects_k11) swapProtects_k12) swapProtects_k13) swapProtects_k14) swapProtects_k15) swapProtects_k16) swapProtects_k17) swapProtects_k18) swapProtects_k19) swapProtects_k20) swapProtects_k21) swapProtects_k22) swapProtects_k23) swapProtects_k24) swapProtects_k25) swapProtects_k26) swapProtects_k27) swapProtects_k28) swapProtects_k29) swapProtects_k30) swapProtects_k31
theorem swapProtects_holds : Rows.SwapProtectsSaid :=
 OpenClaim.holds_of_wide 4 Tryz.f4 rfl rfl rfl rfl rfl rfl rfl ⟨rfl, rfl, rfl, rfl, rfl⟩ rfl rfl rfl rfl rfl (by kernel_rfl) Tryz.func4 swapProtects_closed
  (of_decide_eq_true (by kernel_rfl)) (by unfold Func.isWrapper; first | (rw [if_pos (by decide +kernel)]; kernel_rfl) | (rw [if_neg (by decide +kernel)]; exact ⟨rfl, rfl⟩))
  (fun os started H enc _ => swapProtects_lifted os started H enc)
end Go.Proofs.YthmbpjnpcjfdiaaGreat
