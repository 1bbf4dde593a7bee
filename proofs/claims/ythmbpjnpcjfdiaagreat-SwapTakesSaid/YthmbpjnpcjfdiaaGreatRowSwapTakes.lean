/- SwapTakes holds: for every input the call of the law returns true, and each argument reads afterwards as it read before. No conditions. -/
import Derived.Test.YthmbpjnpcjfdiaaGreatRows
import Derived.Test.YthmbpjnpcjfdiaaGreatA16
import Derived.Test.YthmbpjnpcjfdiaaGreatA8
import Derived.Test.YthmbpjnpcjfdiaaGreatA17
import Derived.ProofKit
set_option linter.unusedSimpArgs false
set_option linter.unusedVariables false
namespace Go.Proofs.YthmbpjnpcjfdiaaGreat
open Go.ChangeShapes Go.WideShapes Go.ChangeAt Go.RowKit Go.V
theorem swapTakes_fit : Tryz.f5.params.toList.all (fitB Tryz.prog) = true := by kernel_rfl
theorem swapTakes_u22 : Tryz.prog.underlying 22 = some (.slice 3) := by kernel_rfl
theorem swapTakes_u3 : Tryz.prog.underlying 3 = some (.int .i64) := by kernel_rfl
theorem swapTakes_call : ∀ us : List VVal, us.length = Tryz.f5.params.toList.length → (∀ (i : Nat) (t : TypeId) (u : VVal), Tryz.f5.params.toList[i]? = some t → us[i]? = some u → Fit Tryz.prog t u) → V 5 us [] = some (.p (.bool true), []) := by
 intro us hlen hfit
 rw [Tryz.params5] at hlen hfit
 match us, hlen with
 | [x0, x1], _ =>
  obtain ⟨a0, rfl, w0⟩ := (hfit 0 22 x0 rfl rfl).isInts swapTakes_u22 swapTakes_u3
  obtain ⟨a1, rfl, w1⟩ := (hfit 1 3 x1 rfl rfl).isInt swapTakes_u3
  exact swapTakes_eq a0 a1
set_option maxRecDepth 100000 in
theorem swapTakes_lifted (os : Os) (started : os.Started) (H : Type) (enc : TypeId × Value → H) :
  ReturnsInHanded {} Tryz.checked os 5 .any (Rows.swapTakesSpec.pre6 enc Tryz.prog Tryz.f5 Rows.swapTakesRow.domain false) (Rows.swapTakesSpec.post enc Tryz.prog Tryz.f5 false true false false) := by
 refine returnsInHanded_of_change (C := Tryz.checked) own_try started (by kernel_rfl) Tryz.func5
  (ChangeSpec.witness6 (enc := enc) (C := Tryz.checked) false ⟨#[], #[.slice none 0 0, .int .i64 0], []⟩ 8 (by kernel_rfl) (by kernel_rfl) (by kernel_rfl) (by kernel_rfl)) ?_
 intro W base args ds gs before hval0 hW _ _
 have hval : ∀ (j : Nat) t v, Tryz.f5.params[j]? = some t → args[j]? = some v → Value.okWide Tryz.prog W .any base t v := hval0
 have hW' := hW
 obtain ⟨p, q, hA0, hV, hbe, _, _⟩ := hW
 have hA : DataW.TrodAll enc Tryz.prog W 0 (fun _ => true) true Tryz.f5.params.toList args.toList ds p := hA0
 refine (law_calls V_sound swapTakes_fit (fun j t v ht hv => hval j t v (by simpa using ht) hv) hA swapTakes_call).mono fun e W' ⟨he, hb⟩ => ?_
 subst he
 have hlen := trodAll_len hA
 rw [Tryz.params5] at hlen
 obtain ⟨hgs, _⟩ := trodVars_none hV
 have hfn : ∀ ds : List (DataW H), ds.length = 2 → (Rows.swapTakesSpec.fn H (ds ++ [])).results = [.lit (.bool true)] ∧ (Rows.swapTakesSpec.fn H (ds ++ [])).args = ds ∧ (Rows.swapTakesSpec.fn H (ds ++ [])).vars = [] := by
  intro ds hl
  match ds, hl with
  | [_, _], _ => exact ⟨rfl, rfl, rfl⟩
 obtain ⟨e1, e2, e3⟩ := hfn ds hlen
 exact ⟨_, rfl, law_post laid_try hW' rfl swapTakes_fit hA hV hbe (t := 4) (by kernel_rfl) (by kernel_rfl) (by rw [hgs]; exact e1) (by rw [hgs]; exact e2) (by rw [hgs]; exact e3) hb⟩
theorem swapTakes_k0 : (Rows.swapTakesRow.wf (OpenSpec.ofChange Rows.swapTakesSpec)) = true := by kernel_rfl
theorem swapTakes_k1 : (laidOutB Tryz.prog) = true := by kernel_rfl
theorem swapTakes_k2 : (mapsRowed Tryz.prog) = true := by kernel_rfl
theorem swapTakes_k3 : (Tryz.f5.params.all (Tryz.prog.readableRec ·)) = true := by kernel_rfl
theorem swapTakes_k4 : (namedTie Tryz.prog Rows.swapTakesRow.named Rows.swapTakesSpec.vars) = true := by kernel_rfl
theorem swapTakes_k5 : ((Rows.swapTakesRow.stops == [])) = true := by kernel_rfl
theorem swapTakes_k6 : ((Tryz.prog.stops == [])) = true := by kernel_rfl
theorem swapTakes_k7 : ((Rows.swapTakesRow.knobs == [])) = true := by kernel_rfl
theorem swapTakes_k8 : ((Tryz.prog.stopKnobs == [])) = true := by kernel_rfl
theorem swapTakes_k9 : ((Rows.swapTakesRow.inPlace == Tryz.prog.inPlace 5)) = true := by kernel_rfl
theorem swapTakes_k10 : ((Rows.swapTakesRow.unfollowed == Tryz.prog.unfollowed 5)) = true := by kernel_rfl
theorem swapTakes_k11 : ((Rows.swapTakesRow.recurses == Tryz.prog.recurses 5)) = true := by kernel_rfl
theorem swapTakes_k12 : ((Rows.swapTakesRow.named == Tryz.prog.varsNamed 5)) = true := by kernel_rfl
theorem swapTakes_k13 : ((Rows.swapTakesRow.maps == (Tryz.f5.params.toList ++ Rows.swapTakesSpec.plain.varTypes Tryz.prog).any (Tryz.prog.mapsRec ·))) = true := by kernel_rfl
theorem swapTakes_k14 : ((Rows.swapTakesRow.ifaces == (Tryz.f5.params.toList ++ Rows.swapTakesSpec.plain.varTypes Tryz.prog).any (Tryz.prog.ifacesRec ·))) = true := by kernel_rfl
theorem swapTakes_k15 : ((Rows.swapTakesRow.mapsOut == Tryz.prog.mapsAmong Tryz.f5.resultTypes.toList)) = true := by kernel_rfl
theorem swapTakes_k16 : ((Rows.swapTakesRow.loops == (Tryz.f5.params.toList ++ Rows.swapTakesSpec.plain.varTypes Tryz.prog).any (Tryz.prog.loopsFrom ·))) = true := by kernel_rfl
theorem swapTakes_k17 : ((Rows.swapTakesRow.wideKeys == (Tryz.f5.params.toList ++ Rows.swapTakesSpec.plain.varTypes Tryz.prog ++ Tryz.f5.resultTypes.toList).any (Tryz.prog.wideKeysFrom ·))) = true := by kernel_rfl
theorem swapTakes_k18 : (Rows.swapTakesSpec.vars.all (Tryz.prog.varReadable ·)) = true := by kernel_rfl
theorem swapTakes_k19 : (Tryz.f5.resultTypes.all (fun t => Tryz.prog.readableRec t && decide (t < Tryz.prog.types.size))) = true := by kernel_rfl
theorem swapTakes_k20 : ((Rows.swapTakesRow.ifacesOut == Tryz.f5.resultTypes.toList.any (Tryz.prog.ifacesRec ·))) = true := by kernel_rfl
theorem swapTakes_k21 : ((Rows.swapTakesRow.loopsOut == Tryz.f5.resultTypes.toList.any (Tryz.prog.loopsFrom ·))) = true := by kernel_rfl
theorem swapTakes_k22 : ((Rows.swapTakesRow.plainKeys == Tryz.prog.plainKeys)) = true := by kernel_rfl
theorem swapTakes_k23 : (Rows.swapTakesRow.shortTexts.isNone) = true := by kernel_rfl
theorem swapTakes_k24 : (Tryz.prog.stopsHeard) = true := by kernel_rfl
theorem swapTakes_k25 : (Tryz.prog.mayEnter) = true := by exact try_mayEnter
theorem swapTakes_k26 : ((Rows.swapTakesRow.lifted == Tryz.prog.liftsFinal)) = true := by rw [try_lifts]; kernel_rfl
theorem swapTakes_k27 : ((Tryz.prog.make == some Rows.swapTakesRow.make)) = true := by rw [try_make]; kernel_rfl
theorem swapTakes_k28 : ((Rows.swapTakesRow.kinds == (if Rows.swapTakesRow.domain.isEmpty then [] else Tryz.f5.params.toList.map fun t => match Tryz.prog.underlying t with | some (.int k) => some k | _ => none))) = true := by kernel_rfl
theorem swapTakes_k29 : ((Rows.swapTakesRow.pinned == Rows.swapTakesRow.pinnedBy)) = true := by kernel_rfl
theorem swapTakes_k30 : ((Rows.swapTakesRow.veiled == (Tryz.f5.params.toList ++ Rows.swapTakesSpec.plain.varTypes Tryz.prog ++ Tryz.f5.resultTypes.toList).any (Tryz.prog.veiledRec ·))) = true := by kernel_rfl
theorem swapTakes_k31 : (Rows.swapTakesRow.veiledFits Tryz.prog Tryz.f5.params.toList (Tryz.f5.params.toList ++ Rows.swapTakesSpec.plain.varTypes Tryz.prog ++ Tryz.f5.resultTypes.toList)) = true := by kernel_rfl
set_option maxRecDepth 100000 in
theorem swapTakes_closed : joinedFacts Tryz.prog 5 Tryz.f5 Rows.swapTakesSpec Rows.swapTakesRow = true := by
 unfold joinedFacts
 exact and_mk (and_mk (and_mk (and_mk (and_mk (and_mk (and_mk (and_mk (and_mk (and_mk (and_mk (and_mk (and_mk (and_mk (and_mk (and_mk (and_mk (and_mk (and_mk (and_mk (and_mk (and_mk (and_mk (and_mk (and_mk (and_mk (and_mk (and_mk (and_mk (and_mk (and_mk (swapTakes_k0) swapTakes_k1) swapTakes_k2) swapTakes_k3) swapTakes_k4) swapTakes_k5) swapTakes_k6) swapTakes_k7) swapTakes_k8) swapTakes_k9) swapTakes_k10) swapTakes_k11) swapTakes_k12) swapTakes_k13) swapTakes_k14) swapTakes_k15) swapTakes_k16) swapTakes_k17) swapTakes_k18) swapTakes_k19) swapTakes_k20) swapTakes_k21) swapTakes_k22) swapTakes_k23) swapTakes_k24) swapTakes_k25) swapTakes_k26) swapTakes_k27) swapTakes_k28) swapTakes_k29) swapTakes_k30) swapTakes_k31
theorem swapTakes_holds : Rows.SwapTakesSaid :=
 OpenClaim.holds_of_wide 5 Tryz.f5 rfl rfl rfl rfl rfl rfl rfl ⟨rfl, rfl, rfl, rfl, rfl⟩ rfl rfl rfl rfl rfl (by kernel_rfl) Tryz.func5 swapTakes_closed
  (of_decide_eq_true (by kernel_rfl)) (by unfold Func.isWrapper; first | (rw [if_pos (by decide +kernel)]; kernel_rfl) | (rw [if_neg (by decide +kernel)]; exact ⟨rfl, rfl⟩))
  (fun os started H enc _ => swapTakes_lifted os started H enc)
end Go.Proofs.YthmbpjnpcjfdiaaGreat
