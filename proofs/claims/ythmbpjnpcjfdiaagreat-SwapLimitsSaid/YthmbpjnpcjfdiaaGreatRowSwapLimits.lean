/- SwapLimits holds: for every input the call of the law returns true, and each argument reads afterwards as it read before. No conditions. -/
import Derived.Test.YthmbpjnpcjfdiaaGreatRows
import Derived.Test.YthmbpjnpcjfdiaaGreatA16
import Derived.Test.YthmbpjnpcjfdiaaGreatA9
import Derived.Test.YthmbpjnpcjfdiaaGreatA17
import Derived.ProofKit
set_option linter.unusedSimpArgs false
set_option linter.unusedVariables false
namespace Go.Proofs.YthmbpjnpcjfdiaaGreat
open Go.ChangeShapes Go.WideShapes Go.ChangeAt Go.RowKit Go.V
theorem swapLimits_fit : Tryz.f6.params.toList.all (fitB Tryz.prog) = true := by kernel_rfl
theorem swapLimits_u22 : Tryz.prog.underlying 22 = some (.slice 3) := by kernel_rfl
theorem swapLimits_u3 : Tryz.prog.underlying 3 = some (.int .i64) := by kernel_rfl
theorem swapLimits_call : ∀ us : List VVal, us.length = Tryz.f6.params.toList.length → (∀ (i : Nat) (t : TypeId) (u : VVal), Tryz.f6.params.toList[i]? = some t → us[i]? = some u → Fit Tryz.prog t u) → V 6 us [] = some (.p (.bool true), []) := by
 intro us hlen hfit
 rw [Tryz.params6] at hlen hfit
 match us, hlen with
 | [x0, x1], _ =>
  obtain ⟨a0, rfl, w0⟩ := (hfit 0 22 x0 rfl rfl).isInts swapLimits_u22 swapLimits_u3
  obtain ⟨a1, rfl, w1⟩ := (hfit 1 3 x1 rfl rfl).isInt swapLimits_u3
  exact swapLimits_eq a0 a1
set_option maxRecDepth 100000 in
theorem swapLimits_lifted (os : Os) (started : os.Started) (H : Type) (enc : TypeId × Value → H) :
  ReturnsInHanded {} Tryz.checked os 6 .any (Rows.swapLimitsSpec.pre6 enc Tryz.prog Tryz.f6 Rows.swapLimitsRow.domain false) (Rows.swapLimitsSpec.post enc Tryz.prog Tryz.f6 false true false false) := by
 refine returnsInHanded_of_change (C := Tryz.checked) own_try started (by kernel_rfl) Tryz.func6
  (ChangeSpec.witness6 (enc := enc) (C := Tryz.checked) false ⟨#[], #[.slice none 0 0, .int .i64 0], []⟩ 8 (by kernel_rfl) (by kernel_rfl) (by kernel_rfl) (by kernel_rfl)) ?_
 intro W base args ds gs before hval0 hW _ _
 have hval : ∀ (j : Nat) t v, Tryz.f6.params[j]? = some t → args[j]? = some v → Value.okWide Tryz.prog W .any base t v := hval0
 have hW' := hW
 obtain ⟨p, q, hA0, hV, hbe, _, _⟩ := hW
 have hA : DataW.TrodAll enc Tryz.prog W 0 (fun _ => true) true Tryz.f6.params.toList args.toList ds p := hA0
 refine (law_calls V_sound swapLimits_fit (fun j t v ht hv => hval j t v (by simpa using ht) hv) hA swapLimits_call).mono fun e W' ⟨he, hb⟩ => ?_
 subst he
 have hlen := trodAll_len hA
 rw [Tryz.params6] at hlen
 obtain ⟨hgs, _⟩ := trodVars_none hV
 have hfn : ∀ ds : List (DataW H), ds.length = 2 → (Rows.swapLimitsSpec.fn H (ds ++ [])).results = [.lit (.bool true)] ∧ (Rows.swapLimitsSpec.fn H (ds ++ [])).args = ds ∧ (Rows.swapLimitsSpec.fn H (ds ++ [])).vars = [] := by
  intro ds hl
  match ds, hl with
  | [_, _], _ => exact ⟨rfl, rfl, rfl⟩
 obtain ⟨e1, e2, e3⟩ := hfn ds hlen
 exact ⟨_, rfl, law_post laid_try hW' rfl swapLimits_fit hA hV hbe (t := 4) (by kernel_rfl) (by kernel_rfl) (by rw [hgs]; exact e1) (by rw [hgs]; exact e2) (by rw [hgs]; exact e3) hb⟩
theorem swapLimits_k0 : (Rows.swapLimitsRow.wf (OpenSpec.ofChange Rows.swapLimitsSpec)) = true := by kernel_rfl
theorem swapLimits_k1 : (laidOutB Tryz.prog) = true := by kernel_rfl
theorem swapLimits_k2 : (mapsRowed Tryz.prog) = true := by kernel_rfl
theorem swapLimits_k3 : (Tryz.f6.params.all (Tryz.prog.readableRec ·)) = true := by kernel_rfl
theorem swapLimits_k4 : (namedTie Tryz.prog Rows.swapLimitsRow.named Rows.swapLimitsSpec.vars) = true := by kernel_rfl
theorem swapLimits_k5 : ((Rows.swapLimitsRow.stops == [])) = true := by kernel_rfl
theorem swapLimits_k6 : ((Tryz.prog.stops == [])) = true := by kernel_rfl
theorem swapLimits_k7 : ((Rows.swapLimitsRow.knobs == [])) = true := by kernel_rfl
theorem swapLimits_k8 : ((Tryz.prog.stopKnobs == [])) = true := by kernel_rfl
theorem swapLimits_k9 : ((Rows.swapLimitsRow.inPlace == Tryz.prog.inPlace 6)) = true := by kernel_rfl
theorem swapLimits_k10 : ((Rows.swapLimitsRow.unfollowed == Tryz.prog.unfollowed 6)) = true := by kernel_rfl
theorem swapLimits_k11 : ((Rows.swapLimitsRow.recurses == Tryz.prog.recurses 6)) = true := by kernel_rfl
theorem swapLimits_k12 : ((Rows.swapLimitsRow.named == Tryz.prog.varsNamed 6)) = true := by kernel_rfl
theorem swapLimits_k13 : ((Rows.swapLimitsRow.maps == (Tryz.f6.params.toList ++ Rows.swapLimitsSpec.plain.varTypes Tryz.prog).any (Tryz.prog.mapsRec ·))) = true := by kernel_rfl
theorem swapLimits_k14 : ((Rows.swapLimitsRow.ifaces == (Tryz.f6.params.toList ++ Rows.swapLimitsSpec.plain.varTypes Tryz.prog).any (Tryz.prog.ifacesRec ·))) = true := by kernel_rfl
theorem swapLimits_k15 : ((Rows.swapLimitsRow.mapsOut == Tryz.prog.mapsAmong Tryz.f6.resultTypes.toList)) = true := by kernel_rfl
theorem swapLimits_k16 : ((Rows.swapLimitsRow.loops == (Tryz.f6.params.toList ++ Rows.swapLimitsSpec.plain.varTypes Tryz.prog).any (Tryz.prog.loopsFrom ·))) = true := by kernel_rfl
theorem swapLimits_k17 : ((Rows.swapLimitsRow.wideKeys == (Tryz.f6.params.toList ++ Rows.swapLimitsSpec.plain.varTypes Tryz.prog ++ Tryz.f6.resultTypes.toList).any (Tryz.prog.wideKeysFrom ·))) = true := by kernel_rfl
theorem swapLimits_k18 : (Rows.swapLimitsSpec.vars.all (Tryz.prog.varReadable ·)) = true := by kernel_rfl
theorem swapLimits_k19 : (Tryz.f6.resultTypes.all (fun t => Tryz.prog.readableRec t && decide (t < Tryz.prog.types.size))) = true := by kernel_rfl
theorem swapLimits_k20 : ((Rows.swapLimitsRow.ifacesOut == Tryz.f6.resultTypes.toList.any (Tryz.prog.ifacesRec ·))) = true := by kernel_rfl
theorem swapLimits_k21 : ((Rows.swapLimitsRow.loopsOut == Tryz.f6.resultTypes.toList.any (Tryz.prog.loopsFrom ·))) = true := by kernel_rfl
theorem swapLimits_k22 : ((Rows.swapLimitsRow.plainKeys == Tryz.prog.plainKeys)) = true := by kernel_rfl
theorem swapLimits_k23 : (Rows.swapLimitsRow.shortTexts.isNone) = true := by kernel_rfl
theorem swapLimits_k24 : (Tryz.prog.stopsHeard) = true := by kernel_rfl
theorem swapLimits_k25 : (Tryz.prog.mayEnter) = true := by exact try_mayEnter
theorem swapLimits_k26 : ((Rows.swapLimitsRow.lifted == Tryz.prog.liftsFinal)) = true := by rw [try_lifts]; kernel_rfl
theorem swapLimits_k27 : ((Tryz.prog.make == some Rows.swapLimitsRow.make)) = true := by rw [try_make]; kernel_rfl
theorem swapLimits_k28 : ((Rows.swapLimitsRow.kinds == (if Rows.swapLimitsRow.domain.isEmpty then [] else Tryz.f6.params.toList.map fun t => match Tryz.prog.underlying t with | some (.int k) => some k | _ => none))) = true := by kernel_rfl
theorem swapLimits_k29 : ((Rows.swapLimitsRow.pinned == Rows.swapLimitsRow.pinnedBy)) = true := by kernel_rfl
theorem swapLimits_k30 : ((Rows.swapLimitsRow.veiled == (Tryz.f6.params.toList ++ Rows.swapLimitsSpec.plain.varTypes Tryz.prog ++ Tryz.f6.resultTypes.toList).any (Tryz.prog.veiledRec ·))) = true := by kernel_rfl
theorem swapLimits_k31 : (Rows.swapLimitsRow.veiledFits Tryz.prog Tryz.f6.params.toList (Tryz.f6.params.toList ++ Rows.swapLimitsSpec.plain.varTypes Tryz.prog ++ Tryz.f6.resultTypes.toList)) = true := by kernel_rfl
set_option maxRecDepth 100000 in
theorem swapLimits_closed : joinedFacts Tryz.prog 6 Tryz.f6 Rows.swapLimitsSpec Rows.swapLimitsRow = true := by
 unfold joinedFacts
 exact and_mk (and_mk (and_mk (and_mk (and_mk (and_mk (and_mk (and_mk (and_mk (and_mk (and_mk (and_mk (and_mk (and_mk (and_mk (and_mk (and_mk (and_mk (and_mk (and_mk (and_mk (and_mk (and_mk (and_mk (and_mk (and_mk (and_mk (and_mk (and_mk (and_mk (and_mk (swapLimits_k0) swapLimits_k1) swapLimits_k2) swapLimits_k3) swapLimits_k4) swapLimits_k5) swapLimits_k6) swapLimits_k7) swapLimits_k8) swapLimits_k9) swapLimits_k10) swapLimits_k11) swapLimits_k12) swapLimits_k13) swapLimits_k14) swapLimits_k15) swapLimits_k16) swapLimits_k17) swapLimits_k18) swapLimits_k19) swapLimits_k20) swapLimits_k21) swapLimits_k22) swapLimits_k23) swapLimits_k24) swapLimits_k25) swapLimits_k26) swapLimits_k27) swapLimits_k28) swapLimits_k29) swapLimits_k30) swapLimits_k31
theorem swapLimits_holds : Rows.SwapLimitsSaid :=
 OpenClaim.holds_of_wide 6 Tryz.f6 rfl rfl rfl rfl rfl rfl rfl ⟨rfl, rfl, rfl, rfl, rfl⟩ rfl rfl rfl rfl rfl (by kernel_rfl) Tryz.func6 swapLimits_closed
  (of_decide_eq_true (by kernel_rfl)) (by unfold Func.isWrapper; first | (rw [if_pos (by decide +kernel)]; kernel_rfl) | (rw [if_neg (by decide +kernel)]; exact ⟨rfl, rfl⟩))
  (fun os started H enc _ => swapLimits_lifted os started H enc)
end Go.Proofs.YthmbpjnpcjfdiaaGreat
