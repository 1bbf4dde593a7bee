/- SwapLeaves holds: for every input the call of the law returns true, and each argument reads afterwards as it read before. No conditions. -/
import Derived.Test.YthmbpjnpcjfdiaaGreatRows
import Derived.Test.YthmbpjnpcjfdiaaGreatA16
import Derived.Test.YthmbpjnpcjfdiaaGreatA6
import Derived.Test.YthmbpjnpcjfdiaaGreatA17
import Derived.ProofKit
set_option linter.unusedSimpArgs false
set_option linter.unusedVariables false
namespace Go.Proofs.YthmbpjnpcjfdiaaGreat
open Go.ChangeShapes Go.WideShapes Go.ChangeAt Go.RowKit Go.V
theorem swapLeaves_fit : Tryz.f8.params.toList.all (fitB Tryz.prog) = true := by kernel_rfl
theorem swapLeaves_u22 : Tryz.prog.underlying 22 = some (.slice 3) := by kernel_rfl
theorem swapLeaves_u3 : Tryz.prog.underlying 3 = some (.int .i64) := by kernel_rfl
theorem swapLeaves_call : ∀ us : List VVal, us.length = Tryz.f8.params.toList.length → (∀ (i : Nat) (t : TypeId) (u : VVal), Tryz.f8.params.toList[i]? = some t → us[i]? = some u → Fit Tryz.prog t u) → V 8 us [] = some (.p (.bool true), []) := by
 intro us hlen hfit
 rw [Tryz.params8] at hlen hfit
 match us, hlen with
 | [x0], _ =>
  obtain ⟨a0, rfl, w0⟩ := (hfit 0 22 x0 rfl rfl).isInts swapLeaves_u22 swapLeaves_u3
  exact swapLeaves_eq a0
set_option maxRecDepth 100000 in
theorem swapLeaves_lifted (os : Os) (started : os.Started) (H : Type) (enc : TypeId × Value → H) :
  ReturnsInHanded {} Tryz.checked os 8 .any (Rows.swapLeavesSpec.pre6 enc Tryz.prog Tryz.f8 Rows.swapLeavesRow.domain false) (Rows.swapLeavesSpec.post enc Tryz.prog Tryz.f8 false true false false) := by
 refine returnsInHanded_of_change (C := Tryz.checked) own_try started (by kernel_rfl) Tryz.func8
  (ChangeSpec.witness6 (enc := enc) (C := Tryz.checked) false ⟨#[], #[.slice none 0 0], []⟩ 8 (by kernel_rfl) (by kernel_rfl) (by kernel_rfl) (by kernel_rfl)) ?_
 intro W base args ds gs before hval0 hW _ _
 have hval : ∀ (j : Nat) t v, Tryz.f8.params[j]? = some t → args[j]? = some v → Value.okWide Tryz.prog W .any base t v := hval0
 have hW' := hW
 obtain ⟨p, q, hA0, hV, hbe, _, _⟩ := hW
 have hA : DataW.TrodAll enc Tryz.prog W 0 (fun _ => true) true Tryz.f8.params.toList args.toList ds p := hA0
 refine (law_calls V_sound swapLeaves_fit (fun j t v ht hv => hval j t v (by simpa using ht) hv) hA swapLeaves_call).mono fun e W' ⟨he, hb⟩ => ?_
 subst he
 have hlen := trodAll_len hA
 rw [Tryz.params8] at hlen
 obtain ⟨hgs, _⟩ := trodVars_none hV
 have hfn : ∀ ds : List (DataW H), ds.length = 1 → (Rows.swapLeavesSpec.fn H (ds ++ [])).results = [.lit (.bool true)] ∧ (Rows.swapLeavesSpec.fn H (ds ++ [])).args = ds ∧ (Rows.swapLeavesSpec.fn H (ds ++ [])).vars = [] := by
  intro ds hl
  match ds, hl with
  | [_], _ => exact ⟨rfl, rfl, rfl⟩
 obtain ⟨e1, e2, e3⟩ := hfn ds hlen
 exact ⟨_, rfl, law_post laid_try hW' rfl swapLeaves_fit hA hV hbe (t := 4) (by kernel_rfl) (by kernel_rfl) (by rw [hgs]; exact e1) (by rw [hgs]; exact e2) (by rw [hgs]; exact e3) hb⟩
theorem swapLeaves_k0 : (Rows.swapLeavesRow.wf (OpenSpec.ofChange Rows.swapLeavesSpec)) = true := by kernel_rfl
theorem swapLeaves_k1 : (laidOutB Tryz.prog) = true := by kernel_rfl
theorem swapLeaves_k2 : (mapsRowed Tryz.prog) = true := by kernel_rfl
theorem swapLeaves_k3 : (Tryz.f8.params.all (Tryz.prog.readableRec ·)) = true := by kernel_rfl
theorem swapLeaves_k4 : (namedTie Tryz.prog Rows.swapLeavesRow.named Rows.swapLeavesSpec.vars) = true := by kernel_rfl
theorem swapLeaves_k5 : ((Rows.swapLeavesRow.stops == [])) = true := by kernel_rfl
theorem swapLeaves_k6 : ((Tryz.prog.stops == [])) = true := by kernel_rfl
theorem swapLeaves_k7 : ((Rows.swapLeavesRow.knobs == [])) = true := by kernel_rfl
theorem swapLeaves_k8 : ((Tryz.prog.stopKnobs == [])) = true := by kernel_rfl
theorem swapLeaves_k9 : ((Rows.swapLeavesRow.inPlace == Tryz.prog.inPlace 8)) = true := by kernel_rfl
theorem swapLeaves_k10 : ((Rows.swapLeavesRow.unfollowed == Tryz.prog.unfollowed 8)) = true := by kernel_rfl
theorem swapLeaves_k11 : ((Rows.swapLeavesRow.recurses == Tryz.prog.recurses 8)) = true := by kernel_rfl
theorem swapLeaves_k12 : ((Rows.swapLeavesRow.named == Tryz.prog.varsNamed 8)) = true := by kernel_rfl
theorem swapLeaves_k13 : ((Rows.swapLeavesRow.maps == (Tryz.f8.params.toList ++ Rows.swapLeavesSpec.plain.varTypes Tryz.prog).any (Tryz.prog.mapsRec ·))) = true := by kernel_rfl
theorem swapLeaves_k14 : ((Rows.swapLeavesRow.ifaces == (Tryz.f8.params.toList ++ Rows.swapLeavesSpec.plain.varTypes Tryz.prog).any (Tryz.prog.ifacesRec ·))) = true := by kernel_rfl
theorem swapLeaves_k15 : ((Rows.swapLeavesRow.mapsOut == Tryz.prog.mapsAmong Tryz.f8.resultTypes.toList)) = true := by kernel_rfl
theorem swapLeaves_k16 : ((Rows.swapLeavesRow.loops == (Tryz.f8.params.toList ++ Rows.swapLeavesSpec.plain.varTypes Tryz.prog).any (Tryz.prog.loopsFrom ·))) = true := by kernel_rfl
theorem swapLeaves_k17 : ((Rows.swapLeavesRow.wideKeys == (Tryz.f8.params.toList ++ Rows.swapLeavesSpec.plain.varTypes Tryz.prog ++ Tryz.f8.resultTypes.toList).any (Tryz.prog.wideKeysFrom ·))) = true := by kernel_rfl
theorem swapLeaves_k18 : (Rows.swapLeavesSpec.vars.all (Tryz.prog.varReadable ·)) = true := by kernel_rfl
theorem swapLeaves_k19 : (Tryz.f8.resultTypes.all (fun t => Tryz.prog.readableRec t && decide (t < Tryz.prog.types.size))) = true := by kernel_rfl
theorem swapLeaves_k20 : ((Rows.swapLeavesRow.ifacesOut == Tryz.f8.resultTypes.toList.any (Tryz.prog.ifacesRec ·))) = true := by kernel_rfl
theorem swapLeaves_k21 : ((Rows.swapLeavesRow.loopsOut == Tryz.f8.resultTypes.toList.any (Tryz.prog.loopsFrom ·))) = true := by kernel_rfl
theorem swapLeaves_k22 : ((Rows.swapLeavesRow.plainKeys == Tryz.prog.plainKeys)) = true := by kernel_rfl
theorem swapLeaves_k23 : (Rows.swapLeavesRow.shortTexts.isNone) = true := by kernel_rfl
theorem swapLeaves_k24 : (Tryz.prog.stopsHeard) = true := by kernel_rfl
theorem swapLeaves_k25 : (Tryz.prog.mayEnter) = true := by exact try_mayEnter
theorem swapLeaves_k26 : ((Rows.swapLeavesRow.lifted == Tryz.prog.liftsFinal)) = true := by rw [try_lifts]; kernel_rfl
theorem swapLeaves_k27 : ((Tryz.prog.make == some Rows.swapLeavesRow.make)) = true := by rw [try_make]; kernel_rfl
theorem swapLeaves_k28 : ((Rows.swapLeavesRow.kinds == (if Rows.swapLeavesRow.domain.isEmpty then [] else Tryz.f8.params.toList.map fun t => match Tryz.prog.underlying t with | some (.int k) => some k | _ => none))) = true := by kernel_rfl
theorem swapLeaves_k29 : ((Rows.swapLeavesRow.pinned == Rows.swapLeavesRow.pinnedBy)) = true := by kernel_rfl
theorem swapLeaves_k30 : ((Rows.swapLeavesRow.veiled == (Tryz.f8.params.toList ++ Rows.swapLeavesSpec.plain.varTypes Tryz.prog ++ Tryz.f8.resultTypes.toList).any (Tryz.prog.veiledRec ·))) = true := by kernel_rfl
theorem swapLeaves_k31 : (Rows.swapLeavesRow.veiledFits Tryz.prog Tryz.f8.params.toList (Tryz.f8.params.toList ++ Rows.swapLeavesSpec.plain.varTypes Tryz.prog ++ Tryz.f8.resultTypes.toList)) = true := by kernel_rfl
set_option maxRecDepth 100000 in
theorem swapLeaves_closed : joinedFacts Tryz.prog 8 Tryz.f8 Rows.swapLeavesSpec Rows.swapLeavesRow = true := by
 unfold joinedFacts
 exact and_mk (and_mk (and_mk (and_mk (and_mk (and_mk (and_mk (and_mk (and_mk (and_mk (and_mk (and_mk (and_mk (and_mk (and_mk (and_mk (and_mk (and_mk (and_mk (and_mk (and_mk (and_mk (and_mk (and_mk (and_mk (and_mk (and_mk (and_mk (and_mk (and_mk (and_mk (swapLeaves_k0) swapLeaves_k1) swapLeaves_k2) swapLeaves_k3) swapLeaves_k4) swapLeaves_k5) swapLeaves_k6) swapLeaves_k7) swapLeaves_k8) swapLeaves_k9) swapLeaves_k10) swapLeaves_k11) swapLeaves_k12) swapLeaves_k13) swapLeaves_k14) swapLeaves_k15) swapLeaves_k16) swapLeaves_k17) swapLeaves_k18) swapLeaves_k19) swapLeaves_k20) swapLeaves_k21) swapLeaves_k22) swapLeaves_k23) swapLeaves_k24) swapLeaves_k25) swapLeaves_k26) swapLeaves_k27) swapLeaves_k28) swapLeaves_k29) swapLeaves_k30) swapLeaves_k31
theorem swapLeaves_holds : Rows.SwapLeavesSaid :=
 OpenClaim.holds_of_wide 8 Tryz.f8 rfl rfl rfl rfl rfl rfl rfl ⟨rfl, rfl, rfl, rfl, rfl⟩ rfl rfl rfl rfl rfl (by kernel_rfl) Tryz.func8 swapLeaves_closed
  (of_decide_eq_true (by kernel_rfl)) (by unfold Func.isWrapper; first | (rw [if_pos (by decide +kernel)]; kernel_rfl) | (rw [if_neg (by decide +kernel)]; exact ⟨rfl, rfl⟩))
  (fun os started H enc _ => swapLeaves_lifted os started H enc)
end Go.Proofs.YthmbpjnpcjfdiaaGreat
