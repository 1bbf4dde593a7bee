/- LimitHolds holds: for every input the call of the law returns true, and each argument reads afterwards as it read before. No conditions. -/
import Derived.Test.YtmfbifkaonehkaaGreatRows
import Derived.Test.YtmfbifkaonehkaaGreatA16
import Derived.Test.YtmfbifkaonehkaaGreatA8
import Derived.Test.YtmfbifkaonehkaaGreatA17
import Derived.ProofKit
set_option linter.unusedSimpArgs false
set_option linter.unusedVariables false
namespace Go.Proofs.YtmfbifkaonehkaaGreat
open Go.ChangeShapes Go.WideShapes Go.ChangeAt Go.RowKit Go.V
theorem limitHolds_fit : Tryz.f5.params.toList.all (fitB Tryz.prog) = true := by kernel_rfl
theorem limitHolds_u22 : Tryz.prog.underlying 22 = some (.slice 3) := by kernel_rfl
theorem limitHolds_u3 : Tryz.prog.underlying 3 = some (.int .i64) := by kernel_rfl
theorem limitHolds_call : ∀ us : List VVal, us.length = Tryz.f5.params.toList.length → (∀ (i : Nat) (t : TypeId) (u : VVal), Tryz.f5.params.toList[i]? = some t → us[i]? = some u → Fit Tryz.prog t u) → V 5 us [] = some (.p (.bool true), []) := by
 intro us hlen hfit
 rw [Tryz.params5] at hlen hfit
 match us, hlen with
 | [x0, x1], _ =>
  obtain ⟨a0, rfl, w0⟩ := (hfit 0 22 x0 rfl rfl).isInts limitHolds_u22 limitHolds_u3
  obtain ⟨a1, rfl, w1⟩ := (hfit 1 3 x1 rfl rfl).isInt limitHolds_u3
  exact limitHolds_eq a0 a1
set_option maxRecDepth 100000 in
theorem limitHolds_lifted (os : Os) (started : os.Started) (H : Type) (enc : TypeId × Value → H) :
  ReturnsInHanded {} Tryz.checked os 5 .any (Rows.limitHoldsSpec.pre6 enc Tryz.prog Tryz.f5 Rows.limitHoldsRow.domain false) (Rows.limitHoldsSpec.post enc Tryz.prog Tryz.f5 false true false false) := by
 refine returnsInHanded_of_change (C := Tryz.checked) own_try started (by kernel_rfl) Tryz.func5
  (ChangeSpec.witness6 (enc := enc) (C := Tryz.checked) false ⟨#[], #[.slice none 0 0, .int .i64 0], []⟩ 8 (by kernel_rfl) (by kernel_rfl) (by kernel_rfl) (by kernel_rfl)) ?_
 intro W base args ds gs before hval0 hW _ _
 have hval : ∀ (j : Nat) t v, Tryz.f5.params[j]? = some t → args[j]? = some v → Value.okWide Tryz.prog W .any base t v := hval0
 have hW' := hW
 obtain ⟨p, q, hA0, hV, hbe, _, _⟩ := hW
 have hA : DataW.TrodAll enc Tryz.prog W 0 (fun _ => true) true Tryz.f5.params.toList args.toList ds p := hA0
 refine (law_calls V_sound limitHolds_fit (fun j t v ht hv => hval j t v (by simpa using ht) hv) hA limitHolds_call).mono fun e W' ⟨he, hb⟩ => ?_
 subst he
 have hlen := trodAll_len hA
 rw [Tryz.params5] at hlen
 obtain ⟨hgs, _⟩ := trodVars_none hV
 have hfn : ∀ ds : List (DataW H), ds.length = 2 → (Rows.limitHoldsSpec.fn H (ds ++ [])).results = [.lit (.bool true)] ∧ (Rows.limitHoldsSpec.fn H (ds ++ [])).args = ds ∧ (Rows.limitHoldsSpec.fn H (ds ++ [])).vars = [] := by
  intro ds hl
  match ds, hl with
  | [_, _], _ => exact ⟨rfl, rfl, rfl⟩
 obtain ⟨e1, e2, e3⟩ := hfn ds hlen
 exact ⟨_, rfl, law_post laid_try hW' rfl limitHolds_fit hA hV hbe (t := 4) (by kernel_rfl) (by kernel_rfl) (by rw [hgs]; exact e1) (by rw [hgs]; exact e2) (by rw [hgs]; exact e3) hb⟩
theorem limitHolds_k0 : (Rows.limitHoldsRow.wf (OpenSpec.ofChange Rows.limitHoldsSpec)) = true := by kernel_rfl
theorem limitHolds_k1 : (laidOutB Tryz.prog) = true := by kernel_rfl
theorem limitHolds_k2 : (mapsRowed Tryz.prog) = true := by kernel_rfl
theorem limitHolds_k3 : (Tryz.f5.params.all (Tryz.prog.readableRec ·)) = true := by kernel_rfl
theorem limitHolds_k4 : (namedTie Tryz.prog Rows.limitHoldsRow.named Rows.limitHoldsSpec.vars) = true := by kernel_rfl
theorem limitHolds_k5 : ((Rows.limitHoldsRow.stops == [])) = true := by kernel_rfl
theorem limitHolds_k6 : ((Tryz.prog.stops == [])) = true := by kernel_rfl
theorem limitHolds_k7 : ((Rows.limitHoldsRow.knobs == [])) = true := by kernel_rfl
theorem limitHolds_k8 : ((Tryz.prog.stopKnobs == [])) = true := by kernel_rfl
theorem limitHolds_k9 : ((Rows.limitHoldsRow.inPlace == Tryz.prog.inPlace 5)) = true := by kernel_rfl
theorem limitHolds_k10 : ((Rows.limitHoldsRow.unfollowed == Tryz.prog.unfollowed 5)) = true := by kernel_rfl
theorem limitHolds_k11 : ((Rows.limitHoldsRow.recurses == Tryz.prog.recurses 5)) = true := by kernel_rfl
theorem limitHolds_k12 : ((Rows.limitHoldsRow.named == Tryz.prog.varsNamed 5)) = true := by kernel_rfl
theorem limitHolds_k13 : ((Rows.limitHoldsRow.maps == (Tryz.f5.params.toList ++ Rows.limitHoldsSpec.plain.varTypes Tryz.prog).any (Tryz.prog.mapsRec ·))) = true := by kernel_rfl
theorem limitHolds_k14 : ((Rows.limitHoldsRow.ifaces == (Tryz.f5.params.toList ++ Rows.limitHoldsSpec.plain.varTypes Tryz.prog).any (Tryz.prog.ifacesRec ·))) = true := by kernel_rfl
theorem limitHolds_k15 : ((Rows.limitHoldsRow.mapsOut == Tryz.prog.mapsAmong Tryz.f5.resultTypes.toList)) = true := by kernel_rfl
theorem limitHolds_k16 : ((Rows.limitHoldsRow.loops == (Tryz.f5.params.toList ++ Rows.limitHoldsSpec.plain.varTypes Tryz.prog).any (Tryz.prog.loopsFrom ·))) = true := by kernel_rfl
theorem limitHolds_k17 : ((Rows.limitHoldsRow.wideKeys == (Tryz.f5.params.toList ++ Rows.limitHoldsSpec.plain.varTypes Tryz.prog ++ Tryz.f5.resultTypes.toList).any (Tryz.prog.wideKeysFrom ·))) = true := by kernel_rfl
theorem limitHolds_k18 : (Rows.limitHoldsSpec.vars.all (Tryz.prog.varReadable ·)) = true := by kernel_rfl
theorem limitHolds_k19 : (Tryz.f5.resultTypes.all (fun t => Tryz.prog.readableRec t && decide (t < Tryz.prog.types.size))) = true := by kernel_rfl
theorem limitHolds_k20 : ((Rows.limitHoldsRow.ifacesOut == Tryz.f5.resultTypes.toList.any (Tryz.prog.ifacesRec ·))) = true := by kernel_rfl
theorem limitHolds_k21 : ((Rows.limitHoldsRow.loopsOut == Tryz.f5.resultTypes.toList.any (Tryz.prog.loopsFrom ·))) = true := by kernel_rfl
theorem limitHolds_k22 : ((Rows.limitHoldsRow.plainKeys == Tryz.prog.plainKeys)) = true := by kernel_rfl
theorem limitHolds_k23 : (Rows.limitHoldsRow.shortTexts.isNone) = true := by kernel_rfl
theorem limitHolds_k24 : (Tryz.prog.stopsHeard) = true := by kernel_rfl
theorem limitHolds_k25 : (Tryz.prog.mayEnter) = true := by exact try_mayEnter
theorem limitHolds_k26 : ((Rows.limitHoldsRow.lifted == Tryz.prog.liftsFinal)) = true := by rw [try_lifts]; kernel_rfl
theorem limitHolds_k27 : ((Tryz.prog.make == some Rows.limitHoldsRow.make)) = true := by rw [try_make]; kernel_rfl
theorem limitHolds_k28 : ((Rows.limitHoldsRow.kinds == (if Rows.limitHoldsRow.domain.isEmpty then [] else Tryz.f5.params.toList.map fun t => match Tryz.prog.underlying t with | some (.int k) => some k | _ => none))) = true := by kernel_rfl
theorem limitHolds_k29 : ((Rows.limitHoldsRow.pinned == Rows.limitHoldsRow.pinnedBy)) = true := by kernel_rfl
theorem limitHolds_k30 : ((Rows.limitHoldsRow.veiled == (Tryz.f5.params.toList ++ Rows.limitHoldsSpec.plain.varTypes Tryz.prog ++ Tryz.f5.resultTypes.toList).any (Tryz.prog.veiledRec ·))) = true := by kernel_rfl
theorem limitHolds_k31 : (Rows.limitHoldsRow.veiledFits Tryz.prog Tryz.f5.params.toList (Tryz.f5.params.toList ++ Rows.limitHoldsSpec.plain.varTypes Tryz.prog ++ Tryz.f5.resultTypes.toList)) = true := by kernel_rfl
set_option maxRecDepth 100000 in
theorem limitHolds_closed : joinedFacts Tryz.prog 5 Tryz.f5 Rows.limitHoldsSpec Rows.limitHoldsRow = true := by
 unfold joinedFacts
 exact and_mk (and_mk (and_mk (and_mk (and_mk (and_mk (and_mk (and_mk (and_mk (and_mk (and_mk (and_mk (and_mk (and_mk (and_mk (and_mk (and_mk (and_mk (and_mk (and_mk (and_mk (and_mk (and_mk (and_mk (and_mk (and_mk (and_mk (and_mk (and_mk (and_mk (and_mk (limitHolds_k0) limitHolds_k1) limitHolds_k2) limitHolds_k3) limitHolds_k4) limitHolds_k5) limitHolds_k6) limitHolds_k7) limitHolds_k8) limitHolds_k9) limitHolds_k10) limitHolds_k11) limitHolds_k12) limitHolds_k13) limitHolds_k14) limitHolds_k15) limitHolds_k16) limitHolds_k17) limitHolds_k18) limitHolds_k19) limitHolds_k20) limitHolds_k21) limitHolds_k22) limitHolds_k23) limitHolds_k24) limitHolds_k25) limitHolds_k26) limitHolds_k27) limitHolds_k28) limitHolds_k29) limitHolds_k30) limitHolds_k31
theorem limitHolds_holds : Rows.LimitHoldsSaid :=
 OpenClaim.holds_of_wide 5 Tryz.f5 rfl rfl rfl rfl rfl rfl rfl ⟨rfl, rfl, rfl, rfl, rfl⟩ rfl rfl rfl rfl rfl (by kernel_rfl) Tryz.func5 limitHolds_closed
  (of_decide_eq_true (by kernel_rfl)) (by unfold Func.isWrapper; first | (rw [if_pos (by decide +kernel)]; kernel_rfl) | (rw [if_neg (by decide +kernel)]; exact ⟨rfl, rfl⟩))
  (fun os started H enc _ => limitHolds_lifted os started H enc)
end Go.Proofs.YtmfbifkaonehkaaGreat
