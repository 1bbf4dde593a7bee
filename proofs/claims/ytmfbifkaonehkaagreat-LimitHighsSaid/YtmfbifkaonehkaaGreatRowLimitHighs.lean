/- LimitHighs holds: for every input the call of the law returns true, and each argument reads afterwards as it read before. No conditions. -/
import Derived.Test.YtmfbifkaonehkaaGreatRows
import Derived.Test.YtmfbifkaonehkaaGreatA16
import Derived.Test.YtmfbifkaonehkaaGreatA6
import Derived.Test.YtmfbifkaonehkaaGreatA17
import Derived.ProofKit
set_option linter.unusedSimpArgs false
set_option linter.unusedVariables false
namespace Go.Proofs.YtmfbifkaonehkaaGreat
open Go.ChangeShapes Go.WideShapes Go.ChangeAt Go.RowKit Go.V
theorem limitHighs_fit : Tryz.f3.params.toList.all (fitB Tryz.prog) = true := by kernel_rfl
theorem limitHighs_u22 : Tryz.prog.underlying 22 = some (.slice 3) := by kernel_rfl
theorem limitHighs_u3 : Tryz.prog.underlying 3 = some (.int .i64) := by kernel_rfl
theorem limitHighs_call : ∀ us : List VVal, us.length = Tryz.f3.params.toList.length → (∀ (i : Nat) (t : TypeId) (u : VVal), Tryz.f3.params.toList[i]? = some t → us[i]? = some u → Fit Tryz.prog t u) → V 3 us [] = some (.p (.bool true), []) := by
 intro us hlen hfit
 rw [Tryz.params3] at hlen hfit
 match us, hlen with
 | [x0, x1], _ =>
  obtain ⟨a0, rfl, w0⟩ := (hfit 0 22 x0 rfl rfl).isInts limitHighs_u22 limitHighs_u3
  obtain ⟨a1, rfl, w1⟩ := (hfit 1 3 x1 rfl rfl).isInt limitHighs_u3
  exact limitHighs_eq a0 a1
set_option maxRecDepth 100000 in
theorem limitHighs_lifted (os : Os) (started : os.Started) (H : Type) (enc : TypeId × Value → H) :
  ReturnsInHanded {} Tryz.checked os 3 .any (Rows.limitHighsSpec.pre6 enc Tryz.prog Tryz.f3 Rows.limitHighsRow.domain false) (Rows.limitHighsSpec.post enc Tryz.prog Tryz.f3 false true false false) := by
 refine returnsInHanded_of_change (C := Tryz.checked) own_try started (by kernel_rfl) Tryz.func3
  (ChangeSpec.witness6 (enc := enc) (C := Tryz.checked) false ⟨#[], #[.slice none 0 0, .int .i64 0], []⟩ 8 (by kernel_rfl) (by kernel_rfl) (by kernel_rfl) (by kernel_rfl)) ?_
 intro W base args ds gs before hval0 hW _ _
 have hval : ∀ (j : Nat) t v, Tryz.f3.params[j]? = some t → args[j]? = some v → Value.okWide Tryz.prog W .any base t v := hval0
 have hW' := hW
 obtain ⟨p, q, hA0, hV, hbe, _, _⟩ := hW
 have hA : DataW.TrodAll enc Tryz.prog W 0 (fun _ => true) true Tryz.f3.params.toList args.toList ds p := hA0
 refine (law_calls V_sound limitHighs_fit (fun j t v ht hv => hval j t v (by simpa using ht) hv) hA limitHighs_call).mono fun e W' ⟨he, hb⟩ => ?_
 subst he
 have hlen := trodAll_len hA
 rw [Tryz.params3] at hlen
 obtain ⟨hgs, _⟩ := trodVars_none hV
 have hfn : ∀ ds : List (DataW H), ds.length = 2 → (Rows.limitHighsSpec.fn H (ds ++ [])).results = [.lit (.bool true)] ∧ (Rows.limitHighsSpec.fn H (ds ++ [])).args = ds ∧ (Rows.limitHighsSpec.fn H (ds ++ [])).vars = [] := by
  intro ds hl
  match ds, hl with
  | [_, _], _ => exact ⟨rfl, rfl, rfl⟩
 obtain ⟨e1, e2, e3⟩ := hfn ds hlen
 exact ⟨_, rfl, law_post laid_try hW' rfl limitHighs_fit hA hV hbe (t := 4) (by kernel_rfl) (by kernel_rfl) (by rw [hgs]; exact e1) (by rw [hgs]; exact e2) (by rw [hgs]; exact e3) hb⟩
theorem limitHighs_k0 : (Rows.limitHighsRow.wf (OpenSpec.ofChange Rows.limitHighsSpec)) = true := by kernel_rfl
theorem limitHighs_k1 : (laidOutB Tryz.prog) = true := by kernel_rfl
theorem limitHighs_k2 : (mapsRowed Tryz.prog) = true := by kernel_rfl
theorem limitHighs_k3 : (Tryz.f3.params.all (Tryz.prog.readableRec ·)) = true := by kernel_rfl
theorem limitHighs_k4 : (namedTie Tryz.prog Rows.limitHighsRow.named Rows.limitHighsSpec.vars) = true := by kernel_rfl
theorem limitHighs_k5 : ((Rows.limitHighsRow.stops == [])) = true := by kernel_rfl
theorem limitHighs_k6 : ((Tryz.prog.stops == [])) = true := by kernel_rfl
theorem limitHighs_k7 : ((Rows.limitHighsRow.knobs == [])) = true := by kernel_rfl
theorem limitHighs_k8 : ((Tryz.prog.stopKnobs == [])) = true := by kernel_rfl
theorem limitHighs_k9 : ((Rows.limitHighsRow.inPlace == Tryz.prog.inPlace 3)) = true := by kernel_rfl
theorem limitHighs_k10 : ((Rows.limitHighsRow.unfollowed == Tryz.prog.unfollowed 3)) = true := by kernel_rfl
theorem limitHighs_k11 : ((Rows.limitHighsRow.recurses == Tryz.prog.recurses 3)) = true := by kernel_rfl
theorem limitHighs_k12 : ((Rows.limitHighsRow.named == Tryz.prog.varsNamed 3)) = true := by kernel_rfl
theorem limitHighs_k13 : ((Rows.limitHighsRow.maps == (Tryz.f3.params.toList ++ Rows.limitHighsSpec.plain.varTypes Tryz.prog).any (Tryz.prog.mapsRec ·))) = true := by kernel_rfl
theorem limitHighs_k14 : ((Rows.limitHighsRow.ifaces == (Tryz.f3.params.toList ++ Rows.limitHighsSpec.plain.varTypes Tryz.prog).any (Tryz.prog.ifacesRec ·))) = true := by kernel_rfl
theorem limitHighs_k15 : ((Rows.limitHighsRow.mapsOut == Tryz.prog.mapsAmong Tryz.f3.resultTypes.toList)) = true := by kernel_rfl
theorem limitHighs_k16 : ((Rows.limitHighsRow.loops == (Tryz.f3.params.toList ++ Rows.limitHighsSpec.plain.varTypes Tryz.prog).any (Tryz.prog.loopsFrom ·))) = true := by kernel_rfl
theorem limitHighs_k17 : ((Rows.limitHighsRow.wideKeys == (Tryz.f3.params.toList ++ Rows.limitHighsSpec.plain.varTypes Tryz.prog ++ Tryz.f3.resultTypes.toList).any (Tryz.prog.wideKeysFrom ·))) = true := by kernel_rfl
theorem limitHighs_k18 : (Rows.limitHighsSpec.vars.all (Tryz.prog.varReadable ·)) = true := by kernel_rfl
theorem limitHighs_k19 : (Tryz.f3.resultTypes.all (fun t => Tryz.prog.readableRec t && decide (t < Tryz.prog.types.size))) = true := by kernel_rfl
theorem limitHighs_k20 : ((Rows.limitHighsRow.ifacesOut == Tryz.f3.resultTypes.toList.any (Tryz.prog.ifacesRec ·))) = true := by kernel_rfl
theorem limitHighs_k21 : ((Rows.limitHighsRow.loopsOut == Tryz.f3.resultTypes.toList.any (Tryz.prog.loopsFrom ·))) = true := by kernel_rfl
theorem limitHighs_k22 : ((Rows.limitHighsRow.plainKeys == Tryz.prog.plainKeys)) = true := by kernel_rfl
theorem limitHighs_k23 : (Rows.limitHighsRow.shortTexts.isNone) = true := by kernel_rfl
theorem limitHighs_k24 : (Tryz.prog.stopsHeard) = true := by kernel_rfl
theorem limitHighs_k25 : (Tryz.prog.mayEnter) = true := by exact try_mayEnter
theorem limitHighs_k26 : ((Rows.limitHighsRow.lifted == Tryz.prog.liftsFinal)) = true := by rw [try_lifts]; kernel_rfl
theorem limitHighs_k27 : ((Tryz.prog.make == some Rows.limitHighsRow.make)) = true := by rw [try_make]; kernel_rfl
theorem limitHighs_k28 : ((Rows.limitHighsRow.kinds == (if Rows.limitHighsRow.domain.isEmpty then [] else Tryz.f3.params.toList.map fun t => match Tryz.prog.underlying t with | some (.int k) => some k | _ => none))) = true := by kernel_rfl
theorem limitHighs_k29 : ((Rows.limitHighsRow.pinned == Rows.limitHighsRow.pinnedBy)) = true := by kernel_rfl
theorem limitHighs_k30 : ((Rows.limitHighsRow.veiled == (Tryz.f3.params.toList ++ Rows.limitHighsSpec.plain.varTypes Tryz.prog ++ Tryz.f3.resultTypes.toList).any (Tryz.prog.veiledRec ·))) = true := by kernel_rfl
theorem limitHighs_k31 : (Rows.limitHighsRow.veiledFits Tryz.prog Tryz.f3.params.toList (Tryz.f3.params.toList ++ Rows.limitHighsSpec.plain.varTypes Tryz.prog ++ Tryz.f3.resultTypes.toList)) = true := by kernel_rfl
set_option maxRecDepth 100000 in
theorem limitHighs_closed : joinedFacts Tryz.prog 3 Tryz.f3 Rows.limitHighsSpec Rows.limitHighsRow = true := by
 unfold joinedFacts
 exact and_mk (and_mk (and_mk (and_mk (and_mk (and_mk (and_mk (and_mk (and_mk (and_mk (and_mk (and_mk (and_mk (and_mk (and_mk (and_mk (and_mk (and_mk (and_mk (and_mk (and_mk (and_mk (and_mk (and_mk (and_mk (and_mk (and_mk (and_mk (and_mk (and_mk (and_mk (limitHighs_k0) limitHighs_k1) limitHighs_k2) limitHighs_k3) limitHighs_k4) limitHighs_k5) limitHighs_k6) limitHighs_k7) limitHighs_k8) limitHighs_k9) limitHighs_k10) limitHighs_k11) limitHighs_k12) limitHighs_k13) limitHighs_k14) limitHighs_k15) limitHighs_k16) limitHighs_k17) limitHighs_k18) limitHighs_k19) limitHighs_k20) limitHighs_k21) limitHighs_k22) limitHighs_k23) limitHighs_k24) limitHighs_k25) limitHighs_k26) limitHighs_k27) limitHighs_k28) limitHighs_k29) limitHighs_k30) limitHighs_k31
theorem limitHighs_holds : Rows.LimitHighsSaid :=
 OpenClaim.holds_of_wide 3 Tryz.f3 rfl rfl rfl rfl rfl rfl rfl ⟨rfl, rfl, rfl, rfl, rfl⟩ rfl rfl rfl rfl rfl (by kernel_rfl) Tryz.func3 limitHighs_closed
  (of_decide_eq_true (by kernel_rfl)) (by unfold Func.isWrapper; first | (rw [if_pos (by decide +kernel)]; kernel_rfl) | (rw [if_neg (by decide +kernel)]; exact ⟨rfl, rfl⟩))
  (fun os started H enc _ => limitHighs_lifted os started H enc)
end Go.Proofs.YtmfbifkaonehkaaGreat
