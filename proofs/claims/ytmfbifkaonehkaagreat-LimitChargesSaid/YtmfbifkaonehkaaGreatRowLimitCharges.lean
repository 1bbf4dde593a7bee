/- LimitCharges holds: for every input the call of the law returns true, and each argument reads afterwards as it read before. No conditions. -/
import Derived.Test.YtmfbifkaonehkaaGreatRows
import Derived.Test.YtmfbifkaonehkaaGreatF13
import Derived.Test.YtmfbifkaonehkaaGreatF6
import Derived.Test.YtmfbifkaonehkaaGreatF14
import Derived.ProofKit
set_option linter.unusedSimpArgs false
set_option linter.unusedVariables false
namespace Go.Proofs.YtmfbifkaonehkaaGreat
open Go.ChangeShapes Go.WideShapes Go.ChangeAt Go.RowKit Go.V
theorem limitCharges_fit : Tryz.f6.params.toList.all (fitB Tryz.prog) = true := by kernel_rfl
theorem limitCharges_u22 : Tryz.prog.underlying 22 = some (.slice 3) := by kernel_rfl
theorem limitCharges_u3 : Tryz.prog.underlying 3 = some (.int .i64) := by kernel_rfl
theorem limitCharges_call : ∀ us : List VVal, us.length = Tryz.f6.params.toList.length → (∀ (i : Nat) (t : TypeId) (u : VVal), Tryz.f6.params.toList[i]? = some t → us[i]? = some u → Fit Tryz.prog t u) → V 6 us [] = some (.p (.bool true), []) := by
 intro us hlen hfit
 rw [Tryz.params6] at hlen hfit
 match us, hlen with
 | [x0, x1], _ =>
  obtain ⟨a0, rfl, w0⟩ := (hfit 0 22 x0 rfl rfl).isInts limitCharges_u22 limitCharges_u3
  obtain ⟨a1, rfl, w1⟩ := (hfit 1 3 x1 rfl rfl).isInt limitCharges_u3
  exact limitCharges_eq a0 a1
set_option maxRecDepth 100000 in
theorem limitCharges_lifted (os : Os) (started : os.Started) (H : Type) (enc : TypeId × Value → H) :
  ReturnsInHanded {} Tryz.checked os 6 .any (Rows.limitChargesSpec.pre6 enc Tryz.prog Tryz.f6 Rows.limitChargesRow.domain false) (Rows.limitChargesSpec.post enc Tryz.prog Tryz.f6 false true false false) := by
 refine returnsInHanded_of_change (C := Tryz.checked) own_try started (by kernel_rfl) Tryz.func6
  (ChangeSpec.witness6 (enc := enc) (C := Tryz.checked) false ⟨#[], #[.slice none 0 0, .int .i64 0], []⟩ 8 (by kernel_rfl) (by kernel_rfl) (by kernel_rfl) (by kernel_rfl)) ?_
 intro W base args ds gs before hval0 hW _ _
 have hval : ∀ (j : Nat) t v, Tryz.f6.params[j]? = some t → args[j]? = some v → Value.okWide Tryz.prog W .any base t v := hval0
 have hW' := hW
 obtain ⟨p, q, hA0, hV, hbe, _, _⟩ := hW
 have hA : DataW.TrodAll enc Tryz.prog W 0 (fun _ => true) true Tryz.f6.params.toList args.toList ds p := hA0
 refine (law_calls V_sound limitCharges_fit (fun j t v ht hv => hval j t v (by simpa using ht) hv) hA limitCharges_call).mono fun e W' ⟨he, hb⟩ => ?_
 subst he
 have hlen := trodAll_len hA
 rw [Tryz.params6] at hlen
 obtain ⟨hgs, _⟩ := trodVars_none hV
 have hfn : ∀ ds : List (DataW H), ds.length = 2 → (Rows.limitChargesSpec.fn H (ds ++ [])).results = [.lit (.bool true)] ∧ (Rows.limitChargesSpec.fn H (ds ++ [])).args = ds ∧ (Rows.limitChargesSpec.fn H (ds ++ [])).vars = [] := by
  intro ds hl
  match ds, hl with
  | [_, _], _ => exact ⟨rfl, rfl, rfl⟩
 obtain ⟨e1, e2, e3⟩ := hfn ds hlen
 exact ⟨_, rfl, law_post laid_try hW' rfl limitCharges_fit hA hV hbe (t := 4) (by kernel_rfl) (by kernel_rfl) (by rw [hgs]; exact e1) (by rw [hgs]; exact e2) (by rw [hgs]; exact e3) hb⟩
theorem limitCharges_k0 : (Rows.limitChargesRow.wf (OpenSpec.ofChange Rows.limitChargesSpec)) = true := by kernel_rfl
theorem limitCharges_k1 : (laidOutB Tryz.prog) = true := by kernel_rfl
theorem limitCharges_k2 : (mapsRowed Tryz.prog) = true := by kernel_rfl
theorem limitCharges_k3 : (Tryz.f6.params.all (Tryz.prog.readableRec ·)) = true := by kernel_rfl
theorem limitCharges_k4 : (namedTie Tryz.prog Rows.limitChargesRow.named Rows.limitChargesSpec.vars) = true := by kernel_rfl
theorem limitCharges_k5 : ((Rows.limitChargesRow.stops == [])) = true := by kernel_rfl
theorem limitCharges_k6 : ((Tryz.prog.stops == [])) = true := by kernel_rfl
theorem limitCharges_k7 : ((Rows.limitChargesRow.knobs == [])) = true := by kernel_rfl
theorem limitCharges_k8 : ((Tryz.prog.stopKnobs == [])) = true := by kernel_rfl
theorem limitCharges_k9 : ((Rows.limitChargesRow.inPlace == Tryz.prog.inPlace 6)) = true := by kernel_rfl
theorem limitCharges_k10 : ((Rows.limitChargesRow.unfollowed == Tryz.prog.unfollowed 6)) = true := by kernel_rfl
theorem limitCharges_k11 : ((Rows.limitChargesRow.recurses == Tryz.prog.recurses 6)) = true := by kernel_rfl
theorem limitCharges_k12 : ((Rows.limitChargesRow.named == Tryz.prog.varsNamed 6)) = true := by kernel_rfl
theorem limitCharges_k13 : ((Rows.limitChargesRow.maps == (Tryz.f6.params.toList ++ Rows.limitChargesSpec.plain.varTypes Tryz.prog).any (Tryz.prog.mapsRec ·))) = true := by kernel_rfl
theorem limitCharges_k14 : ((Rows.limitChargesRow.ifaces == (Tryz.f6.params.toList ++ Rows.limitChargesSpec.plain.varTypes Tryz.prog).any (Tryz.prog.ifacesRec ·))) = true := by kernel_rfl
theorem limitCharges_k15 : ((Rows.limitChargesRow.mapsOut == Tryz.prog.mapsAmong Tryz.f6.resultTypes.toList)) = true := by kernel_rfl
theorem limitCharges_k16 : ((Rows.limitChargesRow.loops == (Tryz.f6.params.toList ++ Rows.limitChargesSpec.plain.varTypes Tryz.prog).any (Tryz.prog.loopsFrom ·))) = true := by kernel_rfl
theorem limitCharges_k17 : ((Rows.limitChargesRow.wideKeys == (Tryz.f6.params.toList ++ Rows.limitChargesSpec.plain.varTypes Tryz.prog ++ Tryz.f6.resultTypes.toList).any (Tryz.prog.wideKeysFrom ·))) = true := by kernel_rfl
theorem limitCharges_k18 : (Rows.limitChargesSpec.vars.all (Tryz.prog.varReadable ·)) = true := by kernel_rfl
theorem limitCharges_k19 : (Tryz.f6.resultTypes.all (fun t => Tryz.prog.readableRec t && decide (t < Tryz.prog.types.size))) = true := by kernel_rfl
theorem limitCharges_k20 : ((Rows.limitChargesRow.ifacesOut == Tryz.f6.resultTypes.toList.any (Tryz.prog.ifacesRec ·))) = true := by kernel_rfl
theorem limitCharges_k21 : ((Rows.limitChargesRow.loopsOut == Tryz.f6.resultTypes.toList.any (Tryz.prog.loopsFrom ·))) = true := by kernel_rfl
theorem limitCharges_k22 : ((Rows.limitChargesRow.plainKeys == Tryz.prog.plainKeys)) = true := by kernel_rfl
theorem limitCharges_k23 : (Rows.limitChargesRow.shortTexts.isNone) = true := by kernel_rfl
theorem limitCharges_k24 : (Tryz.prog.stopsHeard) = true := by kernel_rfl
theorem limitCharges_k25 : (Tryz.prog.mayEnter) = true := by exact try_mayEnter
theorem limitCharges_k26 : ((Rows.limitChargesRow.lifted == Tryz.prog.liftsFinal)) = true := by rw [try_lifts]; kernel_rfl
theorem limitCharges_k27 : ((Tryz.prog.make == some Rows.limitChargesRow.make)) = true := by rw [try_make]; kernel_rfl
theorem limitCharges_k28 : ((Rows.limitChargesRow.kinds == (if Rows.limitChargesRow.domain.isEmpty then [] else Tryz.f6.params.toList.map fun t => match Tryz.prog.underlying t with | some (.int k) => some k | _ => none))) = true := by kernel_rfl
theorem limitCharges_k29 : ((Rows.limitChargesRow.pinned == Rows.limitChargesRow.pinnedBy)) = true := by kernel_rfl
theorem limitCharges_k30 : ((Rows.limitChargesRow.veiled == (Tryz.f6.params.toList ++ Rows.limitChargesSpec.plain.varTypes Tryz.prog ++ Tryz.f6.resultTypes.toList).any (Tryz.prog.veiledRec ·))) = true := by kernel_rfl
theorem limitCharges_k31 : (Rows.limitChargesRow.veiledFits Tryz.prog Tryz.f6.params.toList (Tryz.f6.params.toList ++ Rows.limitChargesSpec.plain.varTypes Tryz.prog ++ Tryz.f6.resultTypes.toList)) = true := by kernel_rfl
set_option maxRecDepth 100000 in
theorem limitCharges_closed : joinedFacts Tryz.prog 6 Tryz.f6 Rows.limitChargesSpec Rows.limitChargesRow = true := by
 unfold joinedFacts
 exact and_mk (and_mk (and_mk (and_mk (and_mk (and_mk (and_mk (and_mk (and_mk (and_mk (and_mk (and_mk (and_mk (and_mk (and_mk (and_mk (and_mk (and_mk (and_mk (and_mk (and_mk (and_mk (and_mk (and_mk (and_mk (and_mk (and_mk (and_mk (and_mk (and_mk (and_mk (limitCharges_k0) limitCharges_k1) limitCharges_k2) limitCharges_k3) limitCharges_k4) limitCharges_k5) limitCharges_k6) limitCharges_k7) limitCharges_k8) limitCharges_k9) limitCharges_k10) limitCharges_k11) limitCharges_k12) limitCharges_k13) limitCharges_k14) limitCharges_k15) limitCharges_k16) limitCharges_k17) limitCharges_k18) limitCharges_k19) limitCharges_k20) limitCharges_k21) limitCharges_k22) limitCharges_k23) limitCharges_k24) limitCharges_k25) limitCharges_k26) limitCharges_k27) limitCharges_k28) limitCharges_k29) limitCharges_k30) limitCharges_k31
theorem limitCharges_holds : Rows.LimitChargesSaid :=
 OpenClaim.holds_of_wide 6 Tryz.f6 rfl rfl rfl rfl rfl rfl rfl ⟨rfl, rfl, rfl, rfl, rfl⟩ rfl rfl rfl rfl rfl (by kernel_rfl) Tryz.func6 limitCharges_closed
  (of_decide_eq_true (by kernel_rfl)) (by unfold Func.isWrapper; first | (rw [if_pos (by decide +kernel)]; kernel_rfl) | (rw [if_neg (by decide +kernel)]; exact ⟨rfl, rfl⟩))
  (fun os started H enc _ => limitCharges_lifted os started H enc)
end Go.Proofs.YtmfbifkaonehkaaGreat
