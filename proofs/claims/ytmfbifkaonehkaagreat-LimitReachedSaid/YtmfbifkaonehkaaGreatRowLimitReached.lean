/- LimitReached holds: for every input the call of the law returns true, and each argument reads afterwards as it read before. No conditions. -/
import Derived.Test.YtmfbifkaonehkaaGreatRows
import Derived.Test.YtmfbifkaonehkaaGreatG13
import Derived.Test.YtmfbifkaonehkaaGreatG6
import Derived.Test.YtmfbifkaonehkaaGreatG14
import Derived.Test.YtmfbifkaonehkaaGreatG15
import Derived.ProofKit
set_option linter.unusedSimpArgs false
set_option linter.unusedVariables false
namespace Go.Proofs.YtmfbifkaonehkaaGreat
open Go.ChangeShapes Go.WideShapes Go.ChangeAt Go.RowKit Go.V
theorem limitReached_fit : Tryz.f4.params.toList.all (fitB2 Tryz.prog 4) = true := by kernel_rfl
theorem limitReached_u3 : Tryz.prog.underlying 3 = some (.int .i64) := by kernel_rfl
theorem limitReached_u4 : Tryz.prog.underlying 4 = some (.bool) := by kernel_rfl
theorem limitReached_call : ∀ us : List VVal, us.length = Tryz.f4.params.toList.length → (∀ (i : Nat) (t : TypeId) (u : VVal), Tryz.f4.params.toList[i]? = some t → us[i]? = some u → FitV Tryz.prog 4 t u) → V 4 us [] = some (.p (.bool true), []) := by
 intro us hlen hfit
 rw [Tryz.params4] at hlen hfit
 match us, hlen with
 | [x0, x1, x2], _ =>
  obtain ⟨a0, rfl, w0⟩ := (hfit 0 3 x0 rfl rfl).int limitReached_u3
  obtain ⟨a1, rfl, w1⟩ := (hfit 1 3 x1 rfl rfl).int limitReached_u3
  obtain ⟨a2, rfl⟩ := (hfit 2 4 x2 rfl rfl).bool limitReached_u4
  exact limitReached_eq a0 a1 a2
set_option maxRecDepth 100000 in
theorem limitReached_lifted (os : Os) (started : os.Started) (H : Type) (enc : TypeId × Value → H) :
  ReturnsInHanded {} Tryz.checked os 4 .any (Rows.limitReachedSpec.pre6 enc Tryz.prog Tryz.f4 Rows.limitReachedRow.domain false) (Rows.limitReachedSpec.post enc Tryz.prog Tryz.f4 false true false false) := by
 refine returnsInHanded_of_change (C := Tryz.checked) own_try started (by kernel_rfl) Tryz.func4
  (ChangeSpec.witness6 (enc := enc) (C := Tryz.checked) false ⟨#[], #[.int .i64 0, .int .i64 0, .bool false], []⟩ 8 (by kernel_rfl) (by kernel_rfl) (by kernel_rfl) (by kernel_rfl)) ?_
 intro W base args ds gs before hval0 hW _ _
 have hval : ∀ (j : Nat) t v, Tryz.f4.params[j]? = some t → args[j]? = some v → Value.okWide Tryz.prog W .any base t v := hval0
 have hW' := hW
 obtain ⟨p, q, hA0, hV, hbe, _, _⟩ := hW
 have hA : DataW.TrodAll enc Tryz.prog W 0 (fun _ => true) true Tryz.f4.params.toList args.toList ds p := hA0
 refine (law_calls2 V_sound limitReached_fit (fun j t v ht hv => hval j t v (by simpa using ht) hv) hA limitReached_call).mono fun e W' ⟨he, hb⟩ => ?_
 subst he
 have hlen := trodAll_len hA
 rw [Tryz.params4] at hlen
 obtain ⟨hgs, _⟩ := trodVars_none hV
 have hfn : ∀ ds : List (DataW H), ds.length = 3 → (Rows.limitReachedSpec.fn H (ds ++ [])).results = [.lit (.bool true)] ∧ (Rows.limitReachedSpec.fn H (ds ++ [])).args = ds ∧ (Rows.limitReachedSpec.fn H (ds ++ [])).vars = [] := by
  intro ds hl
  match ds, hl with
  | [_, _, _], _ => exact ⟨rfl, rfl, rfl⟩
 obtain ⟨e1, e2, e3⟩ := hfn ds hlen
 exact ⟨_, rfl, law_post2 laid_try hW' rfl limitReached_fit hA hV hbe (t := 4) (by kernel_rfl) (by kernel_rfl) (by rw [hgs]; exact e1) (by rw [hgs]; exact e2) (by rw [hgs]; exact e3) hb⟩
theorem limitReached_k0 : (Rows.limitReachedRow.wf (OpenSpec.ofChange Rows.limitReachedSpec)) = true := by kernel_rfl
theorem limitReached_k1 : (laidOutB Tryz.prog) = true := by kernel_rfl
theorem limitReached_k2 : (mapsRowed Tryz.prog) = true := by kernel_rfl
theorem limitReached_k3 : (Tryz.f4.params.all (Tryz.prog.readableRec ·)) = true := by kernel_rfl
theorem limitReached_k4 : (namedTie Tryz.prog Rows.limitReachedRow.named Rows.limitReachedSpec.vars) = true := by kernel_rfl
theorem limitReached_k5 : ((Rows.limitReachedRow.stops == [])) = true := by kernel_rfl
theorem limitReached_k6 : ((Tryz.prog.stops == [])) = true := by kernel_rfl
theorem limitReached_k7 : ((Rows.limitReachedRow.knobs == [])) = true := by kernel_rfl
theorem limitReached_k8 : ((Tryz.prog.stopKnobs == [])) = true := by kernel_rfl
theorem limitReached_k9 : ((Rows.limitReachedRow.inPlace == Tryz.prog.inPlace 4)) = true := by kernel_rfl
theorem limitReached_k10 : ((Rows.limitReachedRow.unfollowed == Tryz.prog.unfollowed 4)) = true := by kernel_rfl
theorem limitReached_k11 : ((Rows.limitReachedRow.recurses == Tryz.prog.recurses 4)) = true := by kernel_rfl
theorem limitReached_k12 : ((Rows.limitReachedRow.named == Tryz.prog.varsNamed 4)) = true := by kernel_rfl
theorem limitReached_k13 : ((Rows.limitReachedRow.maps == (Tryz.f4.params.toList ++ Rows.limitReachedSpec.plain.varTypes Tryz.prog).any (Tryz.prog.mapsRec ·))) = true := by kernel_rfl
theorem limitReached_k14 : ((Rows.limitReachedRow.ifaces == (Tryz.f4.params.toList ++ Rows.limitReachedSpec.plain.varTypes Tryz.prog).any (Tryz.prog.ifacesRec ·))) = true := by kernel_rfl
theorem limitReached_k15 : ((Rows.limitReachedRow.mapsOut == Tryz.prog.mapsAmong Tryz.f4.resultTypes.toList)) = true := by kernel_rfl
theorem limitReached_k16 : ((Rows.limitReachedRow.loops == (Tryz.f4.params.toList ++ Rows.limitReachedSpec.plain.varTypes Tryz.prog).any (Tryz.prog.loopsFrom ·))) = true := by kernel_rfl
theorem limitReached_k17 : ((Rows.limitReachedRow.wideKeys == (Tryz.f4.params.toList ++ Rows.limitReachedSpec.plain.varTypes Tryz.prog ++ Tryz.f4.resultTypes.toList).any (Tryz.prog.wideKeysFrom ·))) = true := by kernel_rfl
theorem limitReached_k18 : (Rows.limitReachedSpec.vars.all (Tryz.prog.varReadable ·)) = true := by kernel_rfl
theorem limitReached_k19 : (Tryz.f4.resultTypes.all (fun t => Tryz.prog.readableRec t && decide (t < Tryz.prog.types.size))) = true := by kernel_rfl
theorem limitReached_k20 : ((Rows.limitReachedRow.ifacesOut == Tryz.f4.resultTypes.toList.any (Tryz.prog.ifacesRec ·))) = true := by kernel_rfl
theorem limitReached_k21 : ((Rows.limitReachedRow.loopsOut == Tryz.f4.resultTypes.toList.any (Tryz.prog.loopsFrom ·))) = true := by kernel_rfl
theorem limitReached_k22 : ((Rows.limitReachedRow.plainKeys == Tryz.prog.plainKeys)) = true := by kernel_rfl
theorem limitReached_k23 : (Rows.limitReachedRow.shortTexts.isNone) = true := by kernel_rfl
theorem limitReached_k24 : (Tryz.prog.stopsHeard) = true := by kernel_rfl
theorem limitReached_k25 : (Tryz.prog.mayEnter) = true := by exact try_mayEnter
theorem limitReached_k26 : ((Rows.limitReachedRow.lifted == Tryz.prog.liftsFinal)) = true := by rw [try_lifts]; kernel_rfl
theorem limitReached_k27 : ((Tryz.prog.make == some Rows.limitReachedRow.make)) = true := by rw [try_make]; kernel_rfl
theorem limitReached_k28 : ((Rows.limitReachedRow.kinds == (if Rows.limitReachedRow.domain.isEmpty then [] else Tryz.f4.params.toList.map fun t => match Tryz.prog.underlying t with | some (.int k) => some k | _ => none))) = true := by kernel_rfl
theorem limitReached_k29 : ((Rows.limitReachedRow.pinned == Rows.limitReachedRow.pinnedBy)) = true := by kernel_rfl
theorem limitReached_k30 : ((Rows.limitReachedRow.veiled == (Tryz.f4.params.toList ++ Rows.limitReachedSpec.plain.varTypes Tryz.prog ++ Tryz.f4.resultTypes.toList).any (Tryz.prog.veiledRec ·))) = true := by kernel_rfl
theorem limitReached_k31 : (Rows.limitReachedRow.veiledFits Tryz.prog Tryz.f4.params.toList (Tryz.f4.params.toList ++ Rows.limitReachedSpec.plain.varTypes Tryz.prog ++ Tryz.f4.resultTypes.toList)) = true := by kernel_rfl
set_option maxRecDepth 100000 in
theorem limitReached_closed : joinedFacts Tryz.prog 4 Tryz.f4 Rows.limitReachedSpec Rows.limitReachedRow = true := by
 unfold joinedFacts
 exact and_mk (and_mk (and_mk (and_mk (and_mk (and_mk (and_mk (and_mk (and_mk (and_mk (and_mk (and_mk (and_mk (and_mk (and_mk (and_mk (and_mk (and_mk (and_mk (and_mk (and_mk (and_mk (and_mk (and_mk (and_mk (and_mk (and_mk (and_mk (and_mk (and_mk (and_mk (limitReached_k0) limitReached_k1) limitReached_k2) limitReached_k3) limitReached_k4) limitReached_k5) limitReached_k6) limitReached_k7) limitReached_k8) limitReached_k9) limitReached_k10) limitReached_k11) limitReached_k12) limitReached_k13) limitReached_k14) limitReached_k15) limitReached_k16) limitReached_k17) limitReached_k18) limitReached_k19) limitReached_k20) limitReached_k21) limitReached_k22) limitReached_k23) limitReached_k24) limitReached_k25) limitReached_k26) limitReached_k27) limitReached_k28) limitReached_k29) limitReached_k30) limitReached_k31
theorem limitReached_holds : Rows.LimitReachedSaid :=
 OpenClaim.holds_of_wide 4 Tryz.f4 rfl rfl rfl rfl rfl rfl rfl ⟨rfl, rfl, rfl, rfl, rfl⟩ rfl rfl rfl rfl rfl (by kernel_rfl) Tryz.func4 limitReached_closed
  (of_decide_eq_true (by kernel_rfl)) (by unfold Func.isWrapper; first | (rw [if_pos (by decide +kernel)]; kernel_rfl) | (rw [if_neg (by decide +kernel)]; exact ⟨rfl, rfl⟩))
  (fun os started H enc _ => limitReached_lifted os started H enc)
end Go.Proofs.YtmfbifkaonehkaaGreat
