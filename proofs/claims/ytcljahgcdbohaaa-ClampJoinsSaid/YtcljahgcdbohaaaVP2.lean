/- ClampJoins holds: for every input the call of the law returns true, and each argument reads afterwards as it read before. No conditions. -/
import Derived.Test.YtcljahgcdbohaaaRows
import Derived.Test.YtcljahgcdbohaaaVSeat
import Derived.Test.YtcljahgcdbohaaaVL2
import Derived.Test.YtcljahgcdbohaaaVHead
import Derived.ProofKit
set_option linter.unusedSimpArgs false
set_option linter.unusedVariables false
namespace Go.Proofs.Ytcljahgcdbohaaa
open Go.ChangeShapes Go.WideShapes Go.ChangeAt Go.RowKit Go.V

theorem clampJoins_fit : Try.f4.params.toList.all (fitB Try.prog) = true := by kernel_rfl
theorem clampJoins_u22 : Try.prog.underlying 22 = some (.slice 3) := by kernel_rfl
theorem clampJoins_u3 : Try.prog.underlying 3 = some (.int .i64) := by kernel_rfl

theorem clampJoins_call : ∀ us : List VVal, us.length = Try.f4.params.toList.length → (∀ (i : Nat) (t : TypeId) (u : VVal), Try.f4.params.toList[i]? = some t → us[i]? = some u → Fit Try.prog t u) → V 4 us [] = some (.p (.bool true), []) := by
  intro us hlen hfit
  rw [Try.params4] at hlen hfit
  match us, hlen with
  | [x0], _ =>
    obtain ⟨a0, rfl, w0⟩ := (hfit 0 22 x0 rfl rfl).isInts clampJoins_u22 clampJoins_u3
    exact clampJoins_eq a0

set_option maxRecDepth 100000 in
theorem clampJoins_lifted (os : Os) (started : os.Started) (H : Type) (enc : TypeId × Value → H) :
    ReturnsInHanded {} Try.checked os 4 .any (Rows.clampJoinsSpec.pre6 enc Try.prog Try.f4 Rows.clampJoinsRow.domain false) (Rows.clampJoinsSpec.post enc Try.prog Try.f4 false true false false) := by
  refine returnsInHanded_of_change (C := Try.checked) own_try started (by kernel_rfl) Try.func4
    (ChangeSpec.witness6 (enc := enc) (C := Try.checked) false ⟨#[], #[.slice none 0 0], []⟩ 8 (by kernel_rfl) (by kernel_rfl) (by kernel_rfl) (by kernel_rfl)) ?_
  intro W base args ds gs before hval0 hW _ _
  have hval : ∀ (j : Nat) t v, Try.f4.params[j]? = some t → args[j]? = some v → Value.okWide Try.prog W .any base t v := hval0
  have hW' := hW
  obtain ⟨p, q, hA0, hV, hbe, _, _⟩ := hW
  have hA : DataW.TrodAll enc Try.prog W 0 (fun _ => true) true Try.f4.params.toList args.toList ds p := hA0
  refine (law_calls V_sound clampJoins_fit (fun j t v ht hv => hval j t v (by simpa using ht) hv) hA clampJoins_call).mono fun e W' ⟨he, hb⟩ => ?_
  subst he
  have hlen := trodAll_len hA
  rw [Try.params4] at hlen
  obtain ⟨hgs, _⟩ := trodVars_none hV
  have hfn : ∀ ds : List (DataW H), ds.length = 1 → (Rows.clampJoinsSpec.fn H (ds ++ [])).results = [.lit (.bool true)] ∧ (Rows.clampJoinsSpec.fn H (ds ++ [])).args = ds ∧ (Rows.clampJoinsSpec.fn H (ds ++ [])).vars = [] := by
    intro ds hl
    match ds, hl with
    | [_], _ => exact ⟨rfl, rfl, rfl⟩
  obtain ⟨e1, e2, e3⟩ := hfn ds hlen
  exact ⟨_, rfl, law_post laid_try hW' rfl clampJoins_fit hA hV hbe (t := 4) (by kernel_rfl) (by kernel_rfl) (by rw [hgs]; exact e1) (by rw [hgs]; exact e2) (by rw [hgs]; exact e3) hb⟩

theorem clampJoins_k0 : (Rows.clampJoinsRow.wf (OpenSpec.ofChange Rows.clampJoinsSpec)) = true := by kernel_rfl
theorem clampJoins_k1 : (laidOutB Try.prog) = true := by kernel_rfl
theorem clampJoins_k2 : (mapsRowed Try.prog) = true := by kernel_rfl
theorem clampJoins_k3 : (Try.f4.params.all (Try.prog.readableRec ·)) = true := by kernel_rfl
theorem clampJoins_k4 : (namedTie Try.prog Rows.clampJoinsRow.named Rows.clampJoinsSpec.vars) = true := by kernel_rfl
theorem clampJoins_k5 : ((Rows.clampJoinsRow.stops == [])) = true := by kernel_rfl
theorem clampJoins_k6 : ((Try.prog.stops == [])) = true := by kernel_rfl
theorem clampJoins_k7 : ((Rows.clampJoinsRow.knobs == [])) = true := by kernel_rfl
theorem clampJoins_k8 : ((Try.prog.stopKnobs == [])) = true := by kernel_rfl
theorem clampJoins_k9 : ((Rows.clampJoinsRow.inPlace == Try.prog.inPlace 4)) = true := by kernel_rfl
theorem clampJoins_k10 : ((Rows.clampJoinsRow.unfollowed == Try.prog.unfollowed 4)) = true := by kernel_rfl
theorem clampJoins_k11 : ((Rows.clampJoinsRow.recurses == Try.prog.recurses 4)) = true := by kernel_rfl
theorem clampJoins_k12 : ((Rows.clampJoinsRow.named == Try.prog.varsNamed 4)) = true := by kernel_rfl
theorem clampJoins_k13 : ((Rows.clampJoinsRow.maps == (Try.f4.params.toList ++ Rows.clampJoinsSpec.plain.varTypes Try.prog).any (Try.prog.mapsRec ·))) = true := by kernel_rfl
theorem clampJoins_k14 : ((Rows.clampJoinsRow.ifaces == (Try.f4.params.toList ++ Rows.clampJoinsSpec.plain.varTypes Try.prog).any (Try.prog.ifacesRec ·))) = true := by kernel_rfl
theorem clampJoins_k15 : ((Rows.clampJoinsRow.mapsOut == Try.prog.mapsAmong Try.f4.resultTypes.toList)) = true := by kernel_rfl
theorem clampJoins_k16 : ((Rows.clampJoinsRow.loops == (Try.f4.params.toList ++ Rows.clampJoinsSpec.plain.varTypes Try.prog).any (Try.prog.loopsFrom ·))) = true := by kernel_rfl
theorem clampJoins_k17 : ((Rows.clampJoinsRow.wideKeys == (Try.f4.params.toList ++ Rows.clampJoinsSpec.plain.varTypes Try.prog ++ Try.f4.resultTypes.toList).any (Try.prog.wideKeysFrom ·))) = true := by kernel_rfl
theorem clampJoins_k18 : (Rows.clampJoinsSpec.vars.all (Try.prog.varReadable ·)) = true := by kernel_rfl
theorem clampJoins_k19 : (Try.f4.resultTypes.all (fun t => Try.prog.readableRec t && decide (t < Try.prog.types.size))) = true := by kernel_rfl
theorem clampJoins_k20 : ((Rows.clampJoinsRow.ifacesOut == Try.f4.resultTypes.toList.any (Try.prog.ifacesRec ·))) = true := by kernel_rfl
theorem clampJoins_k21 : ((Rows.clampJoinsRow.loopsOut == Try.f4.resultTypes.toList.any (Try.prog.loopsFrom ·))) = true := by kernel_rfl
theorem clampJoins_k22 : ((Rows.clampJoinsRow.plainKeys == Try.prog.plainKeys)) = true := by kernel_rfl
theorem clampJoins_k23 : (Rows.clampJoinsRow.shortTexts.isNone) = true := by kernel_rfl
theorem clampJoins_k24 : (Try.prog.stopsHeard) = true := by kernel_rfl
theorem clampJoins_k25 : (Try.prog.mayEnter) = true := by exact try_mayEnter
theorem clampJoins_k26 : ((Rows.clampJoinsRow.lifted == Try.prog.liftsFinal)) = true := by rw [try_lifts]; kernel_rfl
theorem clampJoins_k27 : ((Try.prog.make == some Rows.clampJoinsRow.make)) = true := by rw [try_make]; kernel_rfl
theorem clampJoins_k28 : ((Rows.clampJoinsRow.kinds == (if Rows.clampJoinsRow.domain.isEmpty then [] else Try.f4.params.toList.map fun t => match Try.prog.underlying t with | some (.int k) => some k | _ => none))) = true := by kernel_rfl
theorem clampJoins_k29 : ((Rows.clampJoinsRow.pinned == Rows.clampJoinsRow.pinnedBy)) = true := by kernel_rfl
theorem clampJoins_k30 : ((Rows.clampJoinsRow.veiled == (Try.f4.params.toList ++ Rows.clampJoinsSpec.plain.varTypes Try.prog ++ Try.f4.resultTypes.toList).any (Try.prog.veiledRec ·))) = true := by kernel_rfl
theorem clampJoins_k31 : (Rows.clampJoinsRow.veiledFits Try.prog Try.f4.params.toList (Try.f4.params.toList ++ Rows.clampJoinsSpec.plain.varTypes Try.prog ++ Try.f4.resultTypes.toList)) = true := by kernel_rfl
set_option maxRecDepth 100000 in
theorem clampJoins_closed : joinedFacts Try.prog 4 Try.f4 Rows.clampJoinsSpec Rows.clampJoinsRow = true := by
  unfold joinedFacts
  exact and_mk (and_mk (and_mk (and_mk (and_mk (and_mk (and_mk (and_mk (and_mk (and_mk (and_mk (and_mk (and_mk (and_mk (and_mk (and_mk (and_mk (and_mk (and_mk (and_mk (and_mk (and_mk (and_mk (and_mk (and_mk (and_mk (and_mk (and_mk (and_mk (and_mk (and_mk (clampJoins_k0) clampJoins_k1) clampJoins_k2) clampJoins_k3) clampJoins_k4) clampJoins_k5) clampJoins_k6) clampJoins_k7) clampJoins_k8) clampJoins_k9) clampJoins_k10) clampJoins_k11) clampJoins_k12) clampJoins_k13) clampJoins_k14) clampJoins_k15) clampJoins_k16) clampJoins_k17) clampJoins_k18) clampJoins_k19) clampJoins_k20) clampJoins_k21) clampJoins_k22) clampJoins_k23) clampJoins_k24) clampJoins_k25) clampJoins_k26) clampJoins_k27) clampJoins_k28) clampJoins_k29) clampJoins_k30) clampJoins_k31

theorem clampJoins_holds : Rows.ClampJoinsSaid :=
  OpenClaim.holds_of_wide 4 Try.f4 rfl rfl rfl rfl rfl rfl rfl ⟨rfl, rfl, rfl, rfl, rfl⟩ rfl rfl rfl rfl rfl (by kernel_rfl) Try.func4 clampJoins_closed
    (of_decide_eq_true (by kernel_rfl)) (by unfold Func.isWrapper; first | (rw [if_pos (by decide +kernel)]; kernel_rfl) | (rw [if_neg (by decide +kernel)]; exact ⟨rfl, rfl⟩))
    (fun os started H enc _ => clampJoins_lifted os started H enc)

end Go.Proofs.Ytcljahgcdbohaaa
