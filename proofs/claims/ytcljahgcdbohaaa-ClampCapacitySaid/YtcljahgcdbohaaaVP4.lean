/- ClampCapacity holds: for every input the call of the law returns true, and each argument reads afterwards as it read before. No conditions. -/
import Derived.Test.YtcljahgcdbohaaaRows
import Derived.Test.YtcljahgcdbohaaaVSeat
import Derived.Test.YtcljahgcdbohaaaVL4
import Derived.Test.YtcljahgcdbohaaaVHead
import Derived.ProofKit
set_option linter.unusedSimpArgs false
set_option linter.unusedVariables false
namespace Go.Proofs.Ytcljahgcdbohaaa
open Go.ChangeShapes Go.WideShapes Go.ChangeAt Go.RowKit Go.V

theorem clampCapacity_fit : Try.f6.params.toList.all (fitB Try.prog) = true := by kernel_rfl
theorem clampCapacity_u22 : Try.prog.underlying 22 = some (.slice 3) := by kernel_rfl
theorem clampCapacity_u3 : Try.prog.underlying 3 = some (.int .i64) := by kernel_rfl

theorem clampCapacity_call : ∀ us : List VVal, us.length = Try.f6.params.toList.length → (∀ (i : Nat) (t : TypeId) (u : VVal), Try.f6.params.toList[i]? = some t → us[i]? = some u → Fit Try.prog t u) → V 6 us [] = some (.p (.bool true), []) := by
  intro us hlen hfit
  rw [Try.params6] at hlen hfit
  match us, hlen with
  | [x0, x1], _ =>
    obtain ⟨a0, rfl, w0⟩ := (hfit 0 22 x0 rfl rfl).isInts clampCapacity_u22 clampCapacity_u3
    obtain ⟨a1, rfl, w1⟩ := (hfit 1 3 x1 rfl rfl).isInt clampCapacity_u3
    exact clampCapacity_eq a0 a1

set_option maxRecDepth 100000 in
theorem clampCapacity_lifted (os : Os) (started : os.Started) (H : Type) (enc : TypeId × Value → H) :
    ReturnsInHanded {} Try.checked os 6 .any (Rows.clampCapacitySpec.pre6 enc Try.prog Try.f6 Rows.clampCapacityRow.domain false) (Rows.clampCapacitySpec.post enc Try.prog Try.f6 false true false false) := by
  refine returnsInHanded_of_change (C := Try.checked) own_try started (by kernel_rfl) Try.func6
    (ChangeSpec.witness6 (enc := enc) (C := Try.checked) false ⟨#[], #[.slice none 0 0, .int .i64 0], []⟩ 8 (by kernel_rfl) (by kernel_rfl) (by kernel_rfl) (by kernel_rfl)) ?_
  intro W base args ds gs before hval0 hW _ _
  have hval : ∀ (j : Nat) t v, Try.f6.params[j]? = some t → args[j]? = some v → Value.okWide Try.prog W .any base t v := hval0
  have hW' := hW
  obtain ⟨p, q, hA0, hV, hbe, _, _⟩ := hW
  have hA : DataW.TrodAll enc Try.prog W 0 (fun _ => true) true Try.f6.params.toList args.toList ds p := hA0
  refine (law_calls V_sound clampCapacity_fit (fun j t v ht hv => hval j t v (by simpa using ht) hv) hA clampCapacity_call).mono fun e W' ⟨he, hb⟩ => ?_
  subst he
  have hlen := trodAll_len hA
  rw [Try.params6] at hlen
  obtain ⟨hgs, _⟩ := trodVars_none hV
  have hfn : ∀ ds : List (DataW H), ds.length = 2 → (Rows.clampCapacitySpec.fn H (ds ++ [])).results = [.lit (.bool true)] ∧ (Rows.clampCapacitySpec.fn H (ds ++ [])).args = ds ∧ (Rows.clampCapacitySpec.fn H (ds ++ [])).vars = [] := by
    intro ds hl
    match ds, hl with
    | [_, _], _ => exact ⟨rfl, rfl, rfl⟩
  obtain ⟨e1, e2, e3⟩ := hfn ds hlen
  exact ⟨_, rfl, law_post laid_try hW' rfl clampCapacity_fit hA hV hbe (t := 4) (by kernel_rfl) (by kernel_rfl) (by rw [hgs]; exact e1) (by rw [hgs]; exact e2) (by rw [hgs]; exact e3) hb⟩

theorem clampCapacity_k0 : (Rows.clampCapacityRow.wf (OpenSpec.ofChange Rows.clampCapacitySpec)) = true := by kernel_rfl
theorem clampCapacity_k1 : (laidOutB Try.prog) = true := by kernel_rfl
theorem clampCapacity_k2 : (mapsRowed Try.prog) = true := by kernel_rfl
theorem clampCapacity_k3 : (Try.f6.params.all (Try.prog.readableRec ·)) = true := by kernel_rfl
theorem clampCapacity_k4 : (namedTie Try.prog Rows.clampCapacityRow.named Rows.clampCapacitySpec.vars) = true := by kernel_rfl
theorem clampCapacity_k5 : ((Rows.clampCapacityRow.stops == [])) = true := by kernel_rfl
theorem clampCapacity_k6 : ((Try.prog.stops == [])) = true := by kernel_rfl
theorem clampCapacity_k7 : ((Rows.clampCapacityRow.knobs == [])) = true := by kernel_rfl
theorem clampCapacity_k8 : ((Try.prog.stopKnobs == [])) = true := by kernel_rfl
theorem clampCapacity_k9 : ((Rows.clampCapacityRow.inPlace == Try.prog.inPlace 6)) = true := by kernel_rfl
theorem clampCapacity_k10 : ((Rows.clampCapacityRow.unfollowed == Try.prog.unfollowed 6)) = true := by kernel_rfl
theorem clampCapacity_k11 : ((Rows.clampCapacityRow.recurses == Try.prog.recurses 6)) = true := by kernel_rfl
theorem clampCapacity_k12 : ((Rows.clampCapacityRow.named == Try.prog.varsNamed 6)) = true := by kernel_rfl
theorem clampCapacity_k13 : ((Rows.clampCapacityRow.maps == (Try.f6.params.toList ++ Rows.clampCapacitySpec.plain.varTypes Try.prog).any (Try.prog.mapsRec ·))) = true := by kernel_rfl
theorem clampCapacity_k14 : ((Rows.clampCapacityRow.ifaces == (Try.f6.params.toList ++ Rows.clampCapacitySpec.plain.varTypes Try.prog).any (Try.prog.ifacesRec ·))) = true := by kernel_rfl
theorem clampCapacity_k15 : ((Rows.clampCapacityRow.mapsOut == Try.prog.mapsAmong Try.f6.resultTypes.toList)) = true := by kernel_rfl
theorem clampCapacity_k16 : ((Rows.clampCapacityRow.loops == (Try.f6.params.toList ++ Rows.clampCapacitySpec.plain.varTypes Try.prog).any (Try.prog.loopsFrom ·))) = true := by kernel_rfl
theorem clampCapacity_k17 : ((Rows.clampCapacityRow.wideKeys == (Try.f6.params.toList ++ Rows.clampCapacitySpec.plain.varTypes Try.prog ++ Try.f6.resultTypes.toList).any (Try.prog.wideKeysFrom ·))) = true := by kernel_rfl
theorem clampCapacity_k18 : (Rows.clampCapacitySpec.vars.all (Try.prog.varReadable ·)) = true := by kernel_rfl
theorem clampCapacity_k19 : (Try.f6.resultTypes.all (fun t => Try.prog.readableRec t && decide (t < Try.prog.types.size))) = true := by kernel_rfl
theorem clampCapacity_k20 : ((Rows.clampCapacityRow.ifacesOut == Try.f6.resultTypes.toList.any (Try.prog.ifacesRec ·))) = true := by kernel_rfl
theorem clampCapacity_k21 : ((Rows.clampCapacityRow.loopsOut == Try.f6.resultTypes.toList.any (Try.prog.loopsFrom ·))) = true := by kernel_rfl
theorem clampCapacity_k22 : ((Rows.clampCapacityRow.plainKeys == Try.prog.plainKeys)) = true := by kernel_rfl
theorem clampCapacity_k23 : (Rows.clampCapacityRow.shortTexts.isNone) = true := by kernel_rfl
theorem clampCapacity_k24 : (Try.prog.stopsHeard) = true := by kernel_rfl
theorem clampCapacity_k25 : (Try.prog.mayEnter) = true := by exact try_mayEnter
theorem clampCapacity_k26 : ((Rows.clampCapacityRow.lifted == Try.prog.liftsFinal)) = true := by rw [try_lifts]; kernel_rfl
theorem clampCapacity_k27 : ((Try.prog.make == some Rows.clampCapacityRow.make)) = true := by rw [try_make]; kernel_rfl
theorem clampCapacity_k28 : ((Rows.clampCapacityRow.kinds == (if Rows.clampCapacityRow.domain.isEmpty then [] else Try.f6.params.toList.map fun t => match Try.prog.underlying t with | some (.int k) => some k | _ => none))) = true := by kernel_rfl
theorem clampCapacity_k29 : ((Rows.clampCapacityRow.pinned == Rows.clampCapacityRow.pinnedBy)) = true := by kernel_rfl
theorem clampCapacity_k30 : ((Rows.clampCapacityRow.veiled == (Try.f6.params.toList ++ Rows.clampCapacitySpec.plain.varTypes Try.prog ++ Try.f6.resultTypes.toList).any (Try.prog.veiledRec ·))) = true := by kernel_rfl
theorem clampCapacity_k31 : (Rows.clampCapacityRow.veiledFits Try.prog Try.f6.params.toList (Try.f6.params.toList ++ Rows.clampCapacitySpec.plain.varTypes Try.prog ++ Try.f6.resultTypes.toList)) = true := by kernel_rfl
set_option maxRecDepth 100000 in
theorem clampCapacity_closed : joinedFacts Try.prog 6 Try.f6 Rows.clampCapacitySpec Rows.clampCapacityRow = true := by
  unfold joinedFacts
  exact and_mk (and_mk (and_mk (and_mk (and_mk (and_mk (and_mk (and_mk (and_mk (and_mk (and_mk (and_mk (and_mk (and_mk (and_mk (and_mk (and_mk (and_mk (and_mk (and_mk (and_mk (and_mk (and_mk (and_mk (and_mk (and_mk (and_mk (and_mk (and_mk (and_mk (and_mk (clampCapacity_k0) clampCapacity_k1) clampCapacity_k2) clampCapacity_k3) clampCapacity_k4) clampCapacity_k5) clampCapacity_k6) clampCapacity_k7) clampCapacity_k8) clampCapacity_k9) clampCapacity_k10) clampCapacity_k11) clampCapacity_k12) clampCapacity_k13) clampCapacity_k14) clampCapacity_k15) clampCapacity_k16) clampCapacity_k17) clampCapacity_k18) clampCapacity_k19) clampCapacity_k20) clampCapacity_k21) clampCapacity_k22) clampCapacity_k23) clampCapacity_k24) clampCapacity_k25) clampCapacity_k26) clampCapacity_k27) clampCapacity_k28) clampCapacity_k29) clampCapacity_k30) clampCapacity_k31

theorem clampCapacity_holds : Rows.ClampCapacitySaid :=
  OpenClaim.holds_of_wide 6 Try.f6 rfl rfl rfl rfl rfl rfl rfl ⟨rfl, rfl, rfl, rfl, rfl⟩ rfl rfl rfl rfl rfl (by kernel_rfl) Try.func6 clampCapacity_closed
    (of_decide_eq_true (by kernel_rfl)) (by unfold Func.isWrapper; first | (rw [if_pos (by decide +kernel)]; kernel_rfl) | (rw [if_neg (by decide +kernel)]; exact ⟨rfl, rfl⟩))
    (fun os started H enc _ => clampCapacity_lifted os started H enc)

end Go.Proofs.Ytcljahgcdbohaaa
