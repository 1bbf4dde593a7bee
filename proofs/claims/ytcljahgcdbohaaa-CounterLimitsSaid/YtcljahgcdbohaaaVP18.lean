/- CounterLimits holds: for every input the call of the law returns true, and each argument reads afterwards as it read before. No conditions. -/
import Derived.Test.YtcljahgcdbohaaaRows
import Derived.Test.YtcljahgcdbohaaaVSeat
import Derived.Test.YtcljahgcdbohaaaVM7
import Derived.Test.YtcljahgcdbohaaaVHead
import Derived.ProofKit
set_option linter.unusedSimpArgs false
set_option linter.unusedVariables false
namespace Go.Proofs.Ytcljahgcdbohaaa
open Go.ChangeShapes Go.WideShapes Go.ChangeAt Go.RowKit Go.V

theorem counterLimits_fit : Try.f18.params.toList.all (fitB Try.prog) = true := by kernel_rfl
theorem counterLimits_u22 : Try.prog.underlying 22 = some (.slice 3) := by kernel_rfl
theorem counterLimits_u3 : Try.prog.underlying 3 = some (.int .i64) := by kernel_rfl

theorem counterLimits_call : ∀ us : List VVal, us.length = Try.f18.params.toList.length → (∀ (i : Nat) (t : TypeId) (u : VVal), Try.f18.params.toList[i]? = some t → us[i]? = some u → Fit Try.prog t u) → V 18 us [] = some (.p (.bool true), []) := by
  intro us hlen hfit
  rw [Try.params18] at hlen hfit
  match us, hlen with
  | [x0], _ =>
    obtain ⟨a0, rfl, w0⟩ := (hfit 0 22 x0 rfl rfl).isInts counterLimits_u22 counterLimits_u3
    exact counterLimits_eq a0

set_option maxRecDepth 100000 in
theorem counterLimits_lifted (os : Os) (started : os.Started) (H : Type) (enc : TypeId × Value → H) :
    ReturnsInHanded {} Try.checked os 18 .any (Rows.counterLimitsSpec.pre6 enc Try.prog Try.f18 Rows.counterLimitsRow.domain false) (Rows.counterLimitsSpec.post enc Try.prog Try.f18 false true false false) := by
  refine returnsInHanded_of_change (C := Try.checked) own_try started (by kernel_rfl) Try.func18
    (ChangeSpec.witness6 (enc := enc) (C := Try.checked) false ⟨#[], #[.slice none 0 0], []⟩ 8 (by kernel_rfl) (by kernel_rfl) (by kernel_rfl) (by kernel_rfl)) ?_
  intro W base args ds gs before hval0 hW _ _
  have hval : ∀ (j : Nat) t v, Try.f18.params[j]? = some t → args[j]? = some v → Value.okWide Try.prog W .any base t v := hval0
  have hW' := hW
  obtain ⟨p, q, hA0, hV, hbe, _, _⟩ := hW
  have hA : DataW.TrodAll enc Try.prog W 0 (fun _ => true) true Try.f18.params.toList args.toList ds p := hA0
  refine (law_calls V_sound counterLimits_fit (fun j t v ht hv => hval j t v (by simpa using ht) hv) hA counterLimits_call).mono fun e W' ⟨he, hb⟩ => ?_
  subst he
  have hlen := trodAll_len hA
  rw [Try.params18] at hlen
  obtain ⟨hgs, _⟩ := trodVars_none hV
  have hfn : ∀ ds : List (DataW H), ds.length = 1 → (Rows.counterLimitsSpec.fn H (ds ++ [])).results = [.lit (.bool true)] ∧ (Rows.counterLimitsSpec.fn H (ds ++ [])).args = ds ∧ (Rows.counterLimitsSpec.fn H (ds ++ [])).vars = [] := by
    intro ds hl
    match ds, hl with
    | [_], _ => exact ⟨rfl, rfl, rfl⟩
  obtain ⟨e1, e2, e3⟩ := hfn ds hlen
  exact ⟨_, rfl, law_post laid_try hW' rfl counterLimits_fit hA hV hbe (t := 4) (by kernel_rfl) (by kernel_rfl) (by rw [hgs]; exact e1) (by rw [hgs]; exact e2) (by rw [hgs]; exact e3) hb⟩

theorem counterLimits_k0 : (Rows.counterLimitsRow.wf (OpenSpec.ofChange Rows.counterLimitsSpec)) = true := by kernel_rfl
theorem counterLimits_k1 : (laidOutB Try.prog) = true := by kernel_rfl
theorem counterLimits_k2 : (mapsRowed Try.prog) = true := by kernel_rfl
theorem counterLimits_k3 : (Try.f18.params.all (Try.prog.readableRec ·)) = true := by kernel_rfl
theorem counterLimits_k4 : (namedTie Try.prog Rows.counterLimitsRow.named Rows.counterLimitsSpec.vars) = true := by kernel_rfl
theorem counterLimits_k5 : ((Rows.counterLimitsRow.stops == [])) = true := by kernel_rfl
theorem counterLimits_k6 : ((Try.prog.stops == [])) = true := by kernel_rfl
theorem counterLimits_k7 : ((Rows.counterLimitsRow.knobs == [])) = true := by kernel_rfl
theorem counterLimits_k8 : ((Try.prog.stopKnobs == [])) = true := by kernel_rfl
theorem counterLimits_k9 : ((Rows.counterLimitsRow.inPlace == Try.prog.inPlace 18)) = true := by kernel_rfl
theorem counterLimits_k10 : ((Rows.counterLimitsRow.unfollowed == Try.prog.unfollowed 18)) = true := by kernel_rfl
theorem counterLimits_k11 : ((Rows.counterLimitsRow.recurses == Try.prog.recurses 18)) = true := by kernel_rfl
theorem counterLimits_k12 : ((Rows.counterLimitsRow.named == Try.prog.varsNamed 18)) = true := by kernel_rfl
theorem counterLimits_k13 : ((Rows.counterLimitsRow.maps == (Try.f18.params.toList ++ Rows.counterLimitsSpec.plain.varTypes Try.prog).any (Try.prog.mapsRec ·))) = true := by kernel_rfl
theorem counterLimits_k14 : ((Rows.counterLimitsRow.ifaces == (Try.f18.params.toList ++ Rows.counterLimitsSpec.plain.varTypes Try.prog).any (Try.prog.ifacesRec ·))) = true := by kernel_rfl
theorem counterLimits_k15 : ((Rows.counterLimitsRow.mapsOut == Try.prog.mapsAmong Try.f18.resultTypes.toList)) = true := by kernel_rfl
theorem counterLimits_k16 : ((Rows.counterLimitsRow.loops == (Try.f18.params.toList ++ Rows.counterLimitsSpec.plain.varTypes Try.prog).any (Try.prog.loopsFrom ·))) = true := by kernel_rfl
theorem counterLimits_k17 : ((Rows.counterLimitsRow.wideKeys == (Try.f18.params.toList ++ Rows.counterLimitsSpec.plain.varTypes Try.prog ++ Try.f18.resultTypes.toList).any (Try.prog.wideKeysFrom ·))) = true := by kernel_rfl
theorem counterLimits_k18 : (Rows.counterLimitsSpec.vars.all (Try.prog.varReadable ·)) = true := by kernel_rfl
theorem counterLimits_k19 : (Try.f18.resultTypes.all (fun t => Try.prog.readableRec t && decide (t < Try.prog.types.size))) = true := by kernel_rfl
theorem counterLimits_k20 : ((Rows.counterLimitsRow.ifacesOut == Try.f18.resultTypes.toList.any (Try.prog.ifacesRec ·))) = true := by kernel_rfl
theorem counterLimits_k21 : ((Rows.counterLimitsRow.loopsOut == Try.f18.resultTypes.toList.any (Try.prog.loopsFrom ·))) = true := by kernel_rfl
theorem counterLimits_k22 : ((Rows.counterLimitsRow.plainKeys == Try.prog.plainKeys)) = true := by kernel_rfl
theorem counterLimits_k23 : (Rows.counterLimitsRow.shortTexts.isNone) = true := by kernel_rfl
theorem counterLimits_k24 : (Try.prog.stopsHeard) = true := by kernel_rfl
theorem counterLimits_k25 : (Try.prog.mayEnter) = true := by exact try_mayEnter
theorem counterLimits_k26 : ((Rows.counterLimitsRow.lifted == Try.prog.liftsFinal)) = true := by rw [try_lifts]; kernel_rfl
theorem counterLimits_k27 : ((Try.prog.make == some Rows.counterLimitsRow.make)) = true := by rw [try_make]; kernel_rfl
theorem counterLimits_k28 : ((Rows.counterLimitsRow.kinds == (if Rows.counterLimitsRow.domain.isEmpty then [] else Try.f18.params.toList.map fun t => match Try.prog.underlying t with | some (.int k) => some k | _ => none))) = true := by kernel_rfl
theorem counterLimits_k29 : ((Rows.counterLimitsRow.pinned == Rows.counterLimitsRow.pinnedBy)) = true := by kernel_rfl
theorem counterLimits_k30 : ((Rows.counterLimitsRow.veiled == (Try.f18.params.toList ++ Rows.counterLimitsSpec.plain.varTypes Try.prog ++ Try.f18.resultTypes.toList).any (Try.prog.veiledRec ·))) = true := by kernel_rfl
theorem counterLimits_k31 : (Rows.counterLimitsRow.veiledFits Try.prog Try.f18.params.toList (Try.f18.params.toList ++ Rows.counterLimitsSpec.plain.varTypes Try.prog ++ Try.f18.resultTypes.toList)) = true := by kernel_rfl
set_option maxRecDepth 100000 in
theorem counterLimits_closed : joinedFacts Try.prog 18 Try.f18 Rows.counterLimitsSpec Rows.counterLimitsRow = true := by
  unfold joinedFacts
  exact and_mk (and_mk (and_mk (and_mk (and_mk (and_mk (and_mk (and_mk (and_mk (and_mk (and_mk (and_mk (and_mk (and_mk (and_mk (and_mk (and_mk (and_mk (and_mk (and_mk (and_mk (and_mk (and_mk (and_mk (and_mk (and_mk (and_mk (and_mk (and_mk (and_mk (and_mk (counterLimits_k0) counterLimits_k1) counterLimits_k2) counterLimits_k3) counterLimits_k4) counterLimits_k5) counterLimits_k6) counterLimits_k7) counterLimits_k8) counterLimits_k9) counterLimits_k10) counterLimits_k11) counterLimits_k12) counterLimits_k13) counterLimits_k14) counterLimits_k15) counterLimits_k16) counterLimits_k17) counterLimits_k18) counterLimits_k19) counterLimits_k20) counterLimits_k21) counterLimits_k22) counterLimits_k23) counterLimits_k24) counterLimits_k25) counterLimits_k26) counterLimits_k27) counterLimits_k28) counterLimits_k29) counterLimits_k30) counterLimits_k31

theorem counterLimits_holds : Rows.CounterLimitsSaid :=
  OpenClaim.holds_of_wide 18 Try.f18 rfl rfl rfl rfl rfl rfl rfl ⟨rfl, rfl, rfl, rfl, rfl⟩ rfl rfl rfl rfl rfl (by kernel_rfl) Try.func18 counterLimits_closed
    (of_decide_eq_true (by kernel_rfl)) (by unfold Func.isWrapper; first | (rw [if_pos (by decide +kernel)]; kernel_rfl) | (rw [if_neg (by decide +kernel)]; exact ⟨rfl, rfl⟩))
    (fun os started H enc _ => counterLimits_lifted os started H enc)

end Go.Proofs.Ytcljahgcdbohaaa

