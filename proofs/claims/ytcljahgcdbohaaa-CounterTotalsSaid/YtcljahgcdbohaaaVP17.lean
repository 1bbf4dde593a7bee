/- CounterTotals holds: for every input the call of the law returns true, and each argument reads afterwards as it read before. No conditions. -/
import Derived.Test.YtcljahgcdbohaaaRows
import Derived.Test.YtcljahgcdbohaaaVSeat
import Derived.Test.YtcljahgcdbohaaaVM5
import Derived.Test.YtcljahgcdbohaaaVHead
import Derived.ProofKit
set_option linter.unusedSimpArgs false
set_option linter.unusedVariables false
namespace Go.Proofs.Ytcljahgcdbohaaa
open Go.ChangeShapes Go.WideShapes Go.ChangeAt Go.RowKit Go.V

theorem counterTotals_fit : Try.f17.params.toList.all (fitB Try.prog) = true := by kernel_rfl
theorem counterTotals_u22 : Try.prog.underlying 22 = some (.slice 3) := by kernel_rfl
theorem counterTotals_u3 : Try.prog.underlying 3 = some (.int .i64) := by kernel_rfl

theorem counterTotals_call : ∀ us : List VVal, us.length = Try.f17.params.toList.length → (∀ (i : Nat) (t : TypeId) (u : VVal), Try.f17.params.toList[i]? = some t → us[i]? = some u → Fit Try.prog t u) → V 17 us [] = some (.p (.bool true), []) := by
  intro us hlen hfit
  rw [Try.params17] at hlen hfit
  match us, hlen with
  | [x0], _ =>
    obtain ⟨a0, rfl, w0⟩ := (hfit 0 22 x0 rfl rfl).isInts counterTotals_u22 counterTotals_u3
    exact counterTotals_eq a0

set_option maxRecDepth 100000 in
theorem counterTotals_lifted (os : Os) (started : os.Started) (H : Type) (enc : TypeId × Value → H) :
    ReturnsInHanded {} Try.checked os 17 .any (Rows.counterTotalsSpec.pre6 enc Try.prog Try.f17 Rows.counterTotalsRow.domain false) (Rows.counterTotalsSpec.post enc Try.prog Try.f17 false true false false) := by
  refine returnsInHanded_of_change (C := Try.checked) own_try started (by kernel_rfl) Try.func17
    (ChangeSpec.witness6 (enc := enc) (C := Try.checked) false ⟨#[], #[.slice none 0 0], []⟩ 8 (by kernel_rfl) (by kernel_rfl) (by kernel_rfl) (by kernel_rfl)) ?_
  intro W base args ds gs before hval0 hW _ _
  have hval : ∀ (j : Nat) t v, Try.f17.params[j]? = some t → args[j]? = some v → Value.okWide Try.prog W .any base t v := hval0
  have hW' := hW
  obtain ⟨p, q, hA0, hV, hbe, _, _⟩ := hW
  have hA : DataW.TrodAll enc Try.prog W 0 (fun _ => true) true Try.f17.params.toList args.toList ds p := hA0
  refine (law_calls V_sound counterTotals_fit (fun j t v ht hv => hval j t v (by simpa using ht) hv) hA counterTotals_call).mono fun e W' ⟨he, hb⟩ => ?_
  subst he
  have hlen := trodAll_len hA
  rw [Try.params17] at hlen
  obtain ⟨hgs, _⟩ := trodVars_none hV
  have hfn : ∀ ds : List (DataW H), ds.length = 1 → (Rows.counterTotalsSpec.fn H (ds ++ [])).results = [.lit (.bool true)] ∧ (Rows.counterTotalsSpec.fn H (ds ++ [])).args = ds ∧ (Rows.counterTotalsSpec.fn H (ds ++ [])).vars = [] := by
    intro ds hl
    match ds, hl with
    | [_], _ => exact ⟨rfl, rfl, rfl⟩
  obtain ⟨e1, e2, e3⟩ := hfn ds hlen
  exact ⟨_, rfl, law_post laid_try hW' rfl counterTotals_fit hA hV hbe (t := 4) (by kernel_rfl) (by kernel_rfl) (by rw [hgs]; exact e1) (by rw [hgs]; exact e2) (by rw [hgs]; exact e3) hb⟩

theorem counterTotals_k0 : (Rows.counterTotalsRow.wf (OpenSpec.ofChange Rows.counterTotalsSpec)) = true := by kernel_rfl
theorem counterTotals_k1 : (laidOutB Try.prog) = true := by kernel_rfl
theorem counterTotals_k2 : (mapsRowed Try.prog) = true := by kernel_rfl
theorem counterTotals_k3 : (Try.f17.params.all (Try.prog.readableRec ·)) = true := by kernel_rfl
theorem counterTotals_k4 : (namedTie Try.prog Rows.counterTotalsRow.named Rows.counterTotalsSpec.vars) = true := by kernel_rfl
theorem counterTotals_k5 : ((Rows.counterTotalsRow.stops == [])) = true := by kernel_rfl
theorem counterTotals_k6 : ((Try.prog.stops == [])) = true := by kernel_rfl
theorem counterTotals_k7 : ((Rows.counterTotalsRow.knobs == [])) = true := by kernel_rfl
theorem counterTotals_k8 : ((Try.prog.stopKnobs == [])) = true := by kernel_rfl
theorem counterTotals_k9 : ((Rows.counterTotalsRow.inPlace == Try.prog.inPlace 17)) = true := by kernel_rfl
theorem counterTotals_k10 : ((Rows.counterTotalsRow.unfollowed == Try.prog.unfollowed 17)) = true := by kernel_rfl
theorem counterTotals_k11 : ((Rows.counterTotalsRow.recurses == Try.prog.recurses 17)) = true := by kernel_rfl
theorem counterTotals_k12 : ((Rows.counterTotalsRow.named == Try.prog.varsNamed 17)) = true := by kernel_rfl
theorem counterTotals_k13 : ((Rows.counterTotalsRow.maps == (Try.f17.params.toList ++ Rows.counterTotalsSpec.plain.varTypes Try.prog).any (Try.prog.mapsRec ·))) = true := by kernel_rfl
theorem counterTotals_k14 : ((Rows.counterTotalsRow.ifaces == (Try.f17.params.toList ++ Rows.counterTotalsSpec.plain.varTypes Try.prog).any (Try.prog.ifacesRec ·))) = true := by kernel_rfl
theorem counterTotals_k15 : ((Rows.counterTotalsRow.mapsOut == Try.prog.mapsAmong Try.f17.resultTypes.toList)) = true := by kernel_rfl
theorem counterTotals_k16 : ((Rows.counterTotalsRow.loops == (Try.f17.params.toList ++ Rows.counterTotalsSpec.plain.varTypes Try.prog).any (Try.prog.loopsFrom ·))) = true := by kernel_rfl
theorem counterTotals_k17 : ((Rows.counterTotalsRow.wideKeys == (Try.f17.params.toList ++ Rows.counterTotalsSpec.plain.varTypes Try.prog ++ Try.f17.resultTypes.toList).any (Try.prog.wideKeysFrom ·))) = true := by kernel_rfl
theorem counterTotals_k18 : (Rows.counterTotalsSpec.vars.all (Try.prog.varReadable ·)) = true := by kernel_rfl
theorem counterTotals_k19 : (Try.f17.resultTypes.all (fun t => Try.prog.readableRec t && decide (t < Try.prog.types.size))) = true := by kernel_rfl
theorem counterTotals_k20 : ((Rows.counterTotalsRow.ifacesOut == Try.f17.resultTypes.toList.any (Try.prog.ifacesRec ·))) = true := by kernel_rfl
theorem counterTotals_k21 : ((Rows.counterTotalsRow.loopsOut == Try.f17.resultTypes.toList.any (Try.prog.loopsFrom ·))) = true := by kernel_rfl
theorem counterTotals_k22 : ((Rows.counterTotalsRow.plainKeys == Try.prog.plainKeys)) = true := by kernel_rfl
theorem counterTotals_k23 : (Rows.counterTotalsRow.shortTexts.isNone) = true := by kernel_rfl
theorem counterTotals_k24 : (Try.prog.stopsHeard) = true := by kernel_rfl
theorem counterTotals_k25 : (Try.prog.mayEnter) = true := by exact try_mayEnter
theorem counterTotals_k26 : ((Rows.counterTotalsRow.lifted == Try.prog.liftsFinal)) = true := by rw [try_lifts]; kernel_rfl
theorem counterTotals_k27 : ((Try.prog.make == some Rows.counterTotalsRow.make)) = true := by rw [try_make]; kernel_rfl
theorem counterTotals_k28 : ((Rows.counterTotalsRow.kinds == (if Rows.counterTotalsRow.domain.isEmpty then [] else Try.f17.params.toList.map fun t => match Try.prog.underlying t with | some (.int k) => some k | _ => none))) = true := by kernel_rfl
theorem counterTotals_k29 : ((Rows.counterTotalsRow.pinned == Rows.counterTotalsRow.pinnedBy)) = true := by kernel_rfl
theorem counterTotals_k30 : ((Rows.counterTotalsRow.veiled == (Try.f17.params.toList ++ Rows.counterTotalsSpec.plain.varTypes Try.prog ++ Try.f17.resultTypes.toList).any (Try.prog.veiledRec ·))) = true := by kernel_rfl
theorem counterTotals_k31 : (Rows.counterTotalsRow.veiledFits Try.prog Try.f17.params.toList (Try.f17.params.toList ++ Rows.counterTotalsSpec.plain.varTypes Try.prog ++ Try.f17.resultTypes.toList)) = true := by kernel_rfl
set_option maxRecDepth 100000 in
theorem counterTotals_closed : joinedFacts Try.prog 17 Try.f17 Rows.counterTotalsSpec Rows.counterTotalsRow = true := by
  unfold joinedFacts
  exact and_mk (and_mk (and_mk (and_mk (and_mk (and_mk (and_mk (and_mk (and_mk (and_mk (and_mk (and_mk (and_mk (and_mk (and_mk (and_mk (and_mk (and_mk (and_mk (and_mk (and_mk (and_mk (and_mk (and_mk (and_mk (and_mk (and_mk (and_mk (and_mk (and_mk (and_mk (counterTotals_k0) counterTotals_k1) counterTotals_k2) counterTotals_k3) counterTotals_k4) counterTotals_k5) counterTotals_k6) counterTotals_k7) counterTotals_k8) counterTotals_k9) counterTotals_k10) counterTotals_k11) counterTotals_k12) counterTotals_k13) counterTotals_k14) counterTotals_k15) counterTotals_k16) counterTotals_k17) counterTotals_k18) counterTotals_k19) counterTotals_k20) counterTotals_k21) counterTotals_k22) counterTotals_k23) counterTotals_k24) counterTotals_k25) counterTotals_k26) counterTotals_k27) counterTotals_k28) counterTotals_k29) counterTotals_k30) counterTotals_k31

theorem counterTotals_holds : Rows.CounterTotalsSaid :=
  OpenClaim.holds_of_wide 17 Try.f17 rfl rfl rfl rfl rfl rfl rfl ⟨rfl, rfl, rfl, rfl, rfl⟩ rfl rfl rfl rfl rfl (by kernel_rfl) Try.func17 counterTotals_closed
    (of_decide_eq_true (by kernel_rfl)) (by unfold Func.isWrapper; first | (rw [if_pos (by decide +kernel)]; kernel_rfl) | (rw [if_neg (by decide +kernel)]; exact ⟨rfl, rfl⟩))
    (fun os started H enc _ => counterTotals_lifted os started H enc)

end Go.Proofs.Ytcljahgcdbohaaa

