/- CounterSums holds: for every input the call of the law returns true, and each argument reads afterwards as it read before. No conditions. -/
import Derived.Test.YtcljahgcdbohaaaRows
import Derived.Test.YtcljahgcdbohaaaVSeat
import Derived.Test.YtcljahgcdbohaaaVM1
import Derived.Test.YtcljahgcdbohaaaVHead
import Derived.ProofKit
set_option linter.unusedSimpArgs false
set_option linter.unusedVariables false
namespace Go.Proofs.Ytcljahgcdbohaaa
open Go.ChangeShapes Go.WideShapes Go.ChangeAt Go.RowKit Go.V

theorem counterSums_fit : Try.f12.params.toList.all (fitB Try.prog) = true := by kernel_rfl
theorem counterSums_u22 : Try.prog.underlying 22 = some (.slice 3) := by kernel_rfl
theorem counterSums_u3 : Try.prog.underlying 3 = some (.int .i64) := by kernel_rfl

theorem counterSums_call : ∀ us : List VVal, us.length = Try.f12.params.toList.length → (∀ (i : Nat) (t : TypeId) (u : VVal), Try.f12.params.toList[i]? = some t → us[i]? = some u → Fit Try.prog t u) → V 12 us [] = some (.p (.bool true), []) := by
  intro us hlen hfit
  rw [Try.params12] at hlen hfit
  match us, hlen with
  | [x0], _ =>
    obtain ⟨a0, rfl, w0⟩ := (hfit 0 22 x0 rfl rfl).isInts counterSums_u22 counterSums_u3
    exact counterSums_eq a0

set_option maxRecDepth 100000 in
theorem counterSums_lifted (os : Os) (started : os.Started) (H : Type) (enc : TypeId × Value → H) :
    ReturnsInHanded {} Try.checked os 12 .any (Rows.counterSumsSpec.pre6 enc Try.prog Try.f12 Rows.counterSumsRow.domain false) (Rows.counterSumsSpec.post enc Try.prog Try.f12 false true false false) := by
  refine returnsInHanded_of_change (C := Try.checked) own_try started (by kernel_rfl) Try.func12
    (ChangeSpec.witness6 (enc := enc) (C := Try.checked) false ⟨#[], #[.slice none 0 0], []⟩ 8 (by kernel_rfl) (by kernel_rfl) (by kernel_rfl) (by kernel_rfl)) ?_
  intro W base args ds gs before hval0 hW _ _
  have hval : ∀ (j : Nat) t v, Try.f12.params[j]? = some t → args[j]? = some v → Value.okWide Try.prog W .any base t v := hval0
  have hW' := hW
  obtain ⟨p, q, hA0, hV, hbe, _, _⟩ := hW
  have hA : DataW.TrodAll enc Try.prog W 0 (fun _ => true) true Try.f12.params.toList args.toList ds p := hA0
  refine (law_calls V_sound counterSums_fit (fun j t v ht hv => hval j t v (by simpa using ht) hv) hA counterSums_call).mono fun e W' ⟨he, hb⟩ => ?_
  subst he
  have hlen := trodAll_len hA
  rw [Try.params12] at hlen
  obtain ⟨hgs, _⟩ := trodVars_none hV
  have hfn : ∀ ds : List (DataW H), ds.length = 1 → (Rows.counterSumsSpec.fn H (ds ++ [])).results = [.lit (.bool true)] ∧ (Rows.counterSumsSpec.fn H (ds ++ [])).args = ds ∧ (Rows.counterSumsSpec.fn H (ds ++ [])).vars = [] := by
    intro ds hl
    match ds, hl with
    | [_], _ => exact ⟨rfl, rfl, rfl⟩
  obtain ⟨e1, e2, e3⟩ := hfn ds hlen
  exact ⟨_, rfl, law_post laid_try hW' rfl counterSums_fit hA hV hbe (t := 4) (by kernel_rfl) (by kernel_rfl) (by rw [hgs]; exact e1) (by rw [hgs]; exact e2) (by rw [hgs]; exact e3) hb⟩

theorem counterSums_k0 : (Rows.counterSumsRow.wf (OpenSpec.ofChange Rows.counterSumsSpec)) = true := by kernel_rfl
theorem counterSums_k1 : (laidOutB Try.prog) = true := by kernel_rfl
theorem counterSums_k2 : (mapsRowed Try.prog) = true := by kernel_rfl
theorem counterSums_k3 : (Try.f12.params.all (Try.prog.readableRec ·)) = true := by kernel_rfl
theorem counterSums_k4 : (namedTie Try.prog Rows.counterSumsRow.named Rows.counterSumsSpec.vars) = true := by kernel_rfl
theorem counterSums_k5 : ((Rows.counterSumsRow.stops == [])) = true := by kernel_rfl
theorem counterSums_k6 : ((Try.prog.stops == [])) = true := by kernel_rfl
theorem counterSums_k7 : ((Rows.counterSumsRow.knobs == [])) = true := by kernel_rfl
theorem counterSums_k8 : ((Try.prog.stopKnobs == [])) = true := by kernel_rfl
theorem counterSums_k9 : ((Rows.counterSumsRow.inPlace == Try.prog.inPlace 12)) = true := by kernel_rfl
theorem counterSums_k10 : ((Rows.counterSumsRow.unfollowed == Try.prog.unfollowed 12)) = true := by kernel_rfl
theorem counterSums_k11 : ((Rows.counterSumsRow.recurses == Try.prog.recurses 12)) = true := by kernel_rfl
theorem counterSums_k12 : ((Rows.counterSumsRow.named == Try.prog.varsNamed 12)) = true := by kernel_rfl
theorem counterSums_k13 : ((Rows.counterSumsRow.maps == (Try.f12.params.toList ++ Rows.counterSumsSpec.plain.varTypes Try.prog).any (Try.prog.mapsRec ·))) = true := by kernel_rfl
theorem counterSums_k14 : ((Rows.counterSumsRow.ifaces == (Try.f12.params.toList ++ Rows.counterSumsSpec.plain.varTypes Try.prog).any (Try.prog.ifacesRec ·))) = true := by kernel_rfl
theorem counterSums_k15 : ((Rows.counterSumsRow.mapsOut == Try.prog.mapsAmong Try.f12.resultTypes.toList)) = true := by kernel_rfl
theorem counterSums_k16 : ((Rows.counterSumsRow.loops == (Try.f12.params.toList ++ Rows.counterSumsSpec.plain.varTypes Try.prog).any (Try.prog.loopsFrom ·))) = true := by kernel_rfl
theorem counterSums_k17 : ((Rows.counterSumsRow.wideKeys == (Try.f12.params.toList ++ Rows.counterSumsSpec.plain.varTypes Try.prog ++ Try.f12.resultTypes.toList).any (Try.prog.wideKeysFrom ·))) = true := by kernel_rfl
theorem counterSums_k18 : (Rows.counterSumsSpec.vars.all (Try.prog.varReadable ·)) = true := by kernel_rfl
theorem counterSums_k19 : (Try.f12.resultTypes.all (fun t => Try.prog.readableRec t && decide (t < Try.prog.types.size))) = true := by kernel_rfl
theorem counterSums_k20 : ((Rows.counterSumsRow.ifacesOut == Try.f12.resultTypes.toList.any (Try.prog.ifacesRec ·))) = true := by kernel_rfl
theorem counterSums_k21 : ((Rows.counterSumsRow.loopsOut == Try.f12.resultTypes.toList.any (Try.prog.loopsFrom ·))) = true := by kernel_rfl
theorem counterSums_k22 : ((Rows.counterSumsRow.plainKeys == Try.prog.plainKeys)) = true := by kernel_rfl
theorem counterSums_k23 : (Rows.counterSumsRow.shortTexts.isNone) = true := by kernel_rfl
theorem counterSums_k24 : (Try.prog.stopsHeard) = true := by kernel_rfl
theorem counterSums_k25 : (Try.prog.mayEnter) = true := by exact try_mayEnter
theorem counterSums_k26 : ((Rows.counterSumsRow.lifted == Try.prog.liftsFinal)) = true := by rw [try_lifts]; kernel_rfl
theorem counterSums_k27 : ((Try.prog.make == some Rows.counterSumsRow.make)) = true := by rw [try_make]; kernel_rfl
theorem counterSums_k28 : ((Rows.counterSumsRow.kinds == (if Rows.counterSumsRow.domain.isEmpty then [] else Try.f12.params.toList.map fun t => match Try.prog.underlying t with | some (.int k) => some k | _ => none))) = true := by kernel_rfl
theorem counterSums_k29 : ((Rows.counterSumsRow.pinned == Rows.counterSumsRow.pinnedBy)) = true := by kernel_rfl
theorem counterSums_k30 : ((Rows.counterSumsRow.veiled == (Try.f12.params.toList ++ Rows.counterSumsSpec.plain.varTypes Try.prog ++ Try.f12.resultTypes.toList).any (Try.prog.veiledRec ·))) = true := by kernel_rfl
theorem counterSums_k31 : (Rows.counterSumsRow.veiledFits Try.prog Try.f12.params.toList (Try.f12.params.toList ++ Rows.counterSumsSpec.plain.varTypes Try.prog ++ Try.f12.resultTypes.toList)) = true := by kernel_rfl
set_option maxRecDepth 100000 in
theorem counterSums_closed : joinedFacts Try.prog 12 Try.f12 Rows.counterSumsSpec Rows.counterSumsRow = true := by
  unfold joinedFacts
  exact and_mk (and_mk (and_mk (and_mk (and_mk (and_mk (and_mk (and_mk (and_mk (and_mk (and_mk (and_mk (and_mk (and_mk (and_mk (and_mk (and_mk (and_mk (and_mk (and_mk (and_mk (and_mk (and_mk (and_mk (and_mk (and_mk (and_mk (and_mk (and_mk (and_mk (and_mk (counterSums_k0) counterSums_k1) counterSums_k2) counterSums_k3) counterSums_k4) counterSums_k5) counterSums_k6) counterSums_k7) counterSums_k8) counterSums_k9) counterSums_k10) counterSums_k11) counterSums_k12) counterSums_k13) counterSums_k14) counterSums_k15) counterSums_k16) counterSums_k17) counterSums_k18) counterSums_k19) counterSums_k20) counterSums_k21) counterSums_k22) counterSums_k23) counterSums_k24) counterSums_k25) counterSums_k26) counterSums_k27) counterSums_k28) counterSums_k29) counterSums_k30) counterSums_k31

theorem counterSums_holds : Rows.CounterSumsSaid :=
  OpenClaim.holds_of_wide 12 Try.f12 rfl rfl rfl rfl rfl rfl rfl ⟨rfl, rfl, rfl, rfl, rfl⟩ rfl rfl rfl rfl rfl (by kernel_rfl) Try.func12 counterSums_closed
    (of_decide_eq_true (by kernel_rfl)) (by unfold Func.isWrapper; first | (rw [if_pos (by decide +kernel)]; kernel_rfl) | (rw [if_neg (by decide +kernel)]; exact ⟨rfl, rfl⟩))
    (fun os started H enc _ => counterSums_lifted os started H enc)

end Go.Proofs.Ytcljahgcdbohaaa

