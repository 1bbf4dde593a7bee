/- ReclaimEmpties holds: for every input the call of the law returns true, and each argument reads afterwards as it read before. No conditions. -/
import Derived.Test.YtdmghfmdcfagcaaRows
import Derived.Test.YtdmghfmdcfagcaaVSeat
import Derived.Test.YtdmghfmdcfagcaaVR25
import Derived.Test.YtdmghfmdcfagcaaVHead
import Derived.ProofKit
set_option linter.unusedSimpArgs false
set_option linter.unusedVariables false
namespace Go.Proofs.Ytdmghfmdcfagcaa
open Go.ChangeShapes Go.WideShapes Go.ChangeAt Go.RowKit Go.V

theorem reclaimEmpties_fit : Try.f7.params.toList.all (fitB Try.prog) = true := by kernel_rfl
theorem reclaimEmpties_u22 : Try.prog.underlying 22 = some (.slice 3) := by kernel_rfl
theorem reclaimEmpties_u3 : Try.prog.underlying 3 = some (.int .i64) := by kernel_rfl

theorem reclaimEmpties_call : ∀ us : List VVal, us.length = Try.f7.params.toList.length → (∀ (i : Nat) (t : TypeId) (u : VVal), Try.f7.params.toList[i]? = some t → us[i]? = some u → Fit Try.prog t u) → V 7 us [] = some (.p (.bool true), []) := by
  intro us hlen hfit
  rw [Try.params7] at hlen hfit
  match us, hlen with
  | [x0], _ =>
    obtain ⟨a0, rfl, w0⟩ := (hfit 0 22 x0 rfl rfl).isInts reclaimEmpties_u22 reclaimEmpties_u3
    exact empties24_eq a0

set_option maxRecDepth 100000 in
theorem reclaimEmpties_lifted (os : Os) (started : os.Started) (H : Type) (enc : TypeId × Value → H) :
    ReturnsInHanded {} Try.checked os 7 .any (Rows.reclaimEmptiesSpec.pre6 enc Try.prog Try.f7 Rows.reclaimEmptiesRow.domain false) (Rows.reclaimEmptiesSpec.post enc Try.prog Try.f7 false true false false) := by
  refine returnsInHanded_of_change (C := Try.checked) own_try started (by kernel_rfl) Try.func7
    (ChangeSpec.witness6 (enc := enc) (C := Try.checked) false ⟨#[], #[.slice none 0 0], []⟩ 8 (by kernel_rfl) (by kernel_rfl) (by kernel_rfl) (by kernel_rfl)) ?_
  intro W base args ds gs before hval0 hW _ _
  have hval : ∀ (j : Nat) t v, Try.f7.params[j]? = some t → args[j]? = some v → Value.okWide Try.prog W .any base t v := hval0
  have hW' := hW
  obtain ⟨p, q, hA0, hV, hbe, _, _⟩ := hW
  have hA : DataW.TrodAll enc Try.prog W 0 (fun _ => true) true Try.f7.params.toList args.toList ds p := hA0
  refine (law_calls V_sound reclaimEmpties_fit (fun j t v ht hv => hval j t v (by simpa using ht) hv) hA reclaimEmpties_call).mono fun e W' ⟨he, hb⟩ => ?_
  subst he
  have hlen := trodAll_len hA
  rw [Try.params7] at hlen
  obtain ⟨hgs, _⟩ := trodVars_none hV
  have hfn : ∀ ds : List (DataW H), ds.length = 1 → (Rows.reclaimEmptiesSpec.fn H (ds ++ [])).results = [.lit (.bool true)] ∧ (Rows.reclaimEmptiesSpec.fn H (ds ++ [])).args = ds ∧ (Rows.reclaimEmptiesSpec.fn H (ds ++ [])).vars = [] := by
    intro ds hl
    match ds, hl with
    | [_], _ => exact ⟨rfl, rfl, rfl⟩
  obtain ⟨e1, e2, e3⟩ := hfn ds hlen
  exact ⟨_, rfl, law_post laid_try hW' rfl reclaimEmpties_fit hA hV hbe (t := 4) (by kernel_rfl) (by kernel_rfl) (by rw [hgs]; exact e1) (by rw [hgs]; exact e2) (by rw [hgs]; exact e3) hb⟩

theorem reclaimEmpties_k0 : (Rows.reclaimEmptiesRow.wf (OpenSpec.ofChange Rows.reclaimEmptiesSpec)) = true := by kernel_rfl
theorem reclaimEmpties_k1 : (laidOutB Try.prog) = true := by kernel_rfl
theorem reclaimEmpties_k2 : (mapsRowed Try.prog) = true := by kernel_rfl
theorem reclaimEmpties_k3 : (Try.f7.params.all (Try.prog.readableRec ·)) = true := by kernel_rfl
theorem reclaimEmpties_k4 : (namedTie Try.prog Rows.reclaimEmptiesRow.named Rows.reclaimEmptiesSpec.vars) = true := by kernel_rfl
theorem reclaimEmpties_k5 : ((Rows.reclaimEmptiesRow.stops == [])) = true := by kernel_rfl
theorem reclaimEmpties_k6 : ((Try.prog.stops == [])) = true := by kernel_rfl
theorem reclaimEmpties_k7 : ((Rows.reclaimEmptiesRow.knobs == [])) = true := by kernel_rfl
theorem reclaimEmpties_k8 : ((Try.prog.stopKnobs == [])) = true := by kernel_rfl
theorem reclaimEmpties_k9 : ((Rows.reclaimEmptiesRow.inPlace == Try.prog.inPlace 7)) = true := by kernel_rfl
theorem reclaimEmpties_k10 : ((Rows.reclaimEmptiesRow.unfollowed == Try.prog.unfollowed 7)) = true := by kernel_rfl
theorem reclaimEmpties_k11 : ((Rows.reclaimEmptiesRow.recurses == Try.prog.recurses 7)) = true := by kernel_rfl
theorem reclaimEmpties_k12 : ((Rows.reclaimEmptiesRow.named == Try.prog.varsNamed 7)) = true := by kernel_rfl
theorem reclaimEmpties_k13 : ((Rows.reclaimEmptiesRow.maps == (Try.f7.params.toList ++ Rows.reclaimEmptiesSpec.plain.varTypes Try.prog).any (Try.prog.mapsRec ·))) = true := by kernel_rfl
theorem reclaimEmpties_k14 : ((Rows.reclaimEmptiesRow.ifaces == (Try.f7.params.toList ++ Rows.reclaimEmptiesSpec.plain.varTypes Try.prog).any (Try.prog.ifacesRec ·))) = true := by kernel_rfl
theorem reclaimEmpties_k15 : ((Rows.reclaimEmptiesRow.mapsOut == Try.prog.mapsAmong Try.f7.resultTypes.toList)) = true := by kernel_rfl
theorem reclaimEmpties_k16 : ((Rows.reclaimEmptiesRow.loops == (Try.f7.params.toList ++ Rows.reclaimEmptiesSpec.plain.varTypes Try.prog).any (Try.prog.loopsFrom ·))) = true := by kernel_rfl
theorem reclaimEmpties_k17 : ((Rows.reclaimEmptiesRow.wideKeys == (Try.f7.params.toList ++ Rows.reclaimEmptiesSpec.plain.varTypes Try.prog ++ Try.f7.resultTypes.toList).any (Try.prog.wideKeysFrom ·))) = true := by kernel_rfl
theorem reclaimEmpties_k18 : (Rows.reclaimEmptiesSpec.vars.all (Try.prog.varReadable ·)) = true := by kernel_rfl
theorem reclaimEmpties_k19 : (Try.f7.resultTypes.all (fun t => Try.prog.readableRec t && decide (t < Try.prog.types.size))) = true := by kernel_rfl
theorem reclaimEmpties_k20 : ((Rows.reclaimEmptiesRow.ifacesOut == Try.f7.resultTypes.toList.any (Try.prog.ifacesRec ·))) = true := by kernel_rfl
theorem reclaimEmpties_k21 : ((Rows.reclaimEmptiesRow.loopsOut == Try.f7.resultTypes.toList.any (Try.prog.loopsFrom ·))) = true := by kernel_rfl
theorem reclaimEmpties_k22 : ((Rows.reclaimEmptiesRow.plainKeys == Try.prog.plainKeys)) = true := by kernel_rfl
theorem reclaimEmpties_k23 : (Rows.reclaimEmptiesRow.shortTexts.isNone) = true := by kernel_rfl
theorem reclaimEmpties_k24 : (Try.prog.stopsHeard) = true := by kernel_rfl
theorem reclaimEmpties_k25 : (Try.prog.mayEnter) = true := by exact try_mayEnter
theorem reclaimEmpties_k26 : ((Rows.reclaimEmptiesRow.lifted == Try.prog.liftsFinal)) = true := by rw [try_lifts]; kernel_rfl
theorem reclaimEmpties_k27 : ((Try.prog.make == some Rows.reclaimEmptiesRow.make)) = true := by rw [try_make]; kernel_rfl
theorem reclaimEmpties_k28 : ((Rows.reclaimEmptiesRow.kinds == (if Rows.reclaimEmptiesRow.domain.isEmpty then [] else Try.f7.params.toList.map fun t => match Try.prog.underlying t with | some (.int k) => some k | _ => none))) = true := by kernel_rfl
theorem reclaimEmpties_k29 : ((Rows.reclaimEmptiesRow.pinned == Rows.reclaimEmptiesRow.pinnedBy)) = true := by kernel_rfl
theorem reclaimEmpties_k30 : ((Rows.reclaimEmptiesRow.veiled == (Try.f7.params.toList ++ Rows.reclaimEmptiesSpec.plain.varTypes Try.prog ++ Try.f7.resultTypes.toList).any (Try.prog.veiledRec ·))) = true := by kernel_rfl
theorem reclaimEmpties_k31 : (Rows.reclaimEmptiesRow.veiledFits Try.prog Try.f7.params.toList (Try.f7.params.toList ++ Rows.reclaimEmptiesSpec.plain.varTypes Try.prog ++ Try.f7.resultTypes.toList)) = true := by kernel_rfl
set_option maxRecDepth 100000 in
theorem reclaimEmpties_closed : joinedFacts Try.prog 7 Try.f7 Rows.reclaimEmptiesSpec Rows.reclaimEmptiesRow = true := by
  unfold joinedFacts
  exact and_mk (and_mk (and_mk (and_mk (and_mk (and_mk (and_mk (and_mk (and_mk (and_mk (and_mk (and_mk (and_mk (and_mk (and_mk (and_mk (and_mk (and_mk (and_mk (and_mk (and_mk (and_mk (and_mk (and_mk (and_mk (and_mk (and_mk (and_mk (and_mk (and_mk (and_mk (reclaimEmpties_k0) reclaimEmpties_k1) reclaimEmpties_k2) reclaimEmpties_k3) reclaimEmpties_k4) reclaimEmpties_k5) reclaimEmpties_k6) reclaimEmpties_k7) reclaimEmpties_k8) reclaimEmpties_k9) reclaimEmpties_k10) reclaimEmpties_k11) reclaimEmpties_k12) reclaimEmpties_k13) reclaimEmpties_k14) reclaimEmpties_k15) reclaimEmpties_k16) reclaimEmpties_k17) reclaimEmpties_k18) reclaimEmpties_k19) reclaimEmpties_k20) reclaimEmpties_k21) reclaimEmpties_k22) reclaimEmpties_k23) reclaimEmpties_k24) reclaimEmpties_k25) reclaimEmpties_k26) reclaimEmpties_k27) reclaimEmpties_k28) reclaimEmpties_k29) reclaimEmpties_k30) reclaimEmpties_k31

theorem reclaimEmpties_holds : Rows.ReclaimEmptiesSaid :=
  OpenClaim.holds_of_wide 7 Try.f7 rfl rfl rfl rfl rfl rfl rfl ⟨rfl, rfl, rfl, rfl, rfl⟩ rfl rfl rfl rfl rfl (by kernel_rfl) Try.func7 reclaimEmpties_closed
    (of_decide_eq_true (by kernel_rfl)) (by unfold Func.isWrapper; first | (rw [if_pos (by decide +kernel)]; kernel_rfl) | (rw [if_neg (by decide +kernel)]; exact ⟨rfl, rfl⟩))
    (fun os started H enc _ => reclaimEmpties_lifted os started H enc)

end Go.Proofs.Ytdmghfmdcfagcaa

