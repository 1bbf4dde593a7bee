/- ReclaimBounds holds: for every input the call of the law returns true, and each argument reads afterwards as it read before. No conditions. -/
import Derived.Test.YtdmghfmdcfagcaaRows
import Derived.Test.YtdmghfmdcfagcaaVSeat
import Derived.Test.YtdmghfmdcfagcaaVR21
import Derived.Test.YtdmghfmdcfagcaaVHead
import Derived.ProofKit
set_option linter.unusedSimpArgs false
set_option linter.unusedVariables false
namespace Go.Proofs.Ytdmghfmdcfagcaa
open Go.ChangeShapes Go.WideShapes Go.ChangeAt Go.RowKit Go.V

theorem reclaimBounds_fit : Try.f5.params.toList.all (fitB Try.prog) = true := by kernel_rfl
theorem reclaimBounds_u22 : Try.prog.underlying 22 = some (.slice 3) := by kernel_rfl
theorem reclaimBounds_u3 : Try.prog.underlying 3 = some (.int .i64) := by kernel_rfl

theorem reclaimBounds_call : ∀ us : List VVal, us.length = Try.f5.params.toList.length → (∀ (i : Nat) (t : TypeId) (u : VVal), Try.f5.params.toList[i]? = some t → us[i]? = some u → Fit Try.prog t u) → V 5 us [] = some (.p (.bool true), []) := by
  intro us hlen hfit
  rw [Try.params5] at hlen hfit
  match us, hlen with
  | [x0, x1], _ =>
    obtain ⟨a0, rfl, w0⟩ := (hfit 0 22 x0 rfl rfl).isInts reclaimBounds_u22 reclaimBounds_u3
    obtain ⟨a1, rfl, w1⟩ := (hfit 1 3 x1 rfl rfl).isInt reclaimBounds_u3
    exact bounds24_eq a0 a1

set_option maxRecDepth 100000 in
theorem reclaimBounds_lifted (os : Os) (started : os.Started) (H : Type) (enc : TypeId × Value → H) :
    ReturnsInHanded {} Try.checked os 5 .any (Rows.reclaimBoundsSpec.pre6 enc Try.prog Try.f5 Rows.reclaimBoundsRow.domain false) (Rows.reclaimBoundsSpec.post enc Try.prog Try.f5 false true false false) := by
  refine returnsInHanded_of_change (C := Try.checked) own_try started (by kernel_rfl) Try.func5
    (ChangeSpec.witness6 (enc := enc) (C := Try.checked) false ⟨#[], #[.slice none 0 0, .int .i64 0], []⟩ 8 (by kernel_rfl) (by kernel_rfl) (by kernel_rfl) (by kernel_rfl)) ?_
  intro W base args ds gs before hval0 hW _ _
  have hval : ∀ (j : Nat) t v, Try.f5.params[j]? = some t → args[j]? = some v → Value.okWide Try.prog W .any base t v := hval0
  have hW' := hW
  obtain ⟨p, q, hA0, hV, hbe, _, _⟩ := hW
  have hA : DataW.TrodAll enc Try.prog W 0 (fun _ => true) true Try.f5.params.toList args.toList ds p := hA0
  refine (law_calls V_sound reclaimBounds_fit (fun j t v ht hv => hval j t v (by simpa using ht) hv) hA reclaimBounds_call).mono fun e W' ⟨he, hb⟩ => ?_
  subst he
  have hlen := trodAll_len hA
  rw [Try.params5] at hlen
  obtain ⟨hgs, _⟩ := trodVars_none hV
  have hfn : ∀ ds : List (DataW H), ds.length = 2 → (Rows.reclaimBoundsSpec.fn H (ds ++ [])).results = [.lit (.bool true)] ∧ (Rows.reclaimBoundsSpec.fn H (ds ++ [])).args = ds ∧ (Rows.reclaimBoundsSpec.fn H (ds ++ [])).vars = [] := by
    intro ds hl
    match ds, hl with
    | [_, _], _ => exact ⟨rfl, rfl, rfl⟩
  obtain ⟨e1, e2, e3⟩ := hfn ds hlen
  exact ⟨_, rfl, law_post laid_try hW' rfl reclaimBounds_fit hA hV hbe (t := 4) (by kernel_rfl) (by kernel_rfl) (by rw [hgs]; exact e1) (by rw [hgs]; exact e2) (by rw [hgs]; exact e3) hb⟩

theorem reclaimBounds_k0 : (Rows.reclaimBoundsRow.wf (OpenSpec.ofChange Rows.reclaimBoundsSpec)) = true := by kernel_rfl
theorem reclaimBounds_k1 : (laidOutB Try.prog) = true := by kernel_rfl
theorem reclaimBounds_k2 : (mapsRowed Try.prog) = true := by kernel_rfl
theorem reclaimBounds_k3 : (Try.f5.params.all (Try.prog.readableRec ·)) = true := by kernel_rfl
theorem reclaimBounds_k4 : (namedTie Try.prog Rows.reclaimBoundsRow.named Rows.reclaimBoundsSpec.vars) = true := by kernel_rfl
theorem reclaimBounds_k5 : ((Rows.reclaimBoundsRow.stops == [])) = true := by kernel_rfl
theorem reclaimBounds_k6 : ((Try.prog.stops == [])) = true := by kernel_rfl
theorem reclaimBounds_k7 : ((Rows.reclaimBoundsRow.knobs == [])) = true := by kernel_rfl
theorem reclaimBounds_k8 : ((Try.prog.stopKnobs == [])) = true := by kernel_rfl
theorem reclaimBounds_k9 : ((Rows.reclaimBoundsRow.inPlace == Try.prog.inPlace 5)) = true := by kernel_rfl
theorem reclaimBounds_k10 : ((Rows.reclaimBoundsRow.unfollowed == Try.prog.unfollowed 5)) = true := by kernel_rfl
theorem reclaimBounds_k11 : ((Rows.reclaimBoundsRow.recurses == Try.prog.recurses 5)) = true := by kernel_rfl
theorem reclaimBounds_k12 : ((Rows.reclaimBoundsRow.named == Try.prog.varsNamed 5)) = true := by kernel_rfl
theorem reclaimBounds_k13 : ((Rows.reclaimBoundsRow.maps == (Try.f5.params.toList ++ Rows.reclaimBoundsSpec.plain.varTypes Try.prog).any (Try.prog.mapsRec ·))) = true := by kernel_rfl
theorem reclaimBounds_k14 : ((Rows.reclaimBoundsRow.ifaces == (Try.f5.params.toList ++ Rows.reclaimBoundsSpec.plain.varTypes Try.prog).any (Try.prog.ifacesRec ·))) = true := by kernel_rfl
theorem reclaimBounds_k15 : ((Rows.reclaimBoundsRow.mapsOut == Try.prog.mapsAmong Try.f5.resultTypes.toList)) = true := by kernel_rfl
theorem reclaimBounds_k16 : ((Rows.reclaimBoundsRow.loops == (Try.f5.params.toList ++ Rows.reclaimBoundsSpec.plain.varTypes Try.prog).any (Try.prog.loopsFrom ·))) = true := by kernel_rfl
theorem reclaimBounds_k17 : ((Rows.reclaimBoundsRow.wideKeys == (Try.f5.params.toList ++ Rows.reclaimBoundsSpec.plain.varTypes Try.prog ++ Try.f5.resultTypes.toList).any (Try.prog.wideKeysFrom ·))) = true := by kernel_rfl
theorem reclaimBounds_k18 : (Rows.reclaimBoundsSpec.vars.all (Try.prog.varReadable ·)) = true := by kernel_rfl
theorem reclaimBounds_k19 : (Try.f5.resultTypes.all (fun t => Try.prog.readableRec t && decide (t < Try.prog.types.size))) = true := by kernel_rfl
theorem reclaimBounds_k20 : ((Rows.reclaimBoundsRow.ifacesOut == Try.f5.resultTypes.toList.any (Try.prog.ifacesRec ·))) = true := by kernel_rfl
theorem reclaimBounds_k21 : ((Rows.reclaimBoundsRow.loopsOut == Try.f5.resultTypes.toList.any (Try.prog.loopsFrom ·))) = true := by kernel_rfl
theorem reclaimBounds_k22 : ((Rows.reclaimBoundsRow.plainKeys == Try.prog.plainKeys)) = true := by kernel_rfl
theorem reclaimBounds_k23 : (Rows.reclaimBoundsRow.shortTexts.isNone) = true := by kernel_rfl
theorem reclaimBounds_k24 : (Try.prog.stopsHeard) = true := by kernel_rfl
theorem reclaimBounds_k25 : (Try.prog.mayEnter) = true := by exact try_mayEnter
theorem reclaimBounds_k26 : ((Rows.reclaimBoundsRow.lifted == Try.prog.liftsFinal)) = true := by rw [try_lifts]; kernel_rfl
theorem reclaimBounds_k27 : ((Try.prog.make == some Rows.reclaimBoundsRow.make)) = true := by rw [try_make]; kernel_rfl
theorem reclaimBounds_k28 : ((Rows.reclaimBoundsRow.kinds == (if Rows.reclaimBoundsRow.domain.isEmpty then [] else Try.f5.params.toList.map fun t => match Try.prog.underlying t with | some (.int k) => some k | _ => none))) = true := by kernel_rfl
theorem reclaimBounds_k29 : ((Rows.reclaimBoundsRow.pinned == Rows.reclaimBoundsRow.pinnedBy)) = true := by kernel_rfl
theorem reclaimBounds_k30 : ((Rows.reclaimBoundsRow.veiled == (Try.f5.params.toList ++ Rows.reclaimBoundsSpec.plain.varTypes Try.prog ++ Try.f5.resultTypes.toList).any (Try.prog.veiledRec ·))) = true := by kernel_rfl
theorem reclaimBounds_k31 : (Rows.reclaimBoundsRow.veiledFits Try.prog Try.f5.params.toList (Try.f5.params.toList ++ Rows.reclaimBoundsSpec.plain.varTypes Try.prog ++ Try.f5.resultTypes.toList)) = true := by kernel_rfl
set_option maxRecDepth 100000 in
theorem reclaimBounds_closed : joinedFacts Try.prog 5 Try.f5 Rows.reclaimBoundsSpec Rows.reclaimBoundsRow = true := by
  unfold joinedFacts
  exact and_mk (and_mk (and_mk (and_mk (and_mk (and_mk (and_mk (and_mk (and_mk (and_mk (and_mk (and_mk (and_mk (and_mk (and_mk (and_mk (and_mk (and_mk (and_mk (and_mk (and_mk (and_mk (and_mk (and_mk (and_mk (and_mk (and_mk (and_mk (and_mk (and_mk (and_mk (reclaimBounds_k0) reclaimBounds_k1) reclaimBounds_k2) reclaimBounds_k3) reclaimBounds_k4) reclaimBounds_k5) reclaimBounds_k6) reclaimBounds_k7) reclaimBounds_k8) reclaimBounds_k9) reclaimBounds_k10) reclaimBounds_k11) reclaimBounds_k12) reclaimBounds_k13) reclaimBounds_k14) reclaimBounds_k15) reclaimBounds_k16) reclaimBounds_k17) reclaimBounds_k18) reclaimBounds_k19) reclaimBounds_k20) reclaimBounds_k21) reclaimBounds_k22) reclaimBounds_k23) reclaimBounds_k24) reclaimBounds_k25) reclaimBounds_k26) reclaimBounds_k27) reclaimBounds_k28) reclaimBounds_k29) reclaimBounds_k30) reclaimBounds_k31

theorem reclaimBounds_holds : Rows.ReclaimBoundsSaid :=
  OpenClaim.holds_of_wide 5 Try.f5 rfl rfl rfl rfl rfl rfl rfl ⟨rfl, rfl, rfl, rfl, rfl⟩ rfl rfl rfl rfl rfl (by kernel_rfl) Try.func5 reclaimBounds_closed
    (of_decide_eq_true (by kernel_rfl)) (by unfold Func.isWrapper; first | (rw [if_pos (by decide +kernel)]; kernel_rfl) | (rw [if_neg (by decide +kernel)]; exact ⟨rfl, rfl⟩))
    (fun os started H enc _ => reclaimBounds_lifted os started H enc)

end Go.Proofs.Ytdmghfmdcfagcaa

