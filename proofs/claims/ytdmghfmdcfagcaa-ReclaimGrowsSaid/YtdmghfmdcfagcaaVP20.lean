/- ReclaimGrows holds: for every input the call of the law returns true, and each argument reads afterwards as it read before. No conditions. -/
import Derived.Test.YtdmghfmdcfagcaaRows
import Derived.Test.YtdmghfmdcfagcaaVSeat
import Derived.Test.YtdmghfmdcfagcaaVR17
import Derived.Test.YtdmghfmdcfagcaaVHead
import Derived.ProofKit
set_option linter.unusedSimpArgs false
set_option linter.unusedVariables false
namespace Go.Proofs.Ytdmghfmdcfagcaa
open Go.ChangeShapes Go.WideShapes Go.ChangeAt Go.RowKit Go.V

theorem reclaimGrows_fit : Try.f3.params.toList.all (fitB Try.prog) = true := by kernel_rfl
theorem reclaimGrows_u22 : Try.prog.underlying 22 = some (.slice 3) := by kernel_rfl
theorem reclaimGrows_u3 : Try.prog.underlying 3 = some (.int .i64) := by kernel_rfl

theorem reclaimGrows_call : ∀ us : List VVal, us.length = Try.f3.params.toList.length → (∀ (i : Nat) (t : TypeId) (u : VVal), Try.f3.params.toList[i]? = some t → us[i]? = some u → Fit Try.prog t u) → V 3 us [] = some (.p (.bool true), []) := by
  intro us hlen hfit
  rw [Try.params3] at hlen hfit
  match us, hlen with
  | [x0, x1], _ =>
    obtain ⟨a0, rfl, w0⟩ := (hfit 0 22 x0 rfl rfl).isInts reclaimGrows_u22 reclaimGrows_u3
    obtain ⟨a1, rfl, w1⟩ := (hfit 1 3 x1 rfl rfl).isInt reclaimGrows_u3
    exact grows_eq a0 a1

set_option maxRecDepth 100000 in
theorem reclaimGrows_lifted (os : Os) (started : os.Started) (H : Type) (enc : TypeId × Value → H) :
    ReturnsInHanded {} Try.checked os 3 .any (Rows.reclaimGrowsSpec.pre6 enc Try.prog Try.f3 Rows.reclaimGrowsRow.domain false) (Rows.reclaimGrowsSpec.post enc Try.prog Try.f3 false true false false) := by
  refine returnsInHanded_of_change (C := Try.checked) own_try started (by kernel_rfl) Try.func3
    (ChangeSpec.witness6 (enc := enc) (C := Try.checked) false ⟨#[], #[.slice none 0 0, .int .i64 0], []⟩ 8 (by kernel_rfl) (by kernel_rfl) (by kernel_rfl) (by kernel_rfl)) ?_
  intro W base args ds gs before hval0 hW _ _
  have hval : ∀ (j : Nat) t v, Try.f3.params[j]? = some t → args[j]? = some v → Value.okWide Try.prog W .any base t v := hval0
  have hW' := hW
  obtain ⟨p, q, hA0, hV, hbe, _, _⟩ := hW
  have hA : DataW.TrodAll enc Try.prog W 0 (fun _ => true) true Try.f3.params.toList args.toList ds p := hA0
  refine (law_calls V_sound reclaimGrows_fit (fun j t v ht hv => hval j t v (by simpa using ht) hv) hA reclaimGrows_call).mono fun e W' ⟨he, hb⟩ => ?_
  subst he
  have hlen := trodAll_len hA
  rw [Try.params3] at hlen
  obtain ⟨hgs, _⟩ := trodVars_none hV
  have hfn : ∀ ds : List (DataW H), ds.length = 2 → (Rows.reclaimGrowsSpec.fn H (ds ++ [])).results = [.lit (.bool true)] ∧ (Rows.reclaimGrowsSpec.fn H (ds ++ [])).args = ds ∧ (Rows.reclaimGrowsSpec.fn H (ds ++ [])).vars = [] := by
    intro ds hl
    match ds, hl with
    | [_, _], _ => exact ⟨rfl, rfl, rfl⟩
  obtain ⟨e1, e2, e3⟩ := hfn ds hlen
  exact ⟨_, rfl, law_post laid_try hW' rfl reclaimGrows_fit hA hV hbe (t := 4) (by kernel_rfl) (by kernel_rfl) (by rw [hgs]; exact e1) (by rw [hgs]; exact e2) (by rw [hgs]; exact e3) hb⟩

theorem reclaimGrows_k0 : (Rows.reclaimGrowsRow.wf (OpenSpec.ofChange Rows.reclaimGrowsSpec)) = true := by kernel_rfl
theorem reclaimGrows_k1 : (laidOutB Try.prog) = true := by kernel_rfl
theorem reclaimGrows_k2 : (mapsRowed Try.prog) = true := by kernel_rfl
theorem reclaimGrows_k3 : (Try.f3.params.all (Try.prog.readableRec ·)) = true := by kernel_rfl
theorem reclaimGrows_k4 : (namedTie Try.prog Rows.reclaimGrowsRow.named Rows.reclaimGrowsSpec.vars) = true := by kernel_rfl
theorem reclaimGrows_k5 : ((Rows.reclaimGrowsRow.stops == [])) = true := by kernel_rfl
theorem reclaimGrows_k6 : ((Try.prog.stops == [])) = true := by kernel_rfl
theorem reclaimGrows_k7 : ((Rows.reclaimGrowsRow.knobs == [])) = true := by kernel_rfl
theorem reclaimGrows_k8 : ((Try.prog.stopKnobs == [])) = true := by kernel_rfl
theorem reclaimGrows_k9 : ((Rows.reclaimGrowsRow.inPlace == Try.prog.inPlace 3)) = true := by kernel_rfl
theorem reclaimGrows_k10 : ((Rows.reclaimGrowsRow.unfollowed == Try.prog.unfollowed 3)) = true := by kernel_rfl
theorem reclaimGrows_k11 : ((Rows.reclaimGrowsRow.recurses == Try.prog.recurses 3)) = true := by kernel_rfl
theorem reclaimGrows_k12 : ((Rows.reclaimGrowsRow.named == Try.prog.varsNamed 3)) = true := by kernel_rfl
theorem reclaimGrows_k13 : ((Rows.reclaimGrowsRow.maps == (Try.f3.params.toList ++ Rows.reclaimGrowsSpec.plain.varTypes Try.prog).any (Try.prog.mapsRec ·))) = true := by kernel_rfl
theorem reclaimGrows_k14 : ((Rows.reclaimGrowsRow.ifaces == (Try.f3.params.toList ++ Rows.reclaimGrowsSpec.plain.varTypes Try.prog).any (Try.prog.ifacesRec ·))) = true := by kernel_rfl
theorem reclaimGrows_k15 : ((Rows.reclaimGrowsRow.mapsOut == Try.prog.mapsAmong Try.f3.resultTypes.toList)) = true := by kernel_rfl
theorem reclaimGrows_k16 : ((Rows.reclaimGrowsRow.loops == (Try.f3.params.toList ++ Rows.reclaimGrowsSpec.plain.varTypes Try.prog).any (Try.prog.loopsFrom ·))) = true := by kernel_rfl
theorem reclaimGrows_k17 : ((Rows.reclaimGrowsRow.wideKeys == (Try.f3.params.toList ++ Rows.reclaimGrowsSpec.plain.varTypes Try.prog ++ Try.f3.resultTypes.toList).any (Try.prog.wideKeysFrom ·))) = true := by kernel_rfl
theorem reclaimGrows_k18 : (Rows.reclaimGrowsSpec.vars.all (Try.prog.varReadable ·)) = true := by kernel_rfl
theorem reclaimGrows_k19 : (Try.f3.resultTypes.all (fun t => Try.prog.readableRec t && decide (t < Try.prog.types.size))) = true := by kernel_rfl
theorem reclaimGrows_k20 : ((Rows.reclaimGrowsRow.ifacesOut == Try.f3.resultTypes.toList.any (Try.prog.ifacesRec ·))) = true := by kernel_rfl
theorem reclaimGrows_k21 : ((Rows.reclaimGrowsRow.loopsOut == Try.f3.resultTypes.toList.any (Try.prog.loopsFrom ·))) = true := by kernel_rfl
theorem reclaimGrows_k22 : ((Rows.reclaimGrowsRow.plainKeys == Try.prog.plainKeys)) = true := by kernel_rfl
theorem reclaimGrows_k23 : (Rows.reclaimGrowsRow.shortTexts.isNone) = true := by kernel_rfl
theorem reclaimGrows_k24 : (Try.prog.stopsHeard) = true := by kernel_rfl
theorem reclaimGrows_k25 : (Try.prog.mayEnter) = true := by exact try_mayEnter
theorem reclaimGrows_k26 : ((Rows.reclaimGrowsRow.lifted == Try.prog.liftsFinal)) = true := by rw [try_lifts]; kernel_rfl
theorem reclaimGrows_k27 : ((Try.prog.make == some Rows.reclaimGrowsRow.make)) = true := by rw [try_make]; kernel_rfl
theorem reclaimGrows_k28 : ((Rows.reclaimGrowsRow.kinds == (if Rows.reclaimGrowsRow.domain.isEmpty then [] else Try.f3.params.toList.map fun t => match Try.prog.underlying t with | some (.int k) => some k | _ => none))) = true := by kernel_rfl
theorem reclaimGrows_k29 : ((Rows.reclaimGrowsRow.pinned == Rows.reclaimGrowsRow.pinnedBy)) = true := by kernel_rfl
theorem reclaimGrows_k30 : ((Rows.reclaimGrowsRow.veiled == (Try.f3.params.toList ++ Rows.reclaimGrowsSpec.plain.varTypes Try.prog ++ Try.f3.resultTypes.toList).any (Try.prog.veiledRec ·))) = true := by kernel_rfl
theorem reclaimGrows_k31 : (Rows.reclaimGrowsRow.veiledFits Try.prog Try.f3.params.toList (Try.f3.params.toList ++ Rows.reclaimGrowsSpec.plain.varTypes Try.prog ++ Try.f3.resultTypes.toList)) = true := by kernel_rfl
set_option maxRecDepth 100000 in
theorem reclaimGrows_closed : joinedFacts Try.prog 3 Try.f3 Rows.reclaimGrowsSpec Rows.reclaimGrowsRow = true := by
  unfold joinedFacts
  exact and_mk (and_mk (and_mk (and_mk (and_mk (and_mk (and_mk (and_mk (and_mk (and_mk (and_mk (and_mk (and_mk (and_mk (and_mk (and_mk (and_mk (and_mk (and_mk (and_mk (and_mk (and_mk (and_mk (and_mk (and_mk (and_mk (and_mk (and_mk (and_mk (and_mk (and_mk (reclaimGrows_k0) reclaimGrows_k1) reclaimGrows_k2) reclaimGrows_k3) reclaimGrows_k4) reclaimGrows_k5) reclaimGrows_k6) reclaimGrows_k7) reclaimGrows_k8) reclaimGrows_k9) reclaimGrows_k10) reclaimGrows_k11) reclaimGrows_k12) reclaimGrows_k13) reclaimGrows_k14) reclaimGrows_k15) reclaimGrows_k16) reclaimGrows_k17) reclaimGrows_k18) reclaimGrows_k19) reclaimGrows_k20) reclaimGrows_k21) reclaimGrows_k22) reclaimGrows_k23) reclaimGrows_k24) reclaimGrows_k25) reclaimGrows_k26) reclaimGrows_k27) reclaimGrows_k28) reclaimGrows_k29) reclaimGrows_k30) reclaimGrows_k31

theorem reclaimGrows_holds : Rows.ReclaimGrowsSaid :=
  OpenClaim.holds_of_wide 3 Try.f3 rfl rfl rfl rfl rfl rfl rfl ⟨rfl, rfl, rfl, rfl, rfl⟩ rfl rfl rfl rfl rfl (by kernel_rfl) Try.func3 reclaimGrows_closed
    (of_decide_eq_true (by kernel_rfl)) (by unfold Func.isWrapper; first | (rw [if_pos (by decide +kernel)]; kernel_rfl) | (rw [if_neg (by decide +kernel)]; exact ⟨rfl, rfl⟩))
    (fun os started H enc _ => reclaimGrows_lifted os started H enc)

end Go.Proofs.Ytdmghfmdcfagcaa

