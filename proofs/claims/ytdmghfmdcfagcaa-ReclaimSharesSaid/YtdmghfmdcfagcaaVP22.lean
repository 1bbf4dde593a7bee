/- ReclaimShares holds: for every input the call of the law returns true, and each argument reads afterwards as it read before. No conditions. -/
import Derived.Test.YtdmghfmdcfagcaaRows
import Derived.Test.YtdmghfmdcfagcaaVSeat
import Derived.Test.YtdmghfmdcfagcaaVR23
import Derived.Test.YtdmghfmdcfagcaaVHead
import Derived.ProofKit
set_option linter.unusedSimpArgs false
set_option linter.unusedVariables false
namespace Go.Proofs.Ytdmghfmdcfagcaa
open Go.ChangeShapes Go.WideShapes Go.ChangeAt Go.RowKit Go.V

theorem reclaimShares_fit : Try.f6.params.toList.all (fitB Try.prog) = true := by kernel_rfl
theorem reclaimShares_u22 : Try.prog.underlying 22 = some (.slice 3) := by kernel_rfl
theorem reclaimShares_u3 : Try.prog.underlying 3 = some (.int .i64) := by kernel_rfl

theorem reclaimShares_call : ∀ us : List VVal, us.length = Try.f6.params.toList.length → (∀ (i : Nat) (t : TypeId) (u : VVal), Try.f6.params.toList[i]? = some t → us[i]? = some u → Fit Try.prog t u) → V 6 us [] = some (.p (.bool true), []) := by
  intro us hlen hfit
  rw [Try.params6] at hlen hfit
  match us, hlen with
  | [x0, x1], _ =>
    obtain ⟨a0, rfl, w0⟩ := (hfit 0 22 x0 rfl rfl).isInts reclaimShares_u22 reclaimShares_u3
    obtain ⟨a1, rfl, w1⟩ := (hfit 1 3 x1 rfl rfl).isInt reclaimShares_u3
    exact shares24_eq a0 a1

set_option maxRecDepth 100000 in
theorem reclaimShares_lifted (os : Os) (started : os.Started) (H : Type) (enc : TypeId × Value → H) :
    ReturnsInHanded {} Try.checked os 6 .any (Rows.reclaimSharesSpec.pre6 enc Try.prog Try.f6 Rows.reclaimSharesRow.domain false) (Rows.reclaimSharesSpec.post enc Try.prog Try.f6 false true false false) := by
  refine returnsInHanded_of_change (C := Try.checked) own_try started (by kernel_rfl) Try.func6
    (ChangeSpec.witness6 (enc := enc) (C := Try.checked) false ⟨#[], #[.slice none 0 0, .int .i64 0], []⟩ 8 (by kernel_rfl) (by kernel_rfl) (by kernel_rfl) (by kernel_rfl)) ?_
  intro W base args ds gs before hval0 hW _ _
  have hval : ∀ (j : Nat) t v, Try.f6.params[j]? = some t → args[j]? = some v → Value.okWide Try.prog W .any base t v := hval0
  have hW' := hW
  obtain ⟨p, q, hA0, hV, hbe, _, _⟩ := hW
  have hA : DataW.TrodAll enc Try.prog W 0 (fun _ => true) true Try.f6.params.toList args.toList ds p := hA0
  refine (law_calls V_sound reclaimShares_fit (fun j t v ht hv => hval j t v (by simpa using ht) hv) hA reclaimShares_call).mono fun e W' ⟨he, hb⟩ => ?_
  subst he
  have hlen := trodAll_len hA
  rw [Try.params6] at hlen
  obtain ⟨hgs, _⟩ := trodVars_none hV
  have hfn : ∀ ds : List (DataW H), ds.length = 2 → (Rows.reclaimSharesSpec.fn H (ds ++ [])).results = [.lit (.bool true)] ∧ (Rows.reclaimSharesSpec.fn H (ds ++ [])).args = ds ∧ (Rows.reclaimSharesSpec.fn H (ds ++ [])).vars = [] := by
    intro ds hl
    match ds, hl with
    | [_, _], _ => exact ⟨rfl, rfl, rfl⟩
  obtain ⟨e1, e2, e3⟩ := hfn ds hlen
  exact ⟨_, rfl, law_post laid_try hW' rfl reclaimShares_fit hA hV hbe (t := 4) (by kernel_rfl) (by kernel_rfl) (by rw [hgs]; exact e1) (by rw [hgs]; exact e2) (by rw [hgs]; exact e3) hb⟩

theorem reclaimShares_k0 : (Rows.reclaimSharesRow.wf (OpenSpec.ofChange Rows.reclaimSharesSpec)) = true := by kernel_rfl
theorem reclaimShares_k1 : (laidOutB Try.prog) = true := by kernel_rfl
theorem reclaimShares_k2 : (mapsRowed Try.prog) = true := by kernel_rfl
theorem reclaimShares_k3 : (Try.f6.params.all (Try.prog.readableRec ·)) = true := by kernel_rfl
theorem reclaimShares_k4 : (namedTie Try.prog Rows.reclaimSharesRow.named Rows.reclaimSharesSpec.vars) = true := by kernel_rfl
theorem reclaimShares_k5 : ((Rows.reclaimSharesRow.stops == [])) = true := by kernel_rfl
theorem reclaimShares_k6 : ((Try.prog.stops == [])) = true := by kernel_rfl
theorem reclaimShares_k7 : ((Rows.reclaimSharesRow.knobs == [])) = true := by kernel_rfl
theorem reclaimShares_k8 : ((Try.prog.stopKnobs == [])) = true := by kernel_rfl
theorem reclaimShares_k9 : ((Rows.reclaimSharesRow.inPlace == Try.prog.inPlace 6)) = true := by kernel_rfl
theorem reclaimShares_k10 : ((Rows.reclaimSharesRow.unfollowed == Try.prog.unfollowed 6)) = true := by kernel_rfl
theorem reclaimShares_k11 : ((Rows.reclaimSharesRow.recurses == Try.prog.recurses 6)) = true := by kernel_rfl
theorem reclaimShares_k12 : ((Rows.reclaimSharesRow.named == Try.prog.varsNamed 6)) = true := by kernel_rfl
theorem reclaimShares_k13 : ((Rows.reclaimSharesRow.maps == (Try.f6.params.toList ++ Rows.reclaimSharesSpec.plain.varTypes Try.prog).any (Try.prog.mapsRec ·))) = true := by kernel_rfl
theorem reclaimShares_k14 : ((Rows.reclaimSharesRow.ifaces == (Try.f6.params.toList ++ Rows.reclaimSharesSpec.plain.varTypes Try.prog).any (Try.prog.ifacesRec ·))) = true := by kernel_rfl
theorem reclaimShares_k15 : ((Rows.reclaimSharesRow.mapsOut == Try.prog.mapsAmong Try.f6.resultTypes.toList)) = true := by kernel_rfl
theorem reclaimShares_k16 : ((Rows.reclaimSharesRow.loops == (Try.f6.params.toList ++ Rows.reclaimSharesSpec.plain.varTypes Try.prog).any (Try.prog.loopsFrom ·))) = true := by kernel_rfl
theorem reclaimShares_k17 : ((Rows.reclaimSharesRow.wideKeys == (Try.f6.params.toList ++ Rows.reclaimSharesSpec.plain.varTypes Try.prog ++ Try.f6.resultTypes.toList).any (Try.prog.wideKeysFrom ·))) = true := by kernel_rfl
theorem reclaimShares_k18 : (Rows.reclaimSharesSpec.vars.all (Try.prog.varReadable ·)) = true := by kernel_rfl
theorem reclaimShares_k19 : (Try.f6.resultTypes.all (fun t => Try.prog.readableRec t && decide (t < Try.prog.types.size))) = true := by kernel_rfl
theorem reclaimShares_k20 : ((Rows.reclaimSharesRow.ifacesOut == Try.f6.resultTypes.toList.any (Try.prog.ifacesRec ·))) = true := by kernel_rfl
theorem reclaimShares_k21 : ((Rows.reclaimSharesRow.loopsOut == Try.f6.resultTypes.toList.any (Try.prog.loopsFrom ·))) = true := by kernel_rfl
theorem reclaimShares_k22 : ((Rows.reclaimSharesRow.plainKeys == Try.prog.plainKeys)) = true := by kernel_rfl
theorem reclaimShares_k23 : (Rows.reclaimSharesRow.shortTexts.isNone) = true := by kernel_rfl
theorem reclaimShares_k24 : (Try.prog.stopsHeard) = true := by kernel_rfl
theorem reclaimShares_k25 : (Try.prog.mayEnter) = true := by exact try_mayEnter
theorem reclaimShares_k26 : ((Rows.reclaimSharesRow.lifted == Try.prog.liftsFinal)) = true := by rw [try_lifts]; kernel_rfl
theorem reclaimShares_k27 : ((Try.prog.make == some Rows.reclaimSharesRow.make)) = true := by rw [try_make]; kernel_rfl
theorem reclaimShares_k28 : ((Rows.reclaimSharesRow.kinds == (if Rows.reclaimSharesRow.domain.isEmpty then [] else Try.f6.params.toList.map fun t => match Try.prog.underlying t with | some (.int k) => some k | _ => none))) = true := by kernel_rfl
theorem reclaimShares_k29 : ((Rows.reclaimSharesRow.pinned == Rows.reclaimSharesRow.pinnedBy)) = true := by kernel_rfl
theorem reclaimShares_k30 : ((Rows.reclaimSharesRow.veiled == (Try.f6.params.toList ++ Rows.reclaimSharesSpec.plain.varTypes Try.prog ++ Try.f6.resultTypes.toList).any (Try.prog.veiledRec ·))) = true := by kernel_rfl
theorem reclaimShares_k31 : (Rows.reclaimSharesRow.veiledFits Try.prog Try.f6.params.toList (Try.f6.params.toList ++ Rows.reclaimSharesSpec.plain.varTypes Try.prog ++ Try.f6.resultTypes.toList)) = true := by kernel_rfl
set_option maxRecDepth 100000 in
theorem reclaimShares_closed : joinedFacts Try.prog 6 Try.f6 Rows.reclaimSharesSpec Rows.reclaimSharesRow = true := by
  unfold joinedFacts
  exact and_mk (and_mk (and_mk (and_mk (and_mk (and_mk (and_mk (and_mk (and_mk (and_mk (and_mk (and_mk (and_mk (and_mk (and_mk (and_mk (and_mk (and_mk (and_mk (and_mk (and_mk (and_mk (and_mk (and_mk (and_mk (and_mk (and_mk (and_mk (and_mk (and_mk (and_mk (reclaimShares_k0) reclaimShares_k1) reclaimShares_k2) reclaimShares_k3) reclaimShares_k4) reclaimShares_k5) reclaimShares_k6) reclaimShares_k7) reclaimShares_k8) reclaimShares_k9) reclaimShares_k10) reclaimShares_k11) reclaimShares_k12) reclaimShares_k13) reclaimShares_k14) reclaimShares_k15) reclaimShares_k16) reclaimShares_k17) reclaimShares_k18) reclaimShares_k19) reclaimShares_k20) reclaimShares_k21) reclaimShares_k22) reclaimShares_k23) reclaimShares_k24) reclaimShares_k25) reclaimShares_k26) reclaimShares_k27) reclaimShares_k28) reclaimShares_k29) reclaimShares_k30) reclaimShares_k31

theorem reclaimShares_holds : Rows.ReclaimSharesSaid :=
  OpenClaim.holds_of_wide 6 Try.f6 rfl rfl rfl rfl rfl rfl rfl ⟨rfl, rfl, rfl, rfl, rfl⟩ rfl rfl rfl rfl rfl (by kernel_rfl) Try.func6 reclaimShares_closed
    (of_decide_eq_true (by kernel_rfl)) (by unfold Func.isWrapper; first | (rw [if_pos (by decide +kernel)]; kernel_rfl) | (rw [if_neg (by decide +kernel)]; exact ⟨rfl, rfl⟩))
    (fun os started H enc _ => reclaimShares_lifted os started H enc)

end Go.Proofs.Ytdmghfmdcfagcaa

