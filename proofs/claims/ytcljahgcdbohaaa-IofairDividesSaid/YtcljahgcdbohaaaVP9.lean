/- IofairDivides holds: for every input the call of the law returns true, and each argument reads afterwards as it read before. No conditions. -/
import Derived.Test.YtcljahgcdbohaaaRows
import Derived.Test.YtcljahgcdbohaaaVSeat
import Derived.Test.YtcljahgcdbohaaaVJ2
import Derived.Test.YtcljahgcdbohaaaVHead
import Derived.ProofKit
set_option linter.unusedSimpArgs false
set_option linter.unusedVariables false
namespace Go.Proofs.Ytcljahgcdbohaaa
open Go.ChangeShapes Go.WideShapes Go.ChangeAt Go.RowKit Go.V

theorem iofairDivides_fit : Try.f9.params.toList.all (fitB Try.prog) = true := by kernel_rfl
theorem iofairDivides_u22 : Try.prog.underlying 22 = some (.slice 3) := by kernel_rfl
theorem iofairDivides_u3 : Try.prog.underlying 3 = some (.int .i64) := by kernel_rfl

theorem iofairDivides_call : ∀ us : List VVal, us.length = Try.f9.params.toList.length → (∀ (i : Nat) (t : TypeId) (u : VVal), Try.f9.params.toList[i]? = some t → us[i]? = some u → Fit Try.prog t u) → V 9 us [] = some (.p (.bool true), []) := by
  intro us hlen hfit
  rw [Try.params9] at hlen hfit
  match us, hlen with
  | [x0], _ =>
    obtain ⟨a0, rfl, w0⟩ := (hfit 0 22 x0 rfl rfl).isInts iofairDivides_u22 iofairDivides_u3
    exact iofairDivides_eq a0

set_option maxRecDepth 100000 in
theorem iofairDivides_lifted (os : Os) (started : os.Started) (H : Type) (enc : TypeId × Value → H) :
    ReturnsInHanded {} Try.checked os 9 .any (Rows.iofairDividesSpec.pre6 enc Try.prog Try.f9 Rows.iofairDividesRow.domain false) (Rows.iofairDividesSpec.post enc Try.prog Try.f9 false true false false) := by
  refine returnsInHanded_of_change (C := Try.checked) own_try started (by kernel_rfl) Try.func9
    (ChangeSpec.witness6 (enc := enc) (C := Try.checked) false ⟨#[], #[.slice none 0 0], []⟩ 8 (by kernel_rfl) (by kernel_rfl) (by kernel_rfl) (by kernel_rfl)) ?_
  intro W base args ds gs before hval0 hW _ _
  have hval : ∀ (j : Nat) t v, Try.f9.params[j]? = some t → args[j]? = some v → Value.okWide Try.prog W .any base t v := hval0
  have hW' := hW
  obtain ⟨p, q, hA0, hV, hbe, _, _⟩ := hW
  have hA : DataW.TrodAll enc Try.prog W 0 (fun _ => true) true Try.f9.params.toList args.toList ds p := hA0
  refine (law_calls V_sound iofairDivides_fit (fun j t v ht hv => hval j t v (by simpa using ht) hv) hA iofairDivides_call).mono fun e W' ⟨he, hb⟩ => ?_
  subst he
  have hlen := trodAll_len hA
  rw [Try.params9] at hlen
  obtain ⟨hgs, _⟩ := trodVars_none hV
  have hfn : ∀ ds : List (DataW H), ds.length = 1 → (Rows.iofairDividesSpec.fn H (ds ++ [])).results = [.lit (.bool true)] ∧ (Rows.iofairDividesSpec.fn H (ds ++ [])).args = ds ∧ (Rows.iofairDividesSpec.fn H (ds ++ [])).vars = [] := by
    intro ds hl
    match ds, hl with
    | [_], _ => exact ⟨rfl, rfl, rfl⟩
  obtain ⟨e1, e2, e3⟩ := hfn ds hlen
  exact ⟨_, rfl, law_post laid_try hW' rfl iofairDivides_fit hA hV hbe (t := 4) (by kernel_rfl) (by kernel_rfl) (by rw [hgs]; exact e1) (by rw [hgs]; exact e2) (by rw [hgs]; exact e3) hb⟩

theorem iofairDivides_k0 : (Rows.iofairDividesRow.wf (OpenSpec.ofChange Rows.iofairDividesSpec)) = true := by kernel_rfl
theorem iofairDivides_k1 : (laidOutB Try.prog) = true := by kernel_rfl
theorem iofairDivides_k2 : (mapsRowed Try.prog) = true := by kernel_rfl
theorem iofairDivides_k3 : (Try.f9.params.all (Try.prog.readableRec ·)) = true := by kernel_rfl
theorem iofairDivides_k4 : (namedTie Try.prog Rows.iofairDividesRow.named Rows.iofairDividesSpec.vars) = true := by kernel_rfl
theorem iofairDivides_k5 : ((Rows.iofairDividesRow.stops == [])) = true := by kernel_rfl
theorem iofairDivides_k6 : ((Try.prog.stops == [])) = true := by kernel_rfl
theorem iofairDivides_k7 : ((Rows.iofairDividesRow.knobs == [])) = true := by kernel_rfl
theorem iofairDivides_k8 : ((Try.prog.stopKnobs == [])) = true := by kernel_rfl
theorem iofairDivides_k9 : ((Rows.iofairDividesRow.inPlace == Try.prog.inPlace 9)) = true := by kernel_rfl
theorem iofairDivides_k10 : ((Rows.iofairDividesRow.unfollowed == Try.prog.unfollowed 9)) = true := by kernel_rfl
theorem iofairDivides_k11 : ((Rows.iofairDividesRow.recurses == Try.prog.recurses 9)) = true := by kernel_rfl
theorem iofairDivides_k12 : ((Rows.iofairDividesRow.named == Try.prog.varsNamed 9)) = true := by kernel_rfl
theorem iofairDivides_k13 : ((Rows.iofairDividesRow.maps == (Try.f9.params.toList ++ Rows.iofairDividesSpec.plain.varTypes Try.prog).any (Try.prog.mapsRec ·))) = true := by kernel_rfl
theorem iofairDivides_k14 : ((Rows.iofairDividesRow.ifaces == (Try.f9.params.toList ++ Rows.iofairDividesSpec.plain.varTypes Try.prog).any (Try.prog.ifacesRec ·))) = true := by kernel_rfl
theorem iofairDivides_k15 : ((Rows.iofairDividesRow.mapsOut == Try.prog.mapsAmong Try.f9.resultTypes.toList)) = true := by kernel_rfl
theorem iofairDivides_k16 : ((Rows.iofairDividesRow.loops == (Try.f9.params.toList ++ Rows.iofairDividesSpec.plain.varTypes Try.prog).any (Try.prog.loopsFrom ·))) = true := by kernel_rfl
theorem iofairDivides_k17 : ((Rows.iofairDividesRow.wideKeys == (Try.f9.params.toList ++ Rows.iofairDividesSpec.plain.varTypes Try.prog ++ Try.f9.resultTypes.toList).any (Try.prog.wideKeysFrom ·))) = true := by kernel_rfl
theorem iofairDivides_k18 : (Rows.iofairDividesSpec.vars.all (Try.prog.varReadable ·)) = true := by kernel_rfl
theorem iofairDivides_k19 : (Try.f9.resultTypes.all (fun t => Try.prog.readableRec t && decide (t < Try.prog.types.size))) = true := by kernel_rfl
theorem iofairDivides_k20 : ((Rows.iofairDividesRow.ifacesOut == Try.f9.resultTypes.toList.any (Try.prog.ifacesRec ·))) = true := by kernel_rfl
theorem iofairDivides_k21 : ((Rows.iofairDividesRow.loopsOut == Try.f9.resultTypes.toList.any (Try.prog.loopsFrom ·))) = true := by kernel_rfl
theorem iofairDivides_k22 : ((Rows.iofairDividesRow.plainKeys == Try.prog.plainKeys)) = true := by kernel_rfl
theorem iofairDivides_k23 : (Rows.iofairDividesRow.shortTexts.isNone) = true := by kernel_rfl
theorem iofairDivides_k24 : (Try.prog.stopsHeard) = true := by kernel_rfl
theorem iofairDivides_k25 : (Try.prog.mayEnter) = true := by exact try_mayEnter
theorem iofairDivides_k26 : ((Rows.iofairDividesRow.lifted == Try.prog.liftsFinal)) = true := by rw [try_lifts]; kernel_rfl
theorem iofairDivides_k27 : ((Try.prog.make == some Rows.iofairDividesRow.make)) = true := by rw [try_make]; kernel_rfl
theorem iofairDivides_k28 : ((Rows.iofairDividesRow.kinds == (if Rows.iofairDividesRow.domain.isEmpty then [] else Try.f9.params.toList.map fun t => match Try.prog.underlying t with | some (.int k) => some k | _ => none))) = true := by kernel_rfl
theorem iofairDivides_k29 : ((Rows.iofairDividesRow.pinned == Rows.iofairDividesRow.pinnedBy)) = true := by kernel_rfl
theorem iofairDivides_k30 : ((Rows.iofairDividesRow.veiled == (Try.f9.params.toList ++ Rows.iofairDividesSpec.plain.varTypes Try.prog ++ Try.f9.resultTypes.toList).any (Try.prog.veiledRec ·))) = true := by kernel_rfl
theorem iofairDivides_k31 : (Rows.iofairDividesRow.veiledFits Try.prog Try.f9.params.toList (Try.f9.params.toList ++ Rows.iofairDividesSpec.plain.varTypes Try.prog ++ Try.f9.resultTypes.toList)) = true := by kernel_rfl
set_option maxRecDepth 100000 in
theorem iofairDivides_closed : joinedFacts Try.prog 9 Try.f9 Rows.iofairDividesSpec Rows.iofairDividesRow = true := by
  unfold joinedFacts
  exact and_mk (and_mk (and_mk (and_mk (and_mk (and_mk (and_mk (and_mk (and_mk (and_mk (and_mk (and_mk (and_mk (and_mk (and_mk (and_mk (and_mk (and_mk (and_mk (and_mk (and_mk (and_mk (and_mk (and_mk (and_mk (and_mk (and_mk (and_mk (and_mk (and_mk (and_mk (iofairDivides_k0) iofairDivides_k1) iofairDivides_k2) iofairDivides_k3) iofairDivides_k4) iofairDivides_k5) iofairDivides_k6) iofairDivides_k7) iofairDivides_k8) iofairDivides_k9) iofairDivides_k10) iofairDivides_k11) iofairDivides_k12) iofairDivides_k13) iofairDivides_k14) iofairDivides_k15) iofairDivides_k16) iofairDivides_k17) iofairDivides_k18) iofairDivides_k19) iofairDivides_k20) iofairDivides_k21) iofairDivides_k22) iofairDivides_k23) iofairDivides_k24) iofairDivides_k25) iofairDivides_k26) iofairDivides_k27) iofairDivides_k28) iofairDivides_k29) iofairDivides_k30) iofairDivides_k31

theorem iofairDivides_holds : Rows.IofairDividesSaid :=
  OpenClaim.holds_of_wide 9 Try.f9 rfl rfl rfl rfl rfl rfl rfl ⟨rfl, rfl, rfl, rfl, rfl⟩ rfl rfl rfl rfl rfl (by kernel_rfl) Try.func9 iofairDivides_closed
    (of_decide_eq_true (by kernel_rfl)) (by unfold Func.isWrapper; first | (rw [if_pos (by decide +kernel)]; kernel_rfl) | (rw [if_neg (by decide +kernel)]; exact ⟨rfl, rfl⟩))
    (fun os started H enc _ => iofairDivides_lifted os started H enc)

end Go.Proofs.Ytcljahgcdbohaaa

