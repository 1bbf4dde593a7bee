/- IofairAlone holds: for every input the call of the law returns true, and each argument reads afterwards as it read before. No conditions. -/
import Derived.Test.YtcljahgcdbohaaaRows
import Derived.Test.YtcljahgcdbohaaaVSeat
import Derived.Test.YtcljahgcdbohaaaVJ1
import Derived.Test.YtcljahgcdbohaaaVHead
import Derived.ProofKit
set_option linter.unusedSimpArgs false
set_option linter.unusedVariables false
namespace Go.Proofs.Ytcljahgcdbohaaa
open Go.ChangeShapes Go.WideShapes Go.ChangeAt Go.RowKit Go.V

theorem iofairAlone_fit : Try.f8.params.toList.all (fitB Try.prog) = true := by kernel_rfl
theorem iofairAlone_u22 : Try.prog.underlying 22 = some (.slice 3) := by kernel_rfl
theorem iofairAlone_u3 : Try.prog.underlying 3 = some (.int .i64) := by kernel_rfl

theorem iofairAlone_call : ∀ us : List VVal, us.length = Try.f8.params.toList.length → (∀ (i : Nat) (t : TypeId) (u : VVal), Try.f8.params.toList[i]? = some t → us[i]? = some u → Fit Try.prog t u) → V 8 us [] = some (.p (.bool true), []) := by
  intro us hlen hfit
  rw [Try.params8] at hlen hfit
  match us, hlen with
  | [x0], _ =>
    obtain ⟨a0, rfl, w0⟩ := (hfit 0 22 x0 rfl rfl).isInts iofairAlone_u22 iofairAlone_u3
    exact iofairAlone_eq a0

set_option maxRecDepth 100000 in
theorem iofairAlone_lifted (os : Os) (started : os.Started) (H : Type) (enc : TypeId × Value → H) :
    ReturnsInHanded {} Try.checked os 8 .any (Rows.iofairAloneSpec.pre6 enc Try.prog Try.f8 Rows.iofairAloneRow.domain false) (Rows.iofairAloneSpec.post enc Try.prog Try.f8 false true false false) := by
  refine returnsInHanded_of_change (C := Try.checked) own_try started (by kernel_rfl) Try.func8
    (ChangeSpec.witness6 (enc := enc) (C := Try.checked) false ⟨#[], #[.slice none 0 0], []⟩ 8 (by kernel_rfl) (by kernel_rfl) (by kernel_rfl) (by kernel_rfl)) ?_
  intro W base args ds gs before hval0 hW _ _
  have hval : ∀ (j : Nat) t v, Try.f8.params[j]? = some t → args[j]? = some v → Value.okWide Try.prog W .any base t v := hval0
  have hW' := hW
  obtain ⟨p, q, hA0, hV, hbe, _, _⟩ := hW
  have hA : DataW.TrodAll enc Try.prog W 0 (fun _ => true) true Try.f8.params.toList args.toList ds p := hA0
  refine (law_calls V_sound iofairAlone_fit (fun j t v ht hv => hval j t v (by simpa using ht) hv) hA iofairAlone_call).mono fun e W' ⟨he, hb⟩ => ?_
  subst he
  have hlen := trodAll_len hA
  rw [Try.params8] at hlen
  obtain ⟨hgs, _⟩ := trodVars_none hV
  have hfn : ∀ ds : List (DataW H), ds.length = 1 → (Rows.iofairAloneSpec.fn H (ds ++ [])).results = [.lit (.bool true)] ∧ (Rows.iofairAloneSpec.fn H (ds ++ [])).args = ds ∧ (Rows.iofairAloneSpec.fn H (ds ++ [])).vars = [] := by
    intro ds hl
    match ds, hl with
    | [_], _ => exact ⟨rfl, rfl, rfl⟩
  obtain ⟨e1, e2, e3⟩ := hfn ds hlen
  exact ⟨_, rfl, law_post laid_try hW' rfl iofairAlone_fit hA hV hbe (t := 4) (by kernel_rfl) (by kernel_rfl) (by rw [hgs]; exact e1) (by rw [hgs]; exact e2) (by rw [hgs]; exact e3) hb⟩

theorem iofairAlone_k0 : (Rows.iofairAloneRow.wf (OpenSpec.ofChange Rows.iofairAloneSpec)) = true := by kernel_rfl
theorem iofairAlone_k1 : (laidOutB Try.prog) = true := by kernel_rfl
theorem iofairAlone_k2 : (mapsRowed Try.prog) = true := by kernel_rfl
theorem iofairAlone_k3 : (Try.f8.params.all (Try.prog.readableRec ·)) = true := by kernel_rfl
theorem iofairAlone_k4 : (namedTie Try.prog Rows.iofairAloneRow.named Rows.iofairAloneSpec.vars) = true := by kernel_rfl
theorem iofairAlone_k5 : ((Rows.iofairAloneRow.stops == [])) = true := by kernel_rfl
theorem iofairAlone_k6 : ((Try.prog.stops == [])) = true := by kernel_rfl
theorem iofairAlone_k7 : ((Rows.iofairAloneRow.knobs == [])) = true := by kernel_rfl
theorem iofairAlone_k8 : ((Try.prog.stopKnobs == [])) = true := by kernel_rfl
theorem iofairAlone_k9 : ((Rows.iofairAloneRow.inPlace == Try.prog.inPlace 8)) = true := by kernel_rfl
theorem iofairAlone_k10 : ((Rows.iofairAloneRow.unfollowed == Try.prog.unfollowed 8)) = true := by kernel_rfl
theorem iofairAlone_k11 : ((Rows.iofairAloneRow.recurses == Try.prog.recurses 8)) = true := by kernel_rfl
theorem iofairAlone_k12 : ((Rows.iofairAloneRow.named == Try.prog.varsNamed 8)) = true := by kernel_rfl
theorem iofairAlone_k13 : ((Rows.iofairAloneRow.maps == (Try.f8.params.toList ++ Rows.iofairAloneSpec.plain.varTypes Try.prog).any (Try.prog.mapsRec ·))) = true := by kernel_rfl
theorem iofairAlone_k14 : ((Rows.iofairAloneRow.ifaces == (Try.f8.params.toList ++ Rows.iofairAloneSpec.plain.varTypes Try.prog).any (Try.prog.ifacesRec ·))) = true := by kernel_rfl
theorem iofairAlone_k15 : ((Rows.iofairAloneRow.mapsOut == Try.prog.mapsAmong Try.f8.resultTypes.toList)) = true := by kernel_rfl
theorem iofairAlone_k16 : ((Rows.iofairAloneRow.loops == (Try.f8.params.toList ++ Rows.iofairAloneSpec.plain.varTypes Try.prog).any (Try.prog.loopsFrom ·))) = true := by kernel_rfl
theorem iofairAlone_k17 : ((Rows.iofairAloneRow.wideKeys == (Try.f8.params.toList ++ Rows.iofairAloneSpec.plain.varTypes Try.prog ++ Try.f8.resultTypes.toList).any (Try.prog.wideKeysFrom ·))) = true := by kernel_rfl
theorem iofairAlone_k18 : (Rows.iofairAloneSpec.vars.all (Try.prog.varReadable ·)) = true := by kernel_rfl
theorem iofairAlone_k19 : (Try.f8.resultTypes.all (fun t => Try.prog.readableRec t && decide (t < Try.prog.types.size))) = true := by kernel_rfl
theorem iofairAlone_k20 : ((Rows.iofairAloneRow.ifacesOut == Try.f8.resultTypes.toList.any (Try.prog.ifacesRec ·))) = true := by kernel_rfl
theorem iofairAlone_k21 : ((Rows.iofairAloneRow.loopsOut == Try.f8.resultTypes.toList.any (Try.prog.loopsFrom ·))) = true := by kernel_rfl
theorem iofairAlone_k22 : ((Rows.iofairAloneRow.plainKeys == Try.prog.plainKeys)) = true := by kernel_rfl
theorem iofairAlone_k23 : (Rows.iofairAloneRow.shortTexts.isNone) = true := by kernel_rfl
theorem iofairAlone_k24 : (Try.prog.stopsHeard) = true := by kernel_rfl
theorem iofairAlone_k25 : (Try.prog.mayEnter) = true := by exact try_mayEnter
theorem iofairAlone_k26 : ((Rows.iofairAloneRow.lifted == Try.prog.liftsFinal)) = true := by rw [try_lifts]; kernel_rfl
theorem iofairAlone_k27 : ((Try.prog.make == some Rows.iofairAloneRow.make)) = true := by rw [try_make]; kernel_rfl
theorem iofairAlone_k28 : ((Rows.iofairAloneRow.kinds == (if Rows.iofairAloneRow.domain.isEmpty then [] else Try.f8.params.toList.map fun t => match Try.prog.underlying t with | some (.int k) => some k | _ => none))) = true := by kernel_rfl
theorem iofairAlone_k29 : ((Rows.iofairAloneRow.pinned == Rows.iofairAloneRow.pinnedBy)) = true := by kernel_rfl
theorem iofairAlone_k30 : ((Rows.iofairAloneRow.veiled == (Try.f8.params.toList ++ Rows.iofairAloneSpec.plain.varTypes Try.prog ++ Try.f8.resultTypes.toList).any (Try.prog.veiledRec ·))) = true := by kernel_rfl
theorem iofairAlone_k31 : (Rows.iofairAloneRow.veiledFits Try.prog Try.f8.params.toList (Try.f8.params.toList ++ Rows.iofairAloneSpec.plain.varTypes Try.prog ++ Try.f8.resultTypes.toList)) = true := by kernel_rfl
set_option maxRecDepth 100000 in
theorem iofairAlone_closed : joinedFacts Try.prog 8 Try.f8 Rows.iofairAloneSpec Rows.iofairAloneRow = true := by
  unfold joinedFacts
  exact and_mk (and_mk (and_mk (and_mk (and_mk (and_mk (and_mk (and_mk (and_mk (and_mk (and_mk (and_mk (and_mk (and_mk (and_mk (and_mk (and_mk (and_mk (and_mk (and_mk (and_mk (and_mk (and_mk (and_mk (and_mk (and_mk (and_mk (and_mk (and_mk (and_mk (and_mk (iofairAlone_k0) iofairAlone_k1) iofairAlone_k2) iofairAlone_k3) iofairAlone_k4) iofairAlone_k5) iofairAlone_k6) iofairAlone_k7) iofairAlone_k8) iofairAlone_k9) iofairAlone_k10) iofairAlone_k11) iofairAlone_k12) iofairAlone_k13) iofairAlone_k14) iofairAlone_k15) iofairAlone_k16) iofairAlone_k17) iofairAlone_k18) iofairAlone_k19) iofairAlone_k20) iofairAlone_k21) iofairAlone_k22) iofairAlone_k23) iofairAlone_k24) iofairAlone_k25) iofairAlone_k26) iofairAlone_k27) iofairAlone_k28) iofairAlone_k29) iofairAlone_k30) iofairAlone_k31

theorem iofairAlone_holds : Rows.IofairAloneSaid :=
  OpenClaim.holds_of_wide 8 Try.f8 rfl rfl rfl rfl rfl rfl rfl ⟨rfl, rfl, rfl, rfl, rfl⟩ rfl rfl rfl rfl rfl (by kernel_rfl) Try.func8 iofairAlone_closed
    (of_decide_eq_true (by kernel_rfl)) (by unfold Func.isWrapper; first | (rw [if_pos (by decide +kernel)]; kernel_rfl) | (rw [if_neg (by decide +kernel)]; exact ⟨rfl, rfl⟩))
    (fun os started H enc _ => iofairAlone_lifted os started H enc)

end Go.Proofs.Ytcljahgcdbohaaa

