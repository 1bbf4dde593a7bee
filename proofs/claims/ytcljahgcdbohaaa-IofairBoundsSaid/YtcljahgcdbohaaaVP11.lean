/- IofairBounds holds: for every input the call of the law returns true, and each argument reads afterwards as it read before. No conditions. -/
import Derived.Test.YtcljahgcdbohaaaRows
import Derived.Test.YtcljahgcdbohaaaVSeat
import Derived.Test.YtcljahgcdbohaaaVJ4
import Derived.Test.YtcljahgcdbohaaaVHead
import Derived.ProofKit
set_option linter.unusedSimpArgs false
set_option linter.unusedVariables false
namespace Go.Proofs.Ytcljahgcdbohaaa
open Go.ChangeShapes Go.WideShapes Go.ChangeAt Go.RowKit Go.V

theorem iofairBounds_fit : Try.f11.params.toList.all (fitB Try.prog) = true := by kernel_rfl
theorem iofairBounds_u22 : Try.prog.underlying 22 = some (.slice 3) := by kernel_rfl
theorem iofairBounds_u3 : Try.prog.underlying 3 = some (.int .i64) := by kernel_rfl

theorem iofairBounds_call : ∀ us : List VVal, us.length = Try.f11.params.toList.length → (∀ (i : Nat) (t : TypeId) (u : VVal), Try.f11.params.toList[i]? = some t → us[i]? = some u → Fit Try.prog t u) → V 11 us [] = some (.p (.bool true), []) := by
  intro us hlen hfit
  rw [Try.params11] at hlen hfit
  match us, hlen with
  | [x0], _ =>
    obtain ⟨a0, rfl, w0⟩ := (hfit 0 22 x0 rfl rfl).isInts iofairBounds_u22 iofairBounds_u3
    exact iofairBounds_eq a0

set_option maxRecDepth 100000 in
theorem iofairBounds_lifted (os : Os) (started : os.Started) (H : Type) (enc : TypeId × Value → H) :
    ReturnsInHanded {} Try.checked os 11 .any (Rows.iofairBoundsSpec.pre6 enc Try.prog Try.f11 Rows.iofairBoundsRow.domain false) (Rows.iofairBoundsSpec.post enc Try.prog Try.f11 false true false false) := by
  refine returnsInHanded_of_change (C := Try.checked) own_try started (by kernel_rfl) Try.func11
    (ChangeSpec.witness6 (enc := enc) (C := Try.checked) false ⟨#[], #[.slice none 0 0], []⟩ 8 (by kernel_rfl) (by kernel_rfl) (by kernel_rfl) (by kernel_rfl)) ?_
  intro W base args ds gs before hval0 hW _ _
  have hval : ∀ (j : Nat) t v, Try.f11.params[j]? = some t → args[j]? = some v → Value.okWide Try.prog W .any base t v := hval0
  have hW' := hW
  obtain ⟨p, q, hA0, hV, hbe, _, _⟩ := hW
  have hA : DataW.TrodAll enc Try.prog W 0 (fun _ => true) true Try.f11.params.toList args.toList ds p := hA0
  refine (law_calls V_sound iofairBounds_fit (fun j t v ht hv => hval j t v (by simpa using ht) hv) hA iofairBounds_call).mono fun e W' ⟨he, hb⟩ => ?_
  subst he
  have hlen := trodAll_len hA
  rw [Try.params11] at hlen
  obtain ⟨hgs, _⟩ := trodVars_none hV
  have hfn : ∀ ds : List (DataW H), ds.length = 1 → (Rows.iofairBoundsSpec.fn H (ds ++ [])).results = [.lit (.bool true)] ∧ (Rows.iofairBoundsSpec.fn H (ds ++ [])).args = ds ∧ (Rows.iofairBoundsSpec.fn H (ds ++ [])).vars = [] := by
    intro ds hl
    match ds, hl with
    | [_], _ => exact ⟨rfl, rfl, rfl⟩
  obtain ⟨e1, e2, e3⟩ := hfn ds hlen
  exact ⟨_, rfl, law_post laid_try hW' rfl iofairBounds_fit hA hV hbe (t := 4) (by kernel_rfl) (by kernel_rfl) (by rw [hgs]; exact e1) (by rw [hgs]; exact e2) (by rw [hgs]; exact e3) hb⟩

theorem iofairBounds_k0 : (Rows.iofairBoundsRow.wf (OpenSpec.ofChange Rows.iofairBoundsSpec)) = true := by kernel_rfl
theorem iofairBounds_k1 : (laidOutB Try.prog) = true := by kernel_rfl
theorem iofairBounds_k2 : (mapsRowed Try.prog) = true := by kernel_rfl
theorem iofairBounds_k3 : (Try.f11.params.all (Try.prog.readableRec ·)) = true := by kernel_rfl
theorem iofairBounds_k4 : (namedTie Try.prog Rows.iofairBoundsRow.named Rows.iofairBoundsSpec.vars) = true := by kernel_rfl
theorem iofairBounds_k5 : ((Rows.iofairBoundsRow.stops == [])) = true := by kernel_rfl
theorem iofairBounds_k6 : ((Try.prog.stops == [])) = true := by kernel_rfl
theorem iofairBounds_k7 : ((Rows.iofairBoundsRow.knobs == [])) = true := by kernel_rfl
theorem iofairBounds_k8 : ((Try.prog.stopKnobs == [])) = true := by kernel_rfl
theorem iofairBounds_k9 : ((Rows.iofairBoundsRow.inPlace == Try.prog.inPlace 11)) = true := by kernel_rfl
theorem iofairBounds_k10 : ((Rows.iofairBoundsRow.unfollowed == Try.prog.unfollowed 11)) = true := by kernel_rfl
theorem iofairBounds_k11 : ((Rows.iofairBoundsRow.recurses == Try.prog.recurses 11)) = true := by kernel_rfl
theorem iofairBounds_k12 : ((Rows.iofairBoundsRow.named == Try.prog.varsNamed 11)) = true := by kernel_rfl
theorem iofairBounds_k13 : ((Rows.iofairBoundsRow.maps == (Try.f11.params.toList ++ Rows.iofairBoundsSpec.plain.varTypes Try.prog).any (Try.prog.mapsRec ·))) = true := by kernel_rfl
theorem iofairBounds_k14 : ((Rows.iofairBoundsRow.ifaces == (Try.f11.params.toList ++ Rows.iofairBoundsSpec.plain.varTypes Try.prog).any (Try.prog.ifacesRec ·))) = true := by kernel_rfl
theorem iofairBounds_k15 : ((Rows.iofairBoundsRow.mapsOut == Try.prog.mapsAmong Try.f11.resultTypes.toList)) = true := by kernel_rfl
theorem iofairBounds_k16 : ((Rows.iofairBoundsRow.loops == (Try.f11.params.toList ++ Rows.iofairBoundsSpec.plain.varTypes Try.prog).any (Try.prog.loopsFrom ·))) = true := by kernel_rfl
theorem iofairBounds_k17 : ((Rows.iofairBoundsRow.wideKeys == (Try.f11.params.toList ++ Rows.iofairBoundsSpec.plain.varTypes Try.prog ++ Try.f11.resultTypes.toList).any (Try.prog.wideKeysFrom ·))) = true := by kernel_rfl
theorem iofairBounds_k18 : (Rows.iofairBoundsSpec.vars.all (Try.prog.varReadable ·)) = true := by kernel_rfl
theorem iofairBounds_k19 : (Try.f11.resultTypes.all (fun t => Try.prog.readableRec t && decide (t < Try.prog.types.size))) = true := by kernel_rfl
theorem iofairBounds_k20 : ((Rows.iofairBoundsRow.ifacesOut == Try.f11.resultTypes.toList.any (Try.prog.ifacesRec ·))) = true := by kernel_rfl
theorem iofairBounds_k21 : ((Rows.iofairBoundsRow.loopsOut == Try.f11.resultTypes.toList.any (Try.prog.loopsFrom ·))) = true := by kernel_rfl
theorem iofairBounds_k22 : ((Rows.iofairBoundsRow.plainKeys == Try.prog.plainKeys)) = true := by kernel_rfl
theorem iofairBounds_k23 : (Rows.iofairBoundsRow.shortTexts.isNone) = true := by kernel_rfl
theorem iofairBounds_k24 : (Try.prog.stopsHeard) = true := by kernel_rfl
theorem iofairBounds_k25 : (Try.prog.mayEnter) = true := by exact try_mayEnter
theorem iofairBounds_k26 : ((Rows.iofairBoundsRow.lifted == Try.prog.liftsFinal)) = true := by rw [try_lifts]; kernel_rfl
theorem iofairBounds_k27 : ((Try.prog.make == some Rows.iofairBoundsRow.make)) = true := by rw [try_make]; kernel_rfl
theorem iofairBounds_k28 : ((Rows.iofairBoundsRow.kinds == (if Rows.iofairBoundsRow.domain.isEmpty then [] else Try.f11.params.toList.map fun t => match Try.prog.underlying t with | some (.int k) => some k | _ => none))) = true := by kernel_rfl
theorem iofairBounds_k29 : ((Rows.iofairBoundsRow.pinned == Rows.iofairBoundsRow.pinnedBy)) = true := by kernel_rfl
theorem iofairBounds_k30 : ((Rows.iofairBoundsRow.veiled == (Try.f11.params.toList ++ Rows.iofairBoundsSpec.plain.varTypes Try.prog ++ Try.f11.resultTypes.toList).any (Try.prog.veiledRec ·))) = true := by kernel_rfl
theorem iofairBounds_k31 : (Rows.iofairBoundsRow.veiledFits Try.prog Try.f11.params.toList (Try.f11.params.toList ++ Rows.iofairBoundsSpec.plain.varTypes Try.prog ++ Try.f11.resultTypes.toList)) = true := by kernel_rfl
set_option maxRecDepth 100000 in
theorem iofairBounds_closed : joinedFacts Try.prog 11 Try.f11 Rows.iofairBoundsSpec Rows.iofairBoundsRow = true := by
  unfold joinedFacts
  exact and_mk (and_mk (and_mk (and_mk (and_mk (and_mk (and_mk (and_mk (and_mk (and_mk (and_mk (and_mk (and_mk (and_mk (and_mk (and_mk (and_mk (and_mk (and_mk (and_mk (and_mk (and_mk (and_mk (and_mk (and_mk (and_mk (and_mk (and_mk (and_mk (and_mk (and_mk (iofairBounds_k0) iofairBounds_k1) iofairBounds_k2) iofairBounds_k3) iofairBounds_k4) iofairBounds_k5) iofairBounds_k6) iofairBounds_k7) iofairBounds_k8) iofairBounds_k9) iofairBounds_k10) iofairBounds_k11) iofairBounds_k12) iofairBounds_k13) iofairBounds_k14) iofairBounds_k15) iofairBounds_k16) iofairBounds_k17) iofairBounds_k18) iofairBounds_k19) iofairBounds_k20) iofairBounds_k21) iofairBounds_k22) iofairBounds_k23) iofairBounds_k24) iofairBounds_k25) iofairBounds_k26) iofairBounds_k27) iofairBounds_k28) iofairBounds_k29) iofairBounds_k30) iofairBounds_k31

theorem iofairBounds_holds : Rows.IofairBoundsSaid :=
  OpenClaim.holds_of_wide 11 Try.f11 rfl rfl rfl rfl rfl rfl rfl ⟨rfl, rfl, rfl, rfl, rfl⟩ rfl rfl rfl rfl rfl (by kernel_rfl) Try.func11 iofairBounds_closed
    (of_decide_eq_true (by kernel_rfl)) (by unfold Func.isWrapper; first | (rw [if_pos (by decide +kernel)]; kernel_rfl) | (rw [if_neg (by decide +kernel)]; exact ⟨rfl, rfl⟩))
    (fun os started H enc _ => iofairBounds_lifted os started H enc)

end Go.Proofs.Ytcljahgcdbohaaa

