/- IofairNext holds: for every input the call of the law returns true, and each argument reads afterwards as it read before. No conditions. -/
import Derived.Test.YtcljahgcdbohaaaRows
import Derived.Test.YtcljahgcdbohaaaVSeat
import Derived.Test.YtcljahgcdbohaaaVJ7
import Derived.Test.YtcljahgcdbohaaaVHead
import Derived.ProofKit
set_option linter.unusedSimpArgs false
set_option linter.unusedVariables false
namespace Go.Proofs.Ytcljahgcdbohaaa
open Go.ChangeShapes Go.WideShapes Go.ChangeAt Go.RowKit Go.V

theorem iofairNext_fit : Try.f16.params.toList.all (fitB Try.prog) = true := by kernel_rfl
theorem iofairNext_u22 : Try.prog.underlying 22 = some (.slice 3) := by kernel_rfl
theorem iofairNext_u3 : Try.prog.underlying 3 = some (.int .i64) := by kernel_rfl

theorem iofairNext_call : ∀ us : List VVal, us.length = Try.f16.params.toList.length → (∀ (i : Nat) (t : TypeId) (u : VVal), Try.f16.params.toList[i]? = some t → us[i]? = some u → Fit Try.prog t u) → V 16 us [] = some (.p (.bool true), []) := by
  intro us hlen hfit
  rw [Try.params16] at hlen hfit
  match us, hlen with
  | [x0, x1], _ =>
    obtain ⟨a0, rfl, w0⟩ := (hfit 0 22 x0 rfl rfl).isInts iofairNext_u22 iofairNext_u3
    obtain ⟨a1, rfl, w1⟩ := (hfit 1 3 x1 rfl rfl).isInt iofairNext_u3
    exact iofairNext_eq a0 a1

set_option maxRecDepth 100000 in
theorem iofairNext_lifted (os : Os) (started : os.Started) (H : Type) (enc : TypeId × Value → H) :
    ReturnsInHanded {} Try.checked os 16 .any (Rows.iofairNextSpec.pre6 enc Try.prog Try.f16 Rows.iofairNextRow.domain false) (Rows.iofairNextSpec.post enc Try.prog Try.f16 false true false false) := by
  refine returnsInHanded_of_change (C := Try.checked) own_try started (by kernel_rfl) Try.func16
    (ChangeSpec.witness6 (enc := enc) (C := Try.checked) false ⟨#[], #[.slice none 0 0, .int .i64 0], []⟩ 8 (by kernel_rfl) (by kernel_rfl) (by kernel_rfl) (by kernel_rfl)) ?_
  intro W base args ds gs before hval0 hW _ _
  have hval : ∀ (j : Nat) t v, Try.f16.params[j]? = some t → args[j]? = some v → Value.okWide Try.prog W .any base t v := hval0
  have hW' := hW
  obtain ⟨p, q, hA0, hV, hbe, _, _⟩ := hW
  have hA : DataW.TrodAll enc Try.prog W 0 (fun _ => true) true Try.f16.params.toList args.toList ds p := hA0
  refine (law_calls V_sound iofairNext_fit (fun j t v ht hv => hval j t v (by simpa using ht) hv) hA iofairNext_call).mono fun e W' ⟨he, hb⟩ => ?_
  subst he
  have hlen := trodAll_len hA
  rw [Try.params16] at hlen
  obtain ⟨hgs, _⟩ := trodVars_none hV
  have hfn : ∀ ds : List (DataW H), ds.length = 2 → (Rows.iofairNextSpec.fn H (ds ++ [])).results = [.lit (.bool true)] ∧ (Rows.iofairNextSpec.fn H (ds ++ [])).args = ds ∧ (Rows.iofairNextSpec.fn H (ds ++ [])).vars = [] := by
    intro ds hl
    match ds, hl with
    | [_, _], _ => exact ⟨rfl, rfl, rfl⟩
  obtain ⟨e1, e2, e3⟩ := hfn ds hlen
  exact ⟨_, rfl, law_post laid_try hW' rfl iofairNext_fit hA hV hbe (t := 4) (by kernel_rfl) (by kernel_rfl) (by rw [hgs]; exact e1) (by rw [hgs]; exact e2) (by rw [hgs]; exact e3) hb⟩

theorem iofairNext_k0 : (Rows.iofairNextRow.wf (OpenSpec.ofChange Rows.iofairNextSpec)) = true := by kernel_rfl
theorem iofairNext_k1 : (laidOutB Try.prog) = true := by kernel_rfl
theorem iofairNext_k2 : (mapsRowed Try.prog) = true := by kernel_rfl
theorem iofairNext_k3 : (Try.f16.params.all (Try.prog.readableRec ·)) = true := by kernel_rfl
theorem iofairNext_k4 : (namedTie Try.prog Rows.iofairNextRow.named Rows.iofairNextSpec.vars) = true := by kernel_rfl
theorem iofairNext_k5 : ((Rows.iofairNextRow.stops == [])) = true := by kernel_rfl
theorem iofairNext_k6 : ((Try.prog.stops == [])) = true := by kernel_rfl
theorem iofairNext_k7 : ((Rows.iofairNextRow.knobs == [])) = true := by kernel_rfl
theorem iofairNext_k8 : ((Try.prog.stopKnobs == [])) = true := by kernel_rfl
theorem iofairNext_k9 : ((Rows.iofairNextRow.inPlace == Try.prog.inPlace 16)) = true := by kernel_rfl
theorem iofairNext_k10 : ((Rows.iofairNextRow.unfollowed == Try.prog.unfollowed 16)) = true := by kernel_rfl
theorem iofairNext_k11 : ((Rows.iofairNextRow.recurses == Try.prog.recurses 16)) = true := by kernel_rfl
theorem iofairNext_k12 : ((Rows.iofairNextRow.named == Try.prog.varsNamed 16)) = true := by kernel_rfl
theorem iofairNext_k13 : ((Rows.iofairNextRow.maps == (Try.f16.params.toList ++ Rows.iofairNextSpec.plain.varTypes Try.prog).any (Try.prog.mapsRec ·))) = true := by kernel_rfl
theorem iofairNext_k14 : ((Rows.iofairNextRow.ifaces == (Try.f16.params.toList ++ Rows.iofairNextSpec.plain.varTypes Try.prog).any (Try.prog.ifacesRec ·))) = true := by kernel_rfl
theorem iofairNext_k15 : ((Rows.iofairNextRow.mapsOut == Try.prog.mapsAmong Try.f16.resultTypes.toList)) = true := by kernel_rfl
theorem iofairNext_k16 : ((Rows.iofairNextRow.loops == (Try.f16.params.toList ++ Rows.iofairNextSpec.plain.varTypes Try.prog).any (Try.prog.loopsFrom ·))) = true := by kernel_rfl
theorem iofairNext_k17 : ((Rows.iofairNextRow.wideKeys == (Try.f16.params.toList ++ Rows.iofairNextSpec.plain.varTypes Try.prog ++ Try.f16.resultTypes.toList).any (Try.prog.wideKeysFrom ·))) = true := by kernel_rfl
theorem iofairNext_k18 : (Rows.iofairNextSpec.vars.all (Try.prog.varReadable ·)) = true := by kernel_rfl
theorem iofairNext_k19 : (Try.f16.resultTypes.all (fun t => Try.prog.readableRec t && decide (t < Try.prog.types.size))) = true := by kernel_rfl
theorem iofairNext_k20 : ((Rows.iofairNextRow.ifacesOut == Try.f16.resultTypes.toList.any (Try.prog.ifacesRec ·))) = true := by kernel_rfl
theorem iofairNext_k21 : ((Rows.iofairNextRow.loopsOut == Try.f16.resultTypes.toList.any (Try.prog.loopsFrom ·))) = true := by kernel_rfl
theorem iofairNext_k22 : ((Rows.iofairNextRow.plainKeys == Try.prog.plainKeys)) = true := by kernel_rfl
theorem iofairNext_k23 : (Rows.iofairNextRow.shortTexts.isNone) = true := by kernel_rfl
theorem iofairNext_k24 : (Try.prog.stopsHeard) = true := by kernel_rfl
theorem iofairNext_k25 : (Try.prog.mayEnter) = true := by exact try_mayEnter
theorem iofairNext_k26 : ((Rows.iofairNextRow.lifted == Try.prog.liftsFinal)) = true := by rw [try_lifts]; kernel_rfl
theorem iofairNext_k27 : ((Try.prog.make == some Rows.iofairNextRow.make)) = true := by rw [try_make]; kernel_rfl
theorem iofairNext_k28 : ((Rows.iofairNextRow.kinds == (if Rows.iofairNextRow.domain.isEmpty then [] else Try.f16.params.toList.map fun t => match Try.prog.underlying t with | some (.int k) => some k | _ => none))) = true := by kernel_rfl
theorem iofairNext_k29 : ((Rows.iofairNextRow.pinned == Rows.iofairNextRow.pinnedBy)) = true := by kernel_rfl
theorem iofairNext_k30 : ((Rows.iofairNextRow.veiled == (Try.f16.params.toList ++ Rows.iofairNextSpec.plain.varTypes Try.prog ++ Try.f16.resultTypes.toList).any (Try.prog.veiledRec ·))) = true := by kernel_rfl
theorem iofairNext_k31 : (Rows.iofairNextRow.veiledFits Try.prog Try.f16.params.toList (Try.f16.params.toList ++ Rows.iofairNextSpec.plain.varTypes Try.prog ++ Try.f16.resultTypes.toList)) = true := by kernel_rfl
set_option maxRecDepth 100000 in
theorem iofairNext_closed : joinedFacts Try.prog 16 Try.f16 Rows.iofairNextSpec Rows.iofairNextRow = true := by
  unfold joinedFacts
  exact and_mk (and_mk (and_mk (and_mk (and_mk (and_mk (and_mk (and_mk (and_mk (and_mk (and_mk (and_mk (and_mk (and_mk (and_mk (and_mk (and_mk (and_mk (and_mk (and_mk (and_mk (and_mk (and_mk (and_mk (and_mk (and_mk (and_mk (and_mk (and_mk (and_mk (and_mk (iofairNext_k0) iofairNext_k1) iofairNext_k2) iofairNext_k3) iofairNext_k4) iofairNext_k5) iofairNext_k6) iofairNext_k7) iofairNext_k8) iofairNext_k9) iofairNext_k10) iofairNext_k11) iofairNext_k12) iofairNext_k13) iofairNext_k14) iofairNext_k15) iofairNext_k16) iofairNext_k17) iofairNext_k18) iofairNext_k19) iofairNext_k20) iofairNext_k21) iofairNext_k22) iofairNext_k23) iofairNext_k24) iofairNext_k25) iofairNext_k26) iofairNext_k27) iofairNext_k28) iofairNext_k29) iofairNext_k30) iofairNext_k31

theorem iofairNext_holds : Rows.IofairNextSaid :=
  OpenClaim.holds_of_wide 16 Try.f16 rfl rfl rfl rfl rfl rfl rfl ⟨rfl, rfl, rfl, rfl, rfl⟩ rfl rfl rfl rfl rfl (by kernel_rfl) Try.func16 iofairNext_closed
    (of_decide_eq_true (by kernel_rfl)) (by unfold Func.isWrapper; first | (rw [if_pos (by decide +kernel)]; kernel_rfl) | (rw [if_neg (by decide +kernel)]; exact ⟨rfl, rfl⟩))
    (fun os started H enc _ => iofairNext_lifted os started H enc)

end Go.Proofs.Ytcljahgcdbohaaa

