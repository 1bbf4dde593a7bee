/- IofairShrinks holds: for every input the call of the law returns true, and each argument reads afterwards as it read before. No conditions. -/
import Derived.Test.YtcljahgcdbohaaaRows
import Derived.Test.YtcljahgcdbohaaaVSeat
import Derived.Test.YtcljahgcdbohaaaVJ3
import Derived.Test.YtcljahgcdbohaaaVHead
import Derived.ProofKit
set_option linter.unusedSimpArgs false
set_option linter.unusedVariables false
namespace Go.Proofs.Ytcljahgcdbohaaa
open Go.ChangeShapes Go.WideShapes Go.ChangeAt Go.RowKit Go.V

theorem iofairShrinks_fit : Try.f10.params.toList.all (fitB Try.prog) = true := by kernel_rfl
theorem iofairShrinks_u22 : Try.prog.underlying 22 = some (.slice 3) := by kernel_rfl
theorem iofairShrinks_u3 : Try.prog.underlying 3 = some (.int .i64) := by kernel_rfl

theorem iofairShrinks_call : ∀ us : List VVal, us.length = Try.f10.params.toList.length → (∀ (i : Nat) (t : TypeId) (u : VVal), Try.f10.params.toList[i]? = some t → us[i]? = some u → Fit Try.prog t u) → V 10 us [] = some (.p (.bool true), []) := by
  intro us hlen hfit
  rw [Try.params10] at hlen hfit
  match us, hlen with
  | [x0, x1], _ =>
    obtain ⟨a0, rfl, w0⟩ := (hfit 0 22 x0 rfl rfl).isInts iofairShrinks_u22 iofairShrinks_u3
    obtain ⟨a1, rfl, w1⟩ := (hfit 1 3 x1 rfl rfl).isInt iofairShrinks_u3
    exact iofairShrinks_eq a0 a1

set_option maxRecDepth 100000 in
theorem iofairShrinks_lifted (os : Os) (started : os.Started) (H : Type) (enc : TypeId × Value → H) :
    ReturnsInHanded {} Try.checked os 10 .any (Rows.iofairShrinksSpec.pre6 enc Try.prog Try.f10 Rows.iofairShrinksRow.domain false) (Rows.iofairShrinksSpec.post enc Try.prog Try.f10 false true false false) := by
  refine returnsInHanded_of_change (C := Try.checked) own_try started (by kernel_rfl) Try.func10
    (ChangeSpec.witness6 (enc := enc) (C := Try.checked) false ⟨#[], #[.slice none 0 0, .int .i64 0], []⟩ 8 (by kernel_rfl) (by kernel_rfl) (by kernel_rfl) (by kernel_rfl)) ?_
  intro W base args ds gs before hval0 hW _ _
  have hval : ∀ (j : Nat) t v, Try.f10.params[j]? = some t → args[j]? = some v → Value.okWide Try.prog W .any base t v := hval0
  have hW' := hW
  obtain ⟨p, q, hA0, hV, hbe, _, _⟩ := hW
  have hA : DataW.TrodAll enc Try.prog W 0 (fun _ => true) true Try.f10.params.toList args.toList ds p := hA0
  refine (law_calls V_sound iofairShrinks_fit (fun j t v ht hv => hval j t v (by simpa using ht) hv) hA iofairShrinks_call).mono fun e W' ⟨he, hb⟩ => ?_
  subst he
  have hlen := trodAll_len hA
  rw [Try.params10] at hlen
  obtain ⟨hgs, _⟩ := trodVars_none hV
  have hfn : ∀ ds : List (DataW H), ds.length = 2 → (Rows.iofairShrinksSpec.fn H (ds ++ [])).results = [.lit (.bool true)] ∧ (Rows.iofairShrinksSpec.fn H (ds ++ [])).args = ds ∧ (Rows.iofairShrinksSpec.fn H (ds ++ [])).vars = [] := by
    intro ds hl
    match ds, hl with
    | [_, _], _ => exact ⟨rfl, rfl, rfl⟩
  obtain ⟨e1, e2, e3⟩ := hfn ds hlen
  exact ⟨_, rfl, law_post laid_try hW' rfl iofairShrinks_fit hA hV hbe (t := 4) (by kernel_rfl) (by kernel_rfl) (by rw [hgs]; exact e1) (by rw [hgs]; exact e2) (by rw [hgs]; exact e3) hb⟩

theorem iofairShrinks_k0 : (Rows.iofairShrinksRow.wf (OpenSpec.ofChange Rows.iofairShrinksSpec)) = true := by kernel_rfl
theorem iofairShrinks_k1 : (laidOutB Try.prog) = true := by kernel_rfl
theorem iofairShrinks_k2 : (mapsRowed Try.prog) = true := by kernel_rfl
theorem iofairShrinks_k3 : (Try.f10.params.all (Try.prog.readableRec ·)) = true := by kernel_rfl
theorem iofairShrinks_k4 : (namedTie Try.prog Rows.iofairShrinksRow.named Rows.iofairShrinksSpec.vars) = true := by kernel_rfl
theorem iofairShrinks_k5 : ((Rows.iofairShrinksRow.stops == [])) = true := by kernel_rfl
theorem iofairShrinks_k6 : ((Try.prog.stops == [])) = true := by kernel_rfl
theorem iofairShrinks_k7 : ((Rows.iofairShrinksRow.knobs == [])) = true := by kernel_rfl
theorem iofairShrinks_k8 : ((Try.prog.stopKnobs == [])) = true := by kernel_rfl
theorem iofairShrinks_k9 : ((Rows.iofairShrinksRow.inPlace == Try.prog.inPlace 10)) = true := by kernel_rfl
theorem iofairShrinks_k10 : ((Rows.iofairShrinksRow.unfollowed == Try.prog.unfollowed 10)) = true := by kernel_rfl
theorem iofairShrinks_k11 : ((Rows.iofairShrinksRow.recurses == Try.prog.recurses 10)) = true := by kernel_rfl
theorem iofairShrinks_k12 : ((Rows.iofairShrinksRow.named == Try.prog.varsNamed 10)) = true := by kernel_rfl
theorem iofairShrinks_k13 : ((Rows.iofairShrinksRow.maps == (Try.f10.params.toList ++ Rows.iofairShrinksSpec.plain.varTypes Try.prog).any (Try.prog.mapsRec ·))) = true := by kernel_rfl
theorem iofairShrinks_k14 : ((Rows.iofairShrinksRow.ifaces == (Try.f10.params.toList ++ Rows.iofairShrinksSpec.plain.varTypes Try.prog).any (Try.prog.ifacesRec ·))) = true := by kernel_rfl
theorem iofairShrinks_k15 : ((Rows.iofairShrinksRow.mapsOut == Try.prog.mapsAmong Try.f10.resultTypes.toList)) = true := by kernel_rfl
theorem iofairShrinks_k16 : ((Rows.iofairShrinksRow.loops == (Try.f10.params.toList ++ Rows.iofairShrinksSpec.plain.varTypes Try.prog).any (Try.prog.loopsFrom ·))) = true := by kernel_rfl
theorem iofairShrinks_k17 : ((Rows.iofairShrinksRow.wideKeys == (Try.f10.params.toList ++ Rows.iofairShrinksSpec.plain.varTypes Try.prog ++ Try.f10.resultTypes.toList).any (Try.prog.wideKeysFrom ·))) = true := by kernel_rfl
theorem iofairShrinks_k18 : (Rows.iofairShrinksSpec.vars.all (Try.prog.varReadable ·)) = true := by kernel_rfl
theorem iofairShrinks_k19 : (Try.f10.resultTypes.all (fun t => Try.prog.readableRec t && decide (t < Try.prog.types.size))) = true := by kernel_rfl
theorem iofairShrinks_k20 : ((Rows.iofairShrinksRow.ifacesOut == Try.f10.resultTypes.toList.any (Try.prog.ifacesRec ·))) = true := by kernel_rfl
theorem iofairShrinks_k21 : ((Rows.iofairShrinksRow.loopsOut == Try.f10.resultTypes.toList.any (Try.prog.loopsFrom ·))) = true := by kernel_rfl
theorem iofairShrinks_k22 : ((Rows.iofairShrinksRow.plainKeys == Try.prog.plainKeys)) = true := by kernel_rfl
theorem iofairShrinks_k23 : (Rows.iofairShrinksRow.shortTexts.isNone) = true := by kernel_rfl
theorem iofairShrinks_k24 : (Try.prog.stopsHeard) = true := by kernel_rfl
theorem iofairShrinks_k25 : (Try.prog.mayEnter) = true := by exact try_mayEnter
theorem iofairShrinks_k26 : ((Rows.iofairShrinksRow.lifted == Try.prog.liftsFinal)) = true := by rw [try_lifts]; kernel_rfl
theorem iofairShrinks_k27 : ((Try.prog.make == some Rows.iofairShrinksRow.make)) = true := by rw [try_make]; kernel_rfl
theorem iofairShrinks_k28 : ((Rows.iofairShrinksRow.kinds == (if Rows.iofairShrinksRow.domain.isEmpty then [] else Try.f10.params.toList.map fun t => match Try.prog.underlying t with | some (.int k) => some k | _ => none))) = true := by kernel_rfl
theorem iofairShrinks_k29 : ((Rows.iofairShrinksRow.pinned == Rows.iofairShrinksRow.pinnedBy)) = true := by kernel_rfl
theorem iofairShrinks_k30 : ((Rows.iofairShrinksRow.veiled == (Try.f10.params.toList ++ Rows.iofairShrinksSpec.plain.varTypes Try.prog ++ Try.f10.resultTypes.toList).any (Try.prog.veiledRec ·))) = true := by kernel_rfl
theorem iofairShrinks_k31 : (Rows.iofairShrinksRow.veiledFits Try.prog Try.f10.params.toList (Try.f10.params.toList ++ Rows.iofairShrinksSpec.plain.varTypes Try.prog ++ Try.f10.resultTypes.toList)) = true := by kernel_rfl
set_option maxRecDepth 100000 in
theorem iofairShrinks_closed : joinedFacts Try.prog 10 Try.f10 Rows.iofairShrinksSpec Rows.iofairShrinksRow = true := by
  unfold joinedFacts
  exact and_mk (and_mk (and_mk (and_mk (and_mk (and_mk (and_mk (and_mk (and_mk (and_mk (and_mk (and_mk (and_mk (and_mk (and_mk (and_mk (and_mk (and_mk (and_mk (and_mk (and_mk (and_mk (and_mk (and_mk (and_mk (and_mk (and_mk (and_mk (and_mk (and_mk (and_mk (iofairShrinks_k0) iofairShrinks_k1) iofairShrinks_k2) iofairShrinks_k3) iofairShrinks_k4) iofairShrinks_k5) iofairShrinks_k6) iofairShrinks_k7) iofairShrinks_k8) iofairShrinks_k9) iofairShrinks_k10) iofairShrinks_k11) iofairShrinks_k12) iofairShrinks_k13) iofairShrinks_k14) iofairShrinks_k15) iofairShrinks_k16) iofairShrinks_k17) iofairShrinks_k18) iofairShrinks_k19) iofairShrinks_k20) iofairShrinks_k21) iofairShrinks_k22) iofairShrinks_k23) iofairShrinks_k24) iofairShrinks_k25) iofairShrinks_k26) iofairShrinks_k27) iofairShrinks_k28) iofairShrinks_k29) iofairShrinks_k30) iofairShrinks_k31

theorem iofairShrinks_holds : Rows.IofairShrinksSaid :=
  OpenClaim.holds_of_wide 10 Try.f10 rfl rfl rfl rfl rfl rfl rfl ⟨rfl, rfl, rfl, rfl, rfl⟩ rfl rfl rfl rfl rfl (by kernel_rfl) Try.func10 iofairShrinks_closed
    (of_decide_eq_true (by kernel_rfl)) (by unfold Func.isWrapper; first | (rw [if_pos (by decide +kernel)]; kernel_rfl) | (rw [if_neg (by decide +kernel)]; exact ⟨rfl, rfl⟩))
    (fun os started H enc _ => iofairShrinks_lifted os started H enc)

end Go.Proofs.Ytcljahgcdbohaaa

