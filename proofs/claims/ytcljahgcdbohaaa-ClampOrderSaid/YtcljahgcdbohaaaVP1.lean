/- ClampOrder holds: for every input the call of groupcontrollaw19.ClampOrder returns true, and each argument reads afterwards as it read before. No conditions. -/
import Derived.Test.YtcljahgcdbohaaaRows
import Derived.Test.YtcljahgcdbohaaaVSeat
import Derived.Test.YtcljahgcdbohaaaVL1
import Derived.Test.YtcljahgcdbohaaaVHead
import Derived.ProofKit
set_option linter.unusedSimpArgs false
set_option linter.unusedVariables false
namespace Go.Proofs.Ytcljahgcdbohaaa
open Go.ChangeShapes Go.WideShapes Go.ChangeAt Go.RowKit Go.V

theorem clampOrder_fit : Try.f3.params.toList.all (fitB Try.prog) = true := by kernel_rfl
theorem u22 : Try.prog.underlying 22 = some (.slice 3) := by kernel_rfl
theorem u3 : Try.prog.underlying 3 = some (.int .i64) := by kernel_rfl

theorem clampOrder_call : ∀ us : List VVal, us.length = Try.f3.params.toList.length → (∀ (i : Nat) (t : TypeId) (u : VVal), Try.f3.params.toList[i]? = some t → us[i]? = some u → Fit Try.prog t u) → V 3 us [] = some (.p (.bool true), []) := by
  intro us hlen hfit
  rw [Try.params3] at hlen hfit
  match us, hlen with
  | [x, y, z], _ =>
    obtain ⟨xs, rfl, _⟩ := (hfit 0 22 x rfl rfl).isInts u22 u3
    obtain ⟨a, rfl, _⟩ := (hfit 1 3 y rfl rfl).isInt u3
    obtain ⟨b, rfl, _⟩ := (hfit 2 3 z rfl rfl).isInt u3
    exact clampOrder_eq xs a b

set_option maxRecDepth 100000 in
theorem clampOrder_lifted (os : Os) (started : os.Started) (H : Type) (enc : TypeId × Value → H) :
    ReturnsInHanded {} Try.checked os 3 .any (Rows.clampOrderSpec.pre6 enc Try.prog Try.f3 Rows.clampOrderRow.domain false) (Rows.clampOrderSpec.post enc Try.prog Try.f3 false true false false) := by
  refine returnsInHanded_of_change (C := Try.checked) own_try started (by kernel_rfl) Try.func3
    (ChangeSpec.witness6 (enc := enc) (C := Try.checked) false ⟨#[], #[.slice none 0 0, .int .i64 0, .int .i64 0], []⟩ 8 (by kernel_rfl) (by kernel_rfl) (by kernel_rfl) (by kernel_rfl)) ?_
  intro W base args ds gs before hval0 hW _ _
  have hval : ∀ (j : Nat) t v, Try.f3.params[j]? = some t → args[j]? = some v → Value.okWide Try.prog W .any base t v := hval0
  have hW' := hW
  obtain ⟨p, q, hA0, hV, hbe, _, _⟩ := hW
  have hA : DataW.TrodAll enc Try.prog W 0 (fun _ => true) true Try.f3.params.toList args.toList ds p := hA0
  refine (law_calls V_sound clampOrder_fit (fun j t v ht hv => hval j t v (by simpa using ht) hv) hA clampOrder_call).mono fun e W' ⟨he, hb⟩ => ?_
  subst he
  have hlen := trodAll_len hA
  rw [Try.params3] at hlen
  obtain ⟨hgs, _⟩ := trodVars_none hV
  have hfn : ∀ ds : List (DataW H), ds.length = 3 → (Rows.clampOrderSpec.fn H (ds ++ [])).results = [.lit (.bool true)] ∧ (Rows.clampOrderSpec.fn H (ds ++ [])).args = ds ∧ (Rows.clampOrderSpec.fn H (ds ++ [])).vars = [] := by
    intro ds hl
    match ds, hl with
    | [_, _, _], _ => exact ⟨rfl, rfl, rfl⟩
  obtain ⟨e1, e2, e3⟩ := hfn ds hlen
  exact ⟨_, rfl, law_post laid_try hW' rfl clampOrder_fit hA hV hbe (t := 4) (by kernel_rfl) (by kernel_rfl) (by rw [hgs]; exact e1) (by rw [hgs]; exact e2) (by rw [hgs]; exact e3) hb⟩

theorem clampOrder_k0 : (Rows.clampOrderRow.wf (OpenSpec.ofChange Rows.clampOrderSpec)) = true := by kernel_rfl
theorem clampOrder_k1 : (laidOutB Try.prog) = true := by kernel_rfl
theorem clampOrder_k2 : (mapsRowed Try.prog) = true := by kernel_rfl
theorem clampOrder_k3 : (Try.f3.params.all (Try.prog.readableRec ·)) = true := by kernel_rfl
theorem clampOrder_k4 : (namedTie Try.prog Rows.clampOrderRow.named Rows.clampOrderSpec.vars) = true := by kernel_rfl
theorem clampOrder_k5 : ((Rows.clampOrderRow.stops == [])) = true := by kernel_rfl
theorem clampOrder_k6 : ((Try.prog.stops == [])) = true := by kernel_rfl
theorem clampOrder_k7 : ((Rows.clampOrderRow.knobs == [])) = true := by kernel_rfl
theorem clampOrder_k8 : ((Try.prog.stopKnobs == [])) = true := by kernel_rfl
theorem clampOrder_k9 : ((Rows.clampOrderRow.inPlace == Try.prog.inPlace 3)) = true := by kernel_rfl
theorem clampOrder_k10 : ((Rows.clampOrderRow.unfollowed == Try.prog.unfollowed 3)) = true := by kernel_rfl
theorem clampOrder_k11 : ((Rows.clampOrderRow.recurses == Try.prog.recurses 3)) = true := by kernel_rfl
theorem clampOrder_k12 : ((Rows.clampOrderRow.named == Try.prog.varsNamed 3)) = true := by kernel_rfl
theorem clampOrder_k13 : ((Rows.clampOrderRow.maps == (Try.f3.params.toList ++ Rows.clampOrderSpec.plain.varTypes Try.prog).any (Try.prog.mapsRec ·))) = true := by kernel_rfl
theorem clampOrder_k14 : ((Rows.clampOrderRow.ifaces == (Try.f3.params.toList ++ Rows.clampOrderSpec.plain.varTypes Try.prog).any (Try.prog.ifacesRec ·))) = true := by kernel_rfl
theorem clampOrder_k15 : ((Rows.clampOrderRow.mapsOut == Try.prog.mapsAmong Try.f3.resultTypes.toList)) = true := by kernel_rfl
theorem clampOrder_k16 : ((Rows.clampOrderRow.loops == (Try.f3.params.toList ++ Rows.clampOrderSpec.plain.varTypes Try.prog).any (Try.prog.loopsFrom ·))) = true := by kernel_rfl
theorem clampOrder_k17 : ((Rows.clampOrderRow.wideKeys == (Try.f3.params.toList ++ Rows.clampOrderSpec.plain.varTypes Try.prog ++ Try.f3.resultTypes.toList).any (Try.prog.wideKeysFrom ·))) = true := by kernel_rfl
theorem clampOrder_k18 : (Rows.clampOrderSpec.vars.all (Try.prog.varReadable ·)) = true := by kernel_rfl
theorem clampOrder_k19 : (Try.f3.resultTypes.all (fun t => Try.prog.readableRec t && decide (t < Try.prog.types.size))) = true := by kernel_rfl
theorem clampOrder_k20 : ((Rows.clampOrderRow.ifacesOut == Try.f3.resultTypes.toList.any (Try.prog.ifacesRec ·))) = true := by kernel_rfl
theorem clampOrder_k21 : ((Rows.clampOrderRow.loopsOut == Try.f3.resultTypes.toList.any (Try.prog.loopsFrom ·))) = true := by kernel_rfl
theorem clampOrder_k22 : ((Rows.clampOrderRow.plainKeys == Try.prog.plainKeys)) = true := by kernel_rfl
theorem clampOrder_k23 : (Rows.clampOrderRow.shortTexts.isNone) = true := by kernel_rfl
theorem clampOrder_k24 : (Try.prog.stopsHeard) = true := by kernel_rfl
theorem clampOrder_k25 : (Try.prog.mayEnter) = true := by exact try_mayEnter
theorem clampOrder_k26 : ((Rows.clampOrderRow.lifted == Try.prog.liftsFinal)) = true := by rw [try_lifts]; kernel_rfl
theorem clampOrder_k27 : ((Try.prog.make == some Rows.clampOrderRow.make)) = true := by rw [try_make]; kernel_rfl
theorem clampOrder_k28 : ((Rows.clampOrderRow.kinds == (if Rows.clampOrderRow.domain.isEmpty then [] else Try.f3.params.toList.map fun t => match Try.prog.underlying t with | some (.int k) => some k | _ => none))) = true := by kernel_rfl
theorem clampOrder_k29 : ((Rows.clampOrderRow.pinned == Rows.clampOrderRow.pinnedBy)) = true := by kernel_rfl
theorem clampOrder_k30 : ((Rows.clampOrderRow.veiled == (Try.f3.params.toList ++ Rows.clampOrderSpec.plain.varTypes Try.prog ++ Try.f3.resultTypes.toList).any (Try.prog.veiledRec ·))) = true := by kernel_rfl
theorem clampOrder_k31 : (Rows.clampOrderRow.veiledFits Try.prog Try.f3.params.toList (Try.f3.params.toList ++ Rows.clampOrderSpec.plain.varTypes Try.prog ++ Try.f3.resultTypes.toList)) = true := by kernel_rfl
set_option maxRecDepth 100000 in
theorem clampOrder_closed : joinedFacts Try.prog 3 Try.f3 Rows.clampOrderSpec Rows.clampOrderRow = true := by
  unfold joinedFacts
  exact and_mk (and_mk (and_mk (and_mk (and_mk (and_mk (and_mk (and_mk (and_mk (and_mk (and_mk (and_mk (and_mk (and_mk (and_mk (and_mk (and_mk (and_mk (and_mk (and_mk (and_mk (and_mk (and_mk (and_mk (and_mk (and_mk (and_mk (and_mk (and_mk (and_mk (and_mk (clampOrder_k0) clampOrder_k1) clampOrder_k2) clampOrder_k3) clampOrder_k4) clampOrder_k5) clampOrder_k6) clampOrder_k7) clampOrder_k8) clampOrder_k9) clampOrder_k10) clampOrder_k11) clampOrder_k12) clampOrder_k13) clampOrder_k14) clampOrder_k15) clampOrder_k16) clampOrder_k17) clampOrder_k18) clampOrder_k19) clampOrder_k20) clampOrder_k21) clampOrder_k22) clampOrder_k23) clampOrder_k24) clampOrder_k25) clampOrder_k26) clampOrder_k27) clampOrder_k28) clampOrder_k29) clampOrder_k30) clampOrder_k31


theorem clampOrder_holds : Rows.ClampOrderSaid :=
  OpenClaim.holds_of_wide 3 Try.f3 rfl rfl rfl rfl rfl rfl rfl ⟨rfl, rfl, rfl, rfl, rfl⟩ rfl rfl rfl rfl rfl (by kernel_rfl) Try.func3 clampOrder_closed
    (of_decide_eq_true (by kernel_rfl)) (by unfold Func.isWrapper; first | (rw [if_pos (by decide +kernel)]; kernel_rfl) | (rw [if_neg (by decide +kernel)]; exact ⟨rfl, rfl⟩))
    (fun os started H enc _ => clampOrder_lifted os started H enc)

end Go.Proofs.Ytcljahgcdbohaaa
