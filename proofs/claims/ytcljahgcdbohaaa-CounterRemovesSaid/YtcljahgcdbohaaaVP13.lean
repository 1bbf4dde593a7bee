/- CounterRemoves holds: for every input the call of the law returns true, and each argument reads afterwards as it read before. No conditions. -/
import Derived.Test.YtcljahgcdbohaaaRows
import Derived.Test.YtcljahgcdbohaaaVSeat
import Derived.Test.YtcljahgcdbohaaaVM2
import Derived.Test.YtcljahgcdbohaaaVHead
import Derived.ProofKit
set_option linter.unusedSimpArgs false
set_option linter.unusedVariables false
namespace Go.Proofs.Ytcljahgcdbohaaa
open Go.ChangeShapes Go.WideShapes Go.ChangeAt Go.RowKit Go.V

theorem counterRemoves_fit : Try.f13.params.toList.all (fitB Try.prog) = true := by kernel_rfl
theorem counterRemoves_u22 : Try.prog.underlying 22 = some (.slice 3) := by kernel_rfl
theorem counterRemoves_u3 : Try.prog.underlying 3 = some (.int .i64) := by kernel_rfl

theorem counterRemoves_call : ∀ us : List VVal, us.length = Try.f13.params.toList.length → (∀ (i : Nat) (t : TypeId) (u : VVal), Try.f13.params.toList[i]? = some t → us[i]? = some u → Fit Try.prog t u) → V 13 us [] = some (.p (.bool true), []) := by
  intro us hlen hfit
  rw [Try.params13] at hlen hfit
  match us, hlen with
  | [x0], _ =>
    obtain ⟨a0, rfl, w0⟩ := (hfit 0 22 x0 rfl rfl).isInts counterRemoves_u22 counterRemoves_u3
    exact counterRemoves_eq a0

set_option maxRecDepth 100000 in
theorem counterRemoves_lifted (os : Os) (started : os.Started) (H : Type) (enc : TypeId × Value → H) :
    ReturnsInHanded {} Try.checked os 13 .any (Rows.counterRemovesSpec.pre6 enc Try.prog Try.f13 Rows.counterRemovesRow.domain false) (Rows.counterRemovesSpec.post enc Try.prog Try.f13 false true false false) := by
  refine returnsInHanded_of_change (C := Try.checked) own_try started (by kernel_rfl) Try.func13
    (ChangeSpec.witness6 (enc := enc) (C := Try.checked) false ⟨#[], #[.slice none 0 0], []⟩ 8 (by kernel_rfl) (by kernel_rfl) (by kernel_rfl) (by kernel_rfl)) ?_
  intro W base args ds gs before hval0 hW _ _
  have hval : ∀ (j : Nat) t v, Try.f13.params[j]? = some t → args[j]? = some v → Value.okWide Try.prog W .any base t v := hval0
  have hW' := hW
  obtain ⟨p, q, hA0, hV, hbe, _, _⟩ := hW
  have hA : DataW.TrodAll enc Try.prog W 0 (fun _ => true) true Try.f13.params.toList args.toList ds p := hA0
  refine (law_calls V_sound counterRemoves_fit (fun j t v ht hv => hval j t v (by simpa using ht) hv) hA counterRemoves_call).mono fun e W' ⟨he, hb⟩ => ?_
  subst he
  have hlen := trodAll_len hA
  rw [Try.params13] at hlen
  obtain ⟨hgs, _⟩ := trodVars_none hV
  have hfn : ∀ ds : List (DataW H), ds.length = 1 → (Rows.counterRemovesSpec.fn H (ds ++ [])).results = [.lit (.bool true)] ∧ (Rows.counterRemovesSpec.fn H (ds ++ [])).args = ds ∧ (Rows.counterRemovesSpec.fn H (ds ++ [])).vars = [] := by
    intro ds hl
    match ds, hl with
    | [_], _ => exact ⟨rfl, rfl, rfl⟩
  obtain ⟨e1, e2, e3⟩ := hfn ds hlen
  exact ⟨_, rfl, law_post laid_try hW' rfl counterRemoves_fit hA hV hbe (t := 4) (by kernel_rfl) (by kernel_rfl) (by rw [hgs]; exact e1) (by rw [hgs]; exact e2) (by rw [hgs]; exact e3) hb⟩

theorem counterRemoves_k0 : (Rows.counterRemovesRow.wf (OpenSpec.ofChange Rows.counterRemovesSpec)) = true := by kernel_rfl
theorem counterRemoves_k1 : (laidOutB Try.prog) = true := by kernel_rfl
theorem counterRemoves_k2 : (mapsRowed Try.prog) = true := by kernel_rfl
theorem counterRemoves_k3 : (Try.f13.params.all (Try.prog.readableRec ·)) = true := by kernel_rfl
theorem counterRemoves_k4 : (namedTie Try.prog Rows.counterRemovesRow.named Rows.counterRemovesSpec.vars) = true := by kernel_rfl
theorem counterRemoves_k5 : ((Rows.counterRemovesRow.stops == [])) = true := by kernel_rfl
theorem counterRemoves_k6 : ((Try.prog.stops == [])) = true := by kernel_rfl
theorem counterRemoves_k7 : ((Rows.counterRemovesRow.knobs == [])) = true := by kernel_rfl
theorem counterRemoves_k8 : ((Try.prog.stopKnobs == [])) = true := by kernel_rfl
theorem counterRemoves_k9 : ((Rows.counterRemovesRow.inPlace == Try.prog.inPlace 13)) = true := by kernel_rfl
theorem counterRemoves_k10 : ((Rows.counterRemovesRow.unfollowed == Try.prog.unfollowed 13)) = true := by kernel_rfl
theorem counterRemoves_k11 : ((Rows.counterRemovesRow.recurses == Try.prog.recurses 13)) = true := by kernel_rfl
theorem counterRemoves_k12 : ((Rows.counterRemovesRow.named == Try.prog.varsNamed 13)) = true := by kernel_rfl
theorem counterRemoves_k13 : ((Rows.counterRemovesRow.maps == (Try.f13.params.toList ++ Rows.counterRemovesSpec.plain.varTypes Try.prog).any (Try.prog.mapsRec ·))) = true := by kernel_rfl
theorem counterRemoves_k14 : ((Rows.counterRemovesRow.ifaces == (Try.f13.params.toList ++ Rows.counterRemovesSpec.plain.varTypes Try.prog).any (Try.prog.ifacesRec ·))) = true := by kernel_rfl
theorem counterRemoves_k15 : ((Rows.counterRemovesRow.mapsOut == Try.prog.mapsAmong Try.f13.resultTypes.toList)) = true := by kernel_rfl
theorem counterRemoves_k16 : ((Rows.counterRemovesRow.loops == (Try.f13.params.toList ++ Rows.counterRemovesSpec.plain.varTypes Try.prog).any (Try.prog.loopsFrom ·))) = true := by kernel_rfl
theorem counterRemoves_k17 : ((Rows.counterRemovesRow.wideKeys == (Try.f13.params.toList ++ Rows.counterRemovesSpec.plain.varTypes Try.prog ++ Try.f13.resultTypes.toList).any (Try.prog.wideKeysFrom ·))) = true := by kernel_rfl
theorem counterRemoves_k18 : (Rows.counterRemovesSpec.vars.all (Try.prog.varReadable ·)) = true := by kernel_rfl
theorem counterRemoves_k19 : (Try.f13.resultTypes.all (fun t => Try.prog.readableRec t && decide (t < Try.prog.types.size))) = true := by kernel_rfl
theorem counterRemoves_k20 : ((Rows.counterRemovesRow.ifacesOut == Try.f13.resultTypes.toList.any (Try.prog.ifacesRec ·))) = true := by kernel_rfl
theorem counterRemoves_k21 : ((Rows.counterRemovesRow.loopsOut == Try.f13.resultTypes.toList.any (Try.prog.loopsFrom ·))) = true := by kernel_rfl
theorem counterRemoves_k22 : ((Rows.counterRemovesRow.plainKeys == Try.prog.plainKeys)) = true := by kernel_rfl
theorem counterRemoves_k23 : (Rows.counterRemovesRow.shortTexts.isNone) = true := by kernel_rfl
theorem counterRemoves_k24 : (Try.prog.stopsHeard) = true := by kernel_rfl
theorem counterRemoves_k25 : (Try.prog.mayEnter) = true := by exact try_mayEnter
theorem counterRemoves_k26 : ((Rows.counterRemovesRow.lifted == Try.prog.liftsFinal)) = true := by rw [try_lifts]; kernel_rfl
theorem counterRemoves_k27 : ((Try.prog.make == some Rows.counterRemovesRow.make)) = true := by rw [try_make]; kernel_rfl
theorem counterRemoves_k28 : ((Rows.counterRemovesRow.kinds == (if Rows.counterRemovesRow.domain.isEmpty then [] else Try.f13.params.toList.map fun t => match Try.prog.underlying t with | some (.int k) => some k | _ => none))) = true := by kernel_rfl
theorem counterRemoves_k29 : ((Rows.counterRemovesRow.pinned == Rows.counterRemovesRow.pinnedBy)) = true := by kernel_rfl
theorem counterRemoves_k30 : ((Rows.counterRemovesRow.veiled == (Try.f13.params.toList ++ Rows.counterRemovesSpec.plain.varTypes Try.prog ++ Try.f13.resultTypes.toList).any (Try.prog.veiledRec ·))) = true := by kernel_rfl
theorem counterRemoves_k31 : (Rows.counterRemovesRow.veiledFits Try.prog Try.f13.params.toList (Try.f13.params.toList ++ Rows.counterRemovesSpec.plain.varTypes Try.prog ++ Try.f13.resultTypes.toList)) = true := by kernel_rfl
set_option maxRecDepth 100000 in
theorem counterRemoves_closed : joinedFacts Try.prog 13 Try.f13 Rows.counterRemovesSpec Rows.counterRemovesRow = true := by
  unfold joinedFacts
  exact and_mk (and_mk (and_mk (and_mk (and_mk (and_mk (and_mk (and_mk (and_mk (and_mk (and_mk (and_mk (and_mk (and_mk (and_mk (and_mk (and_mk (and_mk (and_mk (and_mk (and_mk (and_mk (and_mk (and_mk (and_mk (and_mk (and_mk (and_mk (and_mk (and_mk (and_mk (counterRemoves_k0) counterRemoves_k1) counterRemoves_k2) counterRemoves_k3) counterRemoves_k4) counterRemoves_k5) counterRemoves_k6) counterRemoves_k7) counterRemoves_k8) counterRemoves_k9) counterRemoves_k10) counterRemoves_k11) counterRemoves_k12) counterRemoves_k13) counterRemoves_k14) counterRemoves_k15) counterRemoves_k16) counterRemoves_k17) counterRemoves_k18) counterRemoves_k19) counterRemoves_k20) counterRemoves_k21) counterRemoves_k22) counterRemoves_k23) counterRemoves_k24) counterRemoves_k25) counterRemoves_k26) counterRemoves_k27) counterRemoves_k28) counterRemoves_k29) counterRemoves_k30) counterRemoves_k31

theorem counterRemoves_holds : Rows.CounterRemovesSaid :=
  OpenClaim.holds_of_wide 13 Try.f13 rfl rfl rfl rfl rfl rfl rfl ⟨rfl, rfl, rfl, rfl, rfl⟩ rfl rfl rfl rfl rfl (by kernel_rfl) Try.func13 counterRemoves_closed
    (of_decide_eq_true (by kernel_rfl)) (by unfold Func.isWrapper; first | (rw [if_pos (by decide +kernel)]; kernel_rfl) | (rw [if_neg (by decide +kernel)]; exact ⟨rfl, rfl⟩))
    (fun os started H enc _ => counterRemoves_lifted os started H enc)

end Go.Proofs.Ytcljahgcdbohaaa

