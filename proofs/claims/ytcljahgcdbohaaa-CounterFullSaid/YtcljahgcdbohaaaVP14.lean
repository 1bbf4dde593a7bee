/- CounterFull holds: for every input the call of the law returns true, and each argument reads afterwards as it read before. No conditions. -/
import Derived.Test.YtcljahgcdbohaaaRows
import Derived.Test.YtcljahgcdbohaaaVSeat
import Derived.Test.YtcljahgcdbohaaaVM3
import Derived.Test.YtcljahgcdbohaaaVHead
import Derived.ProofKit
set_option linter.unusedSimpArgs false
set_option linter.unusedVariables false
namespace Go.Proofs.Ytcljahgcdbohaaa
open Go.ChangeShapes Go.WideShapes Go.ChangeAt Go.RowKit Go.V

theorem counterFull_fit : Try.f14.params.toList.all (fitB Try.prog) = true := by kernel_rfl
theorem counterFull_u3 : Try.prog.underlying 3 = some (.int .i64) := by kernel_rfl

theorem counterFull_call : ∀ us : List VVal, us.length = Try.f14.params.toList.length → (∀ (i : Nat) (t : TypeId) (u : VVal), Try.f14.params.toList[i]? = some t → us[i]? = some u → Fit Try.prog t u) → V 14 us [] = some (.p (.bool true), []) := by
  intro us hlen hfit
  rw [Try.params14] at hlen hfit
  match us, hlen with
  | [x0], _ =>
    obtain ⟨a0, rfl, w0⟩ := (hfit 0 3 x0 rfl rfl).isInt counterFull_u3
    exact counterFull_eq a0

set_option maxRecDepth 100000 in
theorem counterFull_lifted (os : Os) (started : os.Started) (H : Type) (enc : TypeId × Value → H) :
    ReturnsInHanded {} Try.checked os 14 .any (Rows.counterFullSpec.pre6 enc Try.prog Try.f14 Rows.counterFullRow.domain false) (Rows.counterFullSpec.post enc Try.prog Try.f14 false true false false) := by
  refine returnsInHanded_of_change (C := Try.checked) own_try started (by kernel_rfl) Try.func14
    (ChangeSpec.witness6 (enc := enc) (C := Try.checked) false ⟨#[], #[.int .i64 0], []⟩ 8 (by kernel_rfl) (by kernel_rfl) (by kernel_rfl) (by kernel_rfl)) ?_
  intro W base args ds gs before hval0 hW _ _
  have hval : ∀ (j : Nat) t v, Try.f14.params[j]? = some t → args[j]? = some v → Value.okWide Try.prog W .any base t v := hval0
  have hW' := hW
  obtain ⟨p, q, hA0, hV, hbe, _, _⟩ := hW
  have hA : DataW.TrodAll enc Try.prog W 0 (fun _ => true) true Try.f14.params.toList args.toList ds p := hA0
  refine (law_calls V_sound counterFull_fit (fun j t v ht hv => hval j t v (by simpa using ht) hv) hA counterFull_call).mono fun e W' ⟨he, hb⟩ => ?_
  subst he
  have hlen := trodAll_len hA
  rw [Try.params14] at hlen
  obtain ⟨hgs, _⟩ := trodVars_none hV
  have hfn : ∀ ds : List (DataW H), ds.length = 1 → (Rows.counterFullSpec.fn H (ds ++ [])).results = [.lit (.bool true)] ∧ (Rows.counterFullSpec.fn H (ds ++ [])).args = ds ∧ (Rows.counterFullSpec.fn H (ds ++ [])).vars = [] := by
    intro ds hl
    match ds, hl with
    | [_], _ => exact ⟨rfl, rfl, rfl⟩
  obtain ⟨e1, e2, e3⟩ := hfn ds hlen
  exact ⟨_, rfl, law_post laid_try hW' rfl counterFull_fit hA hV hbe (t := 4) (by kernel_rfl) (by kernel_rfl) (by rw [hgs]; exact e1) (by rw [hgs]; exact e2) (by rw [hgs]; exact e3) hb⟩

theorem counterFull_k0 : (Rows.counterFullRow.wf (OpenSpec.ofChange Rows.counterFullSpec)) = true := by kernel_rfl
theorem counterFull_k1 : (laidOutB Try.prog) = true := by kernel_rfl
theorem counterFull_k2 : (mapsRowed Try.prog) = true := by kernel_rfl
theorem counterFull_k3 : (Try.f14.params.all (Try.prog.readableRec ·)) = true := by kernel_rfl
theorem counterFull_k4 : (namedTie Try.prog Rows.counterFullRow.named Rows.counterFullSpec.vars) = true := by kernel_rfl
theorem counterFull_k5 : ((Rows.counterFullRow.stops == [])) = true := by kernel_rfl
theorem counterFull_k6 : ((Try.prog.stops == [])) = true := by kernel_rfl
theorem counterFull_k7 : ((Rows.counterFullRow.knobs == [])) = true := by kernel_rfl
theorem counterFull_k8 : ((Try.prog.stopKnobs == [])) = true := by kernel_rfl
theorem counterFull_k9 : ((Rows.counterFullRow.inPlace == Try.prog.inPlace 14)) = true := by kernel_rfl
theorem counterFull_k10 : ((Rows.counterFullRow.unfollowed == Try.prog.unfollowed 14)) = true := by kernel_rfl
theorem counterFull_k11 : ((Rows.counterFullRow.recurses == Try.prog.recurses 14)) = true := by kernel_rfl
theorem counterFull_k12 : ((Rows.counterFullRow.named == Try.prog.varsNamed 14)) = true := by kernel_rfl
theorem counterFull_k13 : ((Rows.counterFullRow.maps == (Try.f14.params.toList ++ Rows.counterFullSpec.plain.varTypes Try.prog).any (Try.prog.mapsRec ·))) = true := by kernel_rfl
theorem counterFull_k14 : ((Rows.counterFullRow.ifaces == (Try.f14.params.toList ++ Rows.counterFullSpec.plain.varTypes Try.prog).any (Try.prog.ifacesRec ·))) = true := by kernel_rfl
theorem counterFull_k15 : ((Rows.counterFullRow.mapsOut == Try.prog.mapsAmong Try.f14.resultTypes.toList)) = true := by kernel_rfl
theorem counterFull_k16 : ((Rows.counterFullRow.loops == (Try.f14.params.toList ++ Rows.counterFullSpec.plain.varTypes Try.prog).any (Try.prog.loopsFrom ·))) = true := by kernel_rfl
theorem counterFull_k17 : ((Rows.counterFullRow.wideKeys == (Try.f14.params.toList ++ Rows.counterFullSpec.plain.varTypes Try.prog ++ Try.f14.resultTypes.toList).any (Try.prog.wideKeysFrom ·))) = true := by kernel_rfl
theorem counterFull_k18 : (Rows.counterFullSpec.vars.all (Try.prog.varReadable ·)) = true := by kernel_rfl
theorem counterFull_k19 : (Try.f14.resultTypes.all (fun t => Try.prog.readableRec t && decide (t < Try.prog.types.size))) = true := by kernel_rfl
theorem counterFull_k20 : ((Rows.counterFullRow.ifacesOut == Try.f14.resultTypes.toList.any (Try.prog.ifacesRec ·))) = true := by kernel_rfl
theorem counterFull_k21 : ((Rows.counterFullRow.loopsOut == Try.f14.resultTypes.toList.any (Try.prog.loopsFrom ·))) = true := by kernel_rfl
theorem counterFull_k22 : ((Rows.counterFullRow.plainKeys == Try.prog.plainKeys)) = true := by kernel_rfl
theorem counterFull_k23 : (Rows.counterFullRow.shortTexts.isNone) = true := by kernel_rfl
theorem counterFull_k24 : (Try.prog.stopsHeard) = true := by kernel_rfl
theorem counterFull_k25 : (Try.prog.mayEnter) = true := by exact try_mayEnter
theorem counterFull_k26 : ((Rows.counterFullRow.lifted == Try.prog.liftsFinal)) = true := by rw [try_lifts]; kernel_rfl
theorem counterFull_k27 : ((Try.prog.make == some Rows.counterFullRow.make)) = true := by rw [try_make]; kernel_rfl
theorem counterFull_k28 : ((Rows.counterFullRow.kinds == (if Rows.counterFullRow.domain.isEmpty then [] else Try.f14.params.toList.map fun t => match Try.prog.underlying t with | some (.int k) => some k | _ => none))) = true := by kernel_rfl
theorem counterFull_k29 : ((Rows.counterFullRow.pinned == Rows.counterFullRow.pinnedBy)) = true := by kernel_rfl
theorem counterFull_k30 : ((Rows.counterFullRow.veiled == (Try.f14.params.toList ++ Rows.counterFullSpec.plain.varTypes Try.prog ++ Try.f14.resultTypes.toList).any (Try.prog.veiledRec ·))) = true := by kernel_rfl
theorem counterFull_k31 : (Rows.counterFullRow.veiledFits Try.prog Try.f14.params.toList (Try.f14.params.toList ++ Rows.counterFullSpec.plain.varTypes Try.prog ++ Try.f14.resultTypes.toList)) = true := by kernel_rfl
set_option maxRecDepth 100000 in
theorem counterFull_closed : joinedFacts Try.prog 14 Try.f14 Rows.counterFullSpec Rows.counterFullRow = true := by
  unfold joinedFacts
  exact and_mk (and_mk (and_mk (and_mk (and_mk (and_mk (and_mk (and_mk (and_mk (and_mk (and_mk (and_mk (and_mk (and_mk (and_mk (and_mk (and_mk (and_mk (and_mk (and_mk (and_mk (and_mk (and_mk (and_mk (and_mk (and_mk (and_mk (and_mk (and_mk (and_mk (and_mk (counterFull_k0) counterFull_k1) counterFull_k2) counterFull_k3) counterFull_k4) counterFull_k5) counterFull_k6) counterFull_k7) counterFull_k8) counterFull_k9) counterFull_k10) counterFull_k11) counterFull_k12) counterFull_k13) counterFull_k14) counterFull_k15) counterFull_k16) counterFull_k17) counterFull_k18) counterFull_k19) counterFull_k20) counterFull_k21) counterFull_k22) counterFull_k23) counterFull_k24) counterFull_k25) counterFull_k26) counterFull_k27) counterFull_k28) counterFull_k29) counterFull_k30) counterFull_k31

theorem counterFull_holds : Rows.CounterFullSaid :=
  OpenClaim.holds_of_wide 14 Try.f14 rfl rfl rfl rfl rfl rfl rfl ⟨rfl, rfl, rfl, rfl, rfl⟩ rfl rfl rfl rfl rfl (by kernel_rfl) Try.func14 counterFull_closed
    (of_decide_eq_true (by kernel_rfl)) (by unfold Func.isWrapper; first | (rw [if_pos (by decide +kernel)]; kernel_rfl) | (rw [if_neg (by decide +kernel)]; exact ⟨rfl, rfl⟩))
    (fun os started H enc _ => counterFull_lifted os started H enc)

end Go.Proofs.Ytcljahgcdbohaaa

