/- CounterAdds holds: for every input the call of the law returns true, and each argument reads afterwards as it read before. No conditions. -/
import Derived.Test.YtcljahgcdbohaaaRows
import Derived.Test.YtcljahgcdbohaaaVSeat
import Derived.Test.YtcljahgcdbohaaaVM4
import Derived.Test.YtcljahgcdbohaaaVHead
import Derived.ProofKit
set_option linter.unusedSimpArgs false
set_option linter.unusedVariables false
namespace Go.Proofs.Ytcljahgcdbohaaa
open Go.ChangeShapes Go.WideShapes Go.ChangeAt Go.RowKit Go.V

theorem counterAdds_fit : Try.f15.params.toList.all (fitB Try.prog) = true := by kernel_rfl
theorem counterAdds_u22 : Try.prog.underlying 22 = some (.slice 3) := by kernel_rfl
theorem counterAdds_u3 : Try.prog.underlying 3 = some (.int .i64) := by kernel_rfl

theorem counterAdds_call : ∀ us : List VVal, us.length = Try.f15.params.toList.length → (∀ (i : Nat) (t : TypeId) (u : VVal), Try.f15.params.toList[i]? = some t → us[i]? = some u → Fit Try.prog t u) → V 15 us [] = some (.p (.bool true), []) := by
  intro us hlen hfit
  rw [Try.params15] at hlen hfit
  match us, hlen with
  | [x0, x1], _ =>
    obtain ⟨a0, rfl, w0⟩ := (hfit 0 22 x0 rfl rfl).isInts counterAdds_u22 counterAdds_u3
    obtain ⟨a1, rfl, w1⟩ := (hfit 1 3 x1 rfl rfl).isInt counterAdds_u3
    exact counterAdds_eq a0 a1

set_option maxRecDepth 100000 in
theorem counterAdds_lifted (os : Os) (started : os.Started) (H : Type) (enc : TypeId × Value → H) :
    ReturnsInHanded {} Try.checked os 15 .any (Rows.counterAddsSpec.pre6 enc Try.prog Try.f15 Rows.counterAddsRow.domain false) (Rows.counterAddsSpec.post enc Try.prog Try.f15 false true false false) := by
  refine returnsInHanded_of_change (C := Try.checked) own_try started (by kernel_rfl) Try.func15
    (ChangeSpec.witness6 (enc := enc) (C := Try.checked) false ⟨#[], #[.slice none 0 0, .int .i64 0], []⟩ 8 (by kernel_rfl) (by kernel_rfl) (by kernel_rfl) (by kernel_rfl)) ?_
  intro W base args ds gs before hval0 hW _ _
  have hval : ∀ (j : Nat) t v, Try.f15.params[j]? = some t → args[j]? = some v → Value.okWide Try.prog W .any base t v := hval0
  have hW' := hW
  obtain ⟨p, q, hA0, hV, hbe, _, _⟩ := hW
  have hA : DataW.TrodAll enc Try.prog W 0 (fun _ => true) true Try.f15.params.toList args.toList ds p := hA0
  refine (law_calls V_sound counterAdds_fit (fun j t v ht hv => hval j t v (by simpa using ht) hv) hA counterAdds_call).mono fun e W' ⟨he, hb⟩ => ?_
  subst he
  have hlen := trodAll_len hA
  rw [Try.params15] at hlen
  obtain ⟨hgs, _⟩ := trodVars_none hV
  have hfn : ∀ ds : List (DataW H), ds.length = 2 → (Rows.counterAddsSpec.fn H (ds ++ [])).results = [.lit (.bool true)] ∧ (Rows.counterAddsSpec.fn H (ds ++ [])).args = ds ∧ (Rows.counterAddsSpec.fn H (ds ++ [])).vars = [] := by
    intro ds hl
    match ds, hl with
    | [_, _], _ => exact ⟨rfl, rfl, rfl⟩
  obtain ⟨e1, e2, e3⟩ := hfn ds hlen
  exact ⟨_, rfl, law_post laid_try hW' rfl counterAdds_fit hA hV hbe (t := 4) (by kernel_rfl) (by kernel_rfl) (by rw [hgs]; exact e1) (by rw [hgs]; exact e2) (by rw [hgs]; exact e3) hb⟩

theorem counterAdds_k0 : (Rows.counterAddsRow.wf (OpenSpec.ofChange Rows.counterAddsSpec)) = true := by kernel_rfl
theorem counterAdds_k1 : (laidOutB Try.prog) = true := by kernel_rfl
theorem counterAdds_k2 : (mapsRowed Try.prog) = true := by kernel_rfl
theorem counterAdds_k3 : (Try.f15.params.all (Try.prog.readableRec ·)) = true := by kernel_rfl
theorem counterAdds_k4 : (namedTie Try.prog Rows.counterAddsRow.named Rows.counterAddsSpec.vars) = true := by kernel_rfl
theorem counterAdds_k5 : ((Rows.counterAddsRow.stops == [])) = true := by kernel_rfl
theorem counterAdds_k6 : ((Try.prog.stops == [])) = true := by kernel_rfl
theorem counterAdds_k7 : ((Rows.counterAddsRow.knobs == [])) = true := by kernel_rfl
theorem counterAdds_k8 : ((Try.prog.stopKnobs == [])) = true := by kernel_rfl
theorem counterAdds_k9 : ((Rows.counterAddsRow.inPlace == Try.prog.inPlace 15)) = true := by kernel_rfl
theorem counterAdds_k10 : ((Rows.counterAddsRow.unfollowed == Try.prog.unfollowed 15)) = true := by kernel_rfl
theorem counterAdds_k11 : ((Rows.counterAddsRow.recurses == Try.prog.recurses 15)) = true := by kernel_rfl
theorem counterAdds_k12 : ((Rows.counterAddsRow.named == Try.prog.varsNamed 15)) = true := by kernel_rfl
theorem counterAdds_k13 : ((Rows.counterAddsRow.maps == (Try.f15.params.toList ++ Rows.counterAddsSpec.plain.varTypes Try.prog).any (Try.prog.mapsRec ·))) = true := by kernel_rfl
theorem counterAdds_k14 : ((Rows.counterAddsRow.ifaces == (Try.f15.params.toList ++ Rows.counterAddsSpec.plain.varTypes Try.prog).any (Try.prog.ifacesRec ·))) = true := by kernel_rfl
theorem counterAdds_k15 : ((Rows.counterAddsRow.mapsOut == Try.prog.mapsAmong Try.f15.resultTypes.toList)) = true := by kernel_rfl
theorem counterAdds_k16 : ((Rows.counterAddsRow.loops == (Try.f15.params.toList ++ Rows.counterAddsSpec.plain.varTypes Try.prog).any (Try.prog.loopsFrom ·))) = true := by kernel_rfl
theorem counterAdds_k17 : ((Rows.counterAddsRow.wideKeys == (Try.f15.params.toList ++ Rows.counterAddsSpec.plain.varTypes Try.prog ++ Try.f15.resultTypes.toList).any (Try.prog.wideKeysFrom ·))) = true := by kernel_rfl
theorem counterAdds_k18 : (Rows.counterAddsSpec.vars.all (Try.prog.varReadable ·)) = true := by kernel_rfl
theorem counterAdds_k19 : (Try.f15.resultTypes.all (fun t => Try.prog.readableRec t && decide (t < Try.prog.types.size))) = true := by kernel_rfl
theorem counterAdds_k20 : ((Rows.counterAddsRow.ifacesOut == Try.f15.resultTypes.toList.any (Try.prog.ifacesRec ·))) = true := by kernel_rfl
theorem counterAdds_k21 : ((Rows.counterAddsRow.loopsOut == Try.f15.resultTypes.toList.any (Try.prog.loopsFrom ·))) = true := by kernel_rfl
theorem counterAdds_k22 : ((Rows.counterAddsRow.plainKeys == Try.prog.plainKeys)) = true := by kernel_rfl
theorem counterAdds_k23 : (Rows.counterAddsRow.shortTexts.isNone) = true := by kernel_rfl
theorem counterAdds_k24 : (Try.prog.stopsHeard) = true := by kernel_rfl
theorem counterAdds_k25 : (Try.prog.mayEnter) = true := by exact try_mayEnter
theorem counterAdds_k26 : ((Rows.counterAddsRow.lifted == Try.prog.liftsFinal)) = true := by rw [try_lifts]; kernel_rfl
theorem counterAdds_k27 : ((Try.prog.make == some Rows.counterAddsRow.make)) = true := by rw [try_make]; kernel_rfl
theorem counterAdds_k28 : ((Rows.counterAddsRow.kinds == (if Rows.counterAddsRow.domain.isEmpty then [] else Try.f15.params.toList.map fun t => match Try.prog.underlying t with | some (.int k) => some k | _ => none))) = true := by kernel_rfl
theorem counterAdds_k29 : ((Rows.counterAddsRow.pinned == Rows.counterAddsRow.pinnedBy)) = true := by kernel_rfl
theorem counterAdds_k30 : ((Rows.counterAddsRow.veiled == (Try.f15.params.toList ++ Rows.counterAddsSpec.plain.varTypes Try.prog ++ Try.f15.resultTypes.toList).any (Try.prog.veiledRec ·))) = true := by kernel_rfl
theorem counterAdds_k31 : (Rows.counterAddsRow.veiledFits Try.prog Try.f15.params.toList (Try.f15.params.toList ++ Rows.counterAddsSpec.plain.varTypes Try.prog ++ Try.f15.resultTypes.toList)) = true := by kernel_rfl
set_option maxRecDepth 100000 in
theorem counterAdds_closed : joinedFacts Try.prog 15 Try.f15 Rows.counterAddsSpec Rows.counterAddsRow = true := by
  unfold joinedFacts
  exact and_mk (and_mk (and_mk (and_mk (and_mk (and_mk (and_mk (and_mk (and_mk (and_mk (and_mk (and_mk (and_mk (and_mk (and_mk (and_mk (and_mk (and_mk (and_mk (and_mk (and_mk (and_mk (and_mk (and_mk (and_mk (and_mk (and_mk (and_mk (and_mk (and_mk (and_mk (counterAdds_k0) counterAdds_k1) counterAdds_k2) counterAdds_k3) counterAdds_k4) counterAdds_k5) counterAdds_k6) counterAdds_k7) counterAdds_k8) counterAdds_k9) counterAdds_k10) counterAdds_k11) counterAdds_k12) counterAdds_k13) counterAdds_k14) counterAdds_k15) counterAdds_k16) counterAdds_k17) counterAdds_k18) counterAdds_k19) counterAdds_k20) counterAdds_k21) counterAdds_k22) counterAdds_k23) counterAdds_k24) counterAdds_k25) counterAdds_k26) counterAdds_k27) counterAdds_k28) counterAdds_k29) counterAdds_k30) counterAdds_k31

theorem counterAdds_holds : Rows.CounterAddsSaid :=
  OpenClaim.holds_of_wide 15 Try.f15 rfl rfl rfl rfl rfl rfl rfl ⟨rfl, rfl, rfl, rfl, rfl⟩ rfl rfl rfl rfl rfl (by kernel_rfl) Try.func15 counterAdds_closed
    (of_decide_eq_true (by kernel_rfl)) (by unfold Func.isWrapper; first | (rw [if_pos (by decide +kernel)]; kernel_rfl) | (rw [if_neg (by decide +kernel)]; exact ⟨rfl, rfl⟩))
    (fun os started H enc _ => counterAdds_lifted os started H enc)

end Go.Proofs.Ytcljahgcdbohaaa

