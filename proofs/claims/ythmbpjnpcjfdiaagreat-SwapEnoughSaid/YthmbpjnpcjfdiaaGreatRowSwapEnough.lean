/- SwapEnough holds: for every input the call of the law returns true, and each argument reads afterwards as it read before. No conditions. -/
import Derived.Test.YthmbpjnpcjfdiaaGreatRows
import Derived.Test.YthmbpjnpcjfdiaaGreatE14
import Derived.Test.YthmbpjnpcjfdiaaGreatE7
import Derived.Test.YthmbpjnpcjfdiaaGreatE15
import Derived.ProofKit
set_option linter.unusedSimpArgs false
set_option linter.unusedVariables false
namespace Go.Proofs.YthmbpjnpcjfdiaaGreat
open Go.ChangeShapes Go.WideShapes Go.ChangeAt Go.RowKit Go.V
theorem swapEnough_fit : Tryz.f7.params.toList.all (fitB Tryz.prog) = true := by kernel_rfl
theorem swapEnough_u22 : Tryz.prog.underlying 22 = some (.slice 3) := by kernel_rfl
theorem swapEnough_u3 : Tryz.prog.underlying 3 = some (.int .i64) := by kernel_rfl
theorem swapEnough_call : ∀ us : List VVal, us.length = Tryz.f7.params.toList.length → (∀ (i : Nat) (t : TypeId) (u : VVal), Tryz.f7.params.toList[i]? = some t → us[i]? = some u → Fit Tryz.prog t u) → V 7 us [] = some (.p (.bool true), []) := by
 intro us hlen hfit
 rw [Tryz.params7] at hlen hfit
 match us, hlen with
 | [x0, x1], _ =>
  obtain ⟨a0, rfl, w0⟩ := (hfit 0 22 x0 rfl rfl).isInts swapEnough_u22 swapEnough_u3
  obtain ⟨a1, rfl, w1⟩ := (hfit 1 3 x1 rfl rfl).isInt swapEnough_u3
  exact swapEnough_eq a0 a1
set_option maxRecDepth 100000 in
theorem swapEnough_lifted (os : Os) (started : os.Started) (H : Type) (enc : TypeId × Value → H) :
  ReturnsInHanded {} Tryz.checked os 7 .any (Rows.swapEnoughSpec.pre6 enc Tryz.prog Tryz.f7 Rows.swapEnoughRow.domain false) (Rows.swapEnoughSpec.post enc Tryz.prog Tryz.f7 false true false false) := by
 refine returnsInHanded_of_change (C := Tryz.checked) own_try started (by kernel_rfl) Tryz.func7
  (ChangeSpec.witness6 (enc := enc) (C := Tryz.checked) false ⟨#[], #[.slice none 0 0, .int .i64 0], []⟩ 8 (by kernel_rfl) (by kernel_rfl) (by kernel_rfl) (by kernel_rfl)) ?_
 intro W base args ds gs before hval0 hW _ _
 have hval : ∀ (j : Nat) t v, Tryz.f7.params[j]? = some t → args[j]? = some v → Value.okWide Tryz.prog W .any base t v := hval0
 have hW' := hW
 obtain ⟨p, q, hA0, hV, hbe, _, _⟩ := hW
 have hA : DataW.TrodAll enc Tryz.prog W 0 (fun _ => true) true Tryz.f7.params.toList args.toList ds p := hA0
 refine (law_calls V_sound swapEnough_fit (fun j t v ht hv => hval j t v (by simpa using ht) hv) hA swapEnough_call).mono fun e W' ⟨he, hb⟩ => ?_
 subst he
 have hlen := trodAll_len hA
 rw [Tryz.params7] at hlen
 obtain ⟨hgs, _⟩ := trodVars_none hV
 have hfn : ∀ ds : List (DataW H), ds.length = 2 → (Rows.swapEnoughSpec.fn H (ds ++ [])).results = [.lit (.bool true)] ∧ (Rows.swapEnoughSpec.fn H (ds ++ [])).args = ds ∧ (Rows.swapEnoughSpec.fn H (ds ++ [])).vars = [] := by
  intro ds hl
  match ds, hl with
  | [_, _], _ => exact ⟨rfl, rfl, rfl⟩
 obtain ⟨e1, e2, e3⟩ := hfn ds hlen
 exact ⟨_, rfl, law_post laid_try hW' rfl swapEnough_fit hA hV hbe (t := 4) (by kernel_rfl) (by kernel_rfl) (by rw [hgs]; exact e1) (by rw [hgs]; exact e2) (by rw [hgs]; exact e3) hb⟩
theorem swapEnough_k0 : (Rows.swapEnoughRow.wf (OpenSpec.ofChange Rows.swapEnoughSpec)) = true := by kernel_rfl
theorem swapEnough_k1 : (laidOutB Tryz.prog) = true := by kernel_rfl
theorem swapEnough_k2 : (mapsRowed Tryz.prog) = true := by kernel_rfl
theorem swapEnough_k3 : (Tryz.f7.params.all (Tryz.prog.readableRec ·)) = true := by kernel_rfl
theorem swapEnough_k4 : (namedTie Tryz.prog Rows.swapEnoughRow.named Rows.swapEnoughSpec.vars) = true := by kernel_rfl
theorem swapEnough_k5 : ((Rows.swapEnoughRow.stops == [])) = true := by kernel_rfl
theorem swapEnough_k6 : ((Tryz.prog.stops == [])) = true := by kernel_rfl
theorem swapEnough_k7 : ((Rows.swapEnoughRow.knobs == [])) = true := by kernel_rfl
theorem swapEnough_k8 : ((Tryz.prog.stopKnobs == [])) = true := by kernel_rfl
theorem swapEnough_k9 : ((Rows.swapEnoughRow.inPlace == Tryz.prog.inPlace 7)) = true := by kernel_rfl
theorem swapEnough_k10 : ((Rows.swapEnoughRow.unfollowed == Tryz.prog.unfollowed 7)) = true := by kernel_rfl
theorem swapEnough_k11 : ((Rows.swapEnoughRow.recurses == Tryz.prog.recurses 7)) = true := by kernel_rfl
theorem swapEnough_k12 : ((Rows.swapEnoughRow.named == Tryz.prog.varsNamed 7)) = true := by kernel_rfl
theorem swapEnough_k13 : ((Rows.swapEnoughRow.maps == (Tryz.f7.params.toList ++ Rows.swapEnoughSpec.plain.varTypes Tryz.prog).any (Tryz.prog.mapsRec ·))) = true := by kernel_rfl
theorem swapEnough_k14 : ((Rows.swapEnoughRow.ifaces == (Tryz.f7.params.toList ++ Rows.swapEnoughSpec.plain.varTypes Tryz.prog).any (Tryz.prog.ifacesRec ·))) = true := by kernel_rfl
theorem swapEnough_k15 : ((Rows.swapEnoughRow.mapsOut == Tryz.prog.mapsAmong Tryz.f7.resultTypes.toList)) = true := by kernel_rfl
theorem swapEnough_k16 : ((Rows.swapEnoughRow.loops == (Tryz.f7.params.toList ++ Rows.swapEnoughSpec.plain.varTypes Tryz.prog).any (Tryz.prog.loopsFrom ·))) = true := by kernel_rfl
theorem swapEnough_k17 : ((Rows.swapEnoughRow.wideKeys == (Tryz.f7.params.toList ++ Rows.swapEnoughSpec.plain.varTypes Tryz.prog ++ Tryz.f7.resultTypes.toList).any (Tryz.prog.wideKeysFrom ·))) = true := by kernel_rfl
theorem swapEnough_k18 : (Rows.swapEnoughSpec.vars.all (Tryz.prog.varReadable ·)) = true := by kernel_rfl
theorem swapEnough_k19 : (Tryz.f7.resultTypes.all (fun t => Tryz.prog.readableRec t && decide (t < Tryz.prog.types.size))) = true := by kernel_rfl
theorem swapEnough_k20 : ((Rows.swapEnoughRow.ifacesOut == Tryz.f7.resultTypes.toList.any (Tryz.prog.ifacesRec ·))) = true := by kernel_rfl
theorem swapEnough_k21 : ((Rows.swapEnoughRow.loopsOut == Tryz.f7.resultTypes.toList.any (Tryz.prog.loopsFrom ·))) = true := by kernel_rfl
theorem swapEnough_k22 : ((Rows.swapEnoughRow.plainKeys == Tryz.prog.plainKeys)) = true := by kernel_rfl
theorem swapEnough_k23 : (Rows.swapEnoughRow.shortTexts.isNone) = true := by kernel_rfl
theorem swapEnough_k24 : (Tryz.prog.stopsHeard) = true := by kernel_rfl
theorem swapEnough_k25 : (Tryz.prog.mayEnter) = true := by exact try_mayEnter
theorem swapEnough_k26 : ((Rows.swapEnoughRow.lifted == Tryz.prog.liftsFinal)) = true := by rw [try_lifts]; kernel_rfl
theorem swapEnough_k27 : ((Tryz.prog.make == some Rows.swapEnoughRow.make)) = true := by rw [try_make]; kernel_rfl
theorem swapEnough_k28 : ((Rows.swapEnoughRow.kinds == (if Rows.swapEnoughRow.domain.isEmpty then [] else Tryz.f7.params.toList.map fun t => match Tryz.prog.underlying t with | some (.int k) => some k | _ => none))) = true := by kernel_rfl
theorem swapEnough_k29 : ((Rows.swapEnoughRow.pinned == Rows.swapEnoughRow.pinnedBy)) = true := by kernel_rfl
theorem swapEnough_k30 : ((Rows.swapEnoughRow.veiled == (Tryz.f7.params.toList ++ Rows.swapEnoughSpec.plain.varTypes Tryz.prog ++ Tryz.f7.resultTypes.toList).any (Tryz.prog.veiledRec ·))) = true := by kernel_rfl
theorem swapEnough_k31 : (Rows.swapEnoughRow.veiledFits Tryz.prog Tryz.f7.params.toList (Tryz.f7.params.toList ++ Rows.swapEnoughSpec.plain.varTypes Tryz.prog ++ Tryz.f7.resultTypes.toList)) = true := by kernel_rfl
set_option maxRecDepth 100000 in
theorem swapEnough_closed : joinedFacts Tryz.prog 7 Tryz.f7 Rows.swapEnoughSpec Rows.swapEnoughRow = true := by
 unfold joinedFacts
 exact and_mk (and_mk (and_mk (and_mk (and_mk (and_mk (and_mk (and_mk (and_mk (and_mk (and_mk (and_mk (and_mk (and_mk (and_mk (and_mk (and_mk (and_mk (and_mk (and_mk (and_mk (and_mk (and_mk (and_mk (and_mk (and_mk (and_mk (and_mk (and_mk (and_mk (and_mk (swapEnough_k0) swapEnough_k1) swapEnough_k2) swapEnough_k3) swapEnough_k4) swapEnough_k5) swapEnough_k6) swapEnough_k7) swapEnough_k8) swapEnough_k9) swapEnough_k10) swapEnough_k11) swapEnough_k12) swapEnough_k13) swapEnough_k14) swapEnough_k15) swapEnough_k16) swapEnough_k17) swapEnough_k18) swapEnough_k19) swapEnough_k20) swapEnough_k21) swapEnough_k22) swapEnough_k23) swapEnough_k24) swapEnough_k25) swapEnough_k26) swapEnough_k27) swapEnough_k28) swapEnough_k29) swapEnough_k30) swapEnough_k31
theorem swapEnough_holds : Rows.SwapEnoughSaid :=
 OpenClaim.holds_of_wide 7 Tryz.f7 rfl rfl rfl rfl rfl rfl rfl ⟨rfl, rfl, rfl, rfl, rfl⟩ rfl rfl rfl rfl rfl (by kernel_rfl) Tryz.func7 swapEnough_closed
  (of_decide_eq_true (by kernel_rfl)) (by unfold Func.isWrapper; first | (rw [if_pos (by decide +kernel)]; kernel_rfl) | (rw [if_neg (by decide +kernel)]; exact ⟨rfl, rfl⟩))
  (fun os started H enc _ => swapEnough_lifted os started H enc)
end Go.Proofs.YthmbpjnpcjfdiaaGreat
