/- SwapFiles holds: for every input the call of the law returns true, and each argument reads afterwards as it read before. No conditions. -/
import Derived.Test.YthmbpjnpcjfdiaaGreatRows
import Derived.Test.YthmbpjnpcjfdiaaGreatB16
import Derived.Test.YthmbpjnpcjfdiaaGreatB8
import Derived.Test.YthmbpjnpcjfdiaaGreatB17
import Derived.ProofKit
set_option linter.unusedSimpArgs false
set_option linter.unusedVariables false
namespace Go.Proofs.YthmbpjnpcjfdiaaGreat
open Go.ChangeShapes Go.WideShapes Go.ChangeAt Go.RowKit Go.V
theorem swapFiles_fit : Tryz.f3.params.toList.all (fitB Tryz.prog) = true := by kernel_rfl
theorem swapFiles_u22 : Tryz.prog.underlying 22 = some (.slice 3) := by kernel_rfl
theorem swapFiles_u3 : Tryz.prog.underlying 3 = some (.int .i64) := by kernel_rfl
theorem swapFiles_call : ∀ us : List VVal, us.length = Tryz.f3.params.toList.length → (∀ (i : Nat) (t : TypeId) (u : VVal), Tryz.f3.params.toList[i]? = some t → us[i]? = some u → Fit Tryz.prog t u) → V 3 us [] = some (.p (.bool true), []) := by
 intro us hlen hfit
 rw [Tryz.params3] at hlen hfit
 match us, hlen with
 | [x0, x1], _ =>
  obtain ⟨a0, rfl, w0⟩ := (hfit 0 22 x0 rfl rfl).isInts swapFiles_u22 swapFiles_u3
  obtain ⟨a1, rfl, w1⟩ := (hfit 1 3 x1 rfl rfl).isInt swapFiles_u3
  exact swapFiles_eq a0 a1
set_option maxRecDepth 100000 in
theorem swapFiles_lifted (os : Os) (started : os.Started) (H : Type) (enc : TypeId × Value → H) :
  ReturnsInHanded {} Tryz.checked os 3 .any (Rows.swapFilesSpec.pre6 enc Tryz.prog Tryz.f3 Rows.swapFilesRow.domain false) (Rows.swapFilesSpec.post enc Tryz.prog Tryz.f3 false true false false) := by
 refine returnsInHanded_of_change (C := Tryz.checked) own_try started (by kernel_rfl) Tryz.func3
  (ChangeSpec.witness6 (enc := enc) (C := Tryz.checked) false ⟨#[], #[.slice none 0 0, .int .i64 0], []⟩ 8 (by kernel_rfl) (by kernel_rfl) (by kernel_rfl) (by kernel_rfl)) ?_
 intro W base args ds gs before hval0 hW _ _
 have hval : ∀ (j : Nat) t v, Tryz.f3.params[j]? = some t → args[j]? = some v → Value.okWide Tryz.prog W .any base t v := hval0
 have hW' := hW
 obtain ⟨p, q, hA0, hV, hbe, _, _⟩ := hW
 have hA : DataW.TrodAll enc Tryz.prog W 0 (fun _ => true) true Tryz.f3.params.toList args.toList ds p := hA0
 refine (law_calls V_sound swapFiles_fit (fun j t v ht hv => hval j t v (by simpa using ht) hv) hA swapFiles_call).mono fun e W' ⟨he, hb⟩ => ?_
 subst he
 have hlen := trodAll_len hA
 rw [Tryz.params3] at hlen
 obtain ⟨hgs, _⟩ := trodVars_none hV
 have hfn : ∀ ds : List (DataW H), ds.length = 2 → (Rows.swapFilesSpec.fn H (ds ++ [])).results = [.lit (.bool true)] ∧ (Rows.swapFilesSpec.fn H (ds ++ [])).args = ds ∧ (Rows.swapFilesSpec.fn H (ds ++ [])).vars = [] := by
  intro ds hl
  match ds, hl with
  | [_, _], _ => exact ⟨rfl, rfl, rfl⟩
 obtain ⟨e1, e2, e3⟩ := hfn ds hlen
 exact ⟨_, rfl, law_post laid_try hW' rfl swapFiles_fit hA hV hbe (t := 4) (by kernel_rfl) (by kernel_rfl) (by rw [hgs]; exact e1) (by rw [hgs]; exact e2) (by rw [hgs]; exact e3) hb⟩
theorem swapFiles_k0 : (Rows.swapFilesRow.wf (OpenSpec.ofChange Rows.swapFilesSpec)) = true := by kernel_rfl
theorem swapFiles_k1 : (laidOutB Tryz.prog) = true := by kernel_rfl
theorem swapFiles_k2 : (mapsRowed Tryz.prog) = true := by kernel_rfl
theorem swapFiles_k3 : (Tryz.f3.params.all (Tryz.prog.readableRec ·)) = true := by kernel_rfl
theorem swapFiles_k4 : (namedTie Tryz.prog Rows.swapFilesRow.named Rows.swapFilesSpec.vars) = true := by kernel_rfl
theorem swapFiles_k5 : ((Rows.swapFilesRow.stops == [])) = true := by kernel_rfl
theorem swapFiles_k6 : ((Tryz.prog.stops == [])) = true := by kernel_rfl
theorem swapFiles_k7 : ((Rows.swapFilesRow.knobs == [])) = true := by kernel_rfl
theorem swapFiles_k8 : ((Tryz.prog.stopKnobs == [])) = true := by kernel_rfl
theorem swapFiles_k9 : ((Rows.swapFilesRow.inPlace == Tryz.prog.inPlace 3)) = true := by kernel_rfl
theorem swapFiles_k10 : ((Rows.swapFilesRow.unfollowed == Tryz.prog.unfollowed 3)) = true := by kernel_rfl
theorem swapFiles_k11 : ((Rows.swapFilesRow.recurses == Tryz.prog.recurses 3)) = true := by kernel_rfl
theorem swapFiles_k12 : ((Rows.swapFilesRow.named == Tryz.prog.varsNamed 3)) = true := by kernel_rfl
theorem swapFiles_k13 : ((Rows.swapFilesRow.maps == (Tryz.f3.params.toList ++ Rows.swapFilesSpec.plain.varTypes Tryz.prog).any (Tryz.prog.mapsRec ·))) = true := by kernel_rfl
theorem swapFiles_k14 : ((Rows.swapFilesRow.ifaces == (Tryz.f3.params.toList ++ Rows.swapFilesSpec.plain.varTypes Tryz.prog).any (Tryz.prog.ifacesRec ·))) = true := by kernel_rfl
theorem swapFiles_k15 : ((Rows.swapFilesRow.mapsOut == Tryz.prog.mapsAmong Tryz.f3.resultTypes.toList)) = true := by kernel_rfl
theorem swapFiles_k16 : ((Rows.swapFilesRow.loops == (Tryz.f3.params.toList ++ Rows.swapFilesSpec.plain.varTypes Tryz.prog).any (Tryz.prog.loopsFrom ·))) = true := by kernel_rfl
theorem swapFiles_k17 : ((Rows.swapFilesRow.wideKeys == (Tryz.f3.params.toList ++ Rows.swapFilesSpec.plain.varTypes Tryz.prog ++ Tryz.f3.resultTypes.toList).any (Tryz.prog.wideKeysFrom ·))) = true := by kernel_rfl
theorem swapFiles_k18 : (Rows.swapFilesSpec.vars.all (Tryz.prog.varReadable ·)) = true := by kernel_rfl
theorem swapFiles_k19 : (Tryz.f3.resultTypes.all (fun t => Tryz.prog.readableRec t && decide (t < Tryz.prog.types.size))) = true := by kernel_rfl
theorem swapFiles_k20 : ((Rows.swapFilesRow.ifacesOut == Tryz.f3.resultTypes.toList.any (Tryz.prog.ifacesRec ·))) = true := by kernel_rfl
theorem swapFiles_k21 : ((Rows.swapFilesRow.loopsOut == Tryz.f3.resultTypes.toList.any (Tryz.prog.loopsFrom ·))) = true := by kernel_rfl
theorem swapFiles_k22 : ((Rows.swapFilesRow.plainKeys == Tryz.prog.plainKeys)) = true := by kernel_rfl
theorem swapFiles_k23 : (Rows.swapFilesRow.shortTexts.isNone) = true := by kernel_rfl
theorem swapFiles_k24 : (Tryz.prog.stopsHeard) = true := by kernel_rfl
theorem swapFiles_k25 : (Tryz.prog.mayEnter) = true := by exact try_mayEnter
theorem swapFiles_k26 : ((Rows.swapFilesRow.lifted == Tryz.prog.liftsFinal)) = true := by rw [try_lifts]; kernel_rfl
theorem swapFiles_k27 : ((Tryz.prog.make == some Rows.swapFilesRow.make)) = true := by rw [try_make]; kernel_rfl
theorem swapFiles_k28 : ((Rows.swapFilesRow.kinds == (if Rows.swapFilesRow.domain.isEmpty then [] else Tryz.f3.params.toList.map fun t => match Tryz.prog.underlying t with | some (.int k) => some k | _ => none))) = true := by kernel_rfl
theorem swapFiles_k29 : ((Rows.swapFilesRow.pinned == Rows.swapFilesRow.pinnedBy)) = true := by kernel_rfl
theorem swapFiles_k30 : ((Rows.swapFilesRow.veiled == (Tryz.f3.params.toList ++ Rows.swapFilesSpec.plain.varTypes Tryz.prog ++ Tryz.f3.resultTypes.toList).any (Tryz.prog.veiledRec ·))) = true := by kernel_rfl
theorem swapFiles_k31 : (Rows.swapFilesRow.veiledFits Tryz.prog Tryz.f3.params.toList (Tryz.f3.params.toList ++ Rows.swapFilesSpec.plain.varTypes Tryz.prog ++ Tryz.f3.resultTypes.toList)) = true := by kernel_rfl
set_option maxRecDepth 100000 in
theorem swapFiles_closed : joinedFacts Tryz.prog 3 Tryz.f3 Rows.swapFilesSpec Rows.swapFilesRow = true := by
 unfold joinedFacts
 exact and_mk (and_mk (and_mk (and_mk (and_mk (and_mk (and_mk (and_mk (and_mk (and_mk (and_mk (and_mk (and_mk (and_mk (and_mk (and_mk (and_mk (and_mk (and_mk (and_mk (and_mk (and_mk (and_mk (and_mk (and_mk (and_mk (and_mk (and_mk (and_mk (and_mk (and_mk (swapFiles_k0) swapFiles_k1) swapFiles_k2) swapFiles_k3) swapFiles_k4) swapFiles_k5) swapFiles_k6) swapFiles_k7) swapFiles_k8) swapFiles_k9) swapFiles_k10) swapFiles_k11) swapFiles_k12) swapFiles_k13) swapFiles_k14) swapFiles_k15) swapFiles_k16) swapFiles_k17) swapFiles_k18) swapFiles_k19) swapFiles_k20) swapFiles_k21) swapFiles_k22) swapFiles_k23) swapFiles_k24) swapFiles_k25) swapFiles_k26) swapFiles_k27) swapFiles_k28) swapFiles_k29) swapFiles_k30) swapFiles_k31
theorem swapFiles_holds : Rows.SwapFilesSaid :=
 OpenClaim.holds_of_wide 3 Tryz.f3 rfl rfl rfl rfl rfl rfl rfl ⟨rfl, rfl, rfl, rfl, rfl⟩ rfl rfl rfl rfl rfl (by kernel_rfl) Tryz.func3 swapFiles_closed
  (of_decide_eq_true (by kernel_rfl)) (by unfold Func.isWrapper; first | (rw [if_pos (by decide +kernel)]; kernel_rfl) | (rw [if_neg (by decide +kernel)]; exact ⟨rfl, rfl⟩))
  (fun os started H enc _ => swapFiles_lifted os started H enc)
end Go.Proofs.YthmbpjnpcjfdiaaGreat
