/- ReclaimExact holds: for every input the call of the law returns true, and each argument reads afterwards as it read before. No conditions. -/
import Derived.Test.YtdmghfmdcfagcaaRows
import Derived.Test.YtdmghfmdcfagcaaVSeat
import Derived.Test.YtdmghfmdcfagcaaVR30
import Derived.Test.YtdmghfmdcfagcaaVHead
import Derived.Test.YtdmghfmdcfagcaaVFitP
import Derived.ProofKit
set_option linter.unusedSimpArgs false
set_option linter.unusedVariables false
namespace Go.Proofs.Ytdmghfmdcfagcaa
open Go.ChangeShapes Go.WideShapes Go.ChangeAt Go.RowKit Go.V

theorem reclaimExact_fit : Try.f4.params.toList.all (fitB2 Try.prog 4) = true := by kernel_rfl

theorem reclaimExact_u22 : Try.prog.underlying 22 = some (.slice 3) := by kernel_rfl
theorem reclaimExact_u3 : Try.prog.underlying 3 = some (.int .i64) := by kernel_rfl
theorem reclaimExact_tree : TreeT Try.prog 29 27 46 3 9 := { n := by kernel_rfl, nc := by kernel_rfl, i := by kernel_rfl, ic := by kernel_rfl, s := by kernel_rfl, sc := by kernel_rfl, t := by kernel_rfl, tc := by kernel_rfl, ns := by kernel_rfl, nsc := by kernel_rfl }
theorem reclaimExact_parts : PartT Try.prog 31 38 3 := { s := by kernel_rfl, sc := by kernel_rfl, p := by kernel_rfl, pc := by kernel_rfl, i := by kernel_rfl, ic := by kernel_rfl }
theorem reclaimExact_call : ∀ us : List VVal, us.length = Try.f4.params.toList.length → (∀ (i : Nat) (t : TypeId) (u : VVal), Try.f4.params.toList[i]? = some t → us[i]? = some u → FitV Try.prog 4 t u) → V 4 us [] = some (.p (.bool true), []) := by
  intro us hlen hfit
  rw [Try.params4] at hlen hfit
  match us, hlen with
  | [x0, x1, x2, x3, x4], _ =>
    obtain ⟨a0, rfl, w0⟩ := (hfit 0 22 x0 rfl rfl).ints reclaimExact_u22 reclaimExact_u3 (by kernel_rfl)
    obtain ⟨a1, rfl, w1⟩ := (hfit 1 29 x1 rfl rfl).tree (k := 1) reclaimExact_tree
    obtain ⟨a2, rfl⟩ := (hfit 2 31 x2 rfl rfl).parts (k := 2) reclaimExact_parts
    obtain ⟨a3, rfl, w3⟩ := (hfit 3 3 x3 rfl rfl).int reclaimExact_u3
    obtain ⟨a4, rfl, w4⟩ := (hfit 4 3 x4 rfl rfl).int reclaimExact_u3
    exact exactLaw24_eq a0 a1 a2 a3 a4 w1

set_option maxRecDepth 100000 in
theorem reclaimExact_lifted (os : Os) (started : os.Started) (H : Type) (enc : TypeId × Value → H) :
    ReturnsInHanded {} Try.checked os 4 .any (Rows.reclaimExactSpec.pre6 enc Try.prog Try.f4 Rows.reclaimExactRow.domain false) (Rows.reclaimExactSpec.post enc Try.prog Try.f4 false true false false) := by
  refine returnsInHanded_of_change (C := Try.checked) own_try started (by kernel_rfl) Try.func4
    (ChangeSpec.witness6 (enc := enc) (C := Try.checked) false ⟨#[], #[.slice none 0 0, .agg #[.slice none 0 0, .int .i64 0], .slice none 0 0, .int .i64 0, .int .i64 0], []⟩ 8 (by kernel_rfl) (by kernel_rfl) (by kernel_rfl) (by kernel_rfl)) ?_
  intro W base args ds gs before hval0 hW _ _
  have hval : ∀ (j : Nat) t v, Try.f4.params[j]? = some t → args[j]? = some v → Value.okWide Try.prog W .any base t v := hval0
  have hW' := hW
  obtain ⟨p, q, hA0, hV, hbe, _, _⟩ := hW
  have hA : DataW.TrodAll enc Try.prog W 0 (fun _ => true) true Try.f4.params.toList args.toList ds p := hA0
  refine (law_calls2 V_sound reclaimExact_fit (fun j t v ht hv => hval j t v (by simpa using ht) hv) hA reclaimExact_call).mono fun e W' ⟨he, hb⟩ => ?_
  subst he
  have hlen := trodAll_len hA
  rw [Try.params4] at hlen
  obtain ⟨hgs, _⟩ := trodVars_none hV
  have hfn : ∀ ds : List (DataW H), ds.length = 5 → (Rows.reclaimExactSpec.fn H (ds ++ [])).results = [.lit (.bool true)] ∧ (Rows.reclaimExactSpec.fn H (ds ++ [])).args = ds ∧ (Rows.reclaimExactSpec.fn H (ds ++ [])).vars = [] := by
    intro ds hl
    match ds, hl with
    | [_, _, _, _, _], _ => exact ⟨rfl, rfl, rfl⟩
  obtain ⟨e1, e2, e3⟩ := hfn ds hlen
  exact ⟨_, rfl, law_post2 laid_try hW' rfl reclaimExact_fit hA hV hbe (t := 4) (by kernel_rfl) (by kernel_rfl) (by rw [hgs]; exact e1) (by rw [hgs]; exact e2) (by rw [hgs]; exact e3) hb⟩

theorem reclaimExact_k0 : (Rows.reclaimExactRow.wf (OpenSpec.ofChange Rows.reclaimExactSpec)) = true := by kernel_rfl
theorem reclaimExact_k1 : (laidOutB Try.prog) = true := by kernel_rfl
theorem reclaimExact_k2 : (mapsRowed Try.prog) = true := by kernel_rfl
theorem reclaimExact_k3 : (Try.f4.params.all (Try.prog.readableRec ·)) = true := by kernel_rfl
theorem reclaimExact_k4 : (namedTie Try.prog Rows.reclaimExactRow.named Rows.reclaimExactSpec.vars) = true := by kernel_rfl
theorem reclaimExact_k5 : ((Rows.reclaimExactRow.stops == [])) = true := by kernel_rfl
theorem reclaimExact_k6 : ((Try.prog.stops == [])) = true := by kernel_rfl
theorem reclaimExact_k7 : ((Rows.reclaimExactRow.knobs == [])) = true := by kernel_rfl
theorem reclaimExact_k8 : ((Try.prog.stopKnobs == [])) = true := by kernel_rfl
theorem reclaimExact_k9 : ((Rows.reclaimExactRow.inPlace == Try.prog.inPlace 4)) = true := by kernel_rfl
theorem reclaimExact_k10 : ((Rows.reclaimExactRow.unfollowed == Try.prog.unfollowed 4)) = true := by kernel_rfl
theorem reclaimExact_k11 : ((Rows.reclaimExactRow.recurses == Try.prog.recurses 4)) = true := by kernel_rfl
theorem reclaimExact_k12 : ((Rows.reclaimExactRow.named == Try.prog.varsNamed 4)) = true := by kernel_rfl
theorem reclaimExact_k13 : ((Rows.reclaimExactRow.maps == (Try.f4.params.toList ++ Rows.reclaimExactSpec.plain.varTypes Try.prog).any (Try.prog.mapsRec ·))) = true := by kernel_rfl
theorem reclaimExact_k14 : ((Rows.reclaimExactRow.ifaces == (Try.f4.params.toList ++ Rows.reclaimExactSpec.plain.varTypes Try.prog).any (Try.prog.ifacesRec ·))) = true := by kernel_rfl
theorem reclaimExact_k15 : ((Rows.reclaimExactRow.mapsOut == Try.prog.mapsAmong Try.f4.resultTypes.toList)) = true := by kernel_rfl
theorem reclaimExact_k16 : ((Rows.reclaimExactRow.loops == (Try.f4.params.toList ++ Rows.reclaimExactSpec.plain.varTypes Try.prog).any (Try.prog.loopsFrom ·))) = true := by kernel_rfl
theorem reclaimExact_k17 : ((Rows.reclaimExactRow.wideKeys == (Try.f4.params.toList ++ Rows.reclaimExactSpec.plain.varTypes Try.prog ++ Try.f4.resultTypes.toList).any (Try.prog.wideKeysFrom ·))) = true := by kernel_rfl
theorem reclaimExact_k18 : (Rows.reclaimExactSpec.vars.all (Try.prog.varReadable ·)) = true := by kernel_rfl
theorem reclaimExact_k19 : (Try.f4.resultTypes.all (fun t => Try.prog.readableRec t && decide (t < Try.prog.types.size))) = true := by kernel_rfl
theorem reclaimExact_k20 : ((Rows.reclaimExactRow.ifacesOut == Try.f4.resultTypes.toList.any (Try.prog.ifacesRec ·))) = true := by kernel_rfl
theorem reclaimExact_k21 : ((Rows.reclaimExactRow.loopsOut == Try.f4.resultTypes.toList.any (Try.prog.loopsFrom ·))) = true := by kernel_rfl
theorem reclaimExact_k22 : ((Rows.reclaimExactRow.plainKeys == Try.prog.plainKeys)) = true := by kernel_rfl
theorem reclaimExact_k23 : (Rows.reclaimExactRow.shortTexts.isNone) = true := by kernel_rfl
theorem reclaimExact_k24 : (Try.prog.stopsHeard) = true := by kernel_rfl
theorem reclaimExact_k25 : (Try.prog.mayEnter) = true := by exact try_mayEnter
theorem reclaimExact_k26 : ((Rows.reclaimExactRow.lifted == Try.prog.liftsFinal)) = true := by rw [try_lifts]; kernel_rfl
theorem reclaimExact_k27 : ((Try.prog.make == some Rows.reclaimExactRow.make)) = true := by rw [try_make]; kernel_rfl
theorem reclaimExact_k28 : ((Rows.reclaimExactRow.kinds == (if Rows.reclaimExactRow.domain.isEmpty then [] else Try.f4.params.toList.map fun t => match Try.prog.underlying t with | some (.int k) => some k | _ => none))) = true := by kernel_rfl
theorem reclaimExact_k29 : ((Rows.reclaimExactRow.pinned == Rows.reclaimExactRow.pinnedBy)) = true := by kernel_rfl
theorem reclaimExact_k30 : ((Rows.reclaimExactRow.veiled == (Try.f4.params.toList ++ Rows.reclaimExactSpec.plain.varTypes Try.prog ++ Try.f4.resultTypes.toList).any (Try.prog.veiledRec ·))) = true := by kernel_rfl
theorem reclaimExact_k31 : (Rows.reclaimExactRow.veiledFits Try.prog Try.f4.params.toList (Try.f4.params.toList ++ Rows.reclaimExactSpec.plain.varTypes Try.prog ++ Try.f4.resultTypes.toList)) = true := by kernel_rfl
set_option maxRecDepth 100000 in
theorem reclaimExact_closed : joinedFacts Try.prog 4 Try.f4 Rows.reclaimExactSpec Rows.reclaimExactRow = true := by
  unfold joinedFacts
  exact and_mk (and_mk (and_mk (and_mk (and_mk (and_mk (and_mk (and_mk (and_mk (and_mk (and_mk (and_mk (and_mk (and_mk (and_mk (and_mk (and_mk (and_mk (and_mk (and_mk (and_mk (and_mk (and_mk (and_mk (and_mk (and_mk (and_mk (and_mk (and_mk (and_mk (and_mk (reclaimExact_k0) reclaimExact_k1) reclaimExact_k2) reclaimExact_k3) reclaimExact_k4) reclaimExact_k5) reclaimExact_k6) reclaimExact_k7) reclaimExact_k8) reclaimExact_k9) reclaimExact_k10) reclaimExact_k11) reclaimExact_k12) reclaimExact_k13) reclaimExact_k14) reclaimExact_k15) reclaimExact_k16) reclaimExact_k17) reclaimExact_k18) reclaimExact_k19) reclaimExact_k20) reclaimExact_k21) reclaimExact_k22) reclaimExact_k23) reclaimExact_k24) reclaimExact_k25) reclaimExact_k26) reclaimExact_k27) reclaimExact_k28) reclaimExact_k29) reclaimExact_k30) reclaimExact_k31

theorem reclaimExact_holds : Rows.ReclaimExactSaid :=
  OpenClaim.holds_of_wide 4 Try.f4 rfl rfl rfl rfl rfl rfl rfl ⟨rfl, rfl, rfl, rfl, rfl⟩ rfl rfl rfl rfl rfl (by kernel_rfl) Try.func4 reclaimExact_closed
    (of_decide_eq_true (by kernel_rfl)) (by unfold Func.isWrapper; first | (rw [if_pos (by decide +kernel)]; kernel_rfl) | (rw [if_neg (by decide +kernel)]; exact ⟨rfl, rfl⟩))
    (fun os started H enc _ => reclaimExact_lifted os started H enc)

end Go.Proofs.Ytdmghfmdcfagcaa

