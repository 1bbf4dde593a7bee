/- ClampOpen holds: for every input the call of the law returns true, and each argument reads afterwards as it read before. No conditions. -/
import Derived.Test.YtcljahgcdbohaaaRows
import Derived.Test.YtcljahgcdbohaaaVSeat
import Derived.Test.YtcljahgcdbohaaaVL3
import Derived.Test.YtcljahgcdbohaaaVHead
import Derived.ProofKit
set_option linter.unusedSimpArgs false
set_option linter.unusedVariables false
namespace Go.Proofs.Ytcljahgcdbohaaa
open Go.ChangeShapes Go.WideShapes Go.ChangeAt Go.RowKit Go.V

theorem u16_lo {n : Int} (h : (Lit.int .u16 n).wf = true) : 0 ≤ n := by
  simp only [Lit.wf, IntKind.min, IntKind.max, IntKind.signed, IntKind.bits, Bool.and_eq_true, decide_eq_true_eq, if_true, Bool.false_eq_true, if_false] at h
  omega
theorem u16_hi {n : Int} (h : (Lit.int .u16 n).wf = true) : n < 65536 := by
  simp only [Lit.wf, IntKind.min, IntKind.max, IntKind.signed, IntKind.bits, Bool.and_eq_true, decide_eq_true_eq, if_true, Bool.false_eq_true, if_false] at h
  omega

theorem clampOpen_fit : Try.f5.params.toList.all (fitB Try.prog) = true := by kernel_rfl
theorem clampOpen_u22 : Try.prog.underlying 22 = some (.slice 3) := by kernel_rfl
theorem clampOpen_u3 : Try.prog.underlying 3 = some (.int .i64) := by kernel_rfl
theorem clampOpen_u42 : Try.prog.underlying 42 = some (.int .u16) := by kernel_rfl

theorem clampOpen_call : ∀ us : List VVal, us.length = Try.f5.params.toList.length → (∀ (i : Nat) (t : TypeId) (u : VVal), Try.f5.params.toList[i]? = some t → us[i]? = some u → Fit Try.prog t u) → V 5 us [] = some (.p (.bool true), []) := by
  intro us hlen hfit
  rw [Try.params5] at hlen hfit
  match us, hlen with
  | [x0, x1], _ =>
    obtain ⟨a0, rfl, w0⟩ := (hfit 0 22 x0 rfl rfl).isInts clampOpen_u22 clampOpen_u3
    obtain ⟨a1, rfl, w1⟩ := (hfit 1 42 x1 rfl rfl).isInt clampOpen_u42
    exact clampOpen_eq a0 a1 (u16_lo w1) (u16_hi w1)

set_option maxRecDepth 100000 in
theorem clampOpen_lifted (os : Os) (started : os.Started) (H : Type) (enc : TypeId × Value → H) :
    ReturnsInHanded {} Try.checked os 5 .any (Rows.clampOpenSpec.pre6 enc Try.prog Try.f5 Rows.clampOpenRow.domain false) (Rows.clampOpenSpec.post enc Try.prog Try.f5 false true false false) := by
  refine returnsInHanded_of_change (C := Try.checked) own_try started (by kernel_rfl) Try.func5
    (ChangeSpec.witness6 (enc := enc) (C := Try.checked) false ⟨#[], #[.slice none 0 0, .int .u16 0], []⟩ 8 (by kernel_rfl) (by kernel_rfl) (by kernel_rfl) (by kernel_rfl)) ?_
  intro W base args ds gs before hval0 hW _ _
  have hval : ∀ (j : Nat) t v, Try.f5.params[j]? = some t → args[j]? = some v → Value.okWide Try.prog W .any base t v := hval0
  have hW' := hW
  obtain ⟨p, q, hA0, hV, hbe, _, _⟩ := hW
  have hA : DataW.TrodAll enc Try.prog W 0 (fun _ => true) true Try.f5.params.toList args.toList ds p := hA0
  refine (law_calls V_sound clampOpen_fit (fun j t v ht hv => hval j t v (by simpa using ht) hv) hA clampOpen_call).mono fun e W' ⟨he, hb⟩ => ?_
  subst he
  have hlen := trodAll_len hA
  rw [Try.params5] at hlen
  obtain ⟨hgs, _⟩ := trodVars_none hV
  have hfn : ∀ ds : List (DataW H), ds.length = 2 → (Rows.clampOpenSpec.fn H (ds ++ [])).results = [.lit (.bool true)] ∧ (Rows.clampOpenSpec.fn H (ds ++ [])).args = ds ∧ (Rows.clampOpenSpec.fn H (ds ++ [])).vars = [] := by
    intro ds hl
    match ds, hl with
    | [_, _], _ => exact ⟨rfl, rfl, rfl⟩
  obtain ⟨e1, e2, e3⟩ := hfn ds hlen
  exact ⟨_, rfl, law_post laid_try hW' rfl clampOpen_fit hA hV hbe (t := 4) (by kernel_rfl) (by kernel_rfl) (by rw [hgs]; exact e1) (by rw [hgs]; exact e2) (by rw [hgs]; exact e3) hb⟩

theorem clampOpen_k0 : (Rows.clampOpenRow.wf (OpenSpec.ofChange Rows.clampOpenSpec)) = true := by kernel_rfl
theorem clampOpen_k1 : (laidOutB Try.prog) = true := by kernel_rfl
theorem clampOpen_k2 : (mapsRowed Try.prog) = true := by kernel_rfl
theorem clampOpen_k3 : (Try.f5.params.all (Try.prog.readableRec ·)) = true := by kernel_rfl
theorem clampOpen_k4 : (namedTie Try.prog Rows.clampOpenRow.named Rows.clampOpenSpec.vars) = true := by kernel_rfl
theorem clampOpen_k5 : ((Rows.clampOpenRow.stops == [])) = true := by kernel_rfl
theorem clampOpen_k6 : ((Try.prog.stops == [])) = true := by kernel_rfl
theorem clampOpen_k7 : ((Rows.clampOpenRow.knobs == [])) = true := by kernel_rfl
theorem clampOpen_k8 : ((Try.prog.stopKnobs == [])) = true := by kernel_rfl
theorem clampOpen_k9 : ((Rows.clampOpenRow.inPlace == Try.prog.inPlace 5)) = true := by kernel_rfl
theorem clampOpen_k10 : ((Rows.clampOpenRow.unfollowed == Try.prog.unfollowed 5)) = true := by kernel_rfl
theorem clampOpen_k11 : ((Rows.clampOpenRow.recurses == Try.prog.recurses 5)) = true := by kernel_rfl
theorem clampOpen_k12 : ((Rows.clampOpenRow.named == Try.prog.varsNamed 5)) = true := by kernel_rfl
theorem clampOpen_k13 : ((Rows.clampOpenRow.maps == (Try.f5.params.toList ++ Rows.clampOpenSpec.plain.varTypes Try.prog).any (Try.prog.mapsRec ·))) = true := by kernel_rfl
theorem clampOpen_k14 : ((Rows.clampOpenRow.ifaces == (Try.f5.params.toList ++ Rows.clampOpenSpec.plain.varTypes Try.prog).any (Try.prog.ifacesRec ·))) = true := by kernel_rfl
theorem clampOpen_k15 : ((Rows.clampOpenRow.mapsOut == Try.prog.mapsAmong Try.f5.resultTypes.toList)) = true := by kernel_rfl
theorem clampOpen_k16 : ((Rows.clampOpenRow.loops == (Try.f5.params.toList ++ Rows.clampOpenSpec.plain.varTypes Try.prog).any (Try.prog.loopsFrom ·))) = true := by kernel_rfl
theorem clampOpen_k17 : ((Rows.clampOpenRow.wideKeys == (Try.f5.params.toList ++ Rows.clampOpenSpec.plain.varTypes Try.prog ++ Try.f5.resultTypes.toList).any (Try.prog.wideKeysFrom ·))) = true := by kernel_rfl
theorem clampOpen_k18 : (Rows.clampOpenSpec.vars.all (Try.prog.varReadable ·)) = true := by kernel_rfl
theorem clampOpen_k19 : (Try.f5.resultTypes.all (fun t => Try.prog.readableRec t && decide (t < Try.prog.types.size))) = true := by kernel_rfl
theorem clampOpen_k20 : ((Rows.clampOpenRow.ifacesOut == Try.f5.resultTypes.toList.any (Try.prog.ifacesRec ·))) = true := by kernel_rfl
theorem clampOpen_k21 : ((Rows.clampOpenRow.loopsOut == Try.f5.resultTypes.toList.any (Try.prog.loopsFrom ·))) = true := by kernel_rfl
theorem clampOpen_k22 : ((Rows.clampOpenRow.plainKeys == Try.prog.plainKeys)) = true := by kernel_rfl
theorem clampOpen_k23 : (Rows.clampOpenRow.shortTexts.isNone) = true := by kernel_rfl
theorem clampOpen_k24 : (Try.prog.stopsHeard) = true := by kernel_rfl
theorem clampOpen_k25 : (Try.prog.mayEnter) = true := by exact try_mayEnter
theorem clampOpen_k26 : ((Rows.clampOpenRow.lifted == Try.prog.liftsFinal)) = true := by rw [try_lifts]; kernel_rfl
theorem clampOpen_k27 : ((Try.prog.make == some Rows.clampOpenRow.make)) = true := by rw [try_make]; kernel_rfl
theorem clampOpen_k28 : ((Rows.clampOpenRow.kinds == (if Rows.clampOpenRow.domain.isEmpty then [] else Try.f5.params.toList.map fun t => match Try.prog.underlying t with | some (.int k) => some k | _ => none))) = true := by kernel_rfl
theorem clampOpen_k29 : ((Rows.clampOpenRow.pinned == Rows.clampOpenRow.pinnedBy)) = true := by kernel_rfl
theorem clampOpen_k30 : ((Rows.clampOpenRow.veiled == (Try.f5.params.toList ++ Rows.clampOpenSpec.plain.varTypes Try.prog ++ Try.f5.resultTypes.toList).any (Try.prog.veiledRec ·))) = true := by kernel_rfl
theorem clampOpen_k31 : (Rows.clampOpenRow.veiledFits Try.prog Try.f5.params.toList (Try.f5.params.toList ++ Rows.clampOpenSpec.plain.varTypes Try.prog ++ Try.f5.resultTypes.toList)) = true := by kernel_rfl
set_option maxRecDepth 100000 in
theorem clampOpen_closed : joinedFacts Try.prog 5 Try.f5 Rows.clampOpenSpec Rows.clampOpenRow = true := by
  unfold joinedFacts
  exact and_mk (and_mk (and_mk (and_mk (and_mk (and_mk (and_mk (and_mk (and_mk (and_mk (and_mk (and_mk (and_mk (and_mk (and_mk (and_mk (and_mk (and_mk (and_mk (and_mk (and_mk (and_mk (and_mk (and_mk (and_mk (and_mk (and_mk (and_mk (and_mk (and_mk (and_mk (clampOpen_k0) clampOpen_k1) clampOpen_k2) clampOpen_k3) clampOpen_k4) clampOpen_k5) clampOpen_k6) clampOpen_k7) clampOpen_k8) clampOpen_k9) clampOpen_k10) clampOpen_k11) clampOpen_k12) clampOpen_k13) clampOpen_k14) clampOpen_k15) clampOpen_k16) clampOpen_k17) clampOpen_k18) clampOpen_k19) clampOpen_k20) clampOpen_k21) clampOpen_k22) clampOpen_k23) clampOpen_k24) clampOpen_k25) clampOpen_k26) clampOpen_k27) clampOpen_k28) clampOpen_k29) clampOpen_k30) clampOpen_k31

theorem clampOpen_holds : Rows.ClampOpenSaid :=
  OpenClaim.holds_of_wide 5 Try.f5 rfl rfl rfl rfl rfl rfl rfl ⟨rfl, rfl, rfl, rfl, rfl⟩ rfl rfl rfl rfl rfl (by kernel_rfl) Try.func5 clampOpen_closed
    (of_decide_eq_true (by kernel_rfl)) (by unfold Func.isWrapper; first | (rw [if_pos (by decide +kernel)]; kernel_rfl) | (rw [if_neg (by decide +kernel)]; exact ⟨rfl, rfl⟩))
    (fun os started H enc _ => clampOpen_lifted os started H enc)

end Go.Proofs.Ytcljahgcdbohaaa
