/- DeviceLimits holds: for every input the call of the law returns true, and each argument reads afterwards as it read before. No conditions. -/
import Derived.Test.YtekkdllchjmhdaaGreatRows
import Derived.Test.YtekkdllchjmhdaaGreatB3
import Derived.Test.YtekkdllchjmhdaaGreatB16
import Derived.Test.YtekkdllchjmhdaaGreatB17
import Derived.ProofKit
set_option linter.unusedSectionVars false
set_option linter.unusedSimpArgs false
set_option linter.unusedVariables false
namespace Go.Proofs.YtekkdllchjmhdaaGreat
open Go.ChangeShapes Go.WideShapes Go.ChangeAt Go.RowKit Go.V
theorem deviceLimits_fit : Tryz.f7.params.toList.all (fitB Tryz.prog) = true:=by kernel_rfl
theorem deviceLimits_u3 : Tryz.prog.underlying 3 = some (.int .i64):=by kernel_rfl
theorem deviceLimits_call : ∀ us : List VVal,us.length = Tryz.f7.params.toList.length -> (∀ (i : Nat) (t : TypeId) (u : VVal),Tryz.f7.params.toList[i]? = some t -> us[i]? = some u -> Fit Tryz.prog t u) -> V 7 us [] = some (.p (.bool true),[]):=by
 intro us hlen hfit
 rw [Tryz.params7] at hlen hfit
 match us,hlen with
 | [x0],_ =>
  obtain ⟨a0,rfl,w0⟩:=(hfit 0 3 x0 rfl rfl).isInt deviceLimits_u3
  exact deviceLimits_eq a0
set_option maxRecDepth 100000 in
theorem deviceLimits_lifted (os : Os) (started : os.Started) (H : Type) (enc : TypeId × Value -> H) :
  ReturnsInHanded {} Tryz.checked os 7 .any (Rows.deviceLimitsSpec.pre6 enc Tryz.prog Tryz.f7 Rows.deviceLimitsRow.domain false) (Rows.deviceLimitsSpec.post enc Tryz.prog Tryz.f7 false true false false):=by
 refine returnsInHanded_of_change (C:=Tryz.checked) own_try started (by kernel_rfl) Tryz.func7
  (ChangeSpec.witness6 (enc:=enc) (C:=Tryz.checked) false ⟨#[],#[.int .i64 0],[]⟩ 8 (by kernel_rfl) (by kernel_rfl) (by kernel_rfl) (by kernel_rfl)) ?_
 intro W base args ds gs before hval0 hW _ _
 have hval : ∀ (j : Nat) t v,Tryz.f7.params[j]? = some t -> args[j]? = some v -> Value.okWide Tryz.prog W .any base t v:=hval0
 have hW':=hW
 obtain ⟨p,q,hA0,hV,hbe,_,_⟩:=hW
 have hA : DataW.TrodAll enc Tryz.prog W 0 (fun _=>true) true Tryz.f7.params.toList args.toList ds p:=hA0
 letI : GK:=⟨fun _=>none⟩
 refine (law_calls V_sound (fun b B h=>by cases h) deviceLimits_fit (fun j t v ht hv=>hval j t v (by simpa using ht) hv) hA deviceLimits_call).mono fun e W' ⟨he,hb⟩=>?_
 subst he
 have hlen:=trodAll_len hA
 rw [Tryz.params7] at hlen
 obtain ⟨hgs,_⟩:=trodVars_none hV
 have hfn : ∀ ds : List (DataW H),ds.length = 1 -> (Rows.deviceLimitsSpec.fn H (ds ++ [])).results = [.lit (.bool true)] /\ (Rows.deviceLimitsSpec.fn H (ds ++ [])).args = ds /\ (Rows.deviceLimitsSpec.fn H (ds ++ [])).vars = []:=by
  intro ds hl
  match ds,hl with
  | [_],_=>exact ⟨rfl,rfl,rfl⟩
 obtain ⟨e1,e2,e3⟩:=hfn ds hlen
 exact ⟨_,rfl,law_post laid_try hW' rfl deviceLimits_fit hA hV hbe (t:=4) (by kernel_rfl) (by kernel_rfl) (by rw [hgs]; exact e1) (by rw [hgs]; exact e2) (by rw [hgs]; exact e3) hb⟩
theorem deviceLimits_k0 : (Rows.deviceLimitsRow.wf (OpenSpec.ofChange Rows.deviceLimitsSpec)) = true:=by kernel_rfl
theorem deviceLimits_k1 : (laidOutB Tryz.prog) = true:=by kernel_rfl
theorem deviceLimits_k2 : (mapsRowed Tryz.prog) = true:=by kernel_rfl
theorem deviceLimits_k3 : (Tryz.f7.params.all (Tryz.prog.readableRec ·)) = true:=by kernel_rfl
theorem deviceLimits_k4 : (namedTie Tryz.prog Rows.deviceLimitsRow.named Rows.deviceLimitsSpec.vars) = true:=by kernel_rfl
theorem deviceLimits_k5 : ((Rows.deviceLimitsRow.stops == [])) = true:=by kernel_rfl
theorem deviceLimits_k6 : ((Tryz.prog.stops == [])) = true:=by kernel_rfl
theorem deviceLimits_k7 : ((Rows.deviceLimitsRow.knobs == [])) = true:=by kernel_rfl
theorem deviceLimits_k8 : ((Tryz.prog.stopKnobs == [])) = true:=by kernel_rfl
theorem deviceLimits_k9 : ((Rows.deviceLimitsRow.inPlace == Tryz.prog.inPlace 7)) = true:=by kernel_rfl
theorem deviceLimits_k10 : ((Rows.deviceLimitsRow.unfollowed == Tryz.prog.unfollowed 7)) = true:=by kernel_rfl
theorem deviceLimits_k11 : ((Rows.deviceLimitsRow.recurses == Tryz.prog.recurses 7)) = true:=by kernel_rfl
theorem deviceLimits_k12 : ((Rows.deviceLimitsRow.named == Tryz.prog.varsNamed 7)) = true:=by kernel_rfl
theorem deviceLimits_k13 : ((Rows.deviceLimitsRow.maps == (Tryz.f7.params.toList ++ Rows.deviceLimitsSpec.plain.varTypes Tryz.prog).any (Tryz.prog.mapsRec ·))) = true:=by kernel_rfl
theorem deviceLimits_k14 : ((Rows.deviceLimitsRow.ifaces == (Tryz.f7.params.toList ++ Rows.deviceLimitsSpec.plain.varTypes Tryz.prog).any (Tryz.prog.ifacesRec ·))) = true:=by kernel_rfl
theorem deviceLimits_k15 : ((Rows.deviceLimitsRow.mapsOut == Tryz.prog.mapsAmong Tryz.f7.resultTypes.toList)) = true:=by kernel_rfl
theorem deviceLimits_k16 : ((Rows.deviceLimitsRow.loops == (Tryz.f7.params.toList ++ Rows.deviceLimitsSpec.plain.varTypes Tryz.prog).any (Tryz.prog.loopsFrom ·))) = true:=by kernel_rfl
theorem deviceLimits_k17 : ((Rows.deviceLimitsRow.wideKeys == (Tryz.f7.params.toList ++ Rows.deviceLimitsSpec.plain.varTypes Tryz.prog ++ Tryz.f7.resultTypes.toList).any (Tryz.prog.wideKeysFrom ·))) = true:=by kernel_rfl
theorem deviceLimits_k18 : (Rows.deviceLimitsSpec.vars.all (Tryz.prog.varReadable ·)) = true:=by kernel_rfl
theorem deviceLimits_k19 : (Tryz.f7.resultTypes.all (fun t=>Tryz.prog.readableRec t && decide (t < Tryz.prog.types.size))) = true:=by kernel_rfl
theorem deviceLimits_k20 : ((Rows.deviceLimitsRow.ifacesOut == Tryz.f7.resultTypes.toList.any (Tryz.prog.ifacesRec ·))) = true:=by kernel_rfl
theorem deviceLimits_k21 : ((Rows.deviceLimitsRow.loopsOut == Tryz.f7.resultTypes.toList.any (Tryz.prog.loopsFrom ·))) = true:=by kernel_rfl
theorem deviceLimits_k22 : ((Rows.deviceLimitsRow.plainKeys == Tryz.prog.plainKeys)) = true:=by kernel_rfl
theorem deviceLimits_k23 : (Rows.deviceLimitsRow.shortTexts.isNone) = true:=by kernel_rfl
theorem deviceLimits_k24 : (Tryz.prog.stopsHeard) = true:=by kernel_rfl
theorem deviceLimits_k25 : (Tryz.prog.mayEnter) = true:=by exact try_mayEnter
theorem deviceLimits_k26 : ((Rows.deviceLimitsRow.lifted == Tryz.prog.liftsFinal)) = true:=by rw [try_lifts]; kernel_rfl
theorem deviceLimits_k27 : ((Tryz.prog.make == some Rows.deviceLimitsRow.make)) = true:=by rw [try_make]; kernel_rfl
theorem deviceLimits_k28 : ((Rows.deviceLimitsRow.kinds == (if Rows.deviceLimitsRow.domain.isEmpty then [] else Tryz.f7.params.toList.map fun t=>match Tryz.prog.underlying t with | some (.int k)=>some k | _=>none))) = true:=by kernel_rfl
theorem deviceLimits_k29 : ((Rows.deviceLimitsRow.pinned == Rows.deviceLimitsRow.pinnedBy)) = true:=by kernel_rfl
theorem deviceLimits_k30 : ((Rows.deviceLimitsRow.veiled == (Tryz.f7.params.toList ++ Rows.deviceLimitsSpec.plain.varTypes Tryz.prog ++ Tryz.f7.resultTypes.toList).any (Tryz.prog.veiledRec ·))) = true:=by kernel_rfl
theorem deviceLimits_k31 : (Rows.deviceLimitsRow.veiledFits Tryz.prog Tryz.f7.params.toList (Tryz.f7.params.toList ++ Rows.deviceLimitsSpec.plain.varTypes Tryz.prog ++ Tryz.f7.resultTypes.toList)) = true:=by kernel_rfl
set_option maxRecDepth 100000 in
theorem deviceLimits_closed : joinedFacts Tryz.prog 7 Tryz.f7 Rows.deviceLimitsSpec Rows.deviceLimitsRow = true:=by
 unfold joinedFacts
 exact and_mk (and_mk (and_mk (and_mk (and_mk (and_mk (and_mk (and_mk (and_mk (and_mk (and_mk (and_mk (and_mk (and_mk (and_mk (and_mk (and_mk (and_mk (and_mk (and_mk (and_mk (and_mk (and_mk (and_mk (and_mk (and_mk (and_mk (and_mk (and_mk (and_mk (and_mk (deviceLimits_k0) deviceLimits_k1) deviceLimits_k2) deviceLimits_k3) deviceLimits_k4) deviceLimits_k5) deviceLimits_k6) deviceLimits_k7) deviceLimits_k8) deviceLimits_k9) deviceLimits_k10) deviceLimits_k11) deviceLimits_k12) deviceLimits_k13) deviceLimits_k14) deviceLimits_k15) deviceLimits_k16) deviceLimits_k17) deviceLimits_k18) deviceLimits_k19) deviceLimits_k20) deviceLimits_k21) deviceLimits_k22) deviceLimits_k23) deviceLimits_k24) deviceLimits_k25) deviceLimits_k26) deviceLimits_k27) deviceLimits_k28) deviceLimits_k29) deviceLimits_k30) deviceLimits_k31
theorem deviceLimits_holds : Rows.DeviceLimitsSaid :=
 OpenClaim.holds_of_wide 7 Tryz.f7 rfl rfl rfl rfl rfl rfl rfl ⟨rfl,rfl,rfl,rfl,rfl⟩ rfl rfl rfl rfl rfl (by kernel_rfl) Tryz.func7 deviceLimits_closed
  (of_decide_eq_true (by kernel_rfl)) (by unfold Func.isWrapper; first | (rw [if_pos (by decide +kernel)]; kernel_rfl) | (rw [if_neg (by decide +kernel)]; exact ⟨rfl,rfl⟩))
  (fun os started H enc _=>deviceLimits_lifted os started H enc)
end Go.Proofs.YtekkdllchjmhdaaGreat
