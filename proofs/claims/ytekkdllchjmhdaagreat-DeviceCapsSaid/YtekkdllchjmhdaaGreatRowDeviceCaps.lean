/- DeviceCaps holds: for every input the call of the law returns true, and each argument reads afterwards as it read before. No conditions. -/
import Derived.Test.YtekkdllchjmhdaaGreatRows
import Derived.Test.YtekkdllchjmhdaaGreatC4
import Derived.Test.YtekkdllchjmhdaaGreatC17
import Derived.Test.YtekkdllchjmhdaaGreatC18
import Derived.ProofKit
set_option linter.unusedSectionVars false
set_option linter.unusedSimpArgs false
set_option linter.unusedVariables false
namespace Go.Proofs.YtekkdllchjmhdaaGreat
open Go.ChangeShapes Go.WideShapes Go.ChangeAt Go.RowKit Go.V
theorem deviceCaps_fit : Tryz.f8.params.toList.all (fitB Tryz.prog) = true:=by kernel_rfl
theorem deviceCaps_u22 : Tryz.prog.underlying 22 = some (.slice 3):=by kernel_rfl
theorem deviceCaps_u3 : Tryz.prog.underlying 3 = some (.int .i64):=by kernel_rfl
theorem deviceCaps_call : ∀ us : List VVal,us.length = Tryz.f8.params.toList.length -> (∀ (i : Nat) (t : TypeId) (u : VVal),Tryz.f8.params.toList[i]? = some t -> us[i]? = some u -> Fit Tryz.prog t u) -> V 8 us [] = some (.p (.bool true),[]):=by
 intro us hlen hfit
 rw [Tryz.params8] at hlen hfit
 match us,hlen with
 | [x0],_ =>
  obtain ⟨a0,rfl,w0⟩:=(hfit 0 22 x0 rfl rfl).isInts deviceCaps_u22 deviceCaps_u3
  exact deviceCaps_eq a0
set_option maxRecDepth 100000 in
theorem deviceCaps_lifted (os : Os) (started : os.Started) (H : Type) (enc : TypeId × Value -> H) :
  ReturnsInHanded {} Tryz.checked os 8 .any (Rows.deviceCapsSpec.pre6 enc Tryz.prog Tryz.f8 Rows.deviceCapsRow.domain false) (Rows.deviceCapsSpec.post enc Tryz.prog Tryz.f8 false true false false):=by
 refine returnsInHanded_of_change (C:=Tryz.checked) own_try started (by kernel_rfl) Tryz.func8
  (ChangeSpec.witness6 (enc:=enc) (C:=Tryz.checked) false ⟨#[],#[.slice none 0 0],[]⟩ 8 (by kernel_rfl) (by kernel_rfl) (by kernel_rfl) (by kernel_rfl)) ?_
 intro W base args ds gs before hval0 hW _ _
 have hval : ∀ (j : Nat) t v,Tryz.f8.params[j]? = some t -> args[j]? = some v -> Value.okWide Tryz.prog W .any base t v:=hval0
 have hW':=hW
 obtain ⟨p,q,hA0,hV,hbe,_,_⟩:=hW
 have hA : DataW.TrodAll enc Tryz.prog W 0 (fun _=>true) true Tryz.f8.params.toList args.toList ds p:=hA0
 letI : GK:=⟨fun _=>none⟩
 refine (law_calls V_sound (fun b B h=>by cases h) deviceCaps_fit (fun j t v ht hv=>hval j t v (by simpa using ht) hv) hA deviceCaps_call).mono fun e W' ⟨he,hb⟩=>?_
 subst he
 have hlen:=trodAll_len hA
 rw [Tryz.params8] at hlen
 obtain ⟨hgs,_⟩:=trodVars_none hV
 have hfn : ∀ ds : List (DataW H),ds.length = 1 -> (Rows.deviceCapsSpec.fn H (ds ++ [])).results = [.lit (.bool true)] /\ (Rows.deviceCapsSpec.fn H (ds ++ [])).args = ds /\ (Rows.deviceCapsSpec.fn H (ds ++ [])).vars = []:=by
  intro ds hl
  match ds,hl with
  | [_],_=>exact ⟨rfl,rfl,rfl⟩
 obtain ⟨e1,e2,e3⟩:=hfn ds hlen
 exact ⟨_,rfl,law_post laid_try hW' rfl deviceCaps_fit hA hV hbe (t:=4) (by kernel_rfl) (by kernel_rfl) (by rw [hgs]; exact e1) (by rw [hgs]; exact e2) (by rw [hgs]; exact e3) hb⟩
theorem deviceCaps_k0 : (Rows.deviceCapsRow.wf (OpenSpec.ofChange Rows.deviceCapsSpec)) = true:=by kernel_rfl
theorem deviceCaps_k1 : (laidOutB Tryz.prog) = true:=by kernel_rfl
theorem deviceCaps_k2 : (mapsRowed Tryz.prog) = true:=by kernel_rfl
theorem deviceCaps_k3 : (Tryz.f8.params.all (Tryz.prog.readableRec ·)) = true:=by kernel_rfl
theorem deviceCaps_k4 : (namedTie Tryz.prog Rows.deviceCapsRow.named Rows.deviceCapsSpec.vars) = true:=by kernel_rfl
theorem deviceCaps_k5 : ((Rows.deviceCapsRow.stops == [])) = true:=by kernel_rfl
theorem deviceCaps_k6 : ((Tryz.prog.stops == [])) = true:=by kernel_rfl
theorem deviceCaps_k7 : ((Rows.deviceCapsRow.knobs == [])) = true:=by kernel_rfl
theorem deviceCaps_k8 : ((Tryz.prog.stopKnobs == [])) = true:=by kernel_rfl
theorem deviceCaps_k9 : ((Rows.deviceCapsRow.inPlace == Tryz.prog.inPlace 8)) = true:=by kernel_rfl
theorem deviceCaps_k10 : ((Rows.deviceCapsRow.unfollowed == Tryz.prog.unfollowed 8)) = true:=by kernel_rfl
theorem deviceCaps_k11 : ((Rows.deviceCapsRow.recurses == Tryz.prog.recurses 8)) = true:=by kernel_rfl
theorem deviceCaps_k12 : ((Rows.deviceCapsRow.named == Tryz.prog.varsNamed 8)) = true:=by kernel_rfl
theorem deviceCaps_k13 : ((Rows.deviceCapsRow.maps == (Tryz.f8.params.toList ++ Rows.deviceCapsSpec.plain.varTypes Tryz.prog).any (Tryz.prog.mapsRec ·))) = true:=by kernel_rfl
theorem deviceCaps_k14 : ((Rows.deviceCapsRow.ifaces == (Tryz.f8.params.toList ++ Rows.deviceCapsSpec.plain.varTypes Tryz.prog).any (Tryz.prog.ifacesRec ·))) = true:=by kernel_rfl
theorem deviceCaps_k15 : ((Rows.deviceCapsRow.mapsOut == Tryz.prog.mapsAmong Tryz.f8.resultTypes.toList)) = true:=by kernel_rfl
theorem deviceCaps_k16 : ((Rows.deviceCapsRow.loops == (Tryz.f8.params.toList ++ Rows.deviceCapsSpec.plain.varTypes Tryz.prog).any (Tryz.prog.loopsFrom ·))) = true:=by kernel_rfl
theorem deviceCaps_k17 : ((Rows.deviceCapsRow.wideKeys == (Tryz.f8.params.toList ++ Rows.deviceCapsSpec.plain.varTypes Tryz.prog ++ Tryz.f8.resultTypes.toList).any (Tryz.prog.wideKeysFrom ·))) = true:=by kernel_rfl
theorem deviceCaps_k18 : (Rows.deviceCapsSpec.vars.all (Tryz.prog.varReadable ·)) = true:=by kernel_rfl
theorem deviceCaps_k19 : (Tryz.f8.resultTypes.all (fun t=>Tryz.prog.readableRec t && decide (t < Tryz.prog.types.size))) = true:=by kernel_rfl
theorem deviceCaps_k20 : ((Rows.deviceCapsRow.ifacesOut == Tryz.f8.resultTypes.toList.any (Tryz.prog.ifacesRec ·))) = true:=by kernel_rfl
theorem deviceCaps_k21 : ((Rows.deviceCapsRow.loopsOut == Tryz.f8.resultTypes.toList.any (Tryz.prog.loopsFrom ·))) = true:=by kernel_rfl
theorem deviceCaps_k22 : ((Rows.deviceCapsRow.plainKeys == Tryz.prog.plainKeys)) = true:=by kernel_rfl
theorem deviceCaps_k23 : (Rows.deviceCapsRow.shortTexts.isNone) = true:=by kernel_rfl
theorem deviceCaps_k24 : (Tryz.prog.stopsHeard) = true:=by kernel_rfl
theorem deviceCaps_k25 : (Tryz.prog.mayEnter) = true:=by exact try_mayEnter
theorem deviceCaps_k26 : ((Rows.deviceCapsRow.lifted == Tryz.prog.liftsFinal)) = true:=by rw [try_lifts]; kernel_rfl
theorem deviceCaps_k27 : ((Tryz.prog.make == some Rows.deviceCapsRow.make)) = true:=by rw [try_make]; kernel_rfl
theorem deviceCaps_k28 : ((Rows.deviceCapsRow.kinds == (if Rows.deviceCapsRow.domain.isEmpty then [] else Tryz.f8.params.toList.map fun t=>match Tryz.prog.underlying t with | some (.int k)=>some k | _=>none))) = true:=by kernel_rfl
theorem deviceCaps_k29 : ((Rows.deviceCapsRow.pinned == Rows.deviceCapsRow.pinnedBy)) = true:=by kernel_rfl
theorem deviceCaps_k30 : ((Rows.deviceCapsRow.veiled == (Tryz.f8.params.toList ++ Rows.deviceCapsSpec.plain.varTypes Tryz.prog ++ Tryz.f8.resultTypes.toList).any (Tryz.prog.veiledRec ·))) = true:=by kernel_rfl
theorem deviceCaps_k31 : (Rows.deviceCapsRow.veiledFits Tryz.prog Tryz.f8.params.toList (Tryz.f8.params.toList ++ Rows.deviceCapsSpec.plain.varTypes Tryz.prog ++ Tryz.f8.resultTypes.toList)) = true:=by kernel_rfl
set_option maxRecDepth 100000 in
theorem deviceCaps_closed : joinedFacts Tryz.prog 8 Tryz.f8 Rows.deviceCapsSpec Rows.deviceCapsRow = true:=by
 unfold joinedFacts
 exact and_mk (and_mk (and_mk (and_mk (and_mk (and_mk (and_mk (and_mk (and_mk (and_mk (and_mk (and_mk (and_mk (and_mk (and_mk (and_mk (and_mk (and_mk (and_mk (and_mk (and_mk (and_mk (and_mk (and_mk (and_mk (and_mk (and_mk (and_mk (and_mk (and_mk (and_mk (deviceCaps_k0) deviceCaps_k1) deviceCaps_k2) deviceCaps_k3) deviceCaps_k4) deviceCaps_k5) deviceCaps_k6) deviceCaps_k7) deviceCaps_k8) deviceCaps_k9) deviceCaps_k10) deviceCaps_k11) deviceCaps_k12) deviceCaps_k13) deviceCaps_k14) deviceCaps_k15) deviceCaps_k16) deviceCaps_k17) deviceCaps_k18) deviceCaps_k19) deviceCaps_k20) deviceCaps_k21) deviceCaps_k22) deviceCaps_k23) deviceCaps_k24) deviceCaps_k25) deviceCaps_k26) deviceCaps_k27) deviceCaps_k28) deviceCaps_k29) deviceCaps_k30) deviceCaps_k31
theorem deviceCaps_holds : Rows.DeviceCapsSaid :=
 OpenClaim.holds_of_wide 8 Tryz.f8 rfl rfl rfl rfl rfl rfl rfl ⟨rfl,rfl,rfl,rfl,rfl⟩ rfl rfl rfl rfl rfl (by kernel_rfl) Tryz.func8 deviceCaps_closed
  (of_decide_eq_true (by kernel_rfl)) (by unfold Func.isWrapper; first | (rw [if_pos (by decide +kernel)]; kernel_rfl) | (rw [if_neg (by decide +kernel)]; exact ⟨rfl,rfl⟩))
  (fun os started H enc _=>deviceCaps_lifted os started H enc)
end Go.Proofs.YtekkdllchjmhdaaGreat
