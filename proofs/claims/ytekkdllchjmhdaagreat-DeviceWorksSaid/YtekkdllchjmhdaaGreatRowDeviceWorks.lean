/- DeviceWorks holds: for every input the call of the law returns true, and each argument reads afterwards as it read before. No conditions. -/
import Derived.Test.YtekkdllchjmhdaaGreatRows
import Derived.Test.YtekkdllchjmhdaaGreatA4
import Derived.Test.YtekkdllchjmhdaaGreatA16
import Derived.Test.YtekkdllchjmhdaaGreatA17
import Derived.ProofKit
set_option linter.unusedSectionVars false
set_option linter.unusedSimpArgs false
set_option linter.unusedVariables false
namespace Go.Proofs.YtekkdllchjmhdaaGreat
open Go.ChangeShapes Go.WideShapes Go.ChangeAt Go.RowKit Go.V
theorem deviceWorks_fit : Tryz.f3.params.toList.all (fitB Tryz.prog) = true:=by kernel_rfl
theorem deviceWorks_u22 : Tryz.prog.underlying 22 = some (.slice 3):=by kernel_rfl
theorem deviceWorks_u3 : Tryz.prog.underlying 3 = some (.int .i64):=by kernel_rfl
theorem deviceWorks_call : ∀ us : List VVal,us.length = Tryz.f3.params.toList.length -> (∀ (i : Nat) (t : TypeId) (u : VVal),Tryz.f3.params.toList[i]? = some t -> us[i]? = some u -> Fit Tryz.prog t u) -> V 3 us [] = some (.p (.bool true),[]):=by
 intro us hlen hfit
 rw [Tryz.params3] at hlen hfit
 match us,hlen with
 | [x0],_ =>
  obtain ⟨a0,rfl,w0⟩:=(hfit 0 22 x0 rfl rfl).isInts deviceWorks_u22 deviceWorks_u3
  exact deviceWorks_eq a0
set_option maxRecDepth 100000 in
theorem deviceWorks_lifted (os : Os) (started : os.Started) (H : Type) (enc : TypeId × Value -> H) :
  ReturnsInHanded {} Tryz.checked os 3 .any (Rows.deviceWorksSpec.pre6 enc Tryz.prog Tryz.f3 Rows.deviceWorksRow.domain false) (Rows.deviceWorksSpec.post enc Tryz.prog Tryz.f3 false true false false):=by
 refine returnsInHanded_of_change (C:=Tryz.checked) own_try started (by kernel_rfl) Tryz.func3
  (ChangeSpec.witness6 (enc:=enc) (C:=Tryz.checked) false ⟨#[],#[.slice none 0 0],[]⟩ 8 (by kernel_rfl) (by kernel_rfl) (by kernel_rfl) (by kernel_rfl)) ?_
 intro W base args ds gs before hval0 hW _ _
 have hval : ∀ (j : Nat) t v,Tryz.f3.params[j]? = some t -> args[j]? = some v -> Value.okWide Tryz.prog W .any base t v:=hval0
 have hW':=hW
 obtain ⟨p,q,hA0,hV,hbe,_,_⟩:=hW
 have hA : DataW.TrodAll enc Tryz.prog W 0 (fun _=>true) true Tryz.f3.params.toList args.toList ds p:=hA0
 letI : GK:=⟨fun _=>none⟩
 refine (law_calls V_sound (fun b B h=>by cases h) deviceWorks_fit (fun j t v ht hv=>hval j t v (by simpa using ht) hv) hA deviceWorks_call).mono fun e W' ⟨he,hb⟩=>?_
 subst he
 have hlen:=trodAll_len hA
 rw [Tryz.params3] at hlen
 obtain ⟨hgs,_⟩:=trodVars_none hV
 have hfn : ∀ ds : List (DataW H),ds.length = 1 -> (Rows.deviceWorksSpec.fn H (ds ++ [])).results = [.lit (.bool true)] /\ (Rows.deviceWorksSpec.fn H (ds ++ [])).args = ds /\ (Rows.deviceWorksSpec.fn H (ds ++ [])).vars = []:=by
  intro ds hl
  match ds,hl with
  | [_],_=>exact ⟨rfl,rfl,rfl⟩
 obtain ⟨e1,e2,e3⟩:=hfn ds hlen
 exact ⟨_,rfl,law_post laid_try hW' rfl deviceWorks_fit hA hV hbe (t:=4) (by kernel_rfl) (by kernel_rfl) (by rw [hgs]; exact e1) (by rw [hgs]; exact e2) (by rw [hgs]; exact e3) hb⟩
theorem deviceWorks_k0 : (Rows.deviceWorksRow.wf (OpenSpec.ofChange Rows.deviceWorksSpec)) = true:=by kernel_rfl
theorem deviceWorks_k1 : (laidOutB Tryz.prog) = true:=by kernel_rfl
theorem deviceWorks_k2 : (mapsRowed Tryz.prog) = true:=by kernel_rfl
theorem deviceWorks_k3 : (Tryz.f3.params.all (Tryz.prog.readableRec ·)) = true:=by kernel_rfl
theorem deviceWorks_k4 : (namedTie Tryz.prog Rows.deviceWorksRow.named Rows.deviceWorksSpec.vars) = true:=by kernel_rfl
theorem deviceWorks_k5 : ((Rows.deviceWorksRow.stops == [])) = true:=by kernel_rfl
theorem deviceWorks_k6 : ((Tryz.prog.stops == [])) = true:=by kernel_rfl
theorem deviceWorks_k7 : ((Rows.deviceWorksRow.knobs == [])) = true:=by kernel_rfl
theorem deviceWorks_k8 : ((Tryz.prog.stopKnobs == [])) = true:=by kernel_rfl
theorem deviceWorks_k9 : ((Rows.deviceWorksRow.inPlace == Tryz.prog.inPlace 3)) = true:=by kernel_rfl
theorem deviceWorks_k10 : ((Rows.deviceWorksRow.unfollowed == Tryz.prog.unfollowed 3)) = true:=by kernel_rfl
theorem deviceWorks_k11 : ((Rows.deviceWorksRow.recurses == Tryz.prog.recurses 3)) = true:=by kernel_rfl
theorem deviceWorks_k12 : ((Rows.deviceWorksRow.named == Tryz.prog.varsNamed 3)) = true:=by kernel_rfl
theorem deviceWorks_k13 : ((Rows.deviceWorksRow.maps == (Tryz.f3.params.toList ++ Rows.deviceWorksSpec.plain.varTypes Tryz.prog).any (Tryz.prog.mapsRec ·))) = true:=by kernel_rfl
theorem deviceWorks_k14 : ((Rows.deviceWorksRow.ifaces == (Tryz.f3.params.toList ++ Rows.deviceWorksSpec.plain.varTypes Tryz.prog).any (Tryz.prog.ifacesRec ·))) = true:=by kernel_rfl
theorem deviceWorks_k15 : ((Rows.deviceWorksRow.mapsOut == Tryz.prog.mapsAmong Tryz.f3.resultTypes.toList)) = true:=by kernel_rfl
theorem deviceWorks_k16 : ((Rows.deviceWorksRow.loops == (Tryz.f3.params.toList ++ Rows.deviceWorksSpec.plain.varTypes Tryz.prog).any (Tryz.prog.loopsFrom ·))) = true:=by kernel_rfl
theorem deviceWorks_k17 : ((Rows.deviceWorksRow.wideKeys == (Tryz.f3.params.toList ++ Rows.deviceWorksSpec.plain.varTypes Tryz.prog ++ Tryz.f3.resultTypes.toList).any (Tryz.prog.wideKeysFrom ·))) = true:=by kernel_rfl
theorem deviceWorks_k18 : (Rows.deviceWorksSpec.vars.all (Tryz.prog.varReadable ·)) = true:=by kernel_rfl
theorem deviceWorks_k19 : (Tryz.f3.resultTypes.all (fun t=>Tryz.prog.readableRec t && decide (t < Tryz.prog.types.size))) = true:=by kernel_rfl
theorem deviceWorks_k20 : ((Rows.deviceWorksRow.ifacesOut == Tryz.f3.resultTypes.toList.any (Tryz.prog.ifacesRec ·))) = true:=by kernel_rfl
theorem deviceWorks_k21 : ((Rows.deviceWorksRow.loopsOut == Tryz.f3.resultTypes.toList.any (Tryz.prog.loopsFrom ·))) = true:=by kernel_rfl
theorem deviceWorks_k22 : ((Rows.deviceWorksRow.plainKeys == Tryz.prog.plainKeys)) = true:=by kernel_rfl
theorem deviceWorks_k23 : (Rows.deviceWorksRow.shortTexts.isNone) = true:=by kernel_rfl
theorem deviceWorks_k24 : (Tryz.prog.stopsHeard) = true:=by kernel_rfl
theorem deviceWorks_k25 : (Tryz.prog.mayEnter) = true:=by exact try_mayEnter
theorem deviceWorks_k26 : ((Rows.deviceWorksRow.lifted == Tryz.prog.liftsFinal)) = true:=by rw [try_lifts]; kernel_rfl
theorem deviceWorks_k27 : ((Tryz.prog.make == some Rows.deviceWorksRow.make)) = true:=by rw [try_make]; kernel_rfl
theorem deviceWorks_k28 : ((Rows.deviceWorksRow.kinds == (if Rows.deviceWorksRow.domain.isEmpty then [] else Tryz.f3.params.toList.map fun t=>match Tryz.prog.underlying t with | some (.int k)=>some k | _=>none))) = true:=by kernel_rfl
theorem deviceWorks_k29 : ((Rows.deviceWorksRow.pinned == Rows.deviceWorksRow.pinnedBy)) = true:=by kernel_rfl
theorem deviceWorks_k30 : ((Rows.deviceWorksRow.veiled == (Tryz.f3.params.toList ++ Rows.deviceWorksSpec.plain.varTypes Tryz.prog ++ Tryz.f3.resultTypes.toList).any (Tryz.prog.veiledRec ·))) = true:=by kernel_rfl
theorem deviceWorks_k31 : (Rows.deviceWorksRow.veiledFits Tryz.prog Tryz.f3.params.toList (Tryz.f3.params.toList ++ Rows.deviceWorksSpec.plain.varTypes Tryz.prog ++ Tryz.f3.resultTypes.toList)) = true:=by kernel_rfl
set_option maxRecDepth 100000 in
theorem deviceWorks_closed : joinedFacts Tryz.prog 3 Tryz.f3 Rows.deviceWorksSpec Rows.deviceWorksRow = true:=by
 unfold joinedFacts
 exact and_mk (and_mk (and_mk (and_mk (and_mk (and_mk (and_mk (and_mk (and_mk (and_mk (and_mk (and_mk (and_mk (and_mk (and_mk (and_mk (and_mk (and_mk (and_mk (and_mk (and_mk (and_mk (and_mk (and_mk (and_mk (and_mk (and_mk (and_mk (and_mk (and_mk (and_mk (deviceWorks_k0) deviceWorks_k1) deviceWorks_k2) deviceWorks_k3) deviceWorks_k4) deviceWorks_k5) deviceWorks_k6) deviceWorks_k7) deviceWorks_k8) deviceWorks_k9) deviceWorks_k10) deviceWorks_k11) deviceWorks_k12) deviceWorks_k13) deviceWorks_k14) deviceWorks_k15) deviceWorks_k16) deviceWorks_k17) deviceWorks_k18) deviceWorks_k19) deviceWorks_k20) deviceWorks_k21) deviceWorks_k22) deviceWorks_k23) deviceWorks_k24) deviceWorks_k25) deviceWorks_k26) deviceWorks_k27) deviceWorks_k28) deviceWorks_k29) deviceWorks_k30) deviceWorks_k31
theorem deviceWorks_holds : Rows.DeviceWorksSaid :=
 OpenClaim.holds_of_wide 3 Tryz.f3 rfl rfl rfl rfl rfl rfl rfl ⟨rfl,rfl,rfl,rfl,rfl⟩ rfl rfl rfl rfl rfl (by kernel_rfl) Tryz.func3 deviceWorks_closed
  (of_decide_eq_true (by kernel_rfl)) (by unfold Func.isWrapper; first | (rw [if_pos (by decide +kernel)]; kernel_rfl) | (rw [if_neg (by decide +kernel)]; exact ⟨rfl,rfl⟩))
  (fun os started H enc _=>deviceWorks_lifted os started H enc)
end Go.Proofs.YtekkdllchjmhdaaGreat
