/- LimitRefuses holds: for every input the call of the law returns true, and each argument reads afterwards as it read before. No conditions. -/
import Derived.Test.YtmfbifkaonehkaaGreatRows
import Derived.Test.YtmfbifkaonehkaaGreatH18
import Derived.Test.YtmfbifkaonehkaaGreatH9
import Derived.Test.YtmfbifkaonehkaaGreatH19
import Derived.ProofKit
set_option linter.unusedSimpArgs false
set_option linter.unusedVariables false
namespace Go.Proofs.YtmfbifkaonehkaaGreat
open Go.ChangeShapes Go.WideShapes Go.ChangeAt Go.RowKit Go.V
theorem limitRefuses_fit : Tryz.f7.params.toList.all (fitB Tryz.prog) = true:=by kernel_rfl
theorem limitRefuses_u22 : Tryz.prog.underlying 22 = some (.slice 3):=by kernel_rfl
theorem limitRefuses_u3 : Tryz.prog.underlying 3 = some (.int .i64):=by kernel_rfl
theorem limitRefuses_call : ∀ us : List VVal,us.length = Tryz.f7.params.toList.length -> (∀ (i : Nat) (t : TypeId) (u : VVal),Tryz.f7.params.toList[i]? = some t -> us[i]? = some u -> Fit Tryz.prog t u) -> V 7 us [] = some (.p (.bool true),[]):=by
 intro us hlen hfit
 rw [Tryz.params7] at hlen hfit
 match us,hlen with
 | [x0,x1],_ =>
  obtain ⟨a0,rfl,w0⟩:=(hfit 0 22 x0 rfl rfl).isInts limitRefuses_u22 limitRefuses_u3
  obtain ⟨a1,rfl,w1⟩:=(hfit 1 3 x1 rfl rfl).isInt limitRefuses_u3
  exact limitRefuses_eq a0 a1
set_option maxRecDepth 100000 in
theorem limitRefuses_lifted (os : Os) (started : os.Started) (H : Type) (enc : TypeId × Value -> H) :
  ReturnsInHanded {} Tryz.checked os 7 .any (Rows.limitRefusesSpec.pre6 enc Tryz.prog Tryz.f7 Rows.limitRefusesRow.domain false) (Rows.limitRefusesSpec.post enc Tryz.prog Tryz.f7 false true false false):=by
 refine returnsInHanded_of_change (C:=Tryz.checked) own_try started (by kernel_rfl) Tryz.func7
  (ChangeSpec.witness6 (enc:=enc) (C:=Tryz.checked) false ⟨#[],#[.slice none 0 0,.int .i64 0],[]⟩ 8 (by kernel_rfl) (by kernel_rfl) (by kernel_rfl) (by kernel_rfl)) ?_
 intro W base args ds gs before hval0 hW _ _
 have hval : ∀ (j : Nat) t v,Tryz.f7.params[j]? = some t -> args[j]? = some v -> Value.okWide Tryz.prog W .any base t v:=hval0
 have hW':=hW
 obtain ⟨p,q,hA0,hV,hbe,_,_⟩:=hW
 have hA : DataW.TrodAll enc Tryz.prog W 0 (fun _=>true) true Tryz.f7.params.toList args.toList ds p:=hA0
 refine (law_calls V_sound limitRefuses_fit (fun j t v ht hv=>hval j t v (by simpa using ht) hv) hA limitRefuses_call).mono fun e W' ⟨he,hb⟩=>?_
 subst he
 have hlen:=trodAll_len hA
 rw [Tryz.params7] at hlen
 obtain ⟨hgs,_⟩:=trodVars_none hV
 have hfn : ∀ ds : List (DataW H),ds.length = 2 -> (Rows.limitRefusesSpec.fn H (ds ++ [])).results = [.lit (.bool true)] /\ (Rows.limitRefusesSpec.fn H (ds ++ [])).args = ds /\ (Rows.limitRefusesSpec.fn H (ds ++ [])).vars = []:=by
  intro ds hl
  match ds,hl with
  | [_,_],_=>exact ⟨rfl,rfl,rfl⟩
 obtain ⟨e1,e2,e3⟩:=hfn ds hlen
 exact ⟨_,rfl,law_post laid_try hW' rfl limitRefuses_fit hA hV hbe (t:=4) (by kernel_rfl) (by kernel_rfl) (by rw [hgs]; exact e1) (by rw [hgs]; exact e2) (by rw [hgs]; exact e3) hb⟩
theorem limitRefuses_k0 : (Rows.limitRefusesRow.wf (OpenSpec.ofChange Rows.limitRefusesSpec)) = true:=by kernel_rfl
theorem limitRefuses_k1 : (laidOutB Tryz.prog) = true:=by kernel_rfl
theorem limitRefuses_k2 : (mapsRowed Tryz.prog) = true:=by kernel_rfl
theorem limitRefuses_k3 : (Tryz.f7.params.all (Tryz.prog.readableRec ·)) = true:=by kernel_rfl
theorem limitRefuses_k4 : (namedTie Tryz.prog Rows.limitRefusesRow.named Rows.limitRefusesSpec.vars) = true:=by kernel_rfl
theorem limitRefuses_k5 : ((Rows.limitRefusesRow.stops == [])) = true:=by kernel_rfl
theorem limitRefuses_k6 : ((Tryz.prog.stops == [])) = true:=by kernel_rfl
theorem limitRefuses_k7 : ((Rows.limitRefusesRow.knobs == [])) = true:=by kernel_rfl
theorem limitRefuses_k8 : ((Tryz.prog.stopKnobs == [])) = true:=by kernel_rfl
theorem limitRefuses_k9 : ((Rows.limitRefusesRow.inPlace == Tryz.prog.inPlace 7)) = true:=by kernel_rfl
theorem limitRefuses_k10 : ((Rows.limitRefusesRow.unfollowed == Tryz.prog.unfollowed 7)) = true:=by kernel_rfl
theorem limitRefuses_k11 : ((Rows.limitRefusesRow.recurses == Tryz.prog.recurses 7)) = true:=by kernel_rfl
theorem limitRefuses_k12 : ((Rows.limitRefusesRow.named == Tryz.prog.varsNamed 7)) = true:=by kernel_rfl
theorem limitRefuses_k13 : ((Rows.limitRefusesRow.maps == (Tryz.f7.params.toList ++ Rows.limitRefusesSpec.plain.varTypes Tryz.prog).any (Tryz.prog.mapsRec ·))) = true:=by kernel_rfl
theorem limitRefuses_k14 : ((Rows.limitRefusesRow.ifaces == (Tryz.f7.params.toList ++ Rows.limitRefusesSpec.plain.varTypes Tryz.prog).any (Tryz.prog.ifacesRec ·))) = true:=by kernel_rfl
theorem limitRefuses_k15 : ((Rows.limitRefusesRow.mapsOut == Tryz.prog.mapsAmong Tryz.f7.resultTypes.toList)) = true:=by kernel_rfl
theorem limitRefuses_k16 : ((Rows.limitRefusesRow.loops == (Tryz.f7.params.toList ++ Rows.limitRefusesSpec.plain.varTypes Tryz.prog).any (Tryz.prog.loopsFrom ·))) = true:=by kernel_rfl
theorem limitRefuses_k17 : ((Rows.limitRefusesRow.wideKeys == (Tryz.f7.params.toList ++ Rows.limitRefusesSpec.plain.varTypes Tryz.prog ++ Tryz.f7.resultTypes.toList).any (Tryz.prog.wideKeysFrom ·))) = true:=by kernel_rfl
theorem limitRefuses_k18 : (Rows.limitRefusesSpec.vars.all (Tryz.prog.varReadable ·)) = true:=by kernel_rfl
theorem limitRefuses_k19 : (Tryz.f7.resultTypes.all (fun t=>Tryz.prog.readableRec t && decide (t < Tryz.prog.types.size))) = true:=by kernel_rfl
theorem limitRefuses_k20 : ((Rows.limitRefusesRow.ifacesOut == Tryz.f7.resultTypes.toList.any (Tryz.prog.ifacesRec ·))) = true:=by kernel_rfl
theorem limitRefuses_k21 : ((Rows.limitRefusesRow.loopsOut == Tryz.f7.resultTypes.toList.any (Tryz.prog.loopsFrom ·))) = true:=by kernel_rfl
theorem limitRefuses_k22 : ((Rows.limitRefusesRow.plainKeys == Tryz.prog.plainKeys)) = true:=by kernel_rfl
theorem limitRefuses_k23 : (Rows.limitRefusesRow.shortTexts.isNone) = true:=by kernel_rfl
theorem limitRefuses_k24 : (Tryz.prog.stopsHeard) = true:=by kernel_rfl
theorem limitRefuses_k25 : (Tryz.prog.mayEnter) = true:=by exact try_mayEnter
theorem limitRefuses_k26 : ((Rows.limitRefusesRow.lifted == Tryz.prog.liftsFinal)) = true:=by rw [try_lifts]; kernel_rfl
theorem limitRefuses_k27 : ((Tryz.prog.make == some Rows.limitRefusesRow.make)) = true:=by rw [try_make]; kernel_rfl
theorem limitRefuses_k28 : ((Rows.limitRefusesRow.kinds == (if Rows.limitRefusesRow.domain.isEmpty then [] else Tryz.f7.params.toList.map fun t=>match Tryz.prog.underlying t with | some (.int k)=>some k | _=>none))) = true:=by kernel_rfl
theorem limitRefuses_k29 : ((Rows.limitRefusesRow.pinned == Rows.limitRefusesRow.pinnedBy)) = true:=by kernel_rfl
theorem limitRefuses_k30 : ((Rows.limitRefusesRow.veiled == (Tryz.f7.params.toList ++ Rows.limitRefusesSpec.plain.varTypes Tryz.prog ++ Tryz.f7.resultTypes.toList).any (Tryz.prog.veiledRec ·))) = true:=by kernel_rfl
theorem limitRefuses_k31 : (Rows.limitRefusesRow.veiledFits Tryz.prog Tryz.f7.params.toList (Tryz.f7.params.toList ++ Rows.limitRefusesSpec.plain.varTypes Tryz.prog ++ Tryz.f7.resultTypes.toList)) = true:=by kernel_rfl
set_option maxRecDepth 100000 in
theorem limitRefuses_closed : joinedFacts Tryz.prog 7 Tryz.f7 Rows.limitRefusesSpec Rows.limitRefusesRow = true:=by
 unfold joinedFacts
 exact and_mk (and_mk (and_mk (and_mk (and_mk (and_mk (and_mk (and_mk (and_mk (and_mk (and_mk (and_mk (and_mk (and_mk (and_mk (and_mk (and_mk (and_mk (and_mk (and_mk (and_mk (and_mk (and_mk (and_mk (and_mk (and_mk (and_mk (and_mk (and_mk (and_mk (and_mk (limitRefuses_k0) limitRefuses_k1) limitRefuses_k2) limitRefuses_k3) limitRefuses_k4) limitRefuses_k5) limitRefuses_k6) limitRefuses_k7) limitRefuses_k8) limitRefuses_k9) limitRefuses_k10) limitRefuses_k11) limitRefuses_k12) limitRefuses_k13) limitRefuses_k14) limitRefuses_k15) limitRefuses_k16) limitRefuses_k17) limitRefuses_k18) limitRefuses_k19) limitRefuses_k20) limitRefuses_k21) limitRefuses_k22) limitRefuses_k23) limitRefuses_k24) limitRefuses_k25) limitRefuses_k26) limitRefuses_k27) limitRefuses_k28) limitRefuses_k29) limitRefuses_k30) limitRefuses_k31
theorem limitRefuses_holds : Rows.LimitRefusesSaid :=
 OpenClaim.holds_of_wide 7 Tryz.f7 rfl rfl rfl rfl rfl rfl rfl ⟨rfl,rfl,rfl,rfl,rfl⟩ rfl rfl rfl rfl rfl (by kernel_rfl) Tryz.func7 limitRefuses_closed
  (of_decide_eq_true (by kernel_rfl)) (by unfold Func.isWrapper; first | (rw [if_pos (by decide +kernel)]; kernel_rfl) | (rw [if_neg (by decide +kernel)]; exact ⟨rfl,rfl⟩))
  (fun os started H enc _=>limitRefuses_lifted os started H enc)
end Go.Proofs.YtmfbifkaonehkaaGreat
