/- LimitReturns holds: for every input the call of the law returns true, and each argument reads afterwards as it read before. No conditions. -/
import Derived.Test.YtmfbifkaonehkaaGreatRows
import Derived.Test.YtmfbifkaonehkaaGreatH18
import Derived.Test.YtmfbifkaonehkaaGreatH11
import Derived.Test.YtmfbifkaonehkaaGreatH19
import Derived.ProofKit
set_option linter.unusedSimpArgs false
set_option linter.unusedVariables false
namespace Go.Proofs.YtmfbifkaonehkaaGreat
open Go.ChangeShapes Go.WideShapes Go.ChangeAt Go.RowKit Go.V
theorem limitReturns_fit : Tryz.f8.params.toList.all (fitB Tryz.prog) = true:=by kernel_rfl
theorem limitReturns_u22 : Tryz.prog.underlying 22 = some (.slice 3):=by kernel_rfl
theorem limitReturns_u3 : Tryz.prog.underlying 3 = some (.int .i64):=by kernel_rfl
theorem limitReturns_call : ∀ us : List VVal,us.length = Tryz.f8.params.toList.length -> (∀ (i : Nat) (t : TypeId) (u : VVal),Tryz.f8.params.toList[i]? = some t -> us[i]? = some u -> Fit Tryz.prog t u) -> V 8 us [] = some (.p (.bool true),[]):=by
 intro us hlen hfit
 rw [Tryz.params8] at hlen hfit
 match us,hlen with
 | [x0,x1],_ =>
  obtain ⟨a0,rfl,w0⟩:=(hfit 0 22 x0 rfl rfl).isInts limitReturns_u22 limitReturns_u3
  obtain ⟨a1,rfl,w1⟩:=(hfit 1 3 x1 rfl rfl).isInt limitReturns_u3
  exact limitReturns_eq a0 a1
set_option maxRecDepth 100000 in
theorem limitReturns_lifted (os : Os) (started : os.Started) (H : Type) (enc : TypeId × Value -> H) :
  ReturnsInHanded {} Tryz.checked os 8 .any (Rows.limitReturnsSpec.pre6 enc Tryz.prog Tryz.f8 Rows.limitReturnsRow.domain false) (Rows.limitReturnsSpec.post enc Tryz.prog Tryz.f8 false true false false):=by
 refine returnsInHanded_of_change (C:=Tryz.checked) own_try started (by kernel_rfl) Tryz.func8
  (ChangeSpec.witness6 (enc:=enc) (C:=Tryz.checked) false ⟨#[],#[.slice none 0 0,.int .i64 0],[]⟩ 8 (by kernel_rfl) (by kernel_rfl) (by kernel_rfl) (by kernel_rfl)) ?_
 intro W base args ds gs before hval0 hW _ _
 have hval : ∀ (j : Nat) t v,Tryz.f8.params[j]? = some t -> args[j]? = some v -> Value.okWide Tryz.prog W .any base t v:=hval0
 have hW':=hW
 obtain ⟨p,q,hA0,hV,hbe,_,_⟩:=hW
 have hA : DataW.TrodAll enc Tryz.prog W 0 (fun _=>true) true Tryz.f8.params.toList args.toList ds p:=hA0
 refine (law_calls V_sound limitReturns_fit (fun j t v ht hv=>hval j t v (by simpa using ht) hv) hA limitReturns_call).mono fun e W' ⟨he,hb⟩=>?_
 subst he
 have hlen:=trodAll_len hA
 rw [Tryz.params8] at hlen
 obtain ⟨hgs,_⟩:=trodVars_none hV
 have hfn : ∀ ds : List (DataW H),ds.length = 2 -> (Rows.limitReturnsSpec.fn H (ds ++ [])).results = [.lit (.bool true)] /\ (Rows.limitReturnsSpec.fn H (ds ++ [])).args = ds /\ (Rows.limitReturnsSpec.fn H (ds ++ [])).vars = []:=by
  intro ds hl
  match ds,hl with
  | [_,_],_=>exact ⟨rfl,rfl,rfl⟩
 obtain ⟨e1,e2,e3⟩:=hfn ds hlen
 exact ⟨_,rfl,law_post laid_try hW' rfl limitReturns_fit hA hV hbe (t:=4) (by kernel_rfl) (by kernel_rfl) (by rw [hgs]; exact e1) (by rw [hgs]; exact e2) (by rw [hgs]; exact e3) hb⟩
theorem limitReturns_k0 : (Rows.limitReturnsRow.wf (OpenSpec.ofChange Rows.limitReturnsSpec)) = true:=by kernel_rfl
theorem limitReturns_k1 : (laidOutB Tryz.prog) = true:=by kernel_rfl
theorem limitReturns_k2 : (mapsRowed Tryz.prog) = true:=by kernel_rfl
theorem limitReturns_k3 : (Tryz.f8.params.all (Tryz.prog.readableRec ·)) = true:=by kernel_rfl
theorem limitReturns_k4 : (namedTie Tryz.prog Rows.limitReturnsRow.named Rows.limitReturnsSpec.vars) = true:=by kernel_rfl
theorem limitReturns_k5 : ((Rows.limitReturnsRow.stops == [])) = true:=by kernel_rfl
theorem limitReturns_k6 : ((Tryz.prog.stops == [])) = true:=by kernel_rfl
theorem limitReturns_k7 : ((Rows.limitReturnsRow.knobs == [])) = true:=by kernel_rfl
theorem limitReturns_k8 : ((Tryz.prog.stopKnobs == [])) = true:=by kernel_rfl
theorem limitReturns_k9 : ((Rows.limitReturnsRow.inPlace == Tryz.prog.inPlace 8)) = true:=by kernel_rfl
theorem limitReturns_k10 : ((Rows.limitReturnsRow.unfollowed == Tryz.prog.unfollowed 8)) = true:=by kernel_rfl
theorem limitReturns_k11 : ((Rows.limitReturnsRow.recurses == Tryz.prog.recurses 8)) = true:=by kernel_rfl
theorem limitReturns_k12 : ((Rows.limitReturnsRow.named == Tryz.prog.varsNamed 8)) = true:=by kernel_rfl
theorem limitReturns_k13 : ((Rows.limitReturnsRow.maps == (Tryz.f8.params.toList ++ Rows.limitReturnsSpec.plain.varTypes Tryz.prog).any (Tryz.prog.mapsRec ·))) = true:=by kernel_rfl
theorem limitReturns_k14 : ((Rows.limitReturnsRow.ifaces == (Tryz.f8.params.toList ++ Rows.limitReturnsSpec.plain.varTypes Tryz.prog).any (Tryz.prog.ifacesRec ·))) = true:=by kernel_rfl
theorem limitReturns_k15 : ((Rows.limitReturnsRow.mapsOut == Tryz.prog.mapsAmong Tryz.f8.resultTypes.toList)) = true:=by kernel_rfl
theorem limitReturns_k16 : ((Rows.limitReturnsRow.loops == (Tryz.f8.params.toList ++ Rows.limitReturnsSpec.plain.varTypes Tryz.prog).any (Tryz.prog.loopsFrom ·))) = true:=by kernel_rfl
theorem limitReturns_k17 : ((Rows.limitReturnsRow.wideKeys == (Tryz.f8.params.toList ++ Rows.limitReturnsSpec.plain.varTypes Tryz.prog ++ Tryz.f8.resultTypes.toList).any (Tryz.prog.wideKeysFrom ·))) = true:=by kernel_rfl
theorem limitReturns_k18 : (Rows.limitReturnsSpec.vars.all (Tryz.prog.varReadable ·)) = true:=by kernel_rfl
theorem limitReturns_k19 : (Tryz.f8.resultTypes.all (fun t=>Tryz.prog.readableRec t && decide (t < Tryz.prog.types.size))) = true:=by kernel_rfl
theorem limitReturns_k20 : ((Rows.limitReturnsRow.ifacesOut == Tryz.f8.resultTypes.toList.any (Tryz.prog.ifacesRec ·))) = true:=by kernel_rfl
theorem limitReturns_k21 : ((Rows.limitReturnsRow.loopsOut == Tryz.f8.resultTypes.toList.any (Tryz.prog.loopsFrom ·))) = true:=by kernel_rfl
theorem limitReturns_k22 : ((Rows.limitReturnsRow.plainKeys == Tryz.prog.plainKeys)) = true:=by kernel_rfl
theorem limitReturns_k23 : (Rows.limitReturnsRow.shortTexts.isNone) = true:=by kernel_rfl
theorem limitReturns_k24 : (Tryz.prog.stopsHeard) = true:=by kernel_rfl
theorem limitReturns_k25 : (Tryz.prog.mayEnter) = true:=by exact try_mayEnter
theorem limitReturns_k26 : ((Rows.limitReturnsRow.lifted == Tryz.prog.liftsFinal)) = true:=by rw [try_lifts]; kernel_rfl
theorem limitReturns_k27 : ((Tryz.prog.make == some Rows.limitReturnsRow.make)) = true:=by rw [try_make]; kernel_rfl
theorem limitReturns_k28 : ((Rows.limitReturnsRow.kinds == (if Rows.limitReturnsRow.domain.isEmpty then [] else Tryz.f8.params.toList.map fun t=>match Tryz.prog.underlying t with | some (.int k)=>some k | _=>none))) = true:=by kernel_rfl
theorem limitReturns_k29 : ((Rows.limitReturnsRow.pinned == Rows.limitReturnsRow.pinnedBy)) = true:=by kernel_rfl
theorem limitReturns_k30 : ((Rows.limitReturnsRow.veiled == (Tryz.f8.params.toList ++ Rows.limitReturnsSpec.plain.varTypes Tryz.prog ++ Tryz.f8.resultTypes.toList).any (Tryz.prog.veiledRec ·))) = true:=by kernel_rfl
theorem limitReturns_k31 : (Rows.limitReturnsRow.veiledFits Tryz.prog Tryz.f8.params.toList (Tryz.f8.params.toList ++ Rows.limitReturnsSpec.plain.varTypes Tryz.prog ++ Tryz.f8.resultTypes.toList)) = true:=by kernel_rfl
set_option maxRecDepth 100000 in
theorem limitReturns_closed : joinedFacts Tryz.prog 8 Tryz.f8 Rows.limitReturnsSpec Rows.limitReturnsRow = true:=by
 unfold joinedFacts
 exact and_mk (and_mk (and_mk (and_mk (and_mk (and_mk (and_mk (and_mk (and_mk (and_mk (and_mk (and_mk (and_mk (and_mk (and_mk (and_mk (and_mk (and_mk (and_mk (and_mk (and_mk (and_mk (and_mk (and_mk (and_mk (and_mk (and_mk (and_mk (and_mk (and_mk (and_mk (limitReturns_k0) limitReturns_k1) limitReturns_k2) limitReturns_k3) limitReturns_k4) limitReturns_k5) limitReturns_k6) limitReturns_k7) limitReturns_k8) limitReturns_k9) limitReturns_k10) limitReturns_k11) limitReturns_k12) limitReturns_k13) limitReturns_k14) limitReturns_k15) limitReturns_k16) limitReturns_k17) limitReturns_k18) limitReturns_k19) limitReturns_k20) limitReturns_k21) limitReturns_k22) limitReturns_k23) limitReturns_k24) limitReturns_k25) limitReturns_k26) limitReturns_k27) limitReturns_k28) limitReturns_k29) limitReturns_k30) limitReturns_k31
theorem limitReturns_holds : Rows.LimitReturnsSaid :=
 OpenClaim.holds_of_wide 8 Tryz.f8 rfl rfl rfl rfl rfl rfl rfl ⟨rfl,rfl,rfl,rfl,rfl⟩ rfl rfl rfl rfl rfl (by kernel_rfl) Tryz.func8 limitReturns_closed
  (of_decide_eq_true (by kernel_rfl)) (by unfold Func.isWrapper; first | (rw [if_pos (by decide +kernel)]; kernel_rfl) | (rw [if_neg (by decide +kernel)]; exact ⟨rfl,rfl⟩))
  (fun os started H enc _=>limitReturns_lifted os started H enc)
end Go.Proofs.YtmfbifkaonehkaaGreat
