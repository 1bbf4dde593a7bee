/- ClampAll holds: for every input the call of the law returns true, and each argument reads afterwards as it read before. No conditions. -/
import Derived.Test.YtphodjlhllhgmaaRows
import Derived.Test.YtphodjlhllhgmaaA8
import Derived.Test.YtphodjlhllhgmaaA3
import Derived.Test.YtphodjlhllhgmaaA9
import Derived.ProofKit
set_option linter.unusedSectionVars false
set_option linter.unusedSimpArgs false
set_option linter.unusedVariables false
namespace Go.Proofs.Ytphodjlhllhgmaa
open Go.ChangeShapes Go.WideShapes Go.ChangeAt Go.RowKit Go.V
theorem clampAll_fit : Try.f3.params.toList.all (fitB Try.prog) = true:=by kernel_rfl
theorem clampAll_u22 : Try.prog.underlying 22 = some (.slice 3):=by kernel_rfl
theorem clampAll_u3 : Try.prog.underlying 3 = some (.int .i64):=by kernel_rfl
theorem clampAll_call : ∀ us : List VVal,us.length = Try.f3.params.toList.length -> (∀ (i : Nat) (t : TypeId) (u : VVal),Try.f3.params.toList[i]? = some t -> us[i]? = some u -> Fit Try.prog t u) -> V 3 us [] = some (.p (.bool true),[]):=by
 intro us hlen hfit
 rw [Try.params3] at hlen hfit
 match us,hlen with
 | [x0,x1,x2,x3,x4],_ =>
  obtain ⟨a0,rfl,w0⟩:=(hfit 0 22 x0 rfl rfl).isInts clampAll_u22 clampAll_u3
  obtain ⟨a1,rfl,w1⟩:=(hfit 1 3 x1 rfl rfl).isInt clampAll_u3
  obtain ⟨a2,rfl,w2⟩:=(hfit 2 3 x2 rfl rfl).isInt clampAll_u3
  obtain ⟨a3,rfl,w3⟩:=(hfit 3 22 x3 rfl rfl).isInts clampAll_u22 clampAll_u3
  obtain ⟨a4,rfl,w4⟩:=(hfit 4 22 x4 rfl rfl).isInts clampAll_u22 clampAll_u3
  exact clampAll_eq a0 a1 a2 a3 a4
set_option maxRecDepth 100000 in
theorem clampAll_lifted (os : Os) (started : os.Started) (H : Type) (enc : TypeId × Value -> H) :
  ReturnsInHanded {} Try.checked os 3 .any (Rows.clampAllSpec.pre6 enc Try.prog Try.f3 Rows.clampAllRow.domain false) (Rows.clampAllSpec.post enc Try.prog Try.f3 false true false false):=by
 refine returnsInHanded_of_change (C:=Try.checked) own_try started (by kernel_rfl) Try.func3
  (ChangeSpec.witness6 (enc:=enc) (C:=Try.checked) false ⟨#[],#[.slice none 0 0,.int .i64 0,.int .i64 0,.slice none 0 0,.slice none 0 0],[]⟩ 8 (by kernel_rfl) (by kernel_rfl) (by kernel_rfl) (by kernel_rfl)) ?_
 intro W base args ds gs before hval0 hW _ _
 have hval : ∀ (j : Nat) t v,Try.f3.params[j]? = some t -> args[j]? = some v -> Value.okWide Try.prog W .any base t v:=hval0
 have hW':=hW
 obtain ⟨p,q,hA0,hV,hbe,_,_⟩:=hW
 have hA : DataW.TrodAll enc Try.prog W 0 (fun _=>true) true Try.f3.params.toList args.toList ds p:=hA0
 letI : GK:=⟨fun _=>none⟩
 refine (law_calls V_sound (fun b B h=>by cases h) clampAll_fit (fun j t v ht hv=>hval j t v (by simpa using ht) hv) hA clampAll_call).mono fun e W' ⟨he,hb⟩=>?_
 subst he
 have hlen:=trodAll_len hA
 rw [Try.params3] at hlen
 obtain ⟨hgs,_⟩:=trodVars_none hV
 have hfn : ∀ ds : List (DataW H),ds.length = 5 -> (Rows.clampAllSpec.fn H (ds ++ [])).results = [.lit (.bool true)] /\ (Rows.clampAllSpec.fn H (ds ++ [])).args = ds /\ (Rows.clampAllSpec.fn H (ds ++ [])).vars = []:=by
  intro ds hl
  match ds,hl with
  | [_,_,_,_,_],_=>exact ⟨rfl,rfl,rfl⟩
 obtain ⟨e1,e2,e3⟩:=hfn ds hlen
 exact ⟨_,rfl,law_post laid_try hW' rfl clampAll_fit hA hV hbe (t:=4) (by kernel_rfl) (by kernel_rfl) (by rw [hgs]; exact e1) (by rw [hgs]; exact e2) (by rw [hgs]; exact e3) hb⟩
theorem clampAll_k0 : (Rows.clampAllRow.wf (OpenSpec.ofChange Rows.clampAllSpec)) = true:=by kernel_rfl
theorem clampAll_k1 : (laidOutB Try.prog) = true:=by kernel_rfl
theorem clampAll_k2 : (mapsRowed Try.prog) = true:=by kernel_rfl
theorem clampAll_k3 : (Try.f3.params.all (Try.prog.readableRec ·)) = true:=by kernel_rfl
theorem clampAll_k4 : (namedTie Try.prog Rows.clampAllRow.named Rows.clampAllSpec.vars) = true:=by kernel_rfl
theorem clampAll_k5 : ((Rows.clampAllRow.stops == [])) = true:=by kernel_rfl
theorem clampAll_k6 : ((Try.prog.stops == [])) = true:=by kernel_rfl
theorem clampAll_k7 : ((Rows.clampAllRow.knobs == [])) = true:=by kernel_rfl
theorem clampAll_k8 : ((Try.prog.stopKnobs == [])) = true:=by kernel_rfl
theorem clampAll_k9 : ((Rows.clampAllRow.inPlace == Try.prog.inPlace 3)) = true:=by kernel_rfl
theorem clampAll_k10 : ((Rows.clampAllRow.unfollowed == Try.prog.unfollowed 3)) = true:=by kernel_rfl
theorem clampAll_k11 : ((Rows.clampAllRow.recurses == Try.prog.recurses 3)) = true:=by kernel_rfl
theorem clampAll_k12 : ((Rows.clampAllRow.named == Try.prog.varsNamed 3)) = true:=by kernel_rfl
theorem clampAll_k13 : ((Rows.clampAllRow.maps == (Try.f3.params.toList ++ Rows.clampAllSpec.plain.varTypes Try.prog).any (Try.prog.mapsRec ·))) = true:=by kernel_rfl
theorem clampAll_k14 : ((Rows.clampAllRow.ifaces == (Try.f3.params.toList ++ Rows.clampAllSpec.plain.varTypes Try.prog).any (Try.prog.ifacesRec ·))) = true:=by kernel_rfl
theorem clampAll_k15 : ((Rows.clampAllRow.mapsOut == Try.prog.mapsAmong Try.f3.resultTypes.toList)) = true:=by kernel_rfl
theorem clampAll_k16 : ((Rows.clampAllRow.loops == (Try.f3.params.toList ++ Rows.clampAllSpec.plain.varTypes Try.prog).any (Try.prog.loopsFrom ·))) = true:=by kernel_rfl
theorem clampAll_k17 : ((Rows.clampAllRow.wideKeys == (Try.f3.params.toList ++ Rows.clampAllSpec.plain.varTypes Try.prog ++ Try.f3.resultTypes.toList).any (Try.prog.wideKeysFrom ·))) = true:=by kernel_rfl
theorem clampAll_k18 : (Rows.clampAllSpec.vars.all (Try.prog.varReadable ·)) = true:=by kernel_rfl
theorem clampAll_k19 : (Try.f3.resultTypes.all (fun t=>Try.prog.readableRec t && decide (t < Try.prog.types.size))) = true:=by kernel_rfl
theorem clampAll_k20 : ((Rows.clampAllRow.ifacesOut == Try.f3.resultTypes.toList.any (Try.prog.ifacesRec ·))) = true:=by kernel_rfl
theorem clampAll_k21 : ((Rows.clampAllRow.loopsOut == Try.f3.resultTypes.toList.any (Try.prog.loopsFrom ·))) = true:=by kernel_rfl
theorem clampAll_k22 : ((Rows.clampAllRow.plainKeys == Try.prog.plainKeys)) = true:=by kernel_rfl
theorem clampAll_k23 : (Rows.clampAllRow.shortTexts.isNone) = true:=by kernel_rfl
theorem clampAll_k24 : (Try.prog.stopsHeard) = true:=by kernel_rfl
theorem clampAll_k25 : (Try.prog.mayEnter) = true:=by exact try_mayEnter
theorem clampAll_k26 : ((Rows.clampAllRow.lifted == Try.prog.liftsFinal)) = true:=by rw [try_lifts]; kernel_rfl
theorem clampAll_k27 : ((Try.prog.make == some Rows.clampAllRow.make)) = true:=by rw [try_make]; kernel_rfl
theorem clampAll_k28 : ((Rows.clampAllRow.kinds == (if Rows.clampAllRow.domain.isEmpty then [] else Try.f3.params.toList.map fun t=>match Try.prog.underlying t with | some (.int k)=>some k | _=>none))) = true:=by kernel_rfl
theorem clampAll_k29 : ((Rows.clampAllRow.pinned == Rows.clampAllRow.pinnedBy)) = true:=by kernel_rfl
theorem clampAll_k30 : ((Rows.clampAllRow.veiled == (Try.f3.params.toList ++ Rows.clampAllSpec.plain.varTypes Try.prog ++ Try.f3.resultTypes.toList).any (Try.prog.veiledRec ·))) = true:=by kernel_rfl
theorem clampAll_k31 : (Rows.clampAllRow.veiledFits Try.prog Try.f3.params.toList (Try.f3.params.toList ++ Rows.clampAllSpec.plain.varTypes Try.prog ++ Try.f3.resultTypes.toList)) = true:=by kernel_rfl
set_option maxRecDepth 100000 in
theorem clampAll_closed : joinedFacts Try.prog 3 Try.f3 Rows.clampAllSpec Rows.clampAllRow = true:=by
 unfold joinedFacts
 exact and_mk (and_mk (and_mk (and_mk (and_mk (and_mk (and_mk (and_mk (and_mk (and_mk (and_mk (and_mk (and_mk (and_mk (and_mk (and_mk (and_mk (and_mk (and_mk (and_mk (and_mk (and_mk (and_mk (and_mk (and_mk (and_mk (and_mk (and_mk (and_mk (and_mk (and_mk (clampAll_k0) clampAll_k1) clampAll_k2) clampAll_k3) clampAll_k4) clampAll_k5) clampAll_k6) clampAll_k7) clampAll_k8) clampAll_k9) clampAll_k10) clampAll_k11) clampAll_k12) clampAll_k13) clampAll_k14) clampAll_k15) clampAll_k16) clampAll_k17) clampAll_k18) clampAll_k19) clampAll_k20) clampAll_k21) clampAll_k22) clampAll_k23) clampAll_k24) clampAll_k25) clampAll_k26) clampAll_k27) clampAll_k28) clampAll_k29) clampAll_k30) clampAll_k31
theorem clampAll_holds : Rows.ClampAllSaid :=
 OpenClaim.holds_of_wide 3 Try.f3 rfl rfl rfl rfl rfl rfl rfl ⟨rfl,rfl,rfl,rfl,rfl⟩ rfl rfl rfl rfl rfl (by kernel_rfl) Try.func3 clampAll_closed
  (of_decide_eq_true (by kernel_rfl)) (by unfold Func.isWrapper; first | (rw [if_pos (by decide +kernel)]; kernel_rfl) | (rw [if_neg (by decide +kernel)]; exact ⟨rfl,rfl⟩))
  (fun os started H enc _=>clampAll_lifted os started H enc)
end Go.Proofs.Ytphodjlhllhgmaa
