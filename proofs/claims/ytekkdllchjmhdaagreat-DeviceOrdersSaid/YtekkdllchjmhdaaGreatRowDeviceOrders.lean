/- DeviceOrders holds: for every input the call of the law returns true, and each argument reads afterwards as it read before. No conditions. -/
import Derived.Test.YtekkdllchjmhdaaGreatRows
import Derived.Test.YtekkdllchjmhdaaGreatD4
import Derived.Test.YtekkdllchjmhdaaGreatD16
import Derived.Test.YtekkdllchjmhdaaGreatD17
import Derived.ProofKit
set_option linter.unusedSectionVars false
set_option linter.unusedSimpArgs false
set_option linter.unusedVariables false
set_option maxHeartbeats 32000000
namespace Go.Proofs.YtekkdllchjmhdaaGreat
open Go.ChangeShapes Go.WideShapes Go.ChangeAt Go.RowKit Go.V
theorem Mc : Tryz.f4.params.toList.all (EN Tryz.prog) = true:=by kernel_rfl
theorem SD : Tryz.prog.underlying 22 = some (.slice 3):=by kernel_rfl
theorem Tv : Tryz.prog.underlying 3 = some (.int .i64):=by kernel_rfl
theorem Sw : ∀ us : List VVal,us.length = Tryz.f4.params.toList.length -> (∀ (i : Nat) (t : TypeId) (u : VVal),Tryz.f4.params.toList[i]? = some t -> us[i]? = some u -> Fit Tryz.prog t u) -> V 4 us [] = some (.p (.bool true),[]):=by
 intro us hlen hfit
 rw [Tryz.params4] at hlen hfit
 match us,hlen with
 | [x0],_ =>
  obtain ⟨a0,rfl,w0⟩:=(hfit 0 22 x0 rfl rfl).isInts SD Tv
  exact TG a0
set_option maxRecDepth 100000 in
theorem Sq (os : Os) (started : os.Started) (H : Type) (enc : TypeId × Value -> H) :
  ReturnsInHanded {} Tryz.checked os 4 .any (Rows.deviceOrdersSpec.pre6 enc Tryz.prog Tryz.f4 Rows.deviceOrdersRow.domain false) (Rows.deviceOrdersSpec.post enc Tryz.prog Tryz.f4 false true false false):=by
 refine returnsInHanded_of_change (C:=Tryz.checked) PW started (by kernel_rfl) Tryz.func4
  (ChangeSpec.witness6 (enc:=enc) (C:=Tryz.checked) false ⟨#[],#[.slice none 0 0],[]⟩ 8 (by kernel_rfl) (by kernel_rfl) (by kernel_rfl) (by kernel_rfl)) ?_
 intro W base args ds gs before hval0 hW _ _
 have hval : ∀ (j : Nat) t v,Tryz.f4.params[j]? = some t -> args[j]? = some v -> Value.okWide Tryz.prog W .any base t v:=hval0
 have hW':=hW
 obtain ⟨p,q,hA0,hV,hbe,_,_⟩:=hW
 have hA : DataW.TrodAll enc Tryz.prog W 0 (fun _=>true) true Tryz.f4.params.toList args.toList ds p:=hA0
 letI : GK:=⟨fun _=>none⟩
 refine (Oz Ql (fun b B h=>by cases h) Mc (fun j t v ht hv=>hval j t v (by simpa using ht) hv) hA Sw).mono fun e W' ⟨he,hb⟩=>?_
 subst he
 have hlen:=JG hA
 rw [Tryz.params4] at hlen
 obtain ⟨hgs,_⟩:=trodVars_none hV
 have hfn : ∀ ds : List (DataW H),ds.length = 1 -> (Rows.deviceOrdersSpec.fn H (ds ++ [])).results = [.lit (.bool true)] /\ (Rows.deviceOrdersSpec.fn H (ds ++ [])).args = ds /\ (Rows.deviceOrdersSpec.fn H (ds ++ [])).vars = []:=by
  intro ds hl
  match ds,hl with
  | [_],_=>exact ⟨rfl,rfl,rfl⟩
 obtain ⟨e1,e2,e3⟩:=hfn ds hlen
 exact ⟨_,rfl,Po Pp hW' rfl Mc hA hV hbe (t:=4) (by kernel_rfl) (by kernel_rfl) (by rw [hgs]; exact e1) (by rw [hgs]; exact e2) (by rw [hgs]; exact e3) hb⟩
theorem TF : (Rows.deviceOrdersRow.wf (OpenSpec.ofChange Rows.deviceOrdersSpec)) = true:=by kernel_rfl
theorem TE : (laidOutB Tryz.prog) = true:=by kernel_rfl
theorem TD : (mapsRowed Tryz.prog) = true:=by kernel_rfl
theorem TC : (Tryz.f4.params.all (Tryz.prog.readableRec ·)) = true:=by kernel_rfl
theorem TB : (namedTie Tryz.prog Rows.deviceOrdersRow.named Rows.deviceOrdersSpec.vars) = true:=by kernel_rfl
theorem TA : ((Rows.deviceOrdersRow.stops == [])) = true:=by kernel_rfl
theorem Tz : ((Tryz.prog.stops == [])) = true:=by kernel_rfl
theorem Ty : ((Rows.deviceOrdersRow.knobs == [])) = true:=by kernel_rfl
theorem Tx : ((Tryz.prog.stopKnobs == [])) = true:=by kernel_rfl
theorem Tw : ((Rows.deviceOrdersRow.inPlace == Tryz.prog.inPlace 4)) = true:=by kernel_rfl
theorem SZ : ((Rows.deviceOrdersRow.unfollowed == Tryz.prog.unfollowed 4)) = true:=by kernel_rfl
theorem SY : ((Rows.deviceOrdersRow.recurses == Tryz.prog.recurses 4)) = true:=by kernel_rfl
theorem SX : ((Rows.deviceOrdersRow.named == Tryz.prog.varsNamed 4)) = true:=by kernel_rfl
theorem SW : ((Rows.deviceOrdersRow.maps == (Tryz.f4.params.toList ++ Rows.deviceOrdersSpec.plain.varTypes Tryz.prog).any (Tryz.prog.mapsRec ·))) = true:=by kernel_rfl
theorem SV : ((Rows.deviceOrdersRow.ifaces == (Tryz.f4.params.toList ++ Rows.deviceOrdersSpec.plain.varTypes Tryz.prog).any (Tryz.prog.ifacesRec ·))) = true:=by kernel_rfl
theorem SU : ((Rows.deviceOrdersRow.mapsOut == Tryz.prog.mapsAmong Tryz.f4.resultTypes.toList)) = true:=by kernel_rfl
theorem ST : ((Rows.deviceOrdersRow.loops == (Tryz.f4.params.toList ++ Rows.deviceOrdersSpec.plain.varTypes Tryz.prog).any (Tryz.prog.loopsFrom ·))) = true:=by kernel_rfl
theorem SS : ((Rows.deviceOrdersRow.wideKeys == (Tryz.f4.params.toList ++ Rows.deviceOrdersSpec.plain.varTypes Tryz.prog ++ Tryz.f4.resultTypes.toList).any (Tryz.prog.wideKeysFrom ·))) = true:=by kernel_rfl
theorem SR : (Rows.deviceOrdersSpec.vars.all (Tryz.prog.varReadable ·)) = true:=by kernel_rfl
theorem SQ : (Tryz.f4.resultTypes.all (fun t=>Tryz.prog.readableRec t && decide (t < Tryz.prog.types.size))) = true:=by kernel_rfl
theorem SP : ((Rows.deviceOrdersRow.ifacesOut == Tryz.f4.resultTypes.toList.any (Tryz.prog.ifacesRec ·))) = true:=by kernel_rfl
theorem SO : ((Rows.deviceOrdersRow.loopsOut == Tryz.f4.resultTypes.toList.any (Tryz.prog.loopsFrom ·))) = true:=by kernel_rfl
theorem SN : ((Rows.deviceOrdersRow.plainKeys == Tryz.prog.plainKeys)) = true:=by kernel_rfl
theorem SM : (Rows.deviceOrdersRow.shortTexts.isNone) = true:=by kernel_rfl
theorem SL : (Tryz.prog.stopsHeard) = true:=by kernel_rfl
theorem SK : (Tryz.prog.mayEnter) = true:=by exact Mw
theorem SJ : ((Rows.deviceOrdersRow.lifted == Tryz.prog.liftsFinal)) = true:=by rw [N8]; kernel_rfl
theorem SI : ((Tryz.prog.make == some Rows.deviceOrdersRow.make)) = true:=by rw [OY]; kernel_rfl
theorem SH : ((Rows.deviceOrdersRow.kinds == (if Rows.deviceOrdersRow.domain.isEmpty then [] else Tryz.f4.params.toList.map fun t=>match Tryz.prog.underlying t with | some (.int k)=>some k | _=>none))) = true:=by kernel_rfl
theorem SG : ((Rows.deviceOrdersRow.pinned == Rows.deviceOrdersRow.pinnedBy)) = true:=by kernel_rfl
theorem SF : ((Rows.deviceOrdersRow.veiled == (Tryz.f4.params.toList ++ Rows.deviceOrdersSpec.plain.varTypes Tryz.prog ++ Tryz.f4.resultTypes.toList).any (Tryz.prog.veiledRec ·))) = true:=by kernel_rfl
theorem SE : (Rows.deviceOrdersRow.veiledFits Tryz.prog Tryz.f4.params.toList (Tryz.f4.params.toList ++ Rows.deviceOrdersSpec.plain.varTypes Tryz.prog ++ Tryz.f4.resultTypes.toList)) = true:=by kernel_rfl
set_option maxRecDepth 100000 in
theorem Sr : joinedFacts Tryz.prog 4 Tryz.f4 Rows.deviceOrdersSpec Rows.deviceOrdersRow = true:=by
 unfold joinedFacts
 exact Au (Au (Au (Au (Au (Au (Au (Au (Au (Au (Au (Au (Au (Au (Au (Au (Au (Au (Au (Au (Au (Au (Au (Au (Au (Au (Au (Au (Au (Au (Au (TF) TE) TD) TC) TB) TA) Tz) Ty) Tx) Tw) SZ) SY) SX) SW) SV) SU) ST) SS) SR) SQ) SP) SO) SN) SM) SL) SK) SJ) SI) SH) SG) SF) SE
theorem deviceOrders_holds : Rows.DeviceOrdersSaid :=
 OpenClaim.holds_of_wide 4 Tryz.f4 rfl rfl rfl rfl rfl rfl rfl ⟨rfl,rfl,rfl,rfl,rfl⟩ rfl rfl rfl rfl rfl (by kernel_rfl) Tryz.func4 Sr
  (of_decide_eq_true (by kernel_rfl)) (by unfold Func.isWrapper; first | (rw [if_pos (by decide +kernel)]; kernel_rfl) | (rw [if_neg (by decide +kernel)]; exact ⟨rfl,rfl⟩))
  (fun os started H enc _=>Sq os started H enc)
end Go.Proofs.YtekkdllchjmhdaaGreat
