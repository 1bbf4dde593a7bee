/- DeviceDepths holds: for every input the call of the law returns true, and each argument reads afterwards as it read before. No conditions. -/
import Derived.Test.YtekkdllchjmhdaaGreatRows
import Derived.Test.YtekkdllchjmhdaaGreatD4
import Derived.Test.YtekkdllchjmhdaaGreatD16
import Derived.Test.YtekkdllchjmhdaaGreatD17
import Derived.ProofKit
set_option linter.unusedSectionVars false
set_option linter.unusedSimpArgs false
set_option linter.unusedVariables false
set_option maxHeartbeats 32000000
namespace Go.Proofs.YtekkdllchjmhdaaGreat
open Go.ChangeShapes Go.WideShapes Go.ChangeAt Go.RowKit Go.V
theorem Md : Tryz.f5.params.toList.all (EN Tryz.prog) = true:=by kernel_rfl
theorem S0 : Tryz.prog.underlying 22 = some (.slice 3):=by kernel_rfl
theorem TH : Tryz.prog.underlying 3 = some (.int .i64):=by kernel_rfl
theorem Sx : ∀ us : List VVal,us.length = Tryz.f5.params.toList.length -> (∀ (i : Nat) (t : TypeId) (u : VVal),Tryz.f5.params.toList[i]? = some t -> us[i]? = some u -> Fit Tryz.prog t u) -> V 5 us [] = some (.p (.bool true),[]):=by
 intro us hlen hfit
 rw [Tryz.params5] at hlen hfit
 match us,hlen with
 | [x0],_ =>
  obtain ⟨a0,rfl,w0⟩:=(hfit 0 22 x0 rfl rfl).isInts S0 TH
  exact TS a0
set_option maxRecDepth 100000 in
theorem Ss (os : Os) (started : os.Started) (H : Type) (enc : TypeId × Value -> H) :
  ReturnsInHanded {} Tryz.checked os 5 .any (Rows.deviceDepthsSpec.pre6 enc Tryz.prog Tryz.f5 Rows.deviceDepthsRow.domain false) (Rows.deviceDepthsSpec.post enc Tryz.prog Tryz.f5 false true false false):=by
 refine returnsInHanded_of_change (C:=Tryz.checked) PW started (by kernel_rfl) Tryz.func5
  (ChangeSpec.witness6 (enc:=enc) (C:=Tryz.checked) false ⟨#[],#[.slice none 0 0],[]⟩ 8 (by kernel_rfl) (by kernel_rfl) (by kernel_rfl) (by kernel_rfl)) ?_
 intro W base args ds gs before hval0 hW _ _
 have hval : ∀ (j : Nat) t v,Tryz.f5.params[j]? = some t -> args[j]? = some v -> Value.okWide Tryz.prog W .any base t v:=hval0
 have hW':=hW
 obtain ⟨p,q,hA0,hV,hbe,_,_⟩:=hW
 have hA : DataW.TrodAll enc Tryz.prog W 0 (fun _=>true) true Tryz.f5.params.toList args.toList ds p:=hA0
 letI : GK:=⟨fun _=>none⟩
 refine (Oz Ql (fun b B h=>by cases h) Md (fun j t v ht hv=>hval j t v (by simpa using ht) hv) hA Sx).mono fun e W' ⟨he,hb⟩=>?_
 subst he
 have hlen:=JG hA
 rw [Tryz.params5] at hlen
 obtain ⟨hgs,_⟩:=trodVars_none hV
 have hfn : ∀ ds : List (DataW H),ds.length = 1 -> (Rows.deviceDepthsSpec.fn H (ds ++ [])).results = [.lit (.bool true)] /\ (Rows.deviceDepthsSpec.fn H (ds ++ [])).args = ds /\ (Rows.deviceDepthsSpec.fn H (ds ++ [])).vars = []:=by
  intro ds hl
  match ds,hl with
  | [_],_=>exact ⟨rfl,rfl,rfl⟩
 obtain ⟨e1,e2,e3⟩:=hfn ds hlen
 exact ⟨_,rfl,Po Pp hW' rfl Md hA hV hbe (t:=4) (by kernel_rfl) (by kernel_rfl) (by rw [hgs]; exact e1) (by rw [hgs]; exact e2) (by rw [hgs]; exact e3) hb⟩
theorem TR : (Rows.deviceDepthsRow.wf (OpenSpec.ofChange Rows.deviceDepthsSpec)) = true:=by kernel_rfl
theorem TQ : (laidOutB Tryz.prog) = true:=by kernel_rfl
theorem TP : (mapsRowed Tryz.prog) = true:=by kernel_rfl
theorem TO : (Tryz.f5.params.all (Tryz.prog.readableRec ·)) = true:=by kernel_rfl
theorem TN : (namedTie Tryz.prog Rows.deviceDepthsRow.named Rows.deviceDepthsSpec.vars) = true:=by kernel_rfl
theorem TM : ((Rows.deviceDepthsRow.stops == [])) = true:=by kernel_rfl
theorem TL : ((Tryz.prog.stops == [])) = true:=by kernel_rfl
theorem TK : ((Rows.deviceDepthsRow.knobs == [])) = true:=by kernel_rfl
theorem TJ : ((Tryz.prog.stopKnobs == [])) = true:=by kernel_rfl
theorem TI : ((Rows.deviceDepthsRow.inPlace == Tryz.prog.inPlace 5)) = true:=by kernel_rfl
theorem Tm : ((Rows.deviceDepthsRow.unfollowed == Tryz.prog.unfollowed 5)) = true:=by kernel_rfl
theorem Tl : ((Rows.deviceDepthsRow.recurses == Tryz.prog.recurses 5)) = true:=by kernel_rfl
theorem Tk : ((Rows.deviceDepthsRow.named == Tryz.prog.varsNamed 5)) = true:=by kernel_rfl
theorem Tj : ((Rows.deviceDepthsRow.maps == (Tryz.f5.params.toList ++ Rows.deviceDepthsSpec.plain.varTypes Tryz.prog).any (Tryz.prog.mapsRec ·))) = true:=by kernel_rfl
theorem Ti : ((Rows.deviceDepthsRow.ifaces == (Tryz.f5.params.toList ++ Rows.deviceDepthsSpec.plain.varTypes Tryz.prog).any (Tryz.prog.ifacesRec ·))) = true:=by kernel_rfl
theorem Th : ((Rows.deviceDepthsRow.mapsOut == Tryz.prog.mapsAmong Tryz.f5.resultTypes.toList)) = true:=by kernel_rfl
theorem Tg : ((Rows.deviceDepthsRow.loops == (Tryz.f5.params.toList ++ Rows.deviceDepthsSpec.plain.varTypes Tryz.prog).any (Tryz.prog.loopsFrom ·))) = true:=by kernel_rfl
theorem Tf : ((Rows.deviceDepthsRow.wideKeys == (Tryz.f5.params.toList ++ Rows.deviceDepthsSpec.plain.varTypes Tryz.prog ++ Tryz.f5.resultTypes.toList).any (Tryz.prog.wideKeysFrom ·))) = true:=by kernel_rfl
theorem Te : (Rows.deviceDepthsSpec.vars.all (Tryz.prog.varReadable ·)) = true:=by kernel_rfl
theorem Td : (Tryz.f5.resultTypes.all (fun t=>Tryz.prog.readableRec t && decide (t < Tryz.prog.types.size))) = true:=by kernel_rfl
theorem Tc : ((Rows.deviceDepthsRow.ifacesOut == Tryz.f5.resultTypes.toList.any (Tryz.prog.ifacesRec ·))) = true:=by kernel_rfl
theorem Tb : ((Rows.deviceDepthsRow.loopsOut == Tryz.f5.resultTypes.toList.any (Tryz.prog.loopsFrom ·))) = true:=by kernel_rfl
theorem Ta : ((Rows.deviceDepthsRow.plainKeys == Tryz.prog.plainKeys)) = true:=by kernel_rfl
theorem S9 : (Rows.deviceDepthsRow.shortTexts.isNone) = true:=by kernel_rfl
theorem S8 : (Tryz.prog.stopsHeard) = true:=by kernel_rfl
theorem S7 : (Tryz.prog.mayEnter) = true:=by exact Mw
theorem S6 : ((Rows.deviceDepthsRow.lifted == Tryz.prog.liftsFinal)) = true:=by rw [N8]; kernel_rfl
theorem S5 : ((Tryz.prog.make == some Rows.deviceDepthsRow.make)) = true:=by rw [OY]; kernel_rfl
theorem S4 : ((Rows.deviceDepthsRow.kinds == (if Rows.deviceDepthsRow.domain.isEmpty then [] else Tryz.f5.params.toList.map fun t=>match Tryz.prog.underlying t with | some (.int k)=>some k | _=>none))) = true:=by kernel_rfl
theorem S3 : ((Rows.deviceDepthsRow.pinned == Rows.deviceDepthsRow.pinnedBy)) = true:=by kernel_rfl
theorem S2 : ((Rows.deviceDepthsRow.veiled == (Tryz.f5.params.toList ++ Rows.deviceDepthsSpec.plain.varTypes Tryz.prog ++ Tryz.f5.resultTypes.toList).any (Tryz.prog.veiledRec ·))) = true:=by kernel_rfl
theorem S1 : (Rows.deviceDepthsRow.veiledFits Tryz.prog Tryz.f5.params.toList (Tryz.f5.params.toList ++ Rows.deviceDepthsSpec.plain.varTypes Tryz.prog ++ Tryz.f5.resultTypes.toList)) = true:=by kernel_rfl
set_option maxRecDepth 100000 in
theorem Su : joinedFacts Tryz.prog 5 Tryz.f5 Rows.deviceDepthsSpec Rows.deviceDepthsRow = true:=by
 unfold joinedFacts
 exact Au (Au (Au (Au (Au (Au (Au (Au (Au (Au (Au (Au (Au (Au (Au (Au (Au (Au (Au (Au (Au (Au (Au (Au (Au (Au (Au (Au (Au (Au (Au (TR) TQ) TP) TO) TN) TM) TL) TK) TJ) TI) Tm) Tl) Tk) Tj) Ti) Th) Tg) Tf) Te) Td) Tc) Tb) Ta) S9) S8) S7) S6) S5) S4) S3) S2) S1
theorem deviceDepths_holds : Rows.DeviceDepthsSaid :=
 OpenClaim.holds_of_wide 5 Tryz.f5 rfl rfl rfl rfl rfl rfl rfl ⟨rfl,rfl,rfl,rfl,rfl⟩ rfl rfl rfl rfl rfl (by kernel_rfl) Tryz.func5 Su
  (of_decide_eq_true (by kernel_rfl)) (by unfold Func.isWrapper; first | (rw [if_pos (by decide +kernel)]; kernel_rfl) | (rw [if_neg (by decide +kernel)]; exact ⟨rfl,rfl⟩))
  (fun os started H enc _=>Ss os started H enc)
end Go.Proofs.YtekkdllchjmhdaaGreat
