/- LimitExact holds: for every input the call of the law returns true, and each argument reads afterwards as it read before. No conditions. -/
import Derived.Test.YtdbjijjeolnboaaGreatRows
import Derived.Test.YtdbjijjeolnboaaGreatA19
import Derived.Test.YtdbjijjeolnboaaGreatA12
import Derived.Test.YtdbjijjeolnboaaGreatA20
import Derived.Test.YtdbjijjeolnboaaGreatA21
import Derived.ProofKit
set_option linter.unusedSectionVars false
set_option linter.unusedSimpArgs false
set_option linter.unusedVariables false
set_option maxHeartbeats 32000000
namespace Go.Proofs.YtdbjijjeolnboaaGreat
open Go.ChangeShapes Go.WideShapes Go.ChangeAt Go.RowKit Go.V
theorem NX : Tryz.f4.params.toList.all (FT Tryz.prog 4) = true:=by kernel_rfl
theorem UZ : Tryz.prog.underlying 22 = some (.slice 3):=by kernel_rfl
theorem IU : Tryz.prog.underlying 3 = some (.int .i64):=by kernel_rfl
theorem UK : TreeT Tryz.prog 25 23 57 3 9:={ n:=by kernel_rfl,nc:=by kernel_rfl,i:=by kernel_rfl,ic:=by kernel_rfl,s:=by kernel_rfl,sc:=by kernel_rfl,t:=by kernel_rfl,tc:=by kernel_rfl,ns:=by kernel_rfl,nsc:=by kernel_rfl }
theorem UE : StockT Tryz.prog 28 26 30 3:={ p:=by kernel_rfl,pc:=by kernel_rfl,i:=by kernel_rfl,ic:=by kernel_rfl,t:=by kernel_rfl,tc:=by kernel_rfl,s:=by kernel_rfl,sc:=by kernel_rfl }
theorem U0 : McT Tryz.prog 47 53 51 3 4:={ s:=by kernel_rfl,sc:=by kernel_rfl,n:=by kernel_rfl,nc:=by kernel_rfl,m:=by kernel_rfl,mc:=by kernel_rfl,i:=by kernel_rfl,ic:=by kernel_rfl,b:=by kernel_rfl,bc:=by kernel_rfl }
theorem UL : ∀ us : List VVal,us.length = Tryz.f4.params.toList.length -> (∀ (i : Nat) (t : TypeId) (u : VVal),Tryz.f4.params.toList[i]? = some t -> us[i]? = some u -> FitV Tryz.prog 4 t u) -> V 4 us [] = some (.p (.bool true),[]):=by
 intro us hlen hfit
 rw [Tryz.params4] at hlen hfit
 match us,hlen with
 | [x0,x1,x2,x3,x4,x5,x6],_ =>
  obtain ⟨a0,rfl,w0⟩:=(hfit 0 22 x0 rfl rfl).ints UZ IU (by kernel_rfl)
  obtain ⟨a1,rfl,w1⟩:=(hfit 1 25 x1 rfl rfl).tree (k:=1) UK
  obtain ⟨a2,rfl⟩:=(hfit 2 28 x2 rfl rfl).stock (k:=1) UE
  obtain ⟨a3,rfl⟩:=(hfit 3 47 x3 rfl rfl).mcs (k:=1) U0
  obtain ⟨a4,rfl,w4⟩:=(hfit 4 3 x4 rfl rfl).int IU
  obtain ⟨a5,rfl,w5⟩:=(hfit 5 3 x5 rfl rfl).int IU
  obtain ⟨a6,rfl,w6⟩:=(hfit 6 3 x6 rfl rfl).int IU
  exact VL a0 a1 a2 a3 a4 a5 a6 w1
set_option maxRecDepth 100000 in
theorem UA (os : Os) (started : os.Started) (H : Type) (enc : TypeId × Value -> H) :
  ReturnsInHanded {} Tryz.checked os 4 .any (Rows.limitExactSpec.pre6 enc Tryz.prog Tryz.f4 Rows.limitExactRow.domain false) (Rows.limitExactSpec.post enc Tryz.prog Tryz.f4 false true false false):=by
 refine returnsInHanded_of_change (C:=Tryz.checked) zbv started (by kernel_rfl) Tryz.func4
  (ChangeSpec.witness6 (enc:=enc) (C:=Tryz.checked) false ⟨#[],#[.slice none 0 0,.agg #[.slice none 0 0,.int .i64 0],.agg #[.slice none 0 0,.int .i64 0],.slice none 0 0,.int .i64 0,.int .i64 0,.int .i64 0],[]⟩ 8 (by kernel_rfl) (by kernel_rfl) (by kernel_rfl) (by kernel_rfl)) ?_
 intro W base args ds gs before hval0 hW _ _
 have hval : ∀ (j : Nat) t v,Tryz.f4.params[j]? = some t -> args[j]? = some v -> Value.okWide Tryz.prog W .any base t v:=hval0
 have hW':=hW
 obtain ⟨p,q,hA0,hV,hbe,_,_⟩:=hW
 have hA : DataW.TrodAll enc Tryz.prog W 0 (fun _=>true) true Tryz.f4.params.toList args.toList ds p:=hA0
 letI : GK:=⟨fun _=>none⟩
 refine (XR zcg (fun b B h=>by cases h) NX (fun j t v ht hv=>hval j t v (by simpa using ht) hv) hA UL).mono fun e W' ⟨he,hb⟩=>?_
 subst he
 have hlen:=OF hA
 rw [Tryz.params4] at hlen
 obtain ⟨hgs,_⟩:=trodVars_none hV
 have hfn : ∀ ds : List (DataW H),ds.length = 7 -> (Rows.limitExactSpec.fn H (ds ++ [])).results = [.lit (.bool true)] /\ (Rows.limitExactSpec.fn H (ds ++ [])).args = ds /\ (Rows.limitExactSpec.fn H (ds ++ [])).vars = []:=by
  intro ds hl
  match ds,hl with
  | [_,_,_,_,_,_,_],_=>exact ⟨rfl,rfl,rfl⟩
 obtain ⟨e1,e2,e3⟩:=hfn ds hlen
 exact ⟨_,rfl,YU zax hW' rfl NX hA hV hbe (t:=4) (by kernel_rfl) (by kernel_rfl) (by rw [hgs]; exact e1) (by rw [hgs]; exact e2) (by rw [hgs]; exact e3) hb⟩
theorem VK : (Rows.limitExactRow.wf (OpenSpec.ofChange Rows.limitExactSpec)) = true:=by kernel_rfl
theorem VJ : (laidOutB Tryz.prog) = true:=by kernel_rfl
theorem VI : (mapsRowed Tryz.prog) = true:=by kernel_rfl
theorem VH : (Tryz.f4.params.all (Tryz.prog.readableRec ·)) = true:=by kernel_rfl
theorem VG : (namedTie Tryz.prog Rows.limitExactRow.named Rows.limitExactSpec.vars) = true:=by kernel_rfl
theorem VF : ((Rows.limitExactRow.stops == [])) = true:=by kernel_rfl
theorem VE : ((Tryz.prog.stops == [])) = true:=by kernel_rfl
theorem VD : ((Rows.limitExactRow.knobs == [])) = true:=by kernel_rfl
theorem VC : ((Tryz.prog.stopKnobs == [])) = true:=by kernel_rfl
theorem VB : ((Rows.limitExactRow.inPlace == Tryz.prog.inPlace 4)) = true:=by kernel_rfl
theorem Vo : ((Rows.limitExactRow.unfollowed == Tryz.prog.unfollowed 4)) = true:=by kernel_rfl
theorem Vn : ((Rows.limitExactRow.recurses == Tryz.prog.recurses 4)) = true:=by kernel_rfl
theorem Vm : ((Rows.limitExactRow.named == Tryz.prog.varsNamed 4)) = true:=by kernel_rfl
theorem Vl : ((Rows.limitExactRow.maps == (Tryz.f4.params.toList ++ Rows.limitExactSpec.plain.varTypes Tryz.prog).any (Tryz.prog.mapsRec ·))) = true:=by kernel_rfl
theorem Vk : ((Rows.limitExactRow.ifaces == (Tryz.f4.params.toList ++ Rows.limitExactSpec.plain.varTypes Tryz.prog).any (Tryz.prog.ifacesRec ·))) = true:=by kernel_rfl
theorem Vj : ((Rows.limitExactRow.mapsOut == Tryz.prog.mapsAmong Tryz.f4.resultTypes.toList)) = true:=by kernel_rfl
theorem Vi : ((Rows.limitExactRow.loops == (Tryz.f4.params.toList ++ Rows.limitExactSpec.plain.varTypes Tryz.prog).any (Tryz.prog.loopsFrom ·))) = true:=by kernel_rfl
theorem Vh : ((Rows.limitExactRow.wideKeys == (Tryz.f4.params.toList ++ Rows.limitExactSpec.plain.varTypes Tryz.prog ++ Tryz.f4.resultTypes.toList).any (Tryz.prog.wideKeysFrom ·))) = true:=by kernel_rfl
theorem Vg : (Rows.limitExactSpec.vars.all (Tryz.prog.varReadable ·)) = true:=by kernel_rfl
theorem Vf : (Tryz.f4.resultTypes.all (fun t=>Tryz.prog.readableRec t && decide (t < Tryz.prog.types.size))) = true:=by kernel_rfl
theorem Ve : ((Rows.limitExactRow.ifacesOut == Tryz.f4.resultTypes.toList.any (Tryz.prog.ifacesRec ·))) = true:=by kernel_rfl
theorem Vd : ((Rows.limitExactRow.loopsOut == Tryz.f4.resultTypes.toList.any (Tryz.prog.loopsFrom ·))) = true:=by kernel_rfl
theorem Vc : ((Rows.limitExactRow.plainKeys == Tryz.prog.plainKeys)) = true:=by kernel_rfl
theorem Vb : (Rows.limitExactRow.shortTexts.isNone) = true:=by kernel_rfl
theorem Va : (Tryz.prog.stopsHeard) = true:=by kernel_rfl
theorem U9 : (Tryz.prog.mayEnter) = true:=by exact VZ
theorem U8 : ((Rows.limitExactRow.lifted == Tryz.prog.liftsFinal)) = true:=by rw [Yl]; kernel_rfl
theorem U7 : ((Tryz.prog.make == some Rows.limitExactRow.make)) = true:=by rw [Zu]; kernel_rfl
theorem U6 : ((Rows.limitExactRow.kinds == (if Rows.limitExactRow.domain.isEmpty then [] else Tryz.f4.params.toList.map fun t=>match Tryz.prog.underlying t with | some (.int k)=>some k | _=>none))) = true:=by kernel_rfl
theorem U5 : ((Rows.limitExactRow.pinned == Rows.limitExactRow.pinnedBy)) = true:=by kernel_rfl
theorem U4 : ((Rows.limitExactRow.veiled == (Tryz.f4.params.toList ++ Rows.limitExactSpec.plain.varTypes Tryz.prog ++ Tryz.f4.resultTypes.toList).any (Tryz.prog.veiledRec ·))) = true:=by kernel_rfl
theorem U3 : (Rows.limitExactRow.veiledFits Tryz.prog Tryz.f4.params.toList (Tryz.f4.params.toList ++ Rows.limitExactSpec.plain.varTypes Tryz.prog ++ Tryz.f4.resultTypes.toList)) = true:=by kernel_rfl
set_option maxRecDepth 100000 in
theorem UB : joinedFacts Tryz.prog 4 Tryz.f4 Rows.limitExactSpec Rows.limitExactRow = true:=by
 unfold joinedFacts
 exact Bi (Bi (Bi (Bi (Bi (Bi (Bi (Bi (Bi (Bi (Bi (Bi (Bi (Bi (Bi (Bi (Bi (Bi (Bi (Bi (Bi (Bi (Bi (Bi (Bi (Bi (Bi (Bi (Bi (Bi (Bi (VK) VJ) VI) VH) VG) VF) VE) VD) VC) VB) Vo) Vn) Vm) Vl) Vk) Vj) Vi) Vh) Vg) Vf) Ve) Vd) Vc) Vb) Va) U9) U8) U7) U6) U5) U4) U3
theorem limitExact_holds : Rows.LimitExactSaid :=
 OpenClaim.holds_of_wide 4 Tryz.f4 rfl rfl rfl rfl rfl rfl rfl ⟨rfl,rfl,rfl,rfl,rfl⟩ rfl rfl rfl rfl rfl (by kernel_rfl) Tryz.func4 UB
  (of_decide_eq_true (by kernel_rfl)) (by unfold Func.isWrapper; first | (rw [if_pos (by decide +kernel)]; kernel_rfl) | (rw [if_neg (by decide +kernel)]; exact ⟨rfl,rfl⟩))
  (fun os started H enc _=>UA os started H enc)
end Go.Proofs.YtdbjijjeolnboaaGreat
