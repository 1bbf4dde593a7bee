/- SwapExact holds: for every input the call of the law returns true, and each argument reads afterwards as it read before. No conditions. -/
import Derived.Test.YtdbjijjeolnboaaGreatRows
import Derived.Test.YtdbjijjeolnboaaGreatA15
import Derived.Test.YtdbjijjeolnboaaGreatA8
import Derived.Test.YtdbjijjeolnboaaGreatA16
import Derived.Test.YtdbjijjeolnboaaGreatA17
import Derived.ProofKit
set_option linter.unusedSectionVars false
set_option linter.unusedSimpArgs false
set_option linter.unusedVariables false
namespace Go.Proofs.YtdbjijjeolnboaaGreat
open Go.ChangeShapes Go.WideShapes Go.ChangeAt Go.RowKit Go.V
theorem swapExact_fit : Tryz.f3.params.toList.all (fitB2 Tryz.prog 4) = true:=by kernel_rfl
theorem swapExact_u22 : Tryz.prog.underlying 22 = some (.slice 3):=by kernel_rfl
theorem swapExact_u3 : Tryz.prog.underlying 3 = some (.int .i64):=by kernel_rfl
theorem swapExact_tree : TreeT Tryz.prog 25 23 57 3 9:={ n:=by kernel_rfl,nc:=by kernel_rfl,i:=by kernel_rfl,ic:=by kernel_rfl,s:=by kernel_rfl,sc:=by kernel_rfl,t:=by kernel_rfl,tc:=by kernel_rfl,ns:=by kernel_rfl,nsc:=by kernel_rfl }
theorem swapExact_stock : StockT Tryz.prog 28 26 30 3:={ p:=by kernel_rfl,pc:=by kernel_rfl,i:=by kernel_rfl,ic:=by kernel_rfl,t:=by kernel_rfl,tc:=by kernel_rfl,s:=by kernel_rfl,sc:=by kernel_rfl }
theorem swapExact_hold : HoldT Tryz.prog 30 3:={ p:=by kernel_rfl,pc:=by kernel_rfl,i:=by kernel_rfl,ic:=by kernel_rfl }
theorem swapExact_call : ∀ us : List VVal,us.length = Tryz.f3.params.toList.length -> (∀ (i : Nat) (t : TypeId) (u : VVal),Tryz.f3.params.toList[i]? = some t -> us[i]? = some u -> FitV Tryz.prog 4 t u) -> V 3 us [] = some (.p (.bool true),[]):=by
 intro us hlen hfit
 rw [Tryz.params3] at hlen hfit
 match us,hlen with
 | [x0,x1,x2,x3,x4,x5],_ =>
  obtain ⟨a0,rfl,w0⟩:=(hfit 0 22 x0 rfl rfl).ints swapExact_u22 swapExact_u3 (by kernel_rfl)
  obtain ⟨a1,rfl,w1⟩:=(hfit 1 25 x1 rfl rfl).tree (k:=1) swapExact_tree
  obtain ⟨a2,rfl⟩:=(hfit 2 28 x2 rfl rfl).stock (k:=1) swapExact_stock
  obtain ⟨a3,rfl⟩:=(hfit 3 30 x3 rfl rfl).hold (k:=3) swapExact_hold
  obtain ⟨a4,rfl,w4⟩:=(hfit 4 3 x4 rfl rfl).int swapExact_u3
  obtain ⟨a5,rfl,w5⟩:=(hfit 5 3 x5 rfl rfl).int swapExact_u3
  exact swapExact_eq a0 a1 a2 a3 a4 a5 w1
set_option maxRecDepth 100000 in
theorem swapExact_lifted (os : Os) (started : os.Started) (H : Type) (enc : TypeId × Value -> H) :
  ReturnsInHanded {} Tryz.checked os 3 .any (Rows.swapExactSpec.pre6 enc Tryz.prog Tryz.f3 Rows.swapExactRow.domain false) (Rows.swapExactSpec.post enc Tryz.prog Tryz.f3 false true false false):=by
 refine returnsInHanded_of_change (C:=Tryz.checked) own_try started (by kernel_rfl) Tryz.func3
  (ChangeSpec.witness6 (enc:=enc) (C:=Tryz.checked) false ⟨#[],#[.slice none 0 0,.agg #[.slice none 0 0,.int .i64 0],.agg #[.slice none 0 0,.int .i64 0],.agg #[.int .i64 0,.int .i64 0,.int .i64 0,.int .i64 0],.int .i64 0,.int .i64 0],[]⟩ 8 (by kernel_rfl) (by kernel_rfl) (by kernel_rfl) (by kernel_rfl)) ?_
 intro W base args ds gs before hval0 hW _ _
 have hval : ∀ (j : Nat) t v,Tryz.f3.params[j]? = some t -> args[j]? = some v -> Value.okWide Tryz.prog W .any base t v:=hval0
 have hW':=hW
 obtain ⟨p,q,hA0,hV,hbe,_,_⟩:=hW
 have hA : DataW.TrodAll enc Tryz.prog W 0 (fun _=>true) true Tryz.f3.params.toList args.toList ds p:=hA0
 letI : GK:=⟨fun _=>none⟩
 refine (law_calls2 V_sound (fun b B h=>by cases h) swapExact_fit (fun j t v ht hv=>hval j t v (by simpa using ht) hv) hA swapExact_call).mono fun e W' ⟨he,hb⟩=>?_
 subst he
 have hlen:=trodAll_len hA
 rw [Tryz.params3] at hlen
 obtain ⟨hgs,_⟩:=trodVars_none hV
 have hfn : ∀ ds : List (DataW H),ds.length = 6 -> (Rows.swapExactSpec.fn H (ds ++ [])).results = [.lit (.bool true)] /\ (Rows.swapExactSpec.fn H (ds ++ [])).args = ds /\ (Rows.swapExactSpec.fn H (ds ++ [])).vars = []:=by
  intro ds hl
  match ds,hl with
  | [_,_,_,_,_,_],_=>exact ⟨rfl,rfl,rfl⟩
 obtain ⟨e1,e2,e3⟩:=hfn ds hlen
 exact ⟨_,rfl,law_post2 laid_try hW' rfl swapExact_fit hA hV hbe (t:=4) (by kernel_rfl) (by kernel_rfl) (by rw [hgs]; exact e1) (by rw [hgs]; exact e2) (by rw [hgs]; exact e3) hb⟩
theorem swapExact_k0 : (Rows.swapExactRow.wf (OpenSpec.ofChange Rows.swapExactSpec)) = true:=by kernel_rfl
theorem swapExact_k1 : (laidOutB Tryz.prog) = true:=by kernel_rfl
theorem swapExact_k2 : (mapsRowed Tryz.prog) = true:=by kernel_rfl
theorem swapExact_k3 : (Tryz.f3.params.all (Tryz.prog.readableRec ·)) = true:=by kernel_rfl
theorem swapExact_k4 : (namedTie Tryz.prog Rows.swapExactRow.named Rows.swapExactSpec.vars) = true:=by kernel_rfl
theorem swapExact_k5 : ((Rows.swapExactRow.stops == [])) = true:=by kernel_rfl
theorem swapExact_k6 : ((Tryz.prog.stops == [])) = true:=by kernel_rfl
theorem swapExact_k7 : ((Rows.swapExactRow.knobs == [])) = true:=by kernel_rfl
theorem swapExact_k8 : ((Tryz.prog.stopKnobs == [])) = true:=by kernel_rfl
theorem swapExact_k9 : ((Rows.swapExactRow.inPlace == Tryz.prog.inPlace 3)) = true:=by kernel_rfl
theorem swapExact_k10 : ((Rows.swapExactRow.unfollowed == Tryz.prog.unfollowed 3)) = true:=by kernel_rfl
theorem swapExact_k11 : ((Rows.swapExactRow.recurses == Tryz.prog.recurses 3)) = true:=by kernel_rfl
theorem swapExact_k12 : ((Rows.swapExactRow.named == Tryz.prog.varsNamed 3)) = true:=by kernel_rfl
theorem swapExact_k13 : ((Rows.swapExactRow.maps == (Tryz.f3.params.toList ++ Rows.swapExactSpec.plain.varTypes Tryz.prog).any (Tryz.prog.mapsRec ·))) = true:=by kernel_rfl
theorem swapExact_k14 : ((Rows.swapExactRow.ifaces == (Tryz.f3.params.toList ++ Rows.swapExactSpec.plain.varTypes Tryz.prog).any (Tryz.prog.ifacesRec ·))) = true:=by kernel_rfl
theorem swapExact_k15 : ((Rows.swapExactRow.mapsOut == Tryz.prog.mapsAmong Tryz.f3.resultTypes.toList)) = true:=by kernel_rfl
theorem swapExact_k16 : ((Rows.swapExactRow.loops == (Tryz.f3.params.toList ++ Rows.swapExactSpec.plain.varTypes Tryz.prog).any (Tryz.prog.loopsFrom ·))) = true:=by kernel_rfl
theorem swapExact_k17 : ((Rows.swapExactRow.wideKeys == (Tryz.f3.params.toList ++ Rows.swapExactSpec.plain.varTypes Tryz.prog ++ Tryz.f3.resultTypes.toList).any (Tryz.prog.wideKeysFrom ·))) = true:=by kernel_rfl
theorem swapExact_k18 : (Rows.swapExactSpec.vars.all (Tryz.prog.varReadable ·)) = true:=by kernel_rfl
theorem swapExact_k19 : (Tryz.f3.resultTypes.all (fun t=>Tryz.prog.readableRec t && decide (t < Tryz.prog.types.size))) = true:=by kernel_rfl
theorem swapExact_k20 : ((Rows.swapExactRow.ifacesOut == Tryz.f3.resultTypes.toList.any (Tryz.prog.ifacesRec ·))) = true:=by kernel_rfl
theorem swapExact_k21 : ((Rows.swapExactRow.loopsOut == Tryz.f3.resultTypes.toList.any (Tryz.prog.loopsFrom ·))) = true:=by kernel_rfl
theorem swapExact_k22 : ((Rows.swapExactRow.plainKeys == Tryz.prog.plainKeys)) = true:=by kernel_rfl
theorem swapExact_k23 : (Rows.swapExactRow.shortTexts.isNone) = true:=by kernel_rfl
theorem swapExact_k24 : (Tryz.prog.stopsHeard) = true:=by kernel_rfl
theorem swapExact_k25 : (Tryz.prog.mayEnter) = true:=by exact try_mayEnter
theorem swapExact_k26 : ((Rows.swapExactRow.lifted == Tryz.prog.liftsFinal)) = true:=by rw [try_lifts]; kernel_rfl
theorem swapExact_k27 : ((Tryz.prog.make == some Rows.swapExactRow.make)) = true:=by rw [try_make]; kernel_rfl
theorem swapExact_k28 : ((Rows.swapExactRow.kinds == (if Rows.swapExactRow.domain.isEmpty then [] else Tryz.f3.params.toList.map fun t=>match Tryz.prog.underlying t with | some (.int k)=>some k | _=>none))) = true:=by kernel_rfl
theorem swapExact_k29 : ((Rows.swapExactRow.pinned == Rows.swapExactRow.pinnedBy)) = true:=by kernel_rfl
theorem swapExact_k30 : ((Rows.swapExactRow.veiled == (Tryz.f3.params.toList ++ Rows.swapExactSpec.plain.varTypes Tryz.prog ++ Tryz.f3.resultTypes.toList).any (Tryz.prog.veiledRec ·))) = true:=by kernel_rfl
theorem swapExact_k31 : (Rows.swapExactRow.veiledFits Tryz.prog Tryz.f3.params.toList (Tryz.f3.params.toList ++ Rows.swapExactSpec.plain.varTypes Tryz.prog ++ Tryz.f3.resultTypes.toList)) = true:=by kernel_rfl
set_option maxRecDepth 100000 in
theorem swapExact_closed : joinedFacts Tryz.prog 3 Tryz.f3 Rows.swapExactSpec Rows.swapExactRow = true:=by
 unfold joinedFacts
 exact and_mk (and_mk (and_mk (and_mk (and_mk (and_mk (and_mk (and_mk (and_mk (and_mk (and_mk (and_mk (and_mk (and_mk (and_mk (and_mk (and_mk (and_mk (and_mk (and_mk (and_mk (and_mk (and_mk (and_mk (and_mk (and_mk (and_mk (and_mk (and_mk (and_mk (and_mk (swapExact_k0) swapExact_k1) swapExact_k2) swapExact_k3) swapExact_k4) swapExact_k5) swapExact_k6) swapExact_k7) swapExact_k8) swapExact_k9) swapExact_k10) swapExact_k11) swapExact_k12) swapExact_k13) swapExact_k14) swapExact_k15) swapExact_k16) swapExact_k17) swapExact_k18) swapExact_k19) swapExact_k20) swapExact_k21) swapExact_k22) swapExact_k23) swapExact_k24) swapExact_k25) swapExact_k26) swapExact_k27) swapExact_k28) swapExact_k29) swapExact_k30) swapExact_k31
theorem swapExact_holds : Rows.SwapExactSaid :=
 OpenClaim.holds_of_wide 3 Tryz.f3 rfl rfl rfl rfl rfl rfl rfl ⟨rfl,rfl,rfl,rfl,rfl⟩ rfl rfl rfl rfl rfl (by kernel_rfl) Tryz.func3 swapExact_closed
  (of_decide_eq_true (by kernel_rfl)) (by unfold Func.isWrapper; first | (rw [if_pos (by decide +kernel)]; kernel_rfl) | (rw [if_neg (by decide +kernel)]; exact ⟨rfl,rfl⟩))
  (fun os started H enc _=>swapExact_lifted os started H enc)
end Go.Proofs.YtdbjijjeolnboaaGreat
