/- ControlLast holds: for every input the call of the law returns true, and each argument reads afterwards as it read before, where the listed package-level variables hold what the program's text lays. No other conditions. -/
import Derived.Test.YtgcipcfojdnlkaaDoorCards
import Derived.Test.YtgcipcfojdnlkaaDoorTie
import Derived.Test.YtgcipcfojdnlkaaDoorA4
import Derived.Test.YtgcipcfojdnlkaaDoorA12
import Derived.WalkKit
import Derived.ProofKit
import Derived.OpenShut
import Derived.Deep.DeepHandedRow
import Derived.Lib.LaidTab
import Derived.LaidMore
import Derived.Lay
import Derived.SevenTiedAt
import Derived.Stop.Joined
import Derived.Stop.LaidErr
set_option linter.unusedSectionVars false
set_option linter.unusedSimpArgs false
set_option linter.unusedVariables false
open List renaming getElem?_eq_getElem → lgg
namespace Go.Proofs.YtgcipcfojdnlkaaDoor
open Go.ChangeShapes Go.WideShapes Go.ChangeAt Go.RowKit Go.V
theorem tabs_controlLast {W : World} (h : laidMetH Tryd.prog Rows.controlLastRow.laid W) : TabAt 1 Lib.deBruijn64tab W:=by
 rw [MakeChecks.laidMetH_plain _ _ _ (by kernel_rfl)] at h
 have h1:=laidMet.tail h
 have ht : Lib.TabIs Tryd.prog W "math/bits.deBruijn64tab" .u8 (List.map (fun n : Nat => (n : Int)) Lib.deBruijn64tab) :=
  Lib.tabIs_of_head (e:=5) (t:=69) (n:=64) (g:=1) (by kernel_rfl) (by kernel_rfl) Tryd.underlying69 Tryd.underlying5 (by kernel_rfl) (by kernel_rfl) h1
 intro j hj
 have:=ht.cell (g:=1) (by kernel_rfl) j (by simpa using hj)
 rw [this]
 have hj' : Lib.deBruijn64tab[j]? = some Lib.deBruijn64tab[j]:=lgg hj
 simp [List.getD_eq_getElem?_getD,hj']
theorem controlLast_fit : Tryd.f3.params.toList.all (fitB Tryd.prog) = true:=by kernel_rfl
theorem controlLast_u22 : Tryd.prog.underlying 22 = some (.slice 3):=by kernel_rfl
theorem controlLast_u3 : Tryd.prog.underlying 3 = some (.int .i64):=by kernel_rfl
theorem controlLast_call : ∀ us : List VVal,us.length = Tryd.f3.params.toList.length -> (∀ (i : Nat) (t : TypeId) (u : VVal),Tryd.f3.params.toList[i]? = some t -> us[i]? = some u -> Fit Tryd.prog t u) -> V 3 us [] = some (.p (.bool true),[]):=by
 intro us hlen hfit
 rw [Tryd.params3] at hlen hfit
 match us,hlen with
 | [x0],_ =>
  obtain ⟨a0,rfl,w0⟩:=(hfit 0 22 x0 rfl rfl).isInts controlLast_u22 controlLast_u3
  exact controlLast_eq a0
theorem controlLast_contract (H : Type) (enc : TypeId × Value -> H) (W : World) (base : Nat) (args : Array Value) (ds gs : List (DataW H)) (before : List MemPlace)
  (hval : ∀ (j : Nat) t v,Tryd.f3.params[j]? = some t -> args[j]? = some v -> Value.okWide Tryd.prog W .any base t v)
  (hW : DataW.Whole enc Tryd.prog Tryd.f3.params.toList Rows.controlLastSpec.vars false W args.toList ds gs before) (hL : laidMetH Tryd.prog Rows.controlLastRow.laid W) (hsh : W.ShapedOpen Tryd.prog) :
  Calls Tryd.prog 3 args W fun e W'=>∃ v,e = .returned v /\ Rows.controlLastSpec.post enc Tryd.prog Tryd.f3 false true false false W args v W':=by
 have hW':=hW
 obtain ⟨p,q,hA0,hV,hbe,_,_⟩:=hW
 have hA : DataW.TrodAll enc Tryd.prog W 0 (fun _=>true) true Tryd.f3.params.toList args.toList ds p:=hA0
 obtain ⟨m,hm⟩:=maxLen_int hsh
 have hT:=tabs_controlLast hL
 letI:=gkOf W 5
 have hS : CallsSound Tryd.prog V:=V_sound (fun w hk=>⟨m,keep_cell (n:=5) (by omega) hm w hk⟩) fun w hk j hj=>keep_cell (n:=5) (by omega) (hT j hj) w hk
 refine (law_calls hS (gkOf_at (n:=5)) controlLast_fit (fun j t v ht hv=>hval j t v (by simpa using ht) hv) hA controlLast_call).mono fun e W' ⟨he,hb⟩=>?_
 subst he
 have hlen:=trodAll_len hA
 rw [Tryd.params3] at hlen
 obtain ⟨hgs,_⟩:=trodVars_none hV
 have hfn : ∀ ds : List (DataW H),ds.length = 1 -> (Rows.controlLastSpec.fn H (ds ++ [])).results = [.lit (.bool true)] /\ (Rows.controlLastSpec.fn H (ds ++ [])).args = ds /\ (Rows.controlLastSpec.fn H (ds ++ [])).vars = []:=by
  intro ds hl
  match ds,hl with
  | [_],_=>exact ⟨rfl,rfl,rfl⟩
 obtain ⟨e1,e2,e3⟩:=hfn ds hlen
 exact ⟨_,rfl,law_post laid_try hW' rfl controlLast_fit hA hV hbe (t:=4) (by kernel_rfl) (by kernel_rfl) (by rw [hgs]; exact e1) (by rw [hgs]; exact e2) (by rw [hgs]; exact e3) hb⟩
noncomputable def controlLast_world (os : Os) : World:=World.laidAll Tryd.prog os Rows.controlLastRow.laid
theorem controlLast_met (os : Os) : laidMetH Tryd.prog Rows.controlLastRow.laid ((controlLast_world os).forCall (fun _ _=>0) ⟨#[],#[.slice none 0 0],[]⟩).memory:=by
 rw [MakeChecks.laidMetH_plain _ _ _ (by kernel_rfl)]
 exact laidMet_laidAll _ (by kernel_rfl) (by kernel_rfl)
theorem controlLast_reads (os : Os) {H : Type} (enc : TypeId × Value -> H) : ∃ places,DataW.whole enc Tryd.prog ((controlLast_world os).forCall (fun _ _=>0) ⟨#[],#[.slice none 0 0],[]⟩).memory Tryd.f3.params.toList Rows.controlLastSpec.vars false #[Value.slice none 0 0].toList 8 = some ([.nil],[],places) :=
 ⟨[],by kernel_rfl⟩
set_option maxRecDepth 100000 in
theorem controlLast_lifted (os : Os) (started : os.Started) (H : Type) (enc : TypeId × Value -> H) (F : Stop.Interp) :
  ReturnsInHanded {} Tryd.checked os 3 .any ((OpenSpec.ofChange Rows.controlLastSpec).preRow enc Tryd.prog Tryd.f3 Rows.controlLastRow.domain false Rows.controlLastRow.laid) (((OpenSpec.ofChange Rows.controlLastSpec).at F).post enc Tryd.prog Tryd.f3 false true false false):=by
 obtain ⟨places,hx⟩:=controlLast_reads os enc
 refine returnsInHanded_of_row (C:=Tryd.checked) (s:=OpenSpec.ofChange Rows.controlLastSpec) own_try started (by kernel_rfl) Tryd.func3
  (witness_row_at (enc:=enc) (C:=Tryd.checked) false (controlLast_world os) #[.slice none 0 0] (World.laidAll_os _ _ _) (by kernel_rfl) (by kernel_rfl) (by kernel_rfl)
   (OpenSpec.preRow_of_cond 8 hx (by kernel_rfl) (fun k hk=>by cases hk) (by kernel_rfl) (controlLast_met os))) ?_
 intro W base args ds gs before hval hW _ _ _ hL hsh _
 exact controlLast_contract H enc W base args ds gs before hval hW hL hsh
theorem controlLast_said : Rows.ControlLastSaid :=
 OpenClaim.holds_of_cond 3 Tryd.f3 rfl rfl rfl rfl rfl rfl rfl ⟨rfl,rfl,rfl,rfl,rfl⟩ rfl rfl rfl rfl rfl (by kernel_rfl) Tryd.func3 (by kernel_rfl)
  (of_decide_eq_true (by kernel_rfl)) (by unfold Func.isWrapper; first | (rw [if_pos (by decide +kernel)]; kernel_rfl) | (rw [if_neg (by decide +kernel)]; exact ⟨rfl,rfl⟩))
  (fun os started H enc _ F=>by rw [OpenClaim.pre_eq_preRow]; exact controlLast_lifted os started H enc F)
theorem controlLast_plain (f : FuncId) (fn : Func) (hf : Tryd.pinned.checked.prog.funcNamed "groupcontrol/groupcontrollaw7.ControlLast" = some f) (hfn : Tryd.pinned.checked.prog.funcs[f]? = some fn) :
  false = Tryd.pinned.checked.prog.looks [] /\ ∀ (j : Nat) t,fn.params[j]? = some t -> Tryd.pinned.checked.prog.wantsStandIn t = false:=by
 obtain rfl : f = 3 := Option.some.inj ((show Tryd.prog.funcNamed "groupcontrol/groupcontrollaw7.ControlLast" = some 3 by kernel_rfl).symm.trans hf) |>.symm
 obtain rfl : fn = Tryd.f3:=(Option.some.inj (Tryd.func3.symm.trans hfn)).symm
 refine ⟨by kernel_rfl,fun j t ht=>?_⟩
 rw [Tryd.params3] at ht
 obtain rfl : t = 22:=by simpa using Array.mem_of_getElem? ht
 exact (show Tryd.prog.wantsStandIn 22 = false by kernel_rfl)
theorem controlLast_holds : Rows.ControlLastCardSaid :=
 Claim7.holds_tied_plain_at .later [] _ _ _ _ controlLast_said (fun _ h=>by cases h) (by kernel_rfl) (fun _ h=>by cases h) controlLast_row_tie rfl ⟨rfl,rfl⟩ (by kernel_rfl) rfl controlLast_plain (by kernel_rfl)
end Go.Proofs.YtgcipcfojdnlkaaDoor
