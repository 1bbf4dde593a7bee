/- SetsOrder holds: for every input the call of the law returns true, and each argument reads afterwards as it read before, where the listed package-level variables hold what the program's text lays. No other conditions. -/
import Derived.Test.YtddgomjodbmohaaDoorCards
import Derived.Test.YtddgomjodbmohaaDoorTie
import Derived.Test.YtddgomjodbmohaaDoorB5
import Derived.Test.YtddgomjodbmohaaDoorB14
import Derived.WalkKit
import Derived.ProofKit
import Derived.OpenShut
import Derived.Deep.DeepHandedRow
import Derived.Lib.LaidTab
import Derived.LaidMore
import Derived.Lay
import Derived.SevenTiedAt
import Derived.Stop.Joined
import Derived.Stop.LaidErr
set_option linter.unusedSectionVars false
set_option linter.unusedSimpArgs false
set_option linter.unusedVariables false
namespace Go.Proofs.YtddgomjodbmohaaDoor
open Go.ChangeShapes Go.WideShapes Go.ChangeAt Go.RowKit Go.V
theorem tabs_setsOrder {W : World} (h : laidMetH Tryd.prog Rows.setsOrderRow.laid W) : Lib.TabIs Tryd.prog W "internal/strconv.uint64pow10" .u64 Lib.pow10Tab := by
 rw [MakeChecks.laidMetH_plain _ _ _ (by kernel_rfl)] at h
 have h1:=laidMet.tail (laidMet.tail h)
 exact Lib.tabIs_of_head (e:=94) (t:=119) (n:=20) (g:=1) (by kernel_rfl) (by kernel_rfl) Tryd.underlying119 Tryd.underlying94 (by kernel_rfl) (by kernel_rfl) h1
theorem setsOrder_fit : Tryd.f3.params.toList.all (fitB Tryd.prog) = true:=by kernel_rfl
theorem setsOrder_u22 : Tryd.prog.underlying 22 = some (.slice 3):=by kernel_rfl
theorem setsOrder_u3 : Tryd.prog.underlying 3 = some (.int .i64):=by kernel_rfl
theorem setsOrder_call : ∀ us : List VVal,us.length = Tryd.f3.params.toList.length -> (∀ (i : Nat) (t : TypeId) (u : VVal),Tryd.f3.params.toList[i]? = some t -> us[i]? = some u -> Fit Tryd.prog t u) -> V 3 us [] = some (.p (.bool true),[]):=by
 intro us hlen hfit
 rw [Tryd.params3] at hlen hfit
 match us,hlen with
 | [x0],_ =>
  obtain ⟨a0,rfl,w0⟩:=(hfit 0 22 x0 rfl rfl).isInts setsOrder_u22 setsOrder_u3
  exact setsOrder_eq a0
set_option maxRecDepth 100000 in
theorem setsOrder_contract (H : Type) (enc : TypeId × Value -> H) (W : World) (base : Nat) (args : Array Value) (ds gs : List (DataW H)) (before : List MemPlace)
  (hval : ∀ (j : Nat) t v,Tryd.f3.params[j]? = some t -> args[j]? = some v -> Value.okWide Tryd.prog W .any base t v)
  (hW : DataW.Whole enc Tryd.prog Tryd.f3.params.toList Rows.setsOrderSpec.vars false W args.toList ds gs before) (hL : laidMetH Tryd.prog Rows.setsOrderRow.laid W) (hsh : W.ShapedOpen Tryd.prog) :
  Calls Tryd.prog 3 args W fun e W'=>∃ v,e = .returned v /\ Rows.setsOrderSpec.post enc Tryd.prog Tryd.f3 false true false false W args v W':=by
 have hW':=hW
 obtain ⟨p,q,hA0,hV,hbe,_,_⟩:=hW
 have hA : DataW.TrodAll enc Tryd.prog W 0 (fun _=>true) true Tryd.f3.params.toList args.toList ds p:=hA0
 obtain ⟨m,hm⟩:=maxLen_int hsh
 have hT:=tabs_setsOrder hL
 letI:=gkOf W 2
 have hS : CallsSound Tryd.prog V:=V_sound (fun w hk=>⟨m,keep_cell (n:=2) (g:=0) (i:=0) (by omega) hm w hk⟩) (keep_tab (n:=2) (g:=1) (by kernel_rfl) (by omega) hT)
 refine (law_calls hS (gkOf_at (n:=2)) setsOrder_fit (fun j t v ht hv=>hval j t v (by simpa using ht) hv) hA setsOrder_call).mono fun e W' ⟨he,hb⟩=>?_
 subst he
 have hlen:=trodAll_len hA
 rw [Tryd.params3] at hlen
 obtain ⟨hgs,_⟩:=trodVars_none hV
 have hfn : ∀ ds : List (DataW H),ds.length = 1 -> (Rows.setsOrderSpec.fn H (ds ++ [])).results = [.lit (.bool true)] /\ (Rows.setsOrderSpec.fn H (ds ++ [])).args = ds /\ (Rows.setsOrderSpec.fn H (ds ++ [])).vars = []:=by
  intro ds hl
  match ds,hl with
  | [_],_=>exact ⟨rfl,rfl,rfl⟩
 obtain ⟨e1,e2,e3⟩:=hfn ds hlen
 exact ⟨_,rfl,law_post laid_try hW' rfl setsOrder_fit hA hV hbe (t:=4) (by kernel_rfl) (by kernel_rfl) (by rw [hgs]; exact e1) (by rw [hgs]; exact e2) (by rw [hgs]; exact e3) hb⟩
noncomputable def setsOrder_world (os : Os) : World:=World.laidAll Tryd.prog os Rows.setsOrderRow.laid
theorem setsOrder_met (os : Os) : laidMetH Tryd.prog Rows.setsOrderRow.laid ((setsOrder_world os).forCall (fun _ _=>0) ⟨#[],#[.slice none 0 0],[]⟩).memory:=by
 rw [MakeChecks.laidMetH_plain _ _ _ (by kernel_rfl)]
 exact laidMet_laidAll _ (by kernel_rfl) (by kernel_rfl)
theorem setsOrder_reads (os : Os) {H : Type} (enc : TypeId × Value -> H) : ∃ places,DataW.whole enc Tryd.prog ((setsOrder_world os).forCall (fun _ _=>0) ⟨#[],#[.slice none 0 0],[]⟩).memory Tryd.f3.params.toList Rows.setsOrderSpec.vars false #[Value.slice none 0 0].toList 8 = some ([.nil],[],places) :=
 ⟨[],by kernel_rfl⟩
set_option maxRecDepth 100000 in
theorem setsOrder_lifted (os : Os) (started : os.Started) (H : Type) (enc : TypeId × Value -> H) (F : Stop.Interp) :
  ReturnsInHanded {} Tryd.checked os 3 .any ((OpenSpec.ofChange Rows.setsOrderSpec).preRow enc Tryd.prog Tryd.f3 Rows.setsOrderRow.domain false Rows.setsOrderRow.laid) (((OpenSpec.ofChange Rows.setsOrderSpec).at F).post enc Tryd.prog Tryd.f3 false true false false):=by
 obtain ⟨places,hx⟩:=setsOrder_reads os enc
 refine returnsInHanded_of_row (C:=Tryd.checked) (s:=OpenSpec.ofChange Rows.setsOrderSpec) own_try started (by kernel_rfl) Tryd.func3
  (witness_row_at (enc:=enc) (C:=Tryd.checked) false (setsOrder_world os) #[.slice none 0 0] (World.laidAll_os _ _ _) (by kernel_rfl) (by kernel_rfl) (by kernel_rfl)
   (OpenSpec.preRow_of_cond 8 hx (by kernel_rfl) (fun k hk=>by cases hk) (by kernel_rfl) (setsOrder_met os))) ?_
 intro W base args ds gs before hval hW _ _ _ hL hsh _
 exact setsOrder_contract H enc W base args ds gs before hval hW hL hsh
theorem setsOrder_said : Rows.SetsOrderSaid :=
 OpenClaim.holds_of_cond 3 Tryd.f3 rfl rfl rfl rfl rfl rfl rfl ⟨rfl,rfl,rfl,rfl,rfl⟩ rfl rfl rfl rfl rfl (by kernel_rfl) Tryd.func3 (by kernel_rfl)
  (of_decide_eq_true (by kernel_rfl)) (by unfold Func.isWrapper; first | (rw [if_pos (by decide +kernel)]; kernel_rfl) | (rw [if_neg (by decide +kernel)]; exact ⟨rfl,rfl⟩))
  (fun os started H enc _ F=>by rw [OpenClaim.pre_eq_preRow]; exact setsOrder_lifted os started H enc F)
theorem setsOrder_plain (f : FuncId) (fn : Func) (hf : Tryd.pinned.checked.prog.funcNamed "groupcontrol/groupcontrollaw3.SetsOrder" = some f) (hfn : Tryd.pinned.checked.prog.funcs[f]? = some fn) :
  false = Tryd.pinned.checked.prog.looks [] /\ ∀ (j : Nat) t,fn.params[j]? = some t -> Tryd.pinned.checked.prog.wantsStandIn t = false:=by
 obtain rfl : f = 3 := Option.some.inj ((show Tryd.prog.funcNamed "groupcontrol/groupcontrollaw3.SetsOrder" = some 3 by kernel_rfl).symm.trans hf) |>.symm
 obtain rfl : fn = Tryd.f3:=(Option.some.inj (Tryd.func3.symm.trans hfn)).symm
 refine ⟨by kernel_rfl,fun j t ht=>?_⟩
 rw [Tryd.params3] at ht
 obtain rfl : t = 22:=by simpa using Array.mem_of_getElem? ht
 exact (show Tryd.prog.wantsStandIn 22 = false by kernel_rfl)
theorem setsOrder_holds : Rows.SetsOrderCardSaid :=
 Claim7.holds_tied_plain_at .later [] _ _ _ _ setsOrder_said (fun _ h=>by cases h) (by kernel_rfl) (fun _ h=>by cases h) setsOrder_row_tie rfl ⟨rfl,rfl⟩ (by kernel_rfl) rfl setsOrder_plain (by kernel_rfl)
end Go.Proofs.YtddgomjodbmohaaDoor
