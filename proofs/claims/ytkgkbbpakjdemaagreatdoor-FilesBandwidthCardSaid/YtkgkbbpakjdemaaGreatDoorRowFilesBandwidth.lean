/- FilesBandwidth holds: for every input the call of the law returns true, and each argument reads afterwards as it read before, where the listed package-level variables hold what the program's text lays. No other conditions. -/
import Derived.Test.YtkgkbbpakjdemaaGreatDoorCards
import Derived.Test.YtkgkbbpakjdemaaGreatDoorTie
import Derived.Test.YtkgkbbpakjdemaaGreatDoorA18
import Derived.WalkKit
import Derived.ProofKit
import Derived.OpenShut
import Derived.Deep.DeepHandedRow
import Derived.Lib.LaidTab
import Derived.LaidMore
import Derived.Lay
import Derived.SevenTiedAt
import Derived.Stop.Joined
import Derived.Stop.LaidErr
set_option linter.unusedSectionVars false
set_option linter.unusedSimpArgs false
set_option linter.unusedVariables false
open List renaming mem_cons → lmk
namespace Go.Proofs.YtkgkbbpakjdemaaGreatDoor
open Go.ChangeShapes Go.WideShapes Go.ChangeAt Go.RowKit Go.V
theorem tabs_filesBandwidth {W : World} (h : laidMetH Tryz.prog Rows.filesBandwidthRow.laid W) : Lib.TabIs Tryz.prog W "internal/strconv.uint64pow10" .u64 Lib.pow10Tab := by
 rw [MakeChecks.laidMetH_plain _ _ _ (by kernel_rfl)] at h
 have h1:=laidMet.tail (laidMet.tail h)
 exact Lib.tabIs_of_head (e:=146) (t:=160) (n:=20) (g:=1) (by kernel_rfl) (by kernel_rfl) Tryz.underlying160 Tryz.underlying146 (by kernel_rfl) (by kernel_rfl) h1
theorem filesBandwidth_fit : Tryz.f3.params.toList.all (fitB Tryz.prog) = true:=by kernel_rfl
theorem filesBandwidth_u22 : Tryz.prog.underlying 22 = some (.slice 3):=by kernel_rfl
theorem filesBandwidth_u3 : Tryz.prog.underlying 3 = some (.int .i64):=by kernel_rfl
theorem filesBandwidth_u23 : Tryz.prog.underlying 23 = some (.int .u16):=by kernel_rfl
theorem filesBandwidth_call : ∀ us : List VVal,us.length = Tryz.f3.params.toList.length -> (∀ (i : Nat) (t : TypeId) (u : VVal),Tryz.f3.params.toList[i]? = some t -> us[i]? = some u -> Fit Tryz.prog t u) -> V 3 us [] = some (.p (.bool true),[]):=by
 intro us hlen hfit
 rw [Tryz.params3] at hlen hfit
 match us,hlen with
 | [x0,x1,x2],_ =>
  obtain ⟨a0,rfl,w0⟩:=(hfit 0 22 x0 rfl rfl).isInts filesBandwidth_u22 filesBandwidth_u3
  obtain ⟨a1,rfl,w1⟩:=(hfit 1 23 x1 rfl rfl).isInt filesBandwidth_u23
  obtain ⟨a2,rfl,w2⟩:=(hfit 2 23 x2 rfl rfl).isInt filesBandwidth_u23
  exact filesBandwidth_eq a0 a1 a2 (u16_range w1).1 (u16_range w1).2 (u16_range w2).1 (u16_range w2).2
set_option maxRecDepth 100000 in
theorem filesBandwidth_contract (H : Type) (enc : TypeId × Value -> H) (W : World) (base : Nat) (args : Array Value) (ds gs : List (DataW H)) (before : List MemPlace)
  (hval : ∀ (j : Nat) t v,Tryz.f3.params[j]? = some t -> args[j]? = some v -> Value.okWide Tryz.prog W .any base t v)
  (hW : DataW.Whole enc Tryz.prog Tryz.f3.params.toList Rows.filesBandwidthSpec.vars false W args.toList ds gs before) (hL : laidMetH Tryz.prog Rows.filesBandwidthRow.laid W) (hsh : W.ShapedOpen Tryz.prog) :
  Calls Tryz.prog 3 args W fun e W'=>∃ v,e = .returned v /\ Rows.filesBandwidthSpec.post enc Tryz.prog Tryz.f3 false true false false W args v W':=by
 have hW':=hW
 obtain ⟨p,q,hA0,hV,hbe,_,_⟩:=hW
 have hA : DataW.TrodAll enc Tryz.prog W 0 (fun _=>true) true Tryz.f3.params.toList args.toList ds p:=hA0
 obtain ⟨m,hm⟩:=maxLen_int hsh
 have hT:=tabs_filesBandwidth hL
 letI:=gkOf W 2
 have hS : CallsSound Tryz.prog V:=V_sound (fun w hk=>⟨m,keep_cell (n:=2) (g:=0) (i:=0) (by omega) hm w hk⟩) (keep_tab (n:=2) (g:=1) (by kernel_rfl) (by omega) hT)
 refine (law_calls hS (gkOf_at (n:=2)) filesBandwidth_fit (fun j t v ht hv=>hval j t v (by simpa using ht) hv) hA filesBandwidth_call).mono fun e W' ⟨he,hb⟩=>?_
 subst he
 have hlen:=trodAll_len hA
 rw [Tryz.params3] at hlen
 obtain ⟨hgs,_⟩:=trodVars_none hV
 have hfn : ∀ ds : List (DataW H),ds.length = 3 -> (Rows.filesBandwidthSpec.fn H (ds ++ [])).results = [.lit (.bool true)] /\ (Rows.filesBandwidthSpec.fn H (ds ++ [])).args = ds /\ (Rows.filesBandwidthSpec.fn H (ds ++ [])).vars = []:=by
  intro ds hl
  match ds,hl with
  | [_,_,_],_=>exact ⟨rfl,rfl,rfl⟩
 obtain ⟨e1,e2,e3⟩:=hfn ds hlen
 exact ⟨_,rfl,law_post laid_try hW' rfl filesBandwidth_fit hA hV hbe (t:=4) (by kernel_rfl) (by kernel_rfl) (by rw [hgs]; exact e1) (by rw [hgs]; exact e2) (by rw [hgs]; exact e3) hb⟩
noncomputable def filesBandwidth_world (os : Os) : World:=World.laidAll Tryz.prog os Rows.filesBandwidthRow.laid
theorem filesBandwidth_met (os : Os) : laidMetH Tryz.prog Rows.filesBandwidthRow.laid ((filesBandwidth_world os).forCall (fun _ _=>0) ⟨#[],#[.slice none 0 0,.int .u16 0,.int .u16 0],[]⟩).memory:=by
 rw [MakeChecks.laidMetH_plain _ _ _ (by kernel_rfl)]
 exact laidMet_laidAll _ (by kernel_rfl) (by kernel_rfl)
theorem filesBandwidth_reads (os : Os) {H : Type} (enc : TypeId × Value -> H) : ∃ places,DataW.whole enc Tryz.prog ((filesBandwidth_world os).forCall (fun _ _=>0) ⟨#[],#[.slice none 0 0,.int .u16 0,.int .u16 0],[]⟩).memory Tryz.f3.params.toList Rows.filesBandwidthSpec.vars false #[Value.slice none 0 0,Value.int .u16 0,Value.int .u16 0].toList 8 = some ([.nil,.lit (.int .u16 0),.lit (.int .u16 0)],[],places) :=
 ⟨[],by kernel_rfl⟩
set_option maxRecDepth 100000 in
theorem filesBandwidth_lifted (os : Os) (started : os.Started) (H : Type) (enc : TypeId × Value -> H) (F : Stop.Interp) :
  ReturnsInHanded {} Tryz.checked os 3 .any ((OpenSpec.ofChange Rows.filesBandwidthSpec).preRow enc Tryz.prog Tryz.f3 Rows.filesBandwidthRow.domain false Rows.filesBandwidthRow.laid) (((OpenSpec.ofChange Rows.filesBandwidthSpec).at F).post enc Tryz.prog Tryz.f3 false true false false):=by
 obtain ⟨places,hx⟩:=filesBandwidth_reads os enc
 refine returnsInHanded_of_row (C:=Tryz.checked) (s:=OpenSpec.ofChange Rows.filesBandwidthSpec) own_try started (by kernel_rfl) Tryz.func3
  (witness_row_at (enc:=enc) (C:=Tryz.checked) false (filesBandwidth_world os) #[.slice none 0 0,.int .u16 0,.int .u16 0] (World.laidAll_os _ _ _) (by kernel_rfl) (by kernel_rfl) (by kernel_rfl)
   (OpenSpec.preRow_of_cond 8 hx (by kernel_rfl) (fun k hk=>by cases hk) (by kernel_rfl) (filesBandwidth_met os))) ?_
 intro W base args ds gs before hval hW _ _ _ hL hsh _
 exact filesBandwidth_contract H enc W base args ds gs before hval hW hL hsh
theorem filesBandwidth_said : Rows.FilesBandwidthSaid :=
 OpenClaim.holds_of_cond 3 Tryz.f3 rfl rfl rfl rfl rfl rfl rfl ⟨rfl,rfl,rfl,rfl,rfl⟩ rfl rfl rfl rfl rfl (by kernel_rfl) Tryz.func3 (by kernel_rfl)
  (of_decide_eq_true (by kernel_rfl)) (by unfold Func.isWrapper; first | (rw [if_pos (by decide +kernel)]; kernel_rfl) | (rw [if_neg (by decide +kernel)]; exact ⟨rfl,rfl⟩))
  (fun os started H enc _ F=>by rw [OpenClaim.pre_eq_preRow]; exact filesBandwidth_lifted os started H enc F)
theorem filesBandwidth_plain (f : FuncId) (fn : Func) (hf : Tryz.pinned.checked.prog.funcNamed "groupcontrol/groupcontrollaw12.FilesBandwidth" = some f) (hfn : Tryz.pinned.checked.prog.funcs[f]? = some fn) :
  false = Tryz.pinned.checked.prog.looks [] /\ ∀ (j : Nat) t,fn.params[j]? = some t -> Tryz.pinned.checked.prog.wantsStandIn t = false:=by
 obtain rfl : f = 3 := Option.some.inj ((show Tryz.prog.funcNamed "groupcontrol/groupcontrollaw12.FilesBandwidth" = some 3 by kernel_rfl).symm.trans hf) |>.symm
 obtain rfl : fn = Tryz.f3:=(Option.some.inj (Tryz.func3.symm.trans hfn)).symm
 refine ⟨by kernel_rfl,fun j t ht=>?_⟩
 rw [Tryz.params3] at ht
 have hm:=Array.mem_of_getElem? ht
 simp only [List.mem_toArray,lmk,List.not_mem_nil,or_false] at hm
 rcases hm with rfl | rfl | rfl
 .exact (show Tryz.prog.wantsStandIn 22 = false by kernel_rfl)
 .exact (show Tryz.prog.wantsStandIn 23 = false by kernel_rfl)
 .exact (show Tryz.prog.wantsStandIn 23 = false by kernel_rfl)
theorem filesBandwidth_holds : Rows.FilesBandwidthCardSaid :=
 Claim7.holds_tied_plain_at .later [] _ _ _ _ filesBandwidth_said (fun _ h=>by cases h) (by kernel_rfl) (fun _ h=>by cases h) filesBandwidth_row_tie rfl ⟨rfl,rfl⟩ (by kernel_rfl) rfl filesBandwidth_plain (by kernel_rfl)
end Go.Proofs.YtkgkbbpakjdemaaGreatDoor
