/- ControlWrites holds: for every input the call of the law returns true, and each argument reads afterwards as it read before, where the listed package-level variables hold what the program's text lays. No other conditions. -/
import Derived.Test.YtddgomjodbmohaaGreatDoorCards
import Derived.Test.YtddgomjodbmohaaGreatDoorTie
import Derived.Test.YtddgomjodbmohaaGreatDoorB4
import Derived.Test.YtddgomjodbmohaaGreatDoorB14
import Derived.WalkKit
import Derived.ProofKit
import Derived.OpenShut
import Derived.Deep.DeepHandedRow
import Derived.Lib.LaidTab
import Derived.LaidMore
import Derived.Lay
import Derived.SevenTiedAt
import Derived.Stop.Joined
import Derived.Stop.LaidErr
set_option linter.unusedSectionVars false
set_option linter.unusedSimpArgs false
set_option linter.unusedVariables false
open List renaming getElem?_eq_getElem → lgg, mem_cons → lmk
namespace Go.Proofs.YtddgomjodbmohaaGreatDoor
open Go.ChangeShapes Go.WideShapes Go.ChangeAt Go.RowKit Go.V
theorem wf64 {n : Int} (h : (Lit.int .i64 n).wf = true) : n < 9223372036854775808:=by
 simp [Lit.wf,IntKind.min,IntKind.max,IntKind.signed,IntKind.bits] at h
 omega
theorem tabs_controlWrites {W : World} (h : laidMetH Tryz.prog Rows.controlWritesRow.laid W) : TabAt 1 Lib.deBruijn64tab W:=by
 rw [MakeChecks.laidMetH_plain _ _ _ (by kernel_rfl)] at h
 have h1:=laidMet.tail h
 have ht : Lib.TabIs Tryz.prog W "math/bits.deBruijn64tab" .u8 (List.map (fun n : Nat => (n : Int)) Lib.deBruijn64tab) :=
  Lib.tabIs_of_head (e:=5) (t:=180) (n:=64) (g:=1) (by kernel_rfl) (by kernel_rfl) Tryz.underlying180 Tryz.underlying5 (by kernel_rfl) (by kernel_rfl) h1
 intro j hj
 have:=ht.cell (g:=1) (by kernel_rfl) j (by simpa using hj)
 rw [this]
 have hj' : Lib.deBruijn64tab[j]? = some Lib.deBruijn64tab[j]:=lgg hj
 simp [List.getD_eq_getElem?_getD,hj']
theorem controlWrites_fit : Tryz.f6.params.toList.all (fitB Tryz.prog) = true:=by kernel_rfl
theorem controlWrites_u22 : Tryz.prog.underlying 22 = some (.slice 3):=by kernel_rfl
theorem controlWrites_u3 : Tryz.prog.underlying 3 = some (.int .i64):=by kernel_rfl
theorem controlWrites_call : ∀ us : List VVal,us.length = Tryz.f6.params.toList.length -> (∀ (i : Nat) (t : TypeId) (u : VVal),Tryz.f6.params.toList[i]? = some t -> us[i]? = some u -> Fit Tryz.prog t u) -> V 6 us [] = some (.p (.bool true),[]):=by
 intro us hlen hfit
 rw [Tryz.params6] at hlen hfit
 match us,hlen with
 | [x0,x1,x2,x3],_ =>
  obtain ⟨a0,rfl,w0⟩:=(hfit 0 22 x0 rfl rfl).isInts controlWrites_u22 controlWrites_u3
  obtain ⟨a1,rfl,w1⟩:=(hfit 1 3 x1 rfl rfl).isInt controlWrites_u3
  obtain ⟨a2,rfl,w2⟩:=(hfit 2 3 x2 rfl rfl).isInt controlWrites_u3
  obtain ⟨a3,rfl,w3⟩:=(hfit 3 3 x3 rfl rfl).isInt controlWrites_u3
  exact controlWrites_eq a0 a1 a2 a3 (wf64 w2) (wf64 w3)
set_option maxRecDepth 100000 in
theorem controlWrites_contract (H : Type) (enc : TypeId × Value -> H) (W : World) (base : Nat) (args : Array Value) (ds gs : List (DataW H)) (before : List MemPlace)
  (hval : ∀ (j : Nat) t v,Tryz.f6.params[j]? = some t -> args[j]? = some v -> Value.okWide Tryz.prog W .any base t v)
  (hW : DataW.Whole enc Tryz.prog Tryz.f6.params.toList Rows.controlWritesSpec.vars false W args.toList ds gs before) (hL : laidMetH Tryz.prog Rows.controlWritesRow.laid W) (hsh : W.ShapedOpen Tryz.prog) :
  Calls Tryz.prog 6 args W fun e W'=>∃ v,e = .returned v /\ Rows.controlWritesSpec.post enc Tryz.prog Tryz.f6 false true false false W args v W':=by
 have hW':=hW
 obtain ⟨p,q,hA0,hV,hbe,_,_⟩:=hW
 have hA : DataW.TrodAll enc Tryz.prog W 0 (fun _=>true) true Tryz.f6.params.toList args.toList ds p:=hA0
 obtain ⟨m,hm⟩:=maxLen_int hsh
 have hT:=tabs_controlWrites hL
 letI:=gkOf W 5
 have hS : CallsSound Tryz.prog V:=V_sound (fun w hk=>⟨m,keep_cell (n:=5) (by omega) hm w hk⟩) fun w hk j hj=>keep_cell (n:=5) (by omega) (hT j hj) w hk
 refine (law_calls hS (gkOf_at (n:=5)) controlWrites_fit (fun j t v ht hv=>hval j t v (by simpa using ht) hv) hA controlWrites_call).mono fun e W' ⟨he,hb⟩=>?_
 subst he
 have hlen:=trodAll_len hA
 rw [Tryz.params6] at hlen
 obtain ⟨hgs,_⟩:=trodVars_none hV
 have hfn : ∀ ds : List (DataW H),ds.length = 4 -> (Rows.controlWritesSpec.fn H (ds ++ [])).results = [.lit (.bool true)] /\ (Rows.controlWritesSpec.fn H (ds ++ [])).args = ds /\ (Rows.controlWritesSpec.fn H (ds ++ [])).vars = []:=by
  intro ds hl
  match ds,hl with
  | [_,_,_,_],_=>exact ⟨rfl,rfl,rfl⟩
 obtain ⟨e1,e2,e3⟩:=hfn ds hlen
 exact ⟨_,rfl,law_post laid_try hW' rfl controlWrites_fit hA hV hbe (t:=4) (by kernel_rfl) (by kernel_rfl) (by rw [hgs]; exact e1) (by rw [hgs]; exact e2) (by rw [hgs]; exact e3) hb⟩
noncomputable def controlWrites_world (os : Os) : World:=World.laidAll Tryz.prog os Rows.controlWritesRow.laid
theorem controlWrites_met (os : Os) : laidMetH Tryz.prog Rows.controlWritesRow.laid ((controlWrites_world os).forCall (fun _ _=>0) ⟨#[],#[.slice none 0 0,.int .i64 0,.int .i64 0,.int .i64 0],[]⟩).memory:=by
 rw [MakeChecks.laidMetH_plain _ _ _ (by kernel_rfl)]
 exact laidMet_laidAll _ (by kernel_rfl) (by kernel_rfl)
theorem controlWrites_reads (os : Os) {H : Type} (enc : TypeId × Value -> H) : ∃ places,DataW.whole enc Tryz.prog ((controlWrites_world os).forCall (fun _ _=>0) ⟨#[],#[.slice none 0 0,.int .i64 0,.int .i64 0,.int .i64 0],[]⟩).memory Tryz.f6.params.toList Rows.controlWritesSpec.vars false #[Value.slice none 0 0,Value.int .i64 0,Value.int .i64 0,Value.int .i64 0].toList 8 = some ([.nil,.lit (.int .i64 0),.lit (.int .i64 0),.lit (.int .i64 0)],[],places) :=
 ⟨[],by kernel_rfl⟩
set_option maxRecDepth 100000 in
theorem controlWrites_lifted (os : Os) (started : os.Started) (H : Type) (enc : TypeId × Value -> H) (F : Stop.Interp) :
  ReturnsInHanded {} Tryz.checked os 6 .any ((OpenSpec.ofChange Rows.controlWritesSpec).preRow enc Tryz.prog Tryz.f6 Rows.controlWritesRow.domain false Rows.controlWritesRow.laid) (((OpenSpec.ofChange Rows.controlWritesSpec).at F).post enc Tryz.prog Tryz.f6 false true false false):=by
 obtain ⟨places,hx⟩:=controlWrites_reads os enc
 refine returnsInHanded_of_row (C:=Tryz.checked) (s:=OpenSpec.ofChange Rows.controlWritesSpec) own_try started (by kernel_rfl) Tryz.func6
  (witness_row_at (enc:=enc) (C:=Tryz.checked) false (controlWrites_world os) #[.slice none 0 0,.int .i64 0,.int .i64 0,.int .i64 0] (World.laidAll_os _ _ _) (by kernel_rfl) (by kernel_rfl) (by kernel_rfl)
   (OpenSpec.preRow_of_cond 8 hx (by kernel_rfl) (fun k hk=>by cases hk) (by kernel_rfl) (controlWrites_met os))) ?_
 intro W base args ds gs before hval hW _ _ _ hL hsh _
 exact controlWrites_contract H enc W base args ds gs before hval hW hL hsh
theorem controlWrites_said : Rows.ControlWritesSaid :=
 OpenClaim.holds_of_cond 6 Tryz.f6 rfl rfl rfl rfl rfl rfl rfl ⟨rfl,rfl,rfl,rfl,rfl⟩ rfl rfl rfl rfl rfl (by kernel_rfl) Tryz.func6 (by kernel_rfl)
  (of_decide_eq_true (by kernel_rfl)) (by unfold Func.isWrapper; first | (rw [if_pos (by decide +kernel)]; kernel_rfl) | (rw [if_neg (by decide +kernel)]; exact ⟨rfl,rfl⟩))
  (fun os started H enc _ F=>by rw [OpenClaim.pre_eq_preRow]; exact controlWrites_lifted os started H enc F)
theorem controlWrites_plain (f : FuncId) (fn : Func) (hf : Tryz.pinned.checked.prog.funcNamed "groupcontrol/groupcontrollaw7.ControlWrites" = some f) (hfn : Tryz.pinned.checked.prog.funcs[f]? = some fn) :
  false = Tryz.pinned.checked.prog.looks [] /\ ∀ (j : Nat) t,fn.params[j]? = some t -> Tryz.pinned.checked.prog.wantsStandIn t = false:=by
 obtain rfl : f = 6 := Option.some.inj ((show Tryz.prog.funcNamed "groupcontrol/groupcontrollaw7.ControlWrites" = some 6 by kernel_rfl).symm.trans hf) |>.symm
 obtain rfl : fn = Tryz.f6:=(Option.some.inj (Tryz.func6.symm.trans hfn)).symm
 refine ⟨by kernel_rfl,fun j t ht=>?_⟩
 rw [Tryz.params6] at ht
 have hm:=Array.mem_of_getElem? ht
 simp only [List.mem_toArray,lmk,List.not_mem_nil,or_false] at hm
 rcases hm with rfl | rfl | rfl | rfl
 .exact (show Tryz.prog.wantsStandIn 22 = false by kernel_rfl)
 .exact (show Tryz.prog.wantsStandIn 3 = false by kernel_rfl)
 .exact (show Tryz.prog.wantsStandIn 3 = false by kernel_rfl)
 .exact (show Tryz.prog.wantsStandIn 3 = false by kernel_rfl)
theorem controlWrites_holds : Rows.ControlWritesCardSaid :=
 Claim7.holds_tied_plain_at .later [] _ _ _ _ controlWrites_said (fun _ h=>by cases h) (by kernel_rfl) (fun _ h=>by cases h) controlWrites_row_tie rfl ⟨rfl,rfl⟩ (by kernel_rfl) rfl controlWrites_plain (by kernel_rfl)
end Go.Proofs.YtddgomjodbmohaaGreatDoor
