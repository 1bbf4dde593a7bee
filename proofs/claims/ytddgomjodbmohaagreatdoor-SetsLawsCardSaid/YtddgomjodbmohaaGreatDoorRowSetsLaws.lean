/- SetsLaws holds: for every input the call of the law returns true, and each argument reads afterwards as it read before, where the listed package-level variables hold what the program's text lays. No other conditions. -/
import Derived.Test.YtddgomjodbmohaaGreatDoorCards
import Derived.Test.YtddgomjodbmohaaGreatDoorTie
import Derived.Test.YtddgomjodbmohaaGreatDoorC5
import Derived.Test.YtddgomjodbmohaaGreatDoorC17
import Derived.WalkKit
import Derived.ProofKit
import Derived.OpenShut
import Derived.Deep.DeepHandedRow
import Derived.Lib.LaidTab
import Derived.LaidMore
import Derived.Lay
import Derived.SevenTiedAt
import Derived.Stop.Joined
import Derived.Stop.LaidErr
set_option linter.unusedSectionVars false
set_option linter.unusedSimpArgs false
set_option linter.unusedVariables false
open List renaming append_nil → lan, mem_cons → lmk
namespace Go.Proofs.YtddgomjodbmohaaGreatDoor
open Go.ChangeShapes Go.WideShapes Go.ChangeAt Go.RowKit Go.V
theorem tabs_setsLaws {W : World} (h : laidMetH Tryz.prog Rows.setsLawsRow.laid W) : Lib.TabIs Tryz.prog W "internal/strconv.uint64pow10" .u64 Lib.pow10Tab := by
 rw [MakeChecks.laidMetH_plain _ _ _ (by kernel_rfl)] at h
 have h1:=laidMet.tail (laidMet.tail h)
 exact Lib.tabIs_of_head (e:=159) (t:=202) (n:=20) (g:=3) (by kernel_rfl) (by kernel_rfl) Tryz.underlying202 Tryz.underlying159 (by kernel_rfl) (by kernel_rfl) h1
theorem setsLaws_fit : Tryz.f7.params.toList.all (fitB Tryz.prog) = true:=by kernel_rfl
theorem setsLaws_bytes : Tryz.f7.params.toList.all (bytesB Tryz.prog) = true:=by kernel_rfl
theorem setsLaws_u22 : Tryz.prog.underlying 22 = some (.slice 3):=by kernel_rfl
theorem setsLaws_u3 : Tryz.prog.underlying 3 = some (.int .i64):=by kernel_rfl
theorem setsLaws_call : ∀ us : List VVal,us.length = Tryz.f7.params.toList.length -> (∀ (i : Nat) (t : TypeId) (u : VVal),Tryz.f7.params.toList[i]? = some t -> us[i]? = some u -> Fit Tryz.prog t u) -> (∀ (i : Nat) (t : TypeId) (u : VVal),Tryz.f7.params.toList[i]? = some t -> us[i]? = some u -> SizedOK Tryz.prog t u) -> V 7 us [] = some (.p (.bool true),[]):=by
 intro us hlen hfit hsz
 rw [Tryz.params7] at hlen hfit hsz
 match us,hlen with
 | [x0,x1,x2],_ =>
  obtain ⟨a0,rfl,w0⟩:=(hfit 0 22 x0 rfl rfl).isInts setsLaws_u22 setsLaws_u3
  obtain ⟨a1,rfl,w1⟩:=(hfit 1 22 x1 rfl rfl).isInts setsLaws_u22 setsLaws_u3
  obtain ⟨a2,rfl,w2⟩:=(hfit 2 22 x2 rfl rfl).isInts setsLaws_u22 setsLaws_u3
  have q0 : a0.length <= 140737488351232:=by simpa [reachBytes] using hsz 0 22 _ rfl rfl 3 .i64 _ setsLaws_u22 setsLaws_u3 rfl
  have q1 : a1.length <= 140737488351232:=by simpa [reachBytes] using hsz 1 22 _ rfl rfl 3 .i64 _ setsLaws_u22 setsLaws_u3 rfl
  exact setsLaws_eq a0 a1 a2 q0 q1
set_option maxRecDepth 100000 in
theorem setsLaws_contract (H : Type) (enc : TypeId × Value -> H) (W : World) (base : Nat) (args : Array Value) (ds gs : List (DataW H)) (before : List MemPlace)
  (hval : ∀ (j : Nat) t v,Tryz.f7.params[j]? = some t -> args[j]? = some v -> Value.okWide Tryz.prog W .any base t v)
  (hW : DataW.Whole enc Tryz.prog Tryz.f7.params.toList Rows.setsLawsSpec.vars false W args.toList ds gs before) (hz : (DataW.weightsEach Tryz.prog (Tryz.f7.params.toList ++ (OpenSpec.ofChange Rows.setsLawsSpec).bare.plain.varTypes Tryz.prog) (ds ++ gs)).all (· <= reachBytes) = true) (hL : laidMetH Tryz.prog Rows.setsLawsRow.laid W) (hsh : W.ShapedOpen Tryz.prog) :
  Calls Tryz.prog 7 args W fun e W'=>∃ v,e = .returned v /\ Rows.setsLawsSpec.post enc Tryz.prog Tryz.f7 false true false false W args v W':=by
 have hW':=hW
 obtain ⟨p,q,hA0,hV,hbe,_,_⟩:=hW
 have hA : DataW.TrodAll enc Tryz.prog W 0 (fun _=>true) true Tryz.f7.params.toList args.toList ds p:=hA0
 obtain ⟨m,hm⟩:=maxLen_int hsh
 have hT:=tabs_setsLaws hL
 letI:=gkOf W 5
 have hS : CallsSound Tryz.prog V:=V_sound (fun w hk=>⟨m,keep_cell (n:=5) (by omega) hm w hk⟩) (keep_tab (n:=5) (g:=3) (by kernel_rfl) (by omega) hT)
 have hgs0:=(trodVars_none hV).1
 have hz' : ∀ n ∈ DataW.weightsEach Tryz.prog Tryz.f7.params.toList ds,n <= reachBytes:=by
  rw [hgs0,lan,show (OpenSpec.ofChange Rows.setsLawsSpec).bare.plain.varTypes Tryz.prog = [] from rfl,lan] at hz
  intro n hn
  simpa using List.all_eq_true.1 hz n hn
 refine (law_calls_sized hS (gkOf_at (n:=5)) setsLaws_fit (fun j t v ht hv=>hval j t v (by simpa using ht) hv) hA setsLaws_bytes hz' setsLaws_call).mono fun e W' ⟨he,hb⟩=>?_
 subst he
 have hlen:=trodAll_len hA
 rw [Tryz.params7] at hlen
 obtain ⟨hgs,_⟩:=trodVars_none hV
 have hfn : ∀ ds : List (DataW H),ds.length = 3 -> (Rows.setsLawsSpec.fn H (ds ++ [])).results = [.lit (.bool true)] /\ (Rows.setsLawsSpec.fn H (ds ++ [])).args = ds /\ (Rows.setsLawsSpec.fn H (ds ++ [])).vars = []:=by
  intro ds hl
  match ds,hl with
  | [_,_,_],_=>exact ⟨rfl,rfl,rfl⟩
 obtain ⟨e1,e2,e3⟩:=hfn ds hlen
 exact ⟨_,rfl,law_post laid_try hW' rfl setsLaws_fit hA hV hbe (t:=4) (by kernel_rfl) (by kernel_rfl) (by rw [hgs]; exact e1) (by rw [hgs]; exact e2) (by rw [hgs]; exact e3) hb⟩
noncomputable def setsLaws_world (os : Os) : World:=World.laidAll Tryz.prog os Rows.setsLawsRow.laid
theorem setsLaws_met (os : Os) : laidMetH Tryz.prog Rows.setsLawsRow.laid ((setsLaws_world os).forCall (fun _ _=>0) ⟨#[],#[.slice none 0 0,.slice none 0 0,.slice none 0 0],[]⟩).memory:=by
 rw [MakeChecks.laidMetH_plain _ _ _ (by kernel_rfl)]
 exact laidMet_laidAll _ (by kernel_rfl) (by kernel_rfl)
theorem setsLaws_reads (os : Os) {H : Type} (enc : TypeId × Value -> H) : ∃ places,DataW.whole enc Tryz.prog ((setsLaws_world os).forCall (fun _ _=>0) ⟨#[],#[.slice none 0 0,.slice none 0 0,.slice none 0 0],[]⟩).memory Tryz.f7.params.toList Rows.setsLawsSpec.vars false #[Value.slice none 0 0,Value.slice none 0 0,Value.slice none 0 0].toList 8 = some ([.nil,.nil,.nil],[],places) :=
 ⟨[],by kernel_rfl⟩
set_option maxRecDepth 100000 in
theorem setsLaws_lifted (os : Os) (started : os.Started) (H : Type) (enc : TypeId × Value -> H) (F : Stop.Interp) :
  ReturnsInHanded {} Tryz.checked os 7 .any ((OpenSpec.ofChange Rows.setsLawsSpec).preRow enc Tryz.prog Tryz.f7 Rows.setsLawsRow.domain false Rows.setsLawsRow.laid) (((OpenSpec.ofChange Rows.setsLawsSpec).at F).post enc Tryz.prog Tryz.f7 false true false false):=by
 obtain ⟨places,hx⟩:=setsLaws_reads os enc
 refine returnsInHanded_of_row (C:=Tryz.checked) (s:=OpenSpec.ofChange Rows.setsLawsSpec) own_try started (by kernel_rfl) Tryz.func7
  (witness_row_at (enc:=enc) (C:=Tryz.checked) false (setsLaws_world os) #[.slice none 0 0,.slice none 0 0,.slice none 0 0] (World.laidAll_os _ _ _) (by kernel_rfl) (by kernel_rfl) (by kernel_rfl)
   (OpenSpec.preRow_of_cond 8 hx (by kernel_rfl) (fun k hk=>by cases hk) (by kernel_rfl) (setsLaws_met os))) ?_
 intro W base args ds gs before hval hW _ _ hz hL hsh _
 exact setsLaws_contract H enc W base args ds gs before hval hW hz hL hsh
theorem setsLaws_said : Rows.SetsLawsSaid :=
 OpenClaim.holds_of_cond 7 Tryz.f7 rfl rfl rfl rfl rfl rfl rfl ⟨rfl,rfl,rfl,rfl,rfl⟩ rfl rfl rfl rfl rfl (by kernel_rfl) Tryz.func7 (by kernel_rfl)
  (of_decide_eq_true (by kernel_rfl)) (by unfold Func.isWrapper; first | (rw [if_pos (by decide +kernel)]; kernel_rfl) | (rw [if_neg (by decide +kernel)]; exact ⟨rfl,rfl⟩))
  (fun os started H enc _ F=>by rw [OpenClaim.pre_eq_preRow]; exact setsLaws_lifted os started H enc F)
theorem setsLaws_plain (f : FuncId) (fn : Func) (hf : Tryz.pinned.checked.prog.funcNamed "groupcontrol/groupcontrollaw3.SetsLaws" = some f) (hfn : Tryz.pinned.checked.prog.funcs[f]? = some fn) :
  false = Tryz.pinned.checked.prog.looks [] /\ ∀ (j : Nat) t,fn.params[j]? = some t -> Tryz.pinned.checked.prog.wantsStandIn t = false:=by
 obtain rfl : f = 7 := Option.some.inj ((show Tryz.prog.funcNamed "groupcontrol/groupcontrollaw3.SetsLaws" = some 7 by kernel_rfl).symm.trans hf) |>.symm
 obtain rfl : fn = Tryz.f7:=(Option.some.inj (Tryz.func7.symm.trans hfn)).symm
 refine ⟨by kernel_rfl,fun j t ht=>?_⟩
 rw [Tryz.params7] at ht
 have hm:=Array.mem_of_getElem? ht
 simp only [List.mem_toArray,lmk,List.not_mem_nil,or_false] at hm
 rcases hm with rfl | rfl | rfl
 .exact (show Tryz.prog.wantsStandIn 22 = false by kernel_rfl)
 .exact (show Tryz.prog.wantsStandIn 22 = false by kernel_rfl)
 .exact (show Tryz.prog.wantsStandIn 22 = false by kernel_rfl)
theorem setsLaws_holds : Rows.SetsLawsCardSaid :=
 Claim7.holds_tied_plain_at .later [] _ _ _ _ setsLaws_said (fun _ h=>by cases h) (by kernel_rfl) (fun _ h=>by cases h) setsLaws_row_tie rfl ⟨rfl,rfl⟩ (by kernel_rfl) rfl setsLaws_plain (by kernel_rfl)
end Go.Proofs.YtddgomjodbmohaaGreatDoor
