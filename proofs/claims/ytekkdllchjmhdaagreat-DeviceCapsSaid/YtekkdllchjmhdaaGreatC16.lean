/- Part 16 of the proof. -/
import Derived.Test.YtekkdllchjmhdaaGreatC10
import Derived.Test.YtekkdllchjmhdaaGreatC2
import Derived.Test.YtekkdllchjmhdaaGreatProg
import Derived.WalkKit
import Derived.LoopN
set_option linter.unusedSectionVars false
set_option linter.unusedSimpArgs false
set_option linter.unusedVariables false
open Option renaming some.injEq → osi
open Prod renaming mk.injEq → pmi
namespace Go.V
open Go.RowKit Go.Sort Go.Proofs Go.Shelf
theorem one_ok [GK] {P : Program} {f sz : Nat} (hw : ∀ (a : Addr) (c : Nat) (g : Value) (w : World),Calls P f #[.slice (some a) 1 c,g] w fun e w'=>e = .returned (.tuple #[]) /\ w' = w) {args : List VVal} {H : List Ob} {res : VVal} {H' : List Ob} (h : XOne sz args H = some (res,H')) : CallOK P f args H res H':=by
 unfold XOne at h
 split at h <;> try (cases h; done)
 rename_i g' k x
 obtain ⟨rfl,h⟩:=gd_eq h
 simp only [osi,pmi] at h
 obtain ⟨rfl,rfl⟩:=h
 intro G w cargs hinv hgd hlen hargs _
 have hsize : cargs.size = 2:=by simpa using hlen.symm
 obtain ⟨c,g,hc⟩ : ∃ c g,cargs = #[c,g]:=by
  match hcl : cargs.toList with
  | [c,g]=>exact ⟨c,g,by rw [<- Array.toList_inj,hcl]⟩
  | []=>simp [<- Array.length_toList,hcl] at hsize
  | [_]=>simp [<- Array.length_toList,hcl] at hsize
  | _ :: _ :: _ :: _=>simp [<- Array.length_toList,hcl] at hsize
 subst hc
 obtain ⟨a,cap,rfl,harg⟩:=sort_arg hinv (hargs 0 _ c rfl rfl) rfl
 rcases harg with h1 | ⟨rfl,_⟩
 ·cases h1
 ·refine (hw _ cap g w).mono fun e w' ⟨he,hw⟩=>?_
  subst he
  subst hw
  exact ⟨.tuple #[],G,_,[],rfl,Step.refl _ _ _,hinv,⟨#[],rfl,rfl,fun i v c h=>by simp at h⟩,by simp [outs,outsT,outO,argOwns,enterH,nodupB,capsApart,capIds1,capIds0,gd,mapO,ob],by simp [outH,outBox,enterH,ob]⟩
set_option maxHeartbeats 4000000 in
set_option maxRecDepth 100000 in
theorem walkOneW (a : Addr) (c : Nat) (f : Value) (w : World) : Calls Tryz.prog 157 #[.slice (some a) 1 c,f] w fun e w'=>e = .returned (.tuple #[]) /\ w' = w:=by
 go_enter Tryz.func157,Tryz.ntmps157
 go_wp2
 refine wp_loop_rounds 1 ?_
 rw [rounds_succ]
 go_wp2
 refine wp_loop_rounds 1 ?_
 rw [rounds_succ]
 go_wp2
 go_end0
 go_wp2
 first | go_end0 | refine bodyPost_ret (results_none rfl _ _ _) rfl ?_
 go_wp2
 go_end0
 exact ⟨rfl,rfl⟩
theorem XOneW_ok [GK] {args : List VVal} {H : List Ob} {res : VVal} {H' : List Ob} (h : XOne 2 args H = some (res,H')) : CallOK Tryz.prog 157 args H res H':=one_ok walkOneW h
set_option maxHeartbeats 4000000 in
set_option maxRecDepth 100000 in
theorem walkOneC (a : Addr) (c : Nat) (f : Value) (w : World) : Calls Tryz.prog 162 #[.slice (some a) 1 c,f] w fun e w'=>e = .returned (.tuple #[]) /\ w' = w:=by
 go_enter Tryz.func162,Tryz.ntmps162
 go_wp2
 refine wp_loop_rounds 1 ?_
 rw [rounds_succ]
 go_wp2
 refine wp_loop_rounds 1 ?_
 rw [rounds_succ]
 go_wp2
 go_end0
 go_wp2
 first | go_end0 | refine bodyPost_ret (results_none rfl _ _ _) rfl ?_
 go_wp2
 go_end0
 exact ⟨rfl,rfl⟩
theorem XOneC_ok [GK] {args : List VVal} {H : List Ob} {res : VVal} {H' : List Ob} (h : XOne 21 args H = some (res,H')) : CallOK Tryz.prog 162 args H res H':=one_ok walkOneC h
set_option maxHeartbeats 4000000 in
set_option maxRecDepth 100000 in
theorem walkOneD (a : Addr) (c : Nat) (f : Value) (w : World) : Calls Tryz.prog 166 #[.slice (some a) 1 c,f] w fun e w'=>e = .returned (.tuple #[]) /\ w' = w:=by
 go_enter Tryz.func166,Tryz.ntmps166
 go_wp2
 refine wp_loop_rounds 1 ?_
 rw [rounds_succ]
 go_wp2
 refine wp_loop_rounds 1 ?_
 rw [rounds_succ]
 go_wp2
 go_end0
 go_wp2
 first | go_end0 | refine bodyPost_ret (results_none rfl _ _ _) rfl ?_
 go_wp2
 go_end0
 exact ⟨rfl,rfl⟩
theorem XOneD_ok [GK] {args : List VVal} {H : List Ob} {res : VVal} {H' : List Ob} (h : XOne 3 args H = some (res,H')) : CallOK Tryz.prog 166 args H res H':=one_ok walkOneD h
end Go.V
