/- Part 15 of the proof. -/
import Derived.Test.YtkgkbbpakjdemaaGreatDoorA14
import Derived.Test.YtkgkbbpakjdemaaGreatDoorA4
import Derived.Shelf.Strconv.Itoa3
import Derived.Shelf.Strings.Cut
set_option linter.unusedSectionVars false
set_option linter.unusedSimpArgs false
set_option linter.unusedVariables false
open Nat renaming le_refl → lrf
open Option renaming some.injEq → osi
open Prod renaming mk.injEq → pmi
namespace Go.V
open Go.RowKit Go.Sort Go.Proofs Go.Shelf
section
variable [GK]
theorem below_grown (w : World) (k : Nat) (os : Array Obj) : Below w.heap.size w (grow (w.drewN k) os) :=
 ⟨rfl,rfl,rfl,by simp [grow],fun b hb=>by simp only [grow,World.heap_drewN]; exact Array.getElem?_append_left hb⟩
theorem XItoa_ok {P : Program} {ρ : Ren} (L : LaysM.n171 P ρ) (hT : ∀ w, Keep w → Lib.TabIs P w "internal/strconv.uint64pow10" .u64 Lib.pow10Tab) {args : List VVal} {H : List Ob} {res : VVal} {H' : List Ob} (h : XItoa args H = some (res, H')) : CallOK P (ρ.f 171) args H res H' := by
 unfold XItoa at h
 split at h <;> try (cases h; done)
 rename_i n
 obtain ⟨hn,h⟩:=gd_eq h
 simp only [osi,pmi] at h
 obtain ⟨rfl,rfl⟩:=h
 intro G w cargs hinv hgd hlen hargs _
 obtain ⟨c,rfl⟩:=args1 hlen
 have hc:=vrel_int (hargs 0 _ c rfl rfl)
 subst hc
 refine (Any.strconv_Itoa L n hn.1 hn.2 w (hT w hgd.keep)).mono fun e w' ⟨he,k,os,hw⟩=>?_
 subst he
 have hb : Below w.heap.size w w':=by subst hw; exact below_grown ..
 exact ⟨_,_,_,[.p (.str (itoaS n))],rfl,Step.grown hinv hb,hinv.grown hb,vrel_mkStr _,by simp [outs,outsT,outO,ownIds1,ownIds0,argOwns,nodupB,capsApart,capIds1,capIds0,gd,out1,out0],by simp [outH]⟩
theorem XCut_ok {P : Program} {ρ : Ren} (L : Lays.n145 P ρ) (hM : ∀ w,Keep w -> ∃ m,w.cell? ⟨(ρ.g 1),0,none⟩ = some (.int .i64 m)) {args : List VVal} {H : List Ob} {res : VVal} {H' : List Ob} (h : XCut args H = some (res,H')) : CallOK P (ρ.f 145) args H res H':=by
 unfold XCut at h
 split at h <;> try (cases h; done)
 rename_i s sep
 obtain ⟨hs,h⟩:=gd_eq h
 simp only [osi,pmi] at h
 obtain ⟨rfl,rfl⟩:=h
 intro G w cargs hinv hgd hlen hargs _
 obtain ⟨c,d,rfl⟩:=args2 hlen
 have hc:=vrel_str (hargs 0 _ c rfl rfl)
 have hd:=vrel_str (hargs 1 _ d rfl rfl)
 subst hc
 subst hd
 obtain ⟨m,hm⟩:=hM w hgd.keep
 refine (Any.strings_Cut L s sep m w hs hm).mono fun e w' ⟨he,n,hw⟩=>?_
 subst he
 have hb : Below w.heap.size w w':=by subst hw; exact ⟨rfl,rfl,rfl,lrf _,fun _ _=>rfl⟩
 refine ⟨_,_,_,[.p (.str ⟨(cutS s sep).1.toArray⟩),.p (.str ⟨(cutS s sep).2.1.toArray⟩),.p (.bool (cutS s sep).2.2)],rfl,Step.grown hinv hb,hinv.grown hb,⟨_,rfl,rfl,fun i v c hv hc=>?_⟩,by simp [outs,outsT,ownIds1,ownIds0,argOwns,nodupB,capsApart,capIds1,capIds0,gd,out1,out0,mapO,ob],by simp [outH]⟩
 match i with
 | 0=>simp at hv hc; subst hv; subst hc; exact vrel_mkStr _
 | 1=>simp at hv hc; subst hv; subst hc; exact vrel_mkStr _
 | 2=>simp at hv hc; subst hv; subst hc; exact vrel_mkBool _
 | n + 3=>simp at hv
end
end Go.V
