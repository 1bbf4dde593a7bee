/- Part 16 of the proof. -/
import Derived.Test.YtkgkbbpakjdemaaGreatDoorA14
import Derived.Test.YtkgkbbpakjdemaaGreatDoorA5
import Derived.Shelf.Small.Strs
import Derived.Shelf.Strings.Prefix
set_option linter.unusedSectionVars false
set_option linter.unusedSimpArgs false
set_option linter.unusedVariables false
open Option renaming some.injEq → osi
open Prod renaming mk.injEq → pmi
namespace Go.V
open Go.RowKit Go.Sort Go.Proofs Go.Shelf
section
variable [GK]
theorem XIdxB_ok {P : Program} {ρ : Ren} (L : Lays.n137 P ρ) {args : List VVal} {H : List Ob} {res : VVal} {H' : List Ob} (h : XIdxB args H = some (res,H')) : CallOK P (ρ.f 137) args H res H':=by
 unfold XIdxB at h
 split at h <;> try (cases h; done)
 rename_i s c
 simp only [osi,pmi] at h
 obtain ⟨rfl,rfl⟩:=h
 intro G w cargs hinv hgd hlen hargs _
 obtain ⟨a,b,rfl⟩:=args2 hlen
 have ha:=vrel_str (hargs 0 _ a rfl rfl)
 have hb:=vrel_int (hargs 1 _ b rfl rfl)
 subst ha
 subst hb
 refine (Any.strings_IndexByte L s c w).mono fun e w' ⟨he,hw⟩=>?_
 subst he
 subst hw
 exact ⟨_,G,_,[.p (.int .i64 (Lib.indexByte s.data.toList c.toNat.toUInt8))],rfl,Step.refl _ _ _,hinv,vrel_mkInt _ _,by simp [outs,outsT,outO,ownIds1,ownIds0,argOwns,nodupB,capsApart,capIds1,capIds0,gd,out1,out0],by simp [outH]⟩
theorem XTrim_ok {P : Program} {ρ : Ren} (L : Lays.n102 P ρ) {args : List VVal} {H : List Ob} {res : VVal} {H' : List Ob} (h : XTrim args H = some (res,H')) : CallOK P (ρ.f 102) args H res H':=by
 unfold XTrim at h
 split at h <;> try (cases h; done)
 rename_i s p
 obtain ⟨hs,h⟩:=gd_eq h
 simp only [osi,pmi] at h
 obtain ⟨rfl,rfl⟩:=h
 intro G w cargs hinv hgd hlen hargs _
 obtain ⟨a,b,rfl⟩:=args2 hlen
 have ha:=vrel_str (hargs 0 _ a rfl rfl)
 have hb:=vrel_str (hargs 1 _ b rfl rfl)
 subst ha
 subst hb
 refine (Any.strings_TrimSuffix L s p w hs).mono fun e w' ⟨he,hw⟩=>?_
 subst he
 subst hw
 exact ⟨_,G,_,[.p (.str ⟨(Lib.trimSuffix s.data.toList p.data.toList).toArray⟩)],rfl,Step.refl _ _ _,hinv,vrel_mkStr _,by simp [outs,outsT,outO,ownIds1,ownIds0,argOwns,nodupB,capsApart,capIds1,capIds0,gd,out1,out0],by simp [outH]⟩
end
end Go.V
