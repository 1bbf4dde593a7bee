/- Part 16 of the proof. -/
import Derived.Test.YtddgomjodbmohaaGreatDoorC15
import Derived.Test.YtddgomjodbmohaaGreatDoorC2
import Derived.Shelf.Spec.SlicesGrow
import Derived.Laws.AppendOwn
set_option linter.unusedSectionVars false
set_option linter.unusedSimpArgs false
set_option linter.unusedVariables false
open Nat renaming le_refl → lrf
open List renaming length_nil → lln
open Option renaming some.injEq → osi
open Prod renaming mk.injEq → pmi
namespace Go.V
open Go.RowKit Go.Sort Go.Proofs Go.Shelf Go.Lib
theorem XGrow_ok [GK] {P : Program} {ρ : Ren} (L : Lays8.n4 P ρ) {i0 : TypeInfo} {z : Value} (hi0 : P.info? (ρ.t 25) = some i0) (hz0 : i0.zero = some z) (hs0 : i0.size = 1) (hb0 : i0.bytes = 8) (hzc : z.cells.size = 1)
  {args : List VVal} {H : List Ob} {res : VVal} {H' : List Ob} (h : XGrow args H = some (res,H')) : CallOK P (ρ.f 4) args H res H':=by
 unfold XGrow at h
 split at h <;> try (cases h; done)
 rename_i n
 obtain ⟨h0,h⟩:=gd_eq h
 obtain ⟨hbig,h⟩:=gd_eq h
 simp only [osi,pmi] at h
 obtain ⟨rfl,rfl⟩:=h
 obtain ⟨m,rfl⟩ : ∃ m : Nat,n = (m : Int):=⟨n.toNat,by omega⟩
 intro G w cargs hinv hgd hlen hargs _
 have hsize : cargs.size = 2:=by simpa using hlen.symm
 obtain ⟨c,d,hc⟩ : ∃ c d,cargs = #[c,d]:=by
  match hcl : cargs.toList with
  | [c,d]=>exact ⟨c,d,by rw [<- Array.toList_inj,hcl]⟩
  | []=>simp [<- Array.length_toList,hcl] at hsize
  | [_]=>simp [<- Array.length_toList,hcl] at hsize
  | _ :: _ :: _ :: _=>simp [<- Array.length_toList,hcl] at hsize
 subst hc
 have r1:=hargs 0 _ c rfl rfl
 have r2:=vrel_int (hargs 1 _ d rfl rfl)
 subst r2
 have e1 : c = .slice none 0 0:=by
  cases r1 with
  | p hp _=>cases hp; rfl
 subst e1
 have hrow : RowOf (fun b=>G.kind b = .frozen) w 1 ([] : List PV) none []:=⟨by simp,by simp,fun h=>by simp at h,by simp,fun i y j c h=>by simp at h⟩
 have fin : ∀ v' w',w'.ownsRow w.heap.size (ρ.t 25) 1 v' 0 [] -> Below w.heap.size w w' -> ∃ c G' h' vs,Ending.returned v' = .returned c /\ Step G (enterH []) w G' h' w' /\ HeapInv G' h' w' /\ RetRel G' h' w' vs c /\ outs h' ([] : List Ob).length vs = some (.fresh 1 []) /\ outH h' 0 ([] : List Ob).length = some []:=fun v' w' hown hb=>by
  obtain ⟨G',hst,hinv',hv⟩:=made_world hinv (.slot 0 0) hrow hown hb
  refine ⟨v',G',_,[.own (.slot 0 0) (nv (enterH [] (.slot 0 0))) 0 0],rfl,hst,hinv',hv,?_,by simp [outH]⟩
  simp [outs,outsT,outO,ownIds1,ownIds0,argOwns,nodupB,gd,out1,out0,velems,upd_same,ob]
 by_cases hm : m = 0
 ·subst hm
  refine (Any8.slices_Grow_room L none 0 0 0 w (lrf _) (by omega) (by omega) (lrf _)).mono fun e w' ⟨he,hw⟩=>?_
  subst he
  subst hw
  exact fin _ _ ⟨rfl,.inl ⟨rfl,rfl⟩⟩ (Below.refl _ _)
 ·refine (Any8.slices_Grow_grow L i0 z hi0 hz0 (by omega) none 0 0 m [] w (lrf _) (by omega) (by rw [hb0]; omega) (by omega) (by simp) (fun _=>rfl) (fun a h=>by cases h)).mono fun e w' ⟨he,hw⟩=>?_
  subst he
  have hge:=grownCap_ge w (0 + m) 0 (ρ.t 25)
  have hle:=grownCap_le_maxLen w (0 + m) 0 (ρ.t 25) (by unfold maxLen; omega)
  subst hw
  refine fin _ _ ⟨by simp,.inr ⟨w.heap.size,_,_,rfl,lrf _,heap_alloc_new w.drew _,Nat.zero_le _,hle,?_,by simp⟩⟩ ?_
  ·simp only [Array.size_append,size_zeroCells,hzc,List.size_toArray,lln]
   omega
  .exact ⟨rfl,rfl,rfl,by simp,fun k hk=>Below.heap_alloc w.drew _ k hk⟩
end Go.V
