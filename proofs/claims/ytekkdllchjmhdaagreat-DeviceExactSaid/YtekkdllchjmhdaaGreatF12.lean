/- Part 12 of the proof. -/
import Derived.Test.YtekkdllchjmhdaaGreatF10
import Derived.Test.YtekkdllchjmhdaaGreatF11
import Derived.Shelf.Strings.OnBuilder
import Derived.Shelf.Strings.Split
import Derived.Shelf.Spec.TrailingZeros
set_option linter.unusedSectionVars false
set_option linter.unusedSimpArgs false
set_option linter.unusedVariables false
set_option maxHeartbeats 32000000
open Nat renaming le_refl → lrf
namespace Go.V
open Go.RowKit Go.Proofs Go.Shelf
section
variable [GK]
abbrev Keep (w:World):Prop:=∀ b B,GK.K b=some B->w.heap[b]?=some B
theorem Good.keep {G:Gh} {w:World} (h:Good G w):Keep w:=fun b B hb=>(h b B hb).2.2
def Gh.cut (G:Gh) (w:World):Gh:={ G with kind:=fun b=>if b<w.heap.size then G.kind b else .other }
theorem Step.grown {G:Gh} {h:VHeap} {w w':World} (hinv:HeapInv G h w) (hw:Below w.heap.size w w'):Step G h w (G.cut w) h w' where
 frozen:=fun b hk hl=>⟨by simp [Gh.cut,hl,hk],hw.block b hl⟩
 other:=fun b hk hl=>⟨by simp [Gh.cut,hl,hk],hw.block b hl⟩
 mine:=fun b id hl hk=>.inl (by simpa [Gh.cut,hl] using hk)
 frz:=fun b hl hk=>.inl (by simpa [Gh.cut,hl] using hk)
 size:=hw.size
 os:=hw.os
 tape:=hw.tape
 output:=hw.output
 vers:=fun id v o hi=>⟨v,o,hi,lrf _,fun _=>⟨rfl,rfl,by cases o<;>simp [SameOb],fun s x ho hk=>by simp [Gh.cut,D0 hinv hi hk (by rw [ho];simp),hk]⟩⟩
theorem HeapInv.grown {G:Gh} {h:VHeap} {w w':World} (hinv:HeapInv G h w) (hw:Below w.heap.size w w'):HeapInv (G.cut w) h w':=fun id v o hi=>by
 by_cases hg:o=.gone
 ·subst hg;trivial
 ·refine OBRel.keep (Step.grown hinv hw) (hinv id v o hi) rfl rfl (fun hm=>?_) fun hm=>?_
  ·have hlt:=D0 hinv hi hm hg
   exact ⟨by simp [Gh.cut,hlt,hm],hw.block _ hlt⟩
  ·simp only [Gh.cut] at hm
   split at hm
   .exact hm
   .cases hm
theorem zcW {cargs:Array Value} (h:1=cargs.size):∃ a,cargs=#[a]:=by
 match hcl:cargs.toList with
 | [a]=>exact ⟨a,by rw [<- Array.toList_inj,hcl]⟩
 | []=>simp [<- Array.length_toList,hcl] at h
 | _::_::_=>simp [<- Array.length_toList,hcl] at h
end
end Go.V
