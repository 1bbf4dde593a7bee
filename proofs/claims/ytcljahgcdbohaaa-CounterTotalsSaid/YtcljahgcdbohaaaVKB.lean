/- The value machine V at work: the examples of chapter 22. -/
import Derived.Test.YtcljahgcdbohaaaVKA
set_option linter.unusedSimpArgs false
set_option linter.unusedVariables false
namespace Go.V

def exT : Tr := ⟨[⟨1, 0, ⟨#[]⟩, 0, 0, 0⟩, ⟨2, 1, ⟨#[97]⟩, 0, 0, 0⟩, ⟨3, 2, ⟨#[98]⟩, 0, 0, 0⟩], 4⟩
theorem exT_fits : exT.Fits := by
  intro n hn
  simp only [exT, List.mem_cons, List.not_mem_nil, or_false] at hn
  rcases hn with rfl | rfl | rfl <;> exact ⟨by decide, by decide⟩
theorem ex1 : totK exT [⟨2, 5⟩, ⟨3, 7⟩] 2 = 12 := by rfl
theorem ex1c : checkK exT [⟨2, 5⟩, ⟨3, 7⟩] 2 = 0 := by rfl
theorem ex2 : ChargeK exT [⟨2, 5⟩, ⟨3, 7⟩] [⟨1, 100⟩, ⟨2, 15⟩] 3 4 = ([], 2, 11) := by rfl
theorem ex3 : RemK exT [⟨2, 5⟩, ⟨3, 7⟩] 3 = ([⟨2, 12⟩], 0) := by rfl

set_option maxHeartbeats 2000000 in
theorem sane22_eq : V 51 [] [] = some (.p (.bool true), []) := by
  refine V_wp (vf := vf51) rfl ?_
  have c1 := total_eq exT [⟨2, 5⟩, ⟨3, 7⟩] 2 exT_fits (by decide) (by decide)
  have c2 := charge_eq exT [⟨2, 5⟩, ⟨3, 7⟩] [⟨1, 100⟩, ⟨2, 15⟩] 3 4 exT_fits (by decide) (by decide) (by decide)
  have c3 := Rem_eq exT [⟨2, 5⟩, ⟨3, 7⟩] 3 exT_fits (by decide) (by decide)
  have c4 := same_eq [⟨2, 12⟩] [⟨2, 12⟩] (by decide)
  rw [ex1, ex1c] at c1
  rw [ex2] at c2
  rw [ex3] at c3
  simp only [exT, Tr.vv, nodesP, chsP, ctrV, ctrF, List.map_cons, List.map_nil, Nd.pv, Ch.pv, decide_true] at c1 c2 c3 c4
  simp -implicitDefEqProofs (disch := omega) only [vf51, vb51, c1, c2, c3, c4, go_sem, ↓reduceIte, Nat.reduceAdd, Nat.reduceSub, Nat.reduceEqDiff, Nat.reduceLeDiff, reduceCtorEq]
end Go.V

