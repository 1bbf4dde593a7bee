/- The value machine V at work: a group out of dice. -/
import Derived.Test.YthmbpjnpcjfdiaaVKX
set_option linter.unusedSimpArgs false
set_option linter.unusedVariables false
namespace Go.V

def groupD (L : List Int) (a : Nat) (ns : List Nd) : Int × Nat :=
  if nextV L a 15 = 14 ∨ ns = [] then (nextV L (nextA L a 15) 9 - 1, nextA L (nextA L a 15) 9)
  else ((ns.getD (nextV L (nextA L a 15) ns.length).toNat zeroNd).id, nextA L (nextA L a 15) ns.length)

theorem group_eq (L : List Int) (a : Nat) (t : Tr) (hL : L.length < 4611686018427387904) (hl : t.nodes.length < 1000000) : V 13 [.ptr (.arg 0 0) 0 0, t.vv] [diceB L a] = some (.p (.int .i64 (groupD L a t.nodes).1), [diceB L (groupD L a t.nodes).2]) := by
  refine V_wp (vf := vf13) rfl ?_
  have hb := bool_eq L a 15 hL (by omega) (by omega)
  have h9 := next_eq L (nextA L a 15) 9 hL (by omega)
  have hn := next_eq L (nextA L a 15) t.nodes.length hL (by omega)
  have r9 := nextV_nonneg L (nextA L a 15) 9
  have r9' := nextV_lt L (nextA L a 15) (n := 9) (by omega)
  by_cases h14 : nextV L a 15 = 14
  · have h14' : nextV L a 15 = 15 - 1 := by omega
    simp -implicitDefEqProofs (disch := omega) only [vf13, vb13, hb, h14', h9, go_sem, ↓reduceIte, Nat.reduceAdd, Nat.reduceSub, Nat.reduceEqDiff, Nat.reduceLeDiff, reduceCtorEq]
    simp [groupD, h14]
  · have h14' : ¬ nextV L a 15 = 15 - 1 := by omega
    by_cases hz : t.nodes = []
    · have hz' : (t.nodes.length : Int) = 0 := by rw [hz]; rfl
      simp -implicitDefEqProofs (disch := omega) only [vf13, vb13, hb, h14', h9, hz', go_sem, ↓reduceIte, Nat.reduceAdd, Nat.reduceSub, Nat.reduceEqDiff, Nat.reduceLeDiff, reduceCtorEq]
      simp [groupD, hz]
    · have hp : 1 ≤ t.nodes.length := List.length_pos_iff.2 hz
      have q0 := nextV_nonneg L (nextA L a 15) t.nodes.length
      have q1 := nextV_lt L (nextA L a 15) (n := t.nodes.length) (by omega)
      have hm : t.nodes[(nextV L (nextA L a 15) t.nodes.length).toNat]? = some (t.nodes.getD (nextV L (nextA L a 15) t.nodes.length).toNat zeroNd) := by
        rw [List.getD_eq_getElem?_getD, List.getElem?_eq_getElem (by omega)]; rfl
      have hz0 : ¬ ((t.nodes.length : Int) = 0) := by omega
      simp -implicitDefEqProofs (disch := omega) only [vf13, vb13, hb, h14', h9, hn, hz0, hm, go_sem, ↓reduceIte, Nat.reduceAdd, Nat.reduceSub, Nat.reduceEqDiff, Nat.reduceLeDiff, reduceCtorEq]
      simp [groupD, h14, hz]

end Go.V

