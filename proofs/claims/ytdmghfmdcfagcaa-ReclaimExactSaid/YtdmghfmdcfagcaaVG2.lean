/- Ways up: the reference's are the program's; how many groups a made tree has had. Plain. -/
import Derived.Test.YtdmghfmdcfagcaaVKX
set_option linter.unusedSimpArgs false
set_option linter.unusedVariables false
namespace Go.V

theorem up_anc' {t : Tr} (h : TreeOk t) : ∀ (i : Nat) (n : Nd), t.nodes[i]? = some n → ∀ m, i < m → m ≤ t.nodes.length → upR ((t.nodes.take m).reverse) n.id = ancF t.nodes t.nodes.length n.id := by
  intro i
  induction i using Nat.strongRecOn with
  | _ i ih =>
    intro n hn m
    induction m with
    | zero => intro hi; omega
    | succ m ihm =>
      intro hi hm
      have hx : t.nodes[m]? = some t.nodes[m] := List.getElem?_eq_getElem (by omega)
      have htk : t.nodes.take (m + 1) = t.nodes.take m ++ [t.nodes[m]] := by rw [List.take_add_one, hx]; rfl
      generalize t.nodes[m] = x at hx htk
      rw [htk, List.reverse_append]
      simp only [List.reverse_cons, List.reverse_nil, List.nil_append, List.cons_append, upR]
      by_cases he : x.id = n.id
      · obtain ⟨rfl, rfl⟩ := h.idx hx hn he
        rw [if_pos rfl, ancF_cons h hn]
        congr 1
        rcases h.nodeAt hn with ⟨h0, _⟩ | ⟨h0, _, j, p, hj, hp, hpe⟩
        · subst h0
          simp [upR]
        · rw [if_neg (by omega), ← hpe]
          exact ih j hj p hp m hj (by omega)
      · rw [if_neg he]
        have : i ≠ m := by
          rintro rfl
          rw [hx] at hn
          cases hn
          exact he rfl
        exact ihm (by omega) (by omega)
theorem ancR_anc {t : Tr} (h : TreeOk t) {i : Nat} {n : Nd} (hn : t.nodes[i]? = some n) : ancR t n.id = ancF t.nodes t.nodes.length n.id := by
  rw [ancR, show findT t n.id = findN t.nodes n.id by simp [findT, (treeOk_iff t).2 h], findN_unique h.inc hn]
  simp only [Option.isSome_some, if_true]
  unfold up
  have := up_anc' h i n hn t.nodes.length (List.getElem?_eq_some_iff.1 hn).1 (Nat.le_refl _)
  rwa [List.take_length] at this


theorem root_anc {t : Tr} (h : TreeOk t) : ∀ (j : Nat) (m : Nd), t.nodes[j]? = some m → (1 : Int) ∈ ancF t.nodes t.nodes.length m.id := by
  intro j
  induction j using Nat.strongRecOn with
  | _ j ih =>
    intro m hm
    rcases h.nodeAt hm with ⟨_, h1, _⟩ | ⟨_, _, i, p, hi, hp, hpe⟩
    · rw [← h1]; exact anc_self h hm
    · exact (anc_iff h hm _).2 (Or.inr ⟨by omega, by rw [← hpe]; exact ih i hi p hp⟩)

theorem treeStep_next (L : List Int) (a : Nat) {t : Tr} : (treeStep L a t).1.next ≤ t.next + 1 := by
  have h1 : ∀ p s, (if (addT t p s).2.2 = 0 then (addT t p s).1 else t).next ≤ t.next + 1 := fun p s => by
    split
    · rw [(addT_ok (by assumption)).2.2]
      exact Int.le_refl _
    · omega
  have h2 : ∀ (u : Tr) (q : Int), (if (removeT u q).2 = 0 then (removeT u q).1 else u).next = u.next := fun u q => by
    split
    · rw [(removeT_ok (by assumption)).2.2]
    · rfl
  unfold treeStep
  simp only
  split
  · rw [h2]
    exact h1 _ _
  · exact h1 _ _
theorem treeLoop_next (L : List Int) : ∀ (k a : Nat) (t : Tr), (treeLoop L k a t).1.next ≤ t.next + k
  | 0, _, t => by simp [treeLoop]
  | k + 1, a, t => by
    have h1 := treeLoop_next L k (treeStep L a t).2 (treeStep L a t).1
    have h2 := treeStep_next L a (t := t)
    unfold treeLoop
    simp only [Int.natCast_add]
    omega
theorem dTree_next (L : List Int) (a n : Nat) : (dTree L a n).1.next ≤ n + 2 := by
  have h1 := treeLoop_next L (nextV L a (n + 1)).toNat (nextA L a (n + 1)) newT
  have h2 := nextV_nonneg L a (n + 1)
  have h3 := nextV_lt L a (n := (n : Int) + 1) (by omega)
  have h4 : newT.next = 2 := rfl
  unfold dTree
  omega
theorem ancF_none {ns : List Nd} {id : Int} (h : findN ns id = none) : ∀ k, ancF ns k id = []
  | 0 => rfl
  | k + 1 => by unfold ancF; rw [h]
end Go.V

