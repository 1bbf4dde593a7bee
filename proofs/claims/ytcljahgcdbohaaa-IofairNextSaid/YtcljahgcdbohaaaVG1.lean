/- Lists that ascend, checked element by element. Plain. -/
import Derived.Test.YtcljahgcdbohaaaVK1
set_option linter.unusedSimpArgs false
set_option linter.unusedVariables false
namespace Go.V

def ascOk (kn : Int → Bool) (lo hi : Int) : Option Int → List Ch → Bool
  | _, [] => true
  | p, c :: l => kn c.group && prevOk p c.group && decide (lo ≤ c.own ∧ c.own ≤ hi) && ascOk kn lo hi (some c.group) l

def prevG (l : List Ch) (k : Nat) : Option Int := if k = 0 then none else (l[k - 1]?).map (·.group)

structure AscOk (kn : Int → Bool) (lo hi : Int) (l : List Ch) : Prop where
  known : ∀ c ∈ l, kn c.group = true
  inc : l.Pairwise fun a b => a.group < b.group
  range : ∀ c ∈ l, lo ≤ c.own ∧ c.own ≤ hi

theorem ascOk_iff' (kn : Int → Bool) (lo hi : Int) : ∀ (l : List Ch) (p : Option Int), ascOk kn lo hi p l = true ↔ (∀ c ∈ l, kn c.group = true) ∧ (l.Pairwise fun a b => a.group < b.group) ∧ (∀ q, p = some q → ∀ c ∈ l, q < c.group) ∧ ∀ c ∈ l, lo ≤ c.own ∧ c.own ≤ hi
  | [], p => by simp [ascOk]
  | c :: l, p => by
    have hp : prevOk p c.group = true ↔ ∀ q, p = some q → q < c.group := by
      cases p <;> simp [prevOk]
    simp only [ascOk, Bool.and_eq_true, decide_eq_true_eq, hp, List.mem_cons, forall_eq_or_imp, List.pairwise_cons, ascOk_iff' kn lo hi l (some c.group)]
    constructor
    · rintro ⟨⟨⟨h1, h2⟩, h3⟩, a1, a2, a3, a4⟩
      refine ⟨⟨h1, a1⟩, ⟨a3 _ rfl, a2⟩, fun q hq => ⟨h2 q hq, fun d hd => ?_⟩, h3, a4⟩
      have := h2 q hq
      have := a3 _ rfl d hd
      omega
    · rintro ⟨⟨h1, a1⟩, ⟨a3, a2⟩, h2, h3, a4⟩
      refine ⟨⟨⟨h1, fun q hq => (h2 q hq).1⟩, h3⟩, a1, a2, fun q hq => ?_, a4⟩
      cases hq
      exact a3
theorem ascOk_iff (kn : Int → Bool) (lo hi : Int) (l : List Ch) : ascOk kn lo hi none l = true ↔ AscOk kn lo hi l := by
  rw [ascOk_iff' kn lo hi l none]
  constructor
  · rintro ⟨a, b, _, d⟩
    exact ⟨a, b, d⟩
  · rintro ⟨a, b, d⟩
    exact ⟨a, b, fun q hq => by simp at hq, d⟩

/-- What the element at a place must be. -/
def ascAt (kn : Int → Bool) (lo hi : Int) (l : List Ch) (k : Nat) (c : Ch) : Prop := kn c.group = true ∧ (k = 0 ∨ ∃ e, l[k - 1]? = some e ∧ e.group < c.group) ∧ lo ≤ c.own ∧ c.own ≤ hi

theorem prevG_ok {l : List Ch} {k : Nat} {c : Ch} (hm : l[k]? = some c) : prevOk (prevG l k) c.group = true ↔ (k = 0 ∨ ∃ e, l[k - 1]? = some e ∧ e.group < c.group) := by
  unfold prevG
  by_cases hk : k = 0
  · simp [hk, prevOk]
  · have hl := (List.getElem?_eq_some_iff.1 hm).1
    have he : l[k - 1]? = some l[k - 1] := List.getElem?_eq_getElem (by omega)
    rw [if_neg hk, he]
    simp [prevOk, hk]
theorem asc_good {kn : Int → Bool} {lo hi : Int} {l : List Ch} {k : Nat} {c : Ch} (hq : ascOk kn lo hi none l = ascOk kn lo hi (prevG l k) (l.drop k)) (hm : l[k]? = some c) (h : ascAt kn lo hi l k c) : ascOk kn lo hi none l = ascOk kn lo hi (prevG l (k + 1)) (l.drop (k + 1)) := by
  have hl := (List.getElem?_eq_some_iff.1 hm).1
  have hd : l.drop k = c :: l.drop (k + 1) := by
    rw [List.drop_eq_getElem_cons hl]
    rw [List.getElem?_eq_getElem hl] at hm
    cases hm
    rfl
  obtain ⟨h1, h2, h3, h4⟩ := h
  rw [hq, hd, ascOk, h1, (prevG_ok hm).2 h2, decide_eq_true ⟨h3, h4⟩]
  simp [prevG, hm]
theorem asc_bad {kn : Int → Bool} {lo hi : Int} {l : List Ch} {k : Nat} {c : Ch} (hq : ascOk kn lo hi none l = ascOk kn lo hi (prevG l k) (l.drop k)) (hm : l[k]? = some c) (h : ¬ ascAt kn lo hi l k c) : ascOk kn lo hi none l = false := by
  have hl := (List.getElem?_eq_some_iff.1 hm).1
  have hd : l.drop k = c :: l.drop (k + 1) := by
    rw [List.drop_eq_getElem_cons hl]
    rw [List.getElem?_eq_getElem hl] at hm
    cases hm
    rfl
  rw [Bool.eq_false_iff]
  intro ht
  apply h
  rw [hq, hd, ascOk] at ht
  simp only [Bool.and_eq_true, decide_eq_true_eq] at ht
  exact ⟨ht.1.1.1, (prevG_ok hm).1 ht.1.1.2, ht.1.2⟩
theorem asc_end {kn : Int → Bool} {lo hi : Int} {l : List Ch} {k : Nat} (hq : ascOk kn lo hi none l = ascOk kn lo hi (prevG l k) (l.drop k)) (hk : l.length ≤ k) : ascOk kn lo hi none l = true := by
  rw [hq, List.drop_of_length_le hk]
  simp [ascOk]
theorem prev_at {l : List Ch} {k : Nat} {c : Ch} (hm : l[k]? = some c) (hk : (0 : Int) < k) : ∃ e, l[k - 1]? = some e ∧ l[((k : Int) - 1).toNat]? = some e := by
  have hl := (List.getElem?_eq_some_iff.1 hm).1
  have he : l[k - 1]? = some l[k - 1] := List.getElem?_eq_getElem (by omega)
  exact ⟨_, he, by rw [show ((k : Int) - 1).toNat = k - 1 by omega]; exact he⟩
theorem ascAt_zero {kn : Int → Bool} {lo hi : Int} {l : List Ch} {k : Nat} {c : Ch} (hk : ¬ (0 : Int) < k) : ascAt kn lo hi l k c ↔ kn c.group = true ∧ lo ≤ c.own ∧ c.own ≤ hi := by
  have : k = 0 := by omega
  subst this
  simp [ascAt]
theorem ascAt_succ {kn : Int → Bool} {lo hi : Int} {l : List Ch} {k : Nat} {c e : Ch} (hk : (0 : Int) < k) (he : l[k - 1]? = some e) : ascAt kn lo hi l k c ↔ kn c.group = true ∧ e.group < c.group ∧ lo ≤ c.own ∧ c.own ≤ hi := by
  have : ¬ k = 0 := by omega
  simp [ascAt, this, he]
end Go.V

