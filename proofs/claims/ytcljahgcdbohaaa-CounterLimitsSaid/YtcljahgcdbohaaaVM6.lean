/- The law CounterLimits in the value machine. -/
import Derived.Test.YtcljahgcdbohaaaVKC
import Derived.Test.YtcljahgcdbohaaaVM4
set_option linter.unusedSimpArgs false
set_option linter.unusedVariables false
namespace Go.V
-- closer: sumI

def NoOver (t : Tr) (c l : List Ch) : Prop := ∀ x ∈ l, tot t (ownC c) x.group ≤ x.own

theorem lookC_at {l : List Ch} (h : l.Pairwise fun a b => a.group < b.group) {d : Ch} (hd : d ∈ l) : lookC l d.group = some d.own := by
  induction l with
  | nil => cases hd
  | cons c l ih =>
    rw [List.pairwise_cons] at h
    unfold lookC
    rcases List.mem_cons.1 hd with rfl | hd
    · simp
    · have := h.1 d hd
      rw [if_neg (by omega)]
      exact ih h.2 hd

theorem dLimits_asc (L : List Int) {t : Tr} (h : TreeOk t) (a : Nat) : AscOk (knownN t.nodes) 0 4611686018427387904 (dLimits L t.nodes a).1 := by
  have key : ∀ (ns : List Nd) (a : Nat), (ns.Pairwise fun x y => x.id < y.id) → (∀ n ∈ ns, n ∈ t.nodes) → AscOk (knownN t.nodes) 0 4611686018427387904 (dLimits L ns a).1 ∧ ∀ c ∈ (dLimits L ns a).1, ∃ n ∈ ns, n.id = c.group := by
    intro ns
    induction ns with
    | nil =>
      intro a _ _
      exact ⟨⟨fun c hc => by simp [dLimits] at hc, by simp [dLimits], fun c hc => by simp [dLimits] at hc⟩, fun c hc => by simp [dLimits] at hc⟩
    | cons n ns ih =>
      intro a hp hm
      rw [List.pairwise_cons] at hp
      unfold dLimits
      by_cases hx : nextV L a 2 = 1
      · rw [if_pos hx]
        obtain ⟨i1, i2⟩ := ih (nextA L (nextA L a 2) 7) hp.2 fun x hx => hm x (List.mem_cons_of_mem _ hx)
        have hpm := pickV_mem L (nextA L a 2) (xs := limPicks) (by decide)
        have hr : 0 ≤ pickV L (nextA L a 2) limPicks ∧ pickV L (nextA L a 2) limPicks ≤ 4611686018427387904 := by
          generalize pickV L (nextA L a 2) limPicks = p at hpm
          simp [limPicks] at hpm
          omega
        refine ⟨⟨fun c hc => ?_, ?_, fun c hc => ?_⟩, fun c hc => ?_⟩
        · rcases List.mem_cons.1 hc with rfl | hc
          · exact dCounter_sum.mem_find' (hm n (List.mem_cons_self ..))
          · exact i1.known c hc
        · rw [List.pairwise_cons]
          refine ⟨fun c hc => ?_, i1.inc⟩
          obtain ⟨x, hx1, hx2⟩ := i2 c hc
          have := hp.1 x hx1
          show n.id < c.group
          omega
        · rcases List.mem_cons.1 hc with rfl | hc
          · exact hr
          · exact i1.range c hc
        · rcases List.mem_cons.1 hc with rfl | hc
          · exact ⟨n, List.mem_cons_self .., rfl⟩
          · obtain ⟨x, hx1, hx2⟩ := i2 c hc
            exact ⟨x, List.mem_cons_of_mem _ hx1, hx2⟩
      · rw [if_neg hx]
        obtain ⟨i1, i2⟩ := ih (nextA L a 2) hp.2 fun x hx => hm x (List.mem_cons_of_mem _ hx)
        exact ⟨i1, fun c hc => by
          obtain ⟨x, hx1, hx2⟩ := i2 c hc
          exact ⟨x, List.mem_cons_of_mem _ hx1, hx2⟩⟩
  exact (key t.nodes a h.inc fun x hx => hx).1

theorem charge_step {t : Tr} (h : TreeOk t) {c l : List Ch} (hc : ChOk t.nodes c) (hl : AscOk (knownN t.nodes) 0 4611686018427387904 l) (hno : NoOver t c l) {k : Nat} {m : Nd} (hm : t.nodes[k]? = some m) {n : Int} (h0 : 0 ≤ n) (h1 : n ≤ 100) (hs : sumI (c.map (·.own)) ≤ 16777000) :
    (∃ x, ChargeK t c l m.id n = (x, 0, 0) ∧ ChOk t.nodes x ∧ NoOver t x l ∧ sumI (x.map (·.own)) = sumI (c.map (·.own)) + n) ∨
    ∃ (g : Int) (j : Nat) (q : Nd), ChargeK t c l m.id n = ([], g, 11) ∧ g ∈ ancF t.nodes t.nodes.length m.id ∧ t.nodes[j]? = some q ∧ q.id = g ∧ mostK l g < tot t (ownC c) g + n := by
  have hk : knownN t.nodes m.id = true := by rw [knownN, findN_unique h.inc hm]; rfl
  have o0 := ownC_nonneg hc.pos m.id
  have hasc := (ascOk_iff _ _ _ _).2 hl
  have e1 : addK t c m.id n = (withC c m.id (ownC c m.id + n), 0) := by
    rw [addK, tot_root h hc, if_neg (by omega), if_neg (by omega)]
  have hx : ChOk t.nodes (withC c m.id (ownC c m.id + n)) := by
    have h2 : AddK t c m.id n = (withC c m.id (ownC c m.id + n), 0) := by rw [AddK_eq h hc hk, e1]
    have := AddK_ok (t := t) (c := c) (id := m.id) (n := n) (by rw [h2])
    rw [h2] at this
    exact this
  have ho : ownC (withC c m.id (ownC c m.id + n)) = fun y => if y = m.id then ownC c m.id + n else ownC c y := by
    funext y
    rw [withC_own]
  have htot : ∀ (i : Nat) (q : Nd), t.nodes[i]? = some q → tot t (ownC (withC c m.id (ownC c m.id + n))) q.id = tot t (ownC c) q.id + if q.id ∈ ancF t.nodes t.nodes.length m.id then n else 0 := fun i q hq => by
    rw [ho, tot_upd h (ownC c) hq hm]
    congr 1
    split
    · omega
    · rfl
  have hsx := withC_sum hc.inc m.id (ownC c m.id + n)
  have hnode : ∀ x ∈ l, ∃ (i : Nat) (q : Nd), t.nodes[i]? = some q ∧ q.id = x.group := fun x hxl => by
    obtain ⟨q, hq, he⟩ := findN_some (hl.known x hxl)
    obtain ⟨i, hi⟩ := List.getElem?_of_mem hq
    exact ⟨i, q, hi, he⟩
  rw [ChargeK_eq h hc hasc hk h0, e1]
  dsimp only
  by_cases hz : n = 0
  · left
    rw [if_pos (Or.inr hz)]
    refine ⟨_, rfl, hx, fun x hxl => ?_, by omega⟩
    obtain ⟨i, q, hq, he⟩ := hnode x hxl
    have := htot i q hq
    rw [he] at this
    have h2 := hno x hxl
    split at this <;> omega
  · rw [if_neg (by simp [hz])]
    cases hf : (ancF t.nodes t.nodes.length m.id).find? (refuses t c l n) with
    | none =>
      left
      refine ⟨_, rfl, hx, fun x hxl => ?_, by omega⟩
      obtain ⟨i, q, hq, he⟩ := hnode x hxl
      have := htot i q hq
      rw [he] at this
      have h2 := hno x hxl
      split at this
      · rename_i hin
        have h3 := List.find?_eq_none.1 hf _ hin
        simp only [refuses, lookC_at hl.inc hxl] at h3
        simp at h3
        omega
      · omega
    | some g =>
      right
      have hg := List.mem_of_find?_eq_some hf
      have hr := List.find?_some hf
      obtain ⟨j, q, _, hj, hje⟩ := anc_le h k m hm g hg
      refine ⟨g, j, q, rfl, hg, hj, hje, ?_⟩
      unfold refuses at hr
      unfold mostK
      cases hlk : lookC l g with
      | none => rw [hlk] at hr; cases hr
      | some M => rw [hlk] at hr; simpa using hr

theorem noOver_nil {t : Tr} {c l : List Ch} (h : TreeOk t) (hc : ChOk t.nodes c) (hl : AscOk (knownN t.nodes) 0 4611686018427387904 l) (hno : NoOver t c l) : OverK t c l = ([], 0) := by
  rw [OverK, if_pos ⟨(validK_iff t c).2 ⟨h, hc⟩, by rw [validLK, (treeOk_iff t).2 h, (ascOk_iff _ _ _ _).2 hl]; rfl⟩]
  have : l.filter (fun x => decide (x.own < tot t (ownC c) x.group)) = [] := by
    rw [List.filter_eq_nil_iff]
    intro x hx
    have := hno x hx
    simp
    omega
  rw [this]
  rfl
end Go.V

