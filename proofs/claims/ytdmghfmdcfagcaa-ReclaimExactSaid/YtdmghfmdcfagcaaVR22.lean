/- The capacity of a child by its own parts. Plain. -/
import Derived.Test.YtdmghfmdcfagcaaVR21
set_option linter.unusedSimpArgs false
set_option linter.unusedVariables false
namespace Go.V

theorem partOf_filter {P : Pt → Bool} {g : Int} (hP : ∀ x : Pt, x.group = g → P x = true) : ∀ (p : List Pt), partOf (p.filter P) g = partOf p g
  | [] => rfl
  | x :: p => by
    have ih := partOf_filter hP p
    unfold partOf at ih ⊢
    by_cases hx : P x = true
    · rw [List.filter_cons_of_pos hx, List.find?_cons, List.find?_cons]
      split
      · rfl
      · exact ih
    · rw [List.filter_cons_of_neg hx, List.find?_cons]
      have : ¬ x.group = g := fun e => hx (hP x e)
      simp only [this, decide_false]
      exact ih
theorem capN_congr {t : Tr} (h : TreeOk t) {p q : List Pt} : ∀ (k i : Nat) (n : Nd), t.nodes[i]? = some n → t.nodes.length ≤ i + k → (∀ g ∈ subF t.nodes k n.id, partOf q g = partOf p g) → capN t.nodes q k n.id = capN t.nodes p k n.id := by
  intro k
  induction k with
  | zero => intro i n hn hk; have := (List.getElem?_eq_some_iff.1 hn).1; omega
  | succ k ih =>
    intro i n hn hk hg
    rw [subF] at hg
    rw [capN_succ, capN_succ, hg n.id (by simp)]
    congr 1
    refine sumI_congr fun c hc => ?_
    obtain ⟨j, m, hj, hp, rfl⟩ := mem_kidsN.1 hc
    have hij := h.kid hn hj hp
    exact ih j m hj (by omega) fun g hgm => hg g (List.mem_cons_of_mem _ (List.mem_flatMap.2 ⟨m.id, hc, hgm⟩))
/-- The parts of a subtree. -/
def partsBelow (t : Tr) (p : List Pt) (c : Int) : List Pt := p.filter fun x => decide (c ∈ ancR t x.group)
theorem below_ok {t : Tr} {p : List Pt} {root c : Int} (h : PartsOk t p root) (hc : c ∈ subA t root) : PartsOk t (partsBelow t p c) c := by
  have hci := subA_in h.tree h.top hc
  obtain ⟨i, n, hn, he⟩ := h.top
  have hsr : subT t root = subA t root := by rw [← he]; exact subT_some h.tree hn
  obtain ⟨j, m, hm, hce⟩ := hci
  have hsc : subT t c = subA t c := by rw [← hce]; exact subT_some h.tree hm
  refine ⟨h.tree, ⟨j, m, hm, hce⟩, ?_, fun x hx => h.ok x (List.mem_filter.1 hx).1⟩
  refine inc_ext' _ _ ?_ (msort_inc (nodup_subT h.tree c)) fun x => ?_
  · have : (p.map (·.group)).Pairwise fun a b => a < b := h.groups ▸ msort_inc (nodup_subT h.tree root)
    exact List.Pairwise.sublist (List.Sublist.map _ List.filter_sublist) this
  · rw [(msort_perm _).mem_iff, hsc, List.mem_map]
    constructor
    · rintro ⟨y, hy, rfl⟩
      obtain ⟨hy1, hy2⟩ := List.mem_filter.1 hy
      simp only [decide_eq_true_eq] at hy2
      exact (mem_anc h.tree ⟨j, m, hm, hce⟩ (subA_in h.tree h.top (h.part_in hy1))).1 hy2
    · intro hx
      have hxr := subA_sub h.tree h.top hc hx
      have : x ∈ p.map (·.group) := by
        rw [h.groups, (msort_perm _).mem_iff, hsr]
        exact hxr
      obtain ⟨y, hy, rfl⟩ := List.mem_map.1 this
      exact ⟨y, List.mem_filter.2 ⟨hy, by simpa using (mem_anc h.tree ⟨j, m, hm, hce⟩ (subA_in h.tree h.top hxr)).2 hx⟩, rfl⟩
theorem below_cap {t : Tr} {p : List Pt} {root c : Int} (h : PartsOk t p root) (hc : c ∈ subA t root) : capR t (partsBelow t p c) c = capR t p c := by
  have hci := subA_in h.tree h.top hc
  obtain ⟨j, m, hm, rfl⟩ := hci
  refine capN_congr h.tree t.nodes.length j m hm (by omega) fun g hg => ?_
  refine partOf_filter (fun x hx => ?_) p
  simp only [hx]
  exact decide_eq_true ((mem_anc h.tree ⟨j, m, hm, rfl⟩ (subA_in h.tree ⟨j, m, hm, rfl⟩ hg)).2 hg)
theorem below_CapP {t : Tr} {p : List Pt} {root c : Int} (h : PartsOk t p root) (hc : c ∈ subA t root) : CapP t (partsBelow t p c) c = (capR t p c, 0) := by
  rw [CapP, if_pos ((validP_iff t _ _).2 (below_ok h hc)), below_cap h hc]
/-- The first part is the root's. -/
theorem first_part {t : Tr} {p : List Pt} (h : PartsOk t p 1) : ∃ x, p[0]? = some x ∧ x.group = 1 := by
  have hs := subA_self h.tree h.top
  obtain ⟨i, n, hn, he⟩ := h.top
  have hsr : subT t 1 = subA t 1 := by rw [← he]; exact subT_some h.tree hn
  have h1 : (1 : Int) ∈ p.map (·.group) := by
    rw [h.groups, (msort_perm _).mem_iff, hsr]
    exact hs
  have hinc : (p.map (·.group)).Pairwise fun a b => a < b := h.groups ▸ msort_inc (nodup_subT h.tree 1)
  have hge : ∀ x ∈ p, 1 ≤ x.group := fun x hx => by
    obtain ⟨j, m, hm, hme⟩ := subA_in h.tree h.top (h.part_in hx)
    have := h.tree.pos m (List.mem_of_getElem? hm)
    omega
  cases p with
  | nil => simp at h1
  | cons x p =>
    refine ⟨x, rfl, ?_⟩
    rw [List.map_cons, List.pairwise_cons] at hinc
    rw [List.map_cons, List.mem_cons] at h1
    rcases h1 with h1 | h1
    · exact h1.symm
    · have := hinc.1 1 h1
      have := hge x (by simp)
      omega
theorem kid_sub {t : Tr} (h : TreeOk t) {g c : Int} (hg : InN t.nodes g) (hc : c ∈ kidsN t.nodes g) : c ∈ subA t g := by
  rw [subA_cons h hg]
  exact List.mem_cons_of_mem _ (List.mem_flatMap.2 ⟨c, hc, subA_self h (kid_in hc)⟩)
theorem kids_in {t : Tr} (h : TreeOk t) {g : Int} (hg : InN t.nodes g) : kids t g = kidsN t.nodes g := by
  obtain ⟨i, n, hn, rfl⟩ := hg
  refine kids_kidsN ?_
  rw [findT_ok ((treeOk_iff t).2 h), findN_unique h.inc hn]
  rfl
end Go.V

