/- What a round takes. Plain. -/
import Derived.Test.YtdmghfmdcfagcaaVR19
set_option linter.unusedSimpArgs false
set_option linter.unusedVariables false
namespace Go.V

theorem tks_flat (l : List (Int × Int)) : (l.map tkP).all PV.flat = true := by
  rw [List.all_eq_true]
  intro x hx
  obtain ⟨n, _, rfl⟩ := List.mem_map.1 hx
  rfl
attribute [go_sem] tks_flat

structure RoundOk (t : Tr) (l : List Pt) (root K : Int) (a : List (Int × Int)) : Prop where
  groups : ∀ q ∈ a, q.1 ∈ subA t root
  pos : ∀ q ∈ a, 0 < q.2 ∧ q.2 ≤ (partOf l q.1).own
  inc : a.Pairwise fun x y => x.1 < y.1
  len : a.length ≤ 64
  on : ∀ c, InN t.nodes c → takenP t a c = sumOn (subA t c) a
  top : takenP t a root = K
  sub : ∀ c ∈ subA t root, takenP t a c ≤ capR t l c
  kid : ∀ (m : Nat) (c : Int), (kidsN t.nodes root)[m]? = some c → ∃ z, (splitP K ((partOf l root).own :: (kidsN t.nodes root).map (capR t l)))[m + 1]? = some z ∧ takenP t a c = z

theorem taken_on {t : Tr} (h : TreeOk t) {c : Int} (hc : InN t.nodes c) : ∀ {a : List (Int × Int)}, (∀ q ∈ a, InN t.nodes q.1) → takenP t a c = sumOn (subA t c) a := by
  intro a ha
  refine sumI_congr fun q hq => ?_
  have := mem_anc h hc (ha q hq)
  by_cases hh : c ∈ ancR t q.1
  · rw [if_pos hh, if_pos (this.1 hh)]
  · rw [if_neg hh, if_neg (fun x => hh (this.2 x))]
theorem tsort_perm (l : List (Int × Int)) : (tsort l).Perm l := List.mergeSort_perm _ _
theorem tsort_inc {l : List (Int × Int)} (h : (l.map Prod.fst).Nodup) : (tsort l).Pairwise fun x y => x.1 < y.1 := by
  have h1 : (tsort l).Pairwise fun a b => decide (a.1 ≤ b.1) = true := List.pairwise_mergeSort (fun a b c h1 h2 => by simp only [decide_eq_true_eq] at *; omega) (fun a b => by simp only [Bool.or_eq_true, decide_eq_true_eq]; omega) l
  have h2 : ((tsort l).map Prod.fst).Nodup := ((tsort_perm l).map _).nodup_iff.2 h
  have h3 : (tsort l).Pairwise fun a b => a.1 ≠ b.1 := by
    rw [List.Nodup, List.pairwise_map] at h2
    exact h2
  refine (h1.and h3).imp ?_
  rintro a b ⟨h1, h2⟩
  simp only [decide_eq_true_eq] at h1
  omega
theorem round_ok {t : Tr} {l : List Pt} {root n : Int} (hP : PartsOk t l root) (h0 : 0 ≤ n) (h1 : n ≤ 16777216) : ∃ a, RoundP t l root n = (a, 0) ∧ RoundOk t l root (min n (capR t l root)) a := by
  have hT := hP.tree
  have hcb : 0 ≤ capR t l root ∧ capR t l root ≤ 16777216 := capN_bound (ns := t.nodes) hP.ok t.nodes.length root
  refine ⟨tsort (takeR t l root (min n (capR t l root))), by rw [RoundP, if_pos ((validP_iff t l root).2 hP), if_pos (by simp [pagesB, h0, h1])], ?_⟩
  obtain ⟨hr1, hr2, hr3⟩ := takeR_ok (l := l) hT hP.top (min n (capR t l root))
  obtain ⟨i, m, hm, he⟩ := hP.top
  have hin := hP.top
  have hml := (List.getElem?_eq_some_iff.1 hm).1
  have hmain := take_main hT hP.ok t.nodes.length i m (min n (capR t l root)) hm (by omega) (by have := hcb.1; omega) (by rw [he]; omega)
  rw [he] at hmain
  obtain ⟨hM, hK⟩ := hmain
  have hg : ∀ q ∈ takeR t l root (min n (capR t l root)), q.1 ∈ subA t root := takeN_groups _ _ _ _ _ _
  have hp := tsort_perm (takeR t l root (min n (capR t l root)))
  have hg' : ∀ q ∈ tsort (takeR t l root (min n (capR t l root))), q.1 ∈ subA t root := fun q hq => hg q (hp.mem_iff.1 hq)
  have hon : ∀ c, InN t.nodes c → takenP t (tsort (takeR t l root (min n (capR t l root)))) c = sumOn (subA t c) (tsort (takeR t l root (min n (capR t l root)))) := fun c hc => taken_on hT hc fun q hq => subA_in hT hin (hg' q hq)
  refine ⟨hg', fun q hq => hM.own q (hp.mem_iff.1 hq), tsort_inc hr3, by rw [hp.length_eq]; exact hr1, hon, ?_, fun c hc => ?_, fun j c hj => ?_⟩
  · rw [hon root hin, sumOn_perm hp, sumOn_all hg]
    exact hM.all
  · rw [hon c (subA_in hT hin hc), sumOn_perm hp]
    exact hM.sub c hc
  · have hl : t.nodes.length = (t.nodes.length - 1) + 1 := by omega
    obtain ⟨z, hz1, hz2⟩ := hK j (t.nodes.length - 1) c hl hj
    exact ⟨z, hz1, by rw [hon c (kid_in (List.mem_of_getElem? hj)), sumOn_perm hp]; exact hz2⟩
theorem PartsOk.part_in {t : Tr} {l : List Pt} {root : Int} (h : PartsOk t l root) {x : Pt} (hx : x ∈ l) : x.group ∈ subA t root := by
  have h1 : x.group ∈ msort (subT t root) := h.groups ▸ List.mem_map.2 ⟨x, hx, rfl⟩
  obtain ⟨i, n, hn, he⟩ := h.top
  have h2 := (msort_perm _).mem_iff.1 h1
  rw [← he, subT_some h.tree hn] at h2
  rw [← he]
  exact h2
theorem cap_le {t : Tr} (h : TreeOk t) {l : List Pt} {g : Int} (hg : InN t.nodes g) : capR t l g ≤ (partOf l g).room ∧ capR t l g ≤ max 0 ((partOf l g).usage - (partOf l g).protect) := by
  rw [capR_step h l hg, capF]
  omega
end Go.V

