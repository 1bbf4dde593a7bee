/- What a round that takes all leaves. Plain. -/
import Derived.Test.YtdmghfmdcfagcaaVR22
set_option linter.unusedSimpArgs false
set_option linter.unusedVariables false
namespace Go.V

theorem sumOn_one {g : Int} : ∀ {a : List (Int × Int)}, (a.Pairwise fun x y => x.1 < y.1) → sumOn [g] a = 0 ∨ ∃ q ∈ a, q.1 = g ∧ sumOn [g] a = q.2
  | [], _ => Or.inl rfl
  | p :: a, h => by
    obtain ⟨h1, h2⟩ := List.pairwise_cons.1 h
    have hs : sumOn [g] (p :: a) = (if p.1 ∈ [g] then p.2 else 0) + sumOn [g] a := rfl
    by_cases hp : p.1 = g
    · have hz : sumOn [g] a = 0 := sumOn_zero fun q hq => by
        have := h1 q hq
        simp only [List.mem_singleton]
        omega
      rw [hs, hz, if_pos (by simp [hp])]
      exact Or.inr ⟨p, by simp, hp, by omega⟩
    · rw [hs, if_neg (by simpa using hp), Int.zero_add]
      rcases sumOn_one (g := g) h2 with h3 | ⟨q, hq, h3, h4⟩
      · exact Or.inl h3
      · exact Or.inr ⟨q, by simp [hq], h3, h4⟩
theorem own_taken {t : Tr} {l : List Pt} {root K : Int} {a : List (Int × Int)} (hl : ∀ x ∈ l, PtOk x) (h : RoundOk t l root K a) (g : Int) : 0 ≤ sumOn [g] a ∧ sumOn [g] a ≤ (partOf l g).own := by
  have h0 := (partOf_ok hl g).o0
  rcases sumOn_one (g := g) h.inc with h1 | ⟨q, hq, h1, h2⟩
  · omega
  · have := h.pos q hq
    rw [h1] at this
    omega
theorem sumOn_take {S : List Int} {a : List (Int × Int)} (h : ∀ q ∈ a, 0 ≤ q.2) (j : Nat) : sumOn S (a.take j) ≤ sumOn S a := by
  refine sumI_take_le a j fun q hq => ?_
  have := h q hq
  split <;> omega

/-- A part behind a round. -/
def leftPt (t : Tr) (a : List (Int × Int)) (x : Pt) : Pt := ⟨x.group, max 0 (x.usage - takenP t a x.group), x.protect, x.own - sumOn [x.group] a, if x.room = 4611686018427387904 then x.room else max 0 (x.room - takenP t a x.group)⟩
theorem partOf_map {F : Pt → Pt} (hF : ∀ x, (F x).group = x.group) {g : Int} : ∀ {p : List Pt}, (∃ x ∈ p, x.group = g) → partOf (p.map F) g = F (partOf p g)
  | [], h => by simp at h
  | x :: p, h => by
    by_cases hx : x.group = g
    · simp [partOf, List.find?_cons, hF, hx]
    · have : ∃ y ∈ p, y.group = g := by
        obtain ⟨y, hy, he⟩ := h
        rcases List.mem_cons.1 hy with rfl | hy
        · exact absurd he hx
        · exact ⟨y, hy, he⟩
      have ih := partOf_map hF this
      simpa [partOf, List.find?_cons, hF, hx] using ih
theorem has_part {t : Tr} {l : List Pt} {root : Int} (h : PartsOk t l root) {g : Int} (hg : g ∈ subA t root) : ∃ x ∈ l, x.group = g := by
  obtain ⟨i, n, hn, he⟩ := h.top
  have hsr : subT t root = subA t root := by rw [← he]; exact subT_some h.tree hn
  have : g ∈ l.map (·.group) := by
    rw [h.groups, (msort_perm _).mem_iff, hsr]
    exact hg
  obtain ⟨y, hy, he⟩ := List.mem_map.1 this
  exact ⟨y, hy, he⟩
theorem taken_nonneg {t : Tr} {l : List Pt} {root K : Int} {a : List (Int × Int)} (h : RoundOk t l root K a) (g : Int) : 0 ≤ takenP t a g := sumI_map_nonneg _ fun q hq => by
  have := (h.pos q hq).1
  split <;> omega
theorem taken_step {t : Tr} {l : List Pt} {root K : Int} {a : List (Int × Int)} (hT : TreeOk t) (h : RoundOk t l root K a) {g : Int} (hg : InN t.nodes g) : takenP t a g = sumOn [g] a + sumI ((kidsN t.nodes g).map (takenP t a)) := by
  have hnd := subA_nodup hT hg
  rw [subA_cons hT hg, List.nodup_cons] at hnd
  rw [h.on g hg, subA_cons hT hg, sumOn_cons hnd.1, sumOn_flat a _ hnd.2]
  congr 1
  refine sumI_congr fun c hc => ?_
  exact (h.on c (kid_in hc)).symm
theorem sumI_sub (f g : Int → Int) : ∀ (ks : List Int), sumI (ks.map fun c => f c - g c) = sumI (ks.map f) - sumI (ks.map g)
  | [] => rfl
  | c :: ks => by
    have := sumI_sub f g ks
    simp only [List.map_cons, sumI, this]
    omega
theorem left_cap {t : Tr} {l : List Pt} {root K : Int} {a : List (Int × Int)} (hP : PartsOk t l root) (h : RoundOk t l root K a) : ∀ (k i : Nat) (n : Nd), t.nodes[i]? = some n → t.nodes.length ≤ i + k → n.id ∈ subA t root → capR t (l.map (leftPt t a)) n.id = capR t l n.id - takenP t a n.id := by
  intro k
  induction k with
  | zero => intro i n hn hk; have := (List.getElem?_eq_some_iff.1 hn).1; omega
  | succ k ih =>
    intro i n hn hk hs
    have hin : InN t.nodes n.id := ⟨i, n, hn, rfl⟩
    have hc := h.sub n.id hs
    have h0 := taken_nonneg h n.id
    have hst := taken_step hP.tree h hin
    have hown := own_taken hP.ok h n.id
    have hx := partOf_ok hP.ok n.id
    rw [capR_step hP.tree _ hin] at hc ⊢
    rw [capR_step hP.tree _ hin, partOf_map (F := leftPt t a) (fun _ => rfl) (has_part hP hs)]
    have hks : sumI ((kidsN t.nodes n.id).map (capR t (l.map (leftPt t a)))) = sumI ((kidsN t.nodes n.id).map (capR t l)) - sumI ((kidsN t.nodes n.id).map (takenP t a)) := by
      rw [← sumI_sub]
      refine sumI_congr fun c hc => ?_
      have hcs := subA_sub hP.tree hP.top hs (kid_sub hP.tree hin hc)
      obtain ⟨j, m, hj, hp, rfl⟩ := mem_kidsN.1 hc
      have hij := hP.tree.kid hn hj hp
      exact ih j m hj (by omega) hcs
    have hg : (partOf l n.id).group = n.id := by
      obtain ⟨x, hxm, hxg⟩ := has_part hP hs
      obtain ⟨j, hj⟩ := List.getElem?_of_mem hxm
      rw [← hxg, partOf_at hP.nodup hj]
    rw [hks]
    unfold capF leftPt at *
    rw [hg]
    generalize partOf l n.id = x at *
    have e1 := hx.u0
    have e2 := hx.u1
    have e3 := hx.p0
    have e4 := hx.r0
    have e5 := hx.r1
    generalize takenP t a n.id = T at *
    generalize sumOn [n.id] a = o at *
    generalize sumI ((kidsN t.nodes n.id).map (takenP t a)) = ST at *
    generalize sumI ((kidsN t.nodes n.id).map (capR t l)) = SC at *
    simp only
    split <;> omega
theorem left_ok {t : Tr} {l : List Pt} {root K : Int} {a : List (Int × Int)} (hP : PartsOk t l root) (h : RoundOk t l root K a) : PartsOk t (l.map (leftPt t a)) root := by
  refine ⟨hP.tree, hP.top, ?_, fun y hy => ?_⟩
  · rw [← hP.groups, List.map_map]
    rfl
  · obtain ⟨x, hx, rfl⟩ := List.mem_map.1 hy
    have hk := hP.ok x hx
    have h0 := taken_nonneg h x.group
    have hown := own_taken hP.ok h x.group
    obtain ⟨j, hj⟩ := List.getElem?_of_mem hx
    rw [partOf_at hP.nodup hj] at hown
    have e1 := hk.u0
    have e2 := hk.u1
    have e3 := hk.p0
    have e3' := hk.p1
    have e4 := hk.r0
    have e5 := hk.r1
    have e6 := hk.o0
    have e7 := hk.o1
    unfold leftPt
    generalize takenP t a x.group = T at *
    generalize sumOn [x.group] a = o at *
    constructor <;> simp only <;> first | omega | (split <;> omega)
theorem left_zero {t : Tr} {l : List Pt} {root : Int} {a : List (Int × Int)} (hP : PartsOk t l root) (h : RoundOk t l root (capR t l root) a) : CapP t (l.map (leftPt t a)) root = (0, 0) := by
  rw [CapP, if_pos ((validP_iff t _ _).2 (left_ok hP h))]
  have hs := subA_self hP.tree hP.top
  have ht := h.top
  obtain ⟨i, n, hn, rfl⟩ := hP.top
  rw [left_cap hP h t.nodes.length i n hn (by omega) hs, ht]
  simp
end Go.V

