/- What a division gives. Plain. -/
import Derived.Test.YtdmghfmdcfagcaaVR17
set_option linter.unusedSimpArgs false
set_option linter.unusedVariables false
namespace Go.V

def cntB : List Int → List Int → Int
  | o :: os, w :: ws => (if o < w then 1 else 0) + cntB os ws
  | _, _ => 0
theorem cntB_nonneg : ∀ (o w : List Int), 0 ≤ cntB o w
  | o :: os, w :: ws => by
    have := cntB_nonneg os ws
    unfold cntB
    split <;> omega
  | [], _ => by unfold cntB; omega
  | _ :: _, [] => by unfold cntB; omega
theorem bumpD_sum : ∀ (left : Int) (o w : List Int), 0 ≤ left → left ≤ cntB o w → sumI (bumpD left o w) = sumI o + left
  | left, o :: os, w :: ws, h0, h1 => by
    have hc := cntB_nonneg os ws
    unfold cntB at h1
    unfold bumpD
    by_cases h : 0 < left ∧ o < w
    · rw [if_pos h]
      rw [if_pos h.2] at h1
      have := bumpD_sum (left - 1) os ws (by omega) (by omega)
      simp only [sumI, this]
      omega
    · rw [if_neg h]
      have : left ≤ cntB os ws := by
        by_cases h2 : o < w
        · omega
        · rw [if_neg h2] at h1
          omega
      have := bumpD_sum left os ws h0 this
      simp only [sumI, this]
      omega
  | left, [], w, h0, h1 => by
    unfold cntB at h1
    unfold bumpD
    omega
  | left, o :: os, [], h0, h1 => by
    unfold cntB at h1
    unfold bumpD
    omega
theorem bumpD_at : ∀ (left : Int) (o w : List Int) (i : Nat) (a b : Int), o[i]? = some a → w[i]? = some b → ∃ z, (bumpD left o w)[i]? = some z ∧ (z = a ∨ (z = a + 1 ∧ a < b))
  | left, o :: os, w :: ws, 0, a, b, ha, hb => by
    simp only [List.getElem?_cons_zero, Option.some.injEq] at ha hb
    subst ha
    subst hb
    unfold bumpD
    by_cases h : 0 < left ∧ o < w
    · rw [if_pos h]
      exact ⟨o + 1, rfl, Or.inr ⟨rfl, h.2⟩⟩
    · rw [if_neg h]
      exact ⟨o, rfl, Or.inl rfl⟩
  | left, o :: os, w :: ws, i + 1, a, b, ha, hb => by
    simp only [List.getElem?_cons_succ] at ha hb
    have h1 := bumpD_at (left - 1) os ws i a b ha hb
    have h2 := bumpD_at left os ws i a b ha hb
    unfold bumpD
    split
    · simpa using h1
    · simpa using h2
  | _, [], _, _, _, _, ha, _ => by simp at ha
  | _, _ :: _, [], _, _, _, _, hb => by simp at hb

theorem base_sum (K y : Int) : ∀ (w : List Int), sumI (baseD K y w) * y + sumI (w.map fun x => K * x % y) = K * sumI w
  | [] => by simp [baseD, sumI]
  | x :: w => by
    have ih := base_sum K y w
    have h := Int.mul_ediv_add_emod (K * x) y
    have hc : y * (K * x / y) = K * x / y * y := Int.mul_comm _ _
    simp only [baseD, List.map_cons, sumI, Int.add_mul, Int.mul_add] at ih ⊢
    omega
theorem mod_sum {K y : Int} (hK : 0 ≤ K) (hy : K < y) : ∀ (w : List Int), (∀ x ∈ w, 0 ≤ x) → 0 ≤ sumI (w.map fun x => K * x % y) ∧ sumI (w.map fun x => K * x % y) ≤ (y - 1) * cntB (baseD K y w) w
  | [], _ => by simp [sumI, baseD, cntB]
  | x :: w, hw => by
    have ih := mod_sum hK hy w (fun z hz => hw z (by simp [hz]))
    have hx := hw x (by simp)
    have h0 := Int.emod_nonneg (K * x) (show y ≠ 0 by omega)
    have h1 := Int.emod_lt_of_pos (K * x) (show 0 < y by omega)
    simp only [List.map_cons, sumI, baseD, cntB] at ih ⊢
    refine ⟨by omega, ?_⟩
    by_cases hx0 : x = 0
    · subst hx0
      rw [Int.mul_zero, Int.zero_emod, Int.zero_ediv, if_neg (by omega), Int.zero_add, Int.zero_add]
      exact ih.2
    · have hlt : K * x / y < x := by
        refine Int.ediv_lt_of_lt_mul (by omega) ?_
        rw [Int.mul_comm K x]
        exact Int.mul_lt_mul_of_pos_left hy (by omega)
      rw [if_pos hlt, Int.mul_add, Int.mul_one]
      omega
theorem base_full {y : Int} (hy : 0 < y) (w : List Int) : baseD y y w = w := by
  unfold baseD
  conv => rhs; rw [← List.map_id w]
  exact List.map_congr_left fun x _ => Int.mul_ediv_cancel_left x (by omega)
theorem sumI_zeros : ∀ (w : List Int), sumI (w.map fun _ => 0) = 0
  | [] => rfl
  | x :: w => by
    have := sumI_zeros w
    simp only [List.map_cons, sumI, this]
    omega
/-- All of it is divided. -/
theorem split_sum {K : Int} {w : List Int} (hw : ∀ x ∈ w, 0 ≤ x) (h0 : 0 ≤ K) (h1 : K ≤ sumI w) : sumI (splitP K w) = K := by
  unfold splitP
  by_cases hz : sumI w = 0
  · rw [if_pos hz, sumI_zeros]
    omega
  · rw [if_neg hz]
    have hy : 0 < sumI w := by
      have := sumI_nonneg w hw
      omega
    have hb := base_sum K (sumI w) w
    rw [bumpD_sum]
    · omega
    · by_cases hK : K < sumI w
      · have hm := (mod_sum h0 hK w hw).1
        have : sumI (baseD K (sumI w) w) * sumI w ≤ K * sumI w := by omega
        have := Int.le_of_mul_le_mul_right this hy
        omega
      · have : K = sumI w := by omega
        subst this
        rw [base_full hy]
        omega
    · by_cases hK : K < sumI w
      · have hm := (mod_sum h0 hK w hw).2
        have hc := cntB_nonneg (baseD K (sumI w) w) w
        generalize cntB (baseD K (sumI w) w) w = c at hm hc
        generalize sumI (baseD K (sumI w) w) = b at hb
        generalize sumI (w.map fun x => K * x % sumI w) = m at hb hm
        generalize sumI w = y at hb hm hy
        refine Int.not_lt.1 fun hlt => ?_
        have h2 : y * (c + 1) ≤ y * (K - b) := Int.mul_le_mul_of_nonneg_left (by omega) (by omega)
        rw [Int.mul_add, Int.mul_one, Int.mul_sub, Int.mul_comm y b, Int.mul_comm y K] at h2
        rw [Int.sub_mul, Int.one_mul] at hm
        omega
      · have : K = sumI w := by omega
        subst this
        rw [base_full hy]
        have := cntB_nonneg w w
        omega
/-- Each share gets its proportion. -/
theorem split_at {K : Int} {w : List Int} (hw : ∀ x ∈ w, 0 ≤ x) (h0 : 0 ≤ K) (h1 : K ≤ sumI w) {i : Nat} {x : Int} (hi : w[i]? = some x) : ∃ z, (splitP K w)[i]? = some z ∧ 0 ≤ z ∧ z ≤ x ∧ (0 < sumI w → z * sumI w ≤ K * x + sumI w ∧ K * x - sumI w + 1 ≤ z * sumI w) := by
  have hx := hw x (List.mem_of_getElem? hi)
  unfold splitP
  by_cases hz : sumI w = 0
  · rw [if_pos hz]
    refine ⟨0, by rw [List.getElem?_map, hi]; rfl, by omega, hx, fun h => by omega⟩
  · rw [if_neg hz]
    have hy : 0 < sumI w := by
      have := sumI_nonneg w hw
      omega
    obtain ⟨z, hz1, hz2⟩ := bumpD_at (K - sumI (baseD K (sumI w) w)) (baseD K (sumI w) w) w i (K * x / sumI w) x (by rw [baseD, List.getElem?_map, hi]; rfl) hi
    refine ⟨z, hz1, ?_⟩
    generalize sumI w = y at hy h1 hz2
    have hKx : 0 ≤ K * x := Int.mul_nonneg h0 hx
    have hq0 : 0 ≤ K * x / y := Int.ediv_nonneg hKx (by omega)
    have hqx : K * x / y ≤ x := by
      refine Int.ediv_le_of_le_mul hy ?_
      rw [Int.mul_comm K x]
      exact Int.mul_le_mul_of_nonneg_left h1 hx
    have hd := Int.mul_ediv_add_emod (K * x) y
    have hm0 := Int.emod_nonneg (K * x) (show y ≠ 0 by omega)
    have hm1 := Int.emod_lt_of_pos (K * x) hy
    rw [Int.mul_comm] at hd
    generalize K * x / y = q at hz2 hq0 hqx hd
    generalize K * x % y = m at hd hm0 hm1
    rcases hz2 with rfl | ⟨rfl, hlt⟩
    · refine ⟨hq0, hqx, fun _ => ⟨by omega, by omega⟩⟩
    · refine ⟨by omega, by omega, fun _ => ?_⟩
      rw [Int.add_mul, Int.one_mul]
      omega
end Go.V

