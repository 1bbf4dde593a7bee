/- The shares of all busy groups, plainly; what changes of weights and of active groups do. No program in sight. -/
import Derived.Test.YtcljahgcdbohaaaVI1
import Derived.Test.YtcljahgcdbohaaaVK8
set_option linter.unusedSimpArgs false
set_option linter.unusedVariables false
namespace Go.V

def sharesF (t : Tr) (w : Int → Int) (on : Int → Bool) : Nat → Int → Int → List Ch
  | 0, _, _ => []
  | k + 1, id, s => if on id = true then ⟨id, s⟩ :: (kidsN t.nodes id).flatMap (fun c => if on c = true then sharesF t w on k c (max 1 (s * w c / sumW t w on id)) else []) else []

theorem sharesF_val {t : Tr} (h : TreeOk t) (w : Int → Int) (on : Int → Bool) : ∀ (k i : Nat) (n : Nd), t.nodes[i]? = some n → ∀ x ∈ sharesF t w on k n.id (shr t w on n.id), on x.group = true ∧ x.own = shr t w on x.group
  | 0, _, _, _, x, hx => by simp [sharesF] at hx
  | k + 1, i, n, hn, x, hx => by
    unfold sharesF at hx
    split at hx
    · rename_i hon
      rcases List.mem_cons.1 hx with rfl | hx
      · exact ⟨hon, rfl⟩
      · rw [List.mem_flatMap] at hx
        obtain ⟨c, hc, hx⟩ := hx
        split at hx
        · rename_i hoc
          obtain ⟨j, m, hm, hp, rfl⟩ := mem_kidsN.1 hc
          have hks := kid_shr h w on hn hc
          rw [if_pos hoc] at hks
          rw [← hks] at hx
          exact sharesF_val h w on k j m hm x hx
        · cases hx
    · cases hx

theorem on_anc {t : Tr} (h : TreeOk t) {on : Int → Bool} (hu : UpClosed t on) : ∀ (i : Nat) (n : Nd), t.nodes[i]? = some n → on n.id = true → ∀ x ∈ ancF t.nodes t.nodes.length n.id, on x = true := by
  intro i
  induction i using Nat.strongRecOn with
  | _ i ih =>
    intro n hn hon x hx
    rcases (anc_iff h hn _).1 hx with rfl | ⟨hi, hx⟩
    · exact hon
    · rcases h.nodeAt hn with ⟨h0, _⟩ | ⟨_, _, j, p, hj, hp, hpe⟩
      · exact absurd h0 hi
      · have := hu.up i n hn hi hon
        rw [← hpe] at this hx
        exact ih j hj p hp this x hx

theorem sharesF_all {t : Tr} (h : TreeOk t) (w : Int → Int) {on : Int → Bool} (hu : UpClosed t on) : ∀ (k i : Nat) (n : Nd) (s : Int), t.nodes[i]? = some n → t.nodes.length ≤ i + k → ∀ (j : Nat) (m : Nd), t.nodes[j]? = some m → on m.id = true → n.id ∈ ancF t.nodes t.nodes.length m.id → ∃ x ∈ sharesF t w on k n.id s, x.group = m.id
  | 0, i, n, s, hn, hk, _, _, _, _, _ => by
    have := (List.getElem?_eq_some_iff.1 hn).1
    omega
  | k + 1, i, n, s, hn, hk, j, m, hm, hon, hin => by
    unfold sharesF
    rw [if_pos (on_anc h hu j m hm hon n.id hin)]
    by_cases he : n.id = m.id
    · exact ⟨_, List.mem_cons_self .., he⟩
    · obtain ⟨q, c, hc, hcp, hca⟩ := anc_child h j m hm hin he
      have hoc := on_anc h hu j m hm hon c.id hca
      have hlt := h.kid hn hc hcp
      obtain ⟨x, hx, hxe⟩ := sharesF_all h w hu k q c (max 1 (s * w c.id / sumW t w on n.id)) hc (by omega) j m hm hon hca
      refine ⟨x, List.mem_cons_of_mem _ (List.mem_flatMap.2 ⟨c.id, mem_kidsN.2 ⟨q, c, hc, hcp, rfl⟩, ?_⟩), hxe⟩
      rw [if_pos hoc]
      exact hx

/-! ### more active groups, a greater weight -/

theorem div_mono {a b W W' : Int} (h0 : 0 ≤ a) (h : a ≤ b) (hW : 0 < W) (hWW : W ≤ W') : a / W' ≤ b / W := by
  have h1 : a / W' ≤ b / W' := Int.ediv_le_ediv (by omega) h
  have h2 : b / W' ≤ b / W := by
    rw [Int.le_ediv_iff_mul_le hW]
    have h3 : 0 ≤ b / W' := Int.ediv_nonneg (by omega) (by omega)
    have h4 := Int.ediv_mul_le b (show W' ≠ 0 by omega)
    have h5 : b / W' * W ≤ b / W' * W' := Int.mul_le_mul_of_nonneg_left hWW h3
    omega
  omega

theorem sum_filter_mono {f : Int → Int} {on on' : Int → Bool} (hf : ∀ x, 0 ≤ f x) (h : ∀ x, on x = true → on' x = true) : ∀ (l : List Int), sumI ((l.filter on).map f) ≤ sumI ((l.filter on').map f)
  | [] => Int.le_refl _
  | x :: l => by
    have ih := sum_filter_mono hf h l
    have h0 := hf x
    by_cases h1 : on x = true
    · simp [h1, h x h1, sumI]
      exact ih
    · by_cases h2 : on' x = true
      · simp [h1, h2, sumI]
        omega
      · simp [h1, h2]
        exact ih

/-- One more active group: no share of a busy group grows. -/
theorem shr_shrinks {t : Tr} (h : TreeOk t) {w : Int → Int} (hw : ∀ x, 1 ≤ w x) {on on' : Int → Bool} (hu : UpClosed t on) (hu' : UpClosed t on') (hoo : ∀ x, on x = true → on' x = true) : ∀ (i : Nat) (n : Nd), t.nodes[i]? = some n → on n.id = true → shr t w on' n.id ≤ shr t w on n.id := by
  intro i
  induction i using Nat.strongRecOn with
  | _ i ih =>
    intro n hn hon
    by_cases hi : i = 0
    · rcases h.nodeAt hn with ⟨_, h1, _⟩ | ⟨h0, _⟩
      · rw [h1, shr_root t h, shr_root t h]
        exact Int.le_refl _
      · omega
    · rw [shr_step h w on hn hi, shr_step h w on' hn hi, if_pos hon, if_pos (hoo _ hon)]
      rcases h.nodeAt hn with ⟨h0, _⟩ | ⟨_, _, j, p, hj, hp, hpe⟩
      · omega
      · have hpo := hu.up i n hn hi hon
        have hle := ih j hj p hp (by rw [hpe]; exact hpo)
        rw [hpe] at hle
        have hr := (shr_range h hw hu' j p hp).1
        rw [hpe] at hr
        have hW := sumW_ge hw hn hon
        have hwn := hw n.id
        have hWW : sumW t w on n.parent ≤ sumW t w on' n.parent := sum_filter_mono (fun x => by have := hw x; omega) hoo _
        have := div_mono (a := shr t w on' n.parent * w n.id) (b := shr t w on n.parent * w n.id) (Int.mul_nonneg hr (by omega)) (Int.mul_le_mul_of_nonneg_right hle (by omega)) (show 0 < sumW t w on n.parent by omega) hWW
        omega

theorem sumW_congr {t : Tr} {w w' : Int → Int} {on : Int → Bool} {p : Int} (h : ∀ x ∈ kidsN t.nodes p, w' x = w x) : sumW t w' on p = sumW t w on p := by
  unfold sumW
  exact sumI_congr fun x hx => h x (List.mem_filter.1 hx).1

theorem sum_bump {w : Int → Int} {g : Int} {v : Int} {on : Int → Bool} (hg : on g = true) (l : List Int) (hn : l.Nodup) (hm : g ∈ l) : sumI ((l.filter on).map fun x => if x = g then v else w x) = sumI ((l.filter on).map w) + (v - w g) := by
  rw [sum_upd w g v _ (hn.filter _), if_pos (List.mem_filter.2 ⟨hm, hg⟩)]

/-- A greater weight of a group: its share does not shrink. -/
theorem shr_grows {t : Tr} (h : TreeOk t) {w : Int → Int} (hw : ∀ x, 1 ≤ w x) {on : Int → Bool} (hu : UpClosed t on) {q : Nat} {g : Nd} (hg : t.nodes[q]? = some g) (hon : on g.id = true) {v : Int} (hv : w g.id ≤ v) :
    shr t w on g.id ≤ shr t (fun x => if x = g.id then v else w x) on g.id := by
  have hw' : ∀ x, 1 ≤ (fun x => if x = g.id then v else w x) x := fun x => by
    show 1 ≤ if x = g.id then v else w x
    split
    · have := hw g.id; omega
    · exact hw x
  by_cases hq : q = 0
  · rcases h.nodeAt hg with ⟨_, h1, _⟩ | ⟨h0, _⟩
    · rw [h1, shr_root t h, shr_root t h]
      exact Int.le_refl _
    · omega
  · have hanc : ∀ (i : Nat) (n : Nd), t.nodes[i]? = some n → n.id ∈ ancF t.nodes t.nodes.length g.parent → shr t (fun x => if x = g.id then v else w x) on n.id = shr t w on n.id := by
      intro i
      induction i using Nat.strongRecOn with
      | _ i ih =>
        intro n hn hin
        by_cases hi : i = 0
        · rcases h.nodeAt hn with ⟨_, h1, _⟩ | ⟨h0, _⟩
          · rw [h1, shr_root t h, shr_root t h]
          · omega
        · rw [shr_step h (fun x => if x = g.id then v else w x) on hn hi, shr_step h w on hn hi]
          obtain ⟨jg, pg, hjg, hpg, hpge⟩ : ∃ j p, j < q ∧ t.nodes[j]? = some p ∧ p.id = g.parent := by
            rcases h.nodeAt hg with ⟨h0, _⟩ | ⟨_, _, j, p, a, b, c⟩
            · exact absurd h0 hq
            · exact ⟨j, p, a, b, c⟩
          obtain ⟨j, p, hj, hp, hpe⟩ : ∃ j p, j < i ∧ t.nodes[j]? = some p ∧ p.id = n.parent := by
            rcases h.nodeAt hn with ⟨h0, _⟩ | ⟨_, _, j, p, a, b, c⟩
            · exact absurd h0 hi
            · exact ⟨j, p, a, b, c⟩
          rw [← hpge] at hin
          obtain ⟨j', m', hj', hm', he'⟩ := anc_le h jg pg hpg n.id hin
          have hidx := (h.idx hm' hn he').1
          have hne : ¬ n.id = g.id := fun he => by
            have := (h.idx hn hg he).1
            omega
          have hsw : sumW t (fun x => if x = g.id then v else w x) on n.parent = sumW t w on n.parent := by
            refine sumW_congr fun x hx => ?_
            have : ¬ x = g.id := by
              rintro rfl
              obtain ⟨z, y, hy, hyp, hye⟩ := mem_kidsN.1 hx
              have := (h.idx hy hg hye).2
              subst this
              have hpp : pg = p := (h.idx hpg hp (by rw [hpge, hyp, hpe])).2
              have hjj : jg = j := (h.idx hpg hp (by rw [hpge, hyp, hpe])).1
              omega
            simp [this]
          have hpin := anc_parent h hn hi jg pg hpg hin
          rw [hpge] at hpin
          have ihp := ih j hj p hp (by rw [hpe]; exact hpin)
          rw [hpe] at ihp
          rw [hsw, ihp]
          simp only [hne, if_false]
    obtain ⟨jg, pg, hjg, hpg, hpge⟩ : ∃ j p, j < q ∧ t.nodes[j]? = some p ∧ p.id = g.parent := by
      rcases h.nodeAt hg with ⟨h0, _⟩ | ⟨_, _, j, p, a, b, c⟩
      · exact absurd h0 hq
      · exact ⟨j, p, a, b, c⟩
    have hp := hanc jg pg hpg (by rw [← hpge]; exact anc_self h hpg)
    rw [hpge] at hp
    have hr := shr_range h hw hu jg pg hpg
    rw [hpge] at hr
    rw [shr_step h (fun x => if x = g.id then v else w x) on hg hq, shr_step h w on hg hq, if_pos hon, if_pos hon, hp]
    have hs : sumW t (fun x => if x = g.id then v else w x) on g.parent = sumW t w on g.parent + (v - w g.id) := sum_bump hon _ (nodup_kidsN h _) (mem_kidsN.2 ⟨q, g, hg, rfl, rfl⟩)
    rw [hs]
    simp only [if_true]
    have hW := sumW_ge hw hg hon
    have hwg := hw g.id
    generalize sumW t w on g.parent = W at hW
    generalize shr t w on g.parent = s at hr
    generalize w g.id = u at hv hW hwg
    have hdiv : s * u / W ≤ s * v / (W + (v - u)) := by
      rw [Int.le_ediv_iff_mul_le (by omega)]
      have e1 := Int.ediv_mul_le (s * u) (show W ≠ 0 by omega)
      have e2 := div_le_self' (s := s) (w := u) (W := W) hr.1 (by omega) hW (by omega)
      have e3 : 0 ≤ s * u / W := Int.ediv_nonneg (Int.mul_nonneg hr.1 (by omega)) (by omega)
      generalize s * u / W = z at e1 e2 e3
      have e4 : z * (v - u) ≤ s * (v - u) := Int.mul_le_mul_of_nonneg_right e2 (by omega)
      rw [Int.mul_add]
      rw [Int.mul_sub s v u] at e4
      omega
    omega
end Go.V

