/- The value machine V at work: groups out of dice, capacities, violations. -/
import Derived.Test.YtcljahgcdbohaaaVC19
set_option linter.unusedSimpArgs false
set_option linter.unusedVariables false
namespace Go.V

def groupD (L : List Int) (a : Nat) (ns : List Nd) : Int × Nat :=
  if nextV L a 15 = 14 ∨ ns = [] then (nextV L (nextA L a 15) 9 - 1, nextA L (nextA L a 15) 9)
  else ((ns.getD (nextV L (nextA L a 15) ns.length).toNat zeroNd).id, nextA L (nextA L a 15) ns.length)

theorem group_eq (L : List Int) (a : Nat) (t : Tr) (hL : L.length < 4611686018427387904) (hl : t.nodes.length < 1000000) : V 28 [.ptr (.arg 0 0) 0 0, t.vv] [diceB L a] = some (.p (.int .i64 (groupD L a t.nodes).1), [diceB L (groupD L a t.nodes).2]) := by
  refine V_wp (vf := vf28) rfl ?_
  have hb := bool_eq L a 15 hL (by omega) (by omega)
  have h9 := next_eq L (nextA L a 15) 9 hL (by omega)
  have hn := next_eq L (nextA L a 15) t.nodes.length hL (by omega)
  have r9 := nextV_nonneg L (nextA L a 15) 9
  have r9' := nextV_lt L (nextA L a 15) (n := 9) (by omega)
  by_cases h14 : nextV L a 15 = 14
  · have h14' : nextV L a 15 = 15 - 1 := by omega
    simp -implicitDefEqProofs (disch := omega) only [vf28, vb28, hb, h14', h9, go_sem, ↓reduceIte, Nat.reduceAdd, Nat.reduceSub, Nat.reduceEqDiff, Nat.reduceLeDiff, reduceCtorEq]
    simp [groupD, h14]
  · have h14' : ¬ nextV L a 15 = 15 - 1 := by omega
    by_cases hz : t.nodes = []
    · have hz' : (t.nodes.length : Int) = 0 := by rw [hz]; rfl
      simp -implicitDefEqProofs (disch := omega) only [vf28, vb28, hb, h14', h9, hz', go_sem, ↓reduceIte, Nat.reduceAdd, Nat.reduceSub, Nat.reduceEqDiff, Nat.reduceLeDiff, reduceCtorEq]
      simp [groupD, hz]
    · have hp : 1 ≤ t.nodes.length := List.length_pos_iff.2 hz
      have q0 := nextV_nonneg L (nextA L a 15) t.nodes.length
      have q1 := nextV_lt L (nextA L a 15) (n := t.nodes.length) (by omega)
      have hm : t.nodes[(nextV L (nextA L a 15) t.nodes.length).toNat]? = some (t.nodes.getD (nextV L (nextA L a 15) t.nodes.length).toNat zeroNd) := by
        rw [List.getD_eq_getElem?_getD, List.getElem?_eq_getElem (by omega)]; rfl
      have hz0 : ¬ ((t.nodes.length : Int) = 0) := by omega
      simp -implicitDefEqProofs (disch := omega) only [vf28, vb28, hb, h14', h9, hn, hz0, hm, go_sem, ↓reduceIte, Nat.reduceAdd, Nat.reduceSub, Nat.reduceEqDiff, Nat.reduceLeDiff, reduceCtorEq]
      simp [groupD, h14, hz]

def capL (t : Tr) (l : List Cl) (ps : List (Int × Int)) : Int := ps.foldl (fun m p => max m (applyC t l p.1 p.2)) 0
def capC (t : Tr) (l : List Cl) (gs us : List Int) : Int := if gs.length = us.length then capL t l (gs.zip us) else 0

theorem foldMax_ge {α : Type} {f : α → Int} : ∀ (ps : List α) (b : Int), b ≤ ps.foldl (fun m p => max m (f p)) b
  | [], _ => Int.le_refl _
  | p :: ps, b => by
    have := foldMax_ge (f := f) ps (max b (f p))
    simp only [List.foldl_cons]
    omega
theorem capL_nonneg (t : Tr) (l : List Cl) (ps : List (Int × Int)) : 0 ≤ capL t l ps := foldMax_ge ps 0
theorem capL_bad {t : Tr} {l : List Cl} (h : validC t l = false) (ps : List (Int × Int)) : capL t l ps = 0 := by
  have : ∀ (ps : List (Int × Int)), ps.foldl (fun m p => max m (applyC t l p.1 p.2)) 0 = 0 := by
    intro ps
    induction ps with
    | nil => rfl
    | cons p ps ih =>
      simp only [List.foldl_cons]
      rw [show applyC t l p.1 p.2 = 0 by simp [applyC, h]]
      exact ih
  exact this ps

set_option maxHeartbeats 2000000 in
theorem ccap_eq (t : Tr) (l : List Cl) (gs us : List Int) (hf : t.Fits) (hl : t.nodes.length < 1000000) (hg : gs.length < 1000000) : V 29 [t.vv, .p (clsP l), .p (intsP gs), .p (intsP us)] [] = some (.p (.int .i64 (capC t l gs us)), []) := by
  refine V_wp (vf := vf29) rfl ?_
  have hv := cvalid_eq t l hf hl
  cases hvv : validC t l with
  | false =>
    rw [hvv] at hv
    simp -implicitDefEqProofs (disch := omega) only [vf29, vb29, hv, go_sem, ↓reduceIte, Nat.reduceAdd, Nat.reduceSub, Nat.reduceEqDiff, Nat.reduceLeDiff, reduceCtorEq]
    simp [capC, capL_bad hvv]
  | true =>
    rw [hvv] at hv
    by_cases hlen : gs.length = us.length
    · simp -implicitDefEqProofs (disch := omega) only [vf29, vb29, hv, hlen, go_sem, ↓reduceIte, Nat.reduceAdd, Nat.reduceSub, Nat.reduceEqDiff, Nat.reduceLeDiff, reduceCtorEq]
      refine wp_count gs.length (fun k s => s.pe 1 = .p (clsP l) ∧ s.pe 3 = .p (intsP us) ∧ s.pe 4 = .ptr (.slot 4 0) 0 0 ∧ s.pe 9 = .p (.int .i64 (capL t l ((gs.zip us).take k))) ∧ s.pe 23 = .p (intsP gs) ∧ s.pe 24 = .p (.int .i64 gs.length) ∧ s.pe 25 = .p (.int .i64 k) ∧ s.h (.slot 4 0) = some (0, .box [.p (nodesP t.nodes), .p (.int .i64 t.next)])) ?_ ?_
      · exact ⟨rfl, rfl, rfl, rfl, rfl, by rw [hlen]; rfl, rfl, rfl⟩
      · rintro k s hk ⟨h1, h3, h4, h9, h23, h24, h25, hh4⟩
        simp -implicitDefEqProofs (disch := omega) only [h1, h3, h4, h9, h23, h24, h25, hh4, go_sem, ↓reduceIte, Nat.reduceAdd, Nat.reduceSub, Nat.reduceEqDiff, Nat.reduceLeDiff, reduceCtorEq]
        refine wp_if_d (fun hlt => ?_) (fun hge => ?_)
        · have hm : gs[k]? = some gs[k] := List.getElem?_eq_getElem hlt
          have hu : us[k]? = some us[k] := List.getElem?_eq_getElem (by omega)
          generalize gs[k] = g at hm
          generalize us[k] = u at hu
          have ha := at_eq t g hl
          have hz : (gs.zip us)[k]? = some (g, u) := by rw [List.getElem?_zip_eq_some]; exact ⟨hm, hu⟩
          have hst : capL t l ((gs.zip us).take (k + 1)) = max (capL t l ((gs.zip us).take k)) (applyC t l g u) := by
            unfold capL
            rw [foldl_take_snoc _ hz]
          have hnn := capL_nonneg t l ((gs.zip us).take k)
          cases hgg : (findN t.nodes g).isSome with
          | false =>
            have hi := idx_neg hgg
            have hi' : ¬ 0 ≤ idxOf t.nodes g := by omega
            have h0 : applyC t l g u = 0 := by simp [applyC, hgg]
            simp -implicitDefEqProofs (disch := omega) only [h1, h3, h4, h9, h23, h24, h25, hh4, hm, hu, ha, hi', hlt, go_sem, ↓reduceIte, Nat.reduceAdd, Nat.reduceSub, Nat.reduceEqDiff, Nat.reduceLeDiff, reduceCtorEq]
            exact ⟨by rw [hst, h0, Int.max_eq_left hnn], rfl⟩
          | true =>
            have hi := idx_pos hgg
            have hi' : 0 ≤ idxOf t.nodes g := by omega
            have he := capply_eq t l g u (validC_len hvv) hgg hl
            have h0 : applyC t l g u = applyOf (effOf t l g) u := by simp [applyC, hgg, hvv]
            simp -implicitDefEqProofs (disch := omega) only [h1, h3, h4, h9, h23, h24, h25, hh4, hm, hu, ha, hi', hlt, he, go_sem, ↓reduceIte, Nat.reduceAdd, Nat.reduceSub, Nat.reduceEqDiff, Nat.reduceLeDiff, reduceCtorEq]
            exact ⟨by rw [hst, h0], rfl⟩
        · simp -implicitDefEqProofs (disch := omega) only [h1, h3, h4, h9, h23, h24, h25, hh4, hge, go_sem, ↓reduceIte, Nat.reduceAdd, Nat.reduceSub, Nat.reduceEqDiff, Nat.reduceLeDiff, reduceCtorEq]
          rw [List.take_of_length_le (by simp; omega)]
          simp [capC, hlen]
    · have hlen' : ¬ ((gs.length : Int) = us.length) := by omega
      simp -implicitDefEqProofs (disch := omega) only [vf29, vb29, hv, hlen', go_sem, ↓reduceIte, Nat.reduceAdd, Nat.reduceSub, Nat.reduceEqDiff, Nat.reduceLeDiff, reduceCtorEq]
      simp [capC, hlen]

/-- The groups whose least capacity is more than they may have. -/
def violC (t : Tr) (l : List Cl) : List Int := if validC t l then (l.filter fun c => decide (c.min > (effOf t l c.group).1)).map (·.group) else []

theorem filter_snoc {α : Type} {p : α → Bool} {l : List α} {k : Nat} {m : α} (hm : l[k]? = some m) : (l.take (k + 1)).filter p = if p m then (l.take k).filter p ++ [m] else (l.take k).filter p := by
  rw [take_snoc hm, List.filter_append]
  cases h : p m <;> simp [h]
theorem filter_le {α : Type} {p : α → Bool} (l : List α) (k : Nat) : ((l.take k).filter p).length ≤ k := by
  have := List.length_filter_le p (l.take k)
  have := List.length_take_le k l
  omega

set_option maxHeartbeats 2000000 in
theorem cviol_eq (t : Tr) (l : List Cl) (hf : t.Fits) (hl : t.nodes.length < 1000000) : V 30 [t.vv, .p (clsP l)] [] = some (.fresh 1 ((violC t l).map (.int .i64)), []) := by
  refine V_wp (vf := vf30) rfl ?_
  have hv := cvalid_eq t l hf hl
  cases hvv : validC t l with
  | false =>
    rw [hvv] at hv
    simp -implicitDefEqProofs (disch := omega) only [vf30, vb30, hv, go_sem, ↓reduceIte, Nat.reduceAdd, Nat.reduceSub, Nat.reduceEqDiff, Nat.reduceLeDiff, reduceCtorEq]
    simp [violC, hvv]
  | true =>
    rw [hvv] at hv
    have hlen := validC_len hvv
    have hok := (validC_iff t l).1 hvv
    simp -implicitDefEqProofs (disch := omega) only [vf30, vb30, hv, go_sem, ↓reduceIte, Nat.reduceAdd, Nat.reduceSub, Nat.reduceEqDiff, Nat.reduceLeDiff, reduceCtorEq]
    refine wp_count l.length (fun k s => ∃ v : Nat, s.pe 1 = .p (clsP l) ∧ s.pe 2 = .ptr (.slot 2 0) 0 0 ∧ s.pe 5 = .own (.slot 5 0) v 0 ((l.take k).filter fun c => decide (c.min > (effOf t l c.group).1)).length ∧ s.pe 14 = .p (.int .i64 l.length) ∧ s.pe 15 = .p (.int .i64 k) ∧ s.h (.slot 2 0) = some (0, .box [.p (nodesP t.nodes), .p (.int .i64 t.next)]) ∧ s.h (.slot 5 0) = some (v, .arr 1 ((((l.take k).filter fun c => decide (c.min > (effOf t l c.group).1)).map (·.group)).map (.int .i64)))) ?_ ?_
    · exact ⟨0, rfl, rfl, rfl, rfl, rfl, rfl, rfl⟩
    · rintro k s hk ⟨v, h1, h2, h5, h14, h15, hh2, hh5⟩
      have hfl := filter_le (p := fun c : Cl => decide (c.min > (effOf t l c.group).1)) l k
      simp -implicitDefEqProofs (disch := omega) only [h1, h2, h5, h14, h15, hh2, hh5, go_sem, ↓reduceIte, Nat.reduceAdd, Nat.reduceSub, Nat.reduceEqDiff, Nat.reduceLeDiff, reduceCtorEq]
      refine wp_if_d (fun hlt => ?_) (fun hge => ?_)
      · have hm : l[k]? = some l[k] := List.getElem?_eq_getElem hlt
        generalize l[k] = c at hm
        have hn : t.nodes[k]? = some t.nodes[k] := List.getElem?_eq_getElem (by omega)
        generalize t.nodes[k] = n at hn
        have hcn := (hok.each k n c hn hm).1
        have hfd : (findN t.nodes c.group).isSome = true := by rw [hcn, findN_unique hok.tree.inc hn]; rfl
        have he := ceff_eq t l c.group hlen hfd hl
        have hfs := filter_snoc (p := fun c : Cl => decide (c.min > (effOf t l c.group).1)) hm
        generalize (l.take k).filter (fun c : Cl => decide (c.min > (effOf t l c.group).1)) = acc at h5 hh5 hfl hfs
        by_cases hgt : c.min > (effOf t l c.group).1
        · rw [if_pos (by simpa using hgt)] at hfs
          simp -implicitDefEqProofs (disch := omega) only [h1, h2, h5, h14, h15, hh2, hh5, hm, he, hlt, hgt, go_sem, ↓reduceIte, Nat.reduceAdd, Nat.reduceSub, Nat.reduceEqDiff, Nat.reduceLeDiff, reduceCtorEq]
          exact ⟨v + 1, by rw [hfs]; simp, by rw [hfs]; simp; rw [List.take_of_length_le (by simp)]⟩
        · rw [if_neg (by simpa using hgt)] at hfs
          simp -implicitDefEqProofs (disch := omega) only [h1, h2, h5, h14, h15, hh2, hh5, hm, he, hlt, hgt, go_sem, ↓reduceIte, Nat.reduceAdd, Nat.reduceSub, Nat.reduceEqDiff, Nat.reduceLeDiff, reduceCtorEq]
          exact ⟨v, by rw [hfs], rfl, by rw [hfs]⟩
      · rw [List.take_of_length_le (by omega)] at h5 hh5
        simp -implicitDefEqProofs (disch := omega) only [h1, h2, h5, h14, h15, hh2, hh5, hge, go_sem, ↓reduceIte, Nat.reduceAdd, Nat.reduceSub, Nat.reduceEqDiff, Nat.reduceLeDiff, reduceCtorEq]
        simp [violC, hvv]
        rw [List.take_of_length_le (by simp)]
end Go.V
