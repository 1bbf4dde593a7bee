/- The law ClampCapacity in the value machine. -/
import Derived.Test.YtcljahgcdbohaaaVF11
set_option linter.unusedSimpArgs false
set_option linter.unusedVariables false
namespace Go.V

theorem subT_ok {t : Tr} (h : TreeOk t) {k : Nat} {m : Nd} (hm : t.nodes[k]? = some m) : subT t m.id = subF t.nodes t.nodes.length m.id := by
  rw [subT, findT, if_pos ((treeOk_iff t).2 h), findN_unique h.inc hm]; rfl
theorem subT_mem {t : Tr} (h : TreeOk t) {i : Nat} {n : Nd} (hn : t.nodes[i]? = some n) {k : Nat} {m : Nd} (hm : t.nodes[k]? = some m) : n.id ∈ subT t m.id ↔ m.id ∈ ancF t.nodes t.nodes.length n.id := by
  rw [subT_ok h hm, mem_subF h _ k m hm (by omega)]
  constructor
  · rintro ⟨j, q, hj, he, ha⟩
    rwa [he] at ha
  · intro ha
    exact ⟨i, n, hn, rfl, ha⟩
theorem subT_length {t : Tr} (h : TreeOk t) {k : Nat} {m : Nd} (hm : t.nodes[k]? = some m) : (subT t m.id).length ≤ t.nodes.length := by
  rw [subT_ok h hm]
  exact subF_length h hm (by omega)

theorem foldl_congr_mem {α β : Type} {f g : β → α → β} : ∀ (l : List α) (b : β), (∀ a ∈ l, ∀ c, f c a = g c a) → l.foldl f b = l.foldl g b
  | [], _, _ => rfl
  | a :: l, b, h => by
    simp only [List.foldl_cons]
    rw [h a (List.mem_cons_self ..)]
    exact foldl_congr_mem l _ fun x hx => h x (List.mem_cons_of_mem _ hx)

theorem eff_other {t : Tr} {l : List Cl} (h : ClampsOk t l) {k : Nat} {c : Cl} (hc : l[k]? = some c) (c' : Cl) {i : Nat} {n : Nd} (hn : t.nodes[i]? = some n) (hno : ¬ n.id ∈ subT t c.group) : effOf t (l.set k c') n.id = effOf t l n.id := by
  have hk : k < t.nodes.length := by rw [← h.len]; exact (List.getElem?_eq_some_iff.1 hc).1
  have hm : t.nodes[k]? = some t.nodes[k] := List.getElem?_eq_getElem hk
  generalize t.nodes[k] = m at hm
  rw [(h.each k m c hm hc).1, subT_mem h.tree hn hm] at hno
  have hx : ∀ x ∈ ancF t.nodes t.nodes.length n.id, clAt t.nodes (l.set k c') x = clAt t.nodes l x := by
    intro x hx
    refine clAt_set_ne fun he => hno ?_
    obtain ⟨j, y, _, hj, rfl⟩ := anc_le h.tree i n hn x hx
    rcases idxOf_lt t.nodes y.id with ⟨_, h2⟩ | ⟨q, z, hq, hz, _, hzi⟩
    · rw [findN_unique h.tree.inc hj] at h2; cases h2
    · rw [hq, Int.toNat_natCast] at he
      subst he
      rw [hm] at hz
      cases hz
      rw [hzi]; exact hx
  have hs := hx n.id (anc_self h.tree hn)
  have hmx : effMax t.nodes (l.set k c') (ancF t.nodes t.nodes.length n.id) = effMax t.nodes l (ancF t.nodes t.nodes.length n.id) := by
    unfold effMax
    exact foldl_congr_mem _ _ fun a ha c => by rw [hx a ha]
  unfold effOf
  rw [hmx, hs]

theorem foldMax_mem {α : Type} {f : α → Int} {x : α} : ∀ (ps : List α) (b : Int), x ∈ ps → f x ≤ ps.foldl (fun m p => max m (f p)) b
  | [], _, h => by simp at h
  | p :: ps, b, h => by
    simp only [List.foldl_cons]
    rcases List.mem_cons.1 h with rfl | h
    · have := foldMax_ge (f := f) ps (max b (f x))
      omega
    · exact foldMax_mem ps _ h
theorem foldMax_reach {α : Type} {f : α → Int} : ∀ (ps : List α) (b : Int), ps.foldl (fun m p => max m (f p)) b = b ∨ ∃ p ∈ ps, f p = ps.foldl (fun m p => max m (f p)) b
  | [], _ => Or.inl rfl
  | p :: ps, b => by
    simp only [List.foldl_cons]
    rcases foldMax_reach (f := f) ps (max b (f p)) with h | ⟨q, hq, he⟩
    · rw [h]
      rcases Int.le_total b (f p) with hb | hb
      · right; exact ⟨p, List.mem_cons_self .., by omega⟩
      · left; omega
    · right; exact ⟨q, List.mem_cons_of_mem _ hq, he⟩
theorem applyC_nonneg {t : Tr} {l : List Cl} (h : ClampsOk t l) (g u : Int) : 0 ≤ applyC t l g u := by
  unfold applyC
  split
  · rename_i hh
    obtain ⟨n, hn, rfl⟩ := findN_some hh.2
    obtain ⟨i, hi⟩ := List.getElem?_of_mem hn
    have := h.eff hi
    simp only [applyOf]
    omega
  · omega
theorem cap_reach {t : Tr} {l : List Cl} (h : ClampsOk t l) {g u : List Int} (hl : g.length = u.length) (h0 : g ≠ []) : ((g.zip u).any fun p => decide (applyC t l p.1 p.2 = capC t l g u)) = true := by
  rw [List.any_eq_true]
  unfold capC
  rw [if_pos hl]
  unfold capL
  rcases foldMax_reach (f := fun p : Int × Int => applyC t l p.1 p.2) (g.zip u) 0 with he | ⟨p, hp, he⟩
  · cases g with
    | nil => contradiction
    | cons x g =>
      cases u with
      | nil => simp at hl
      | cons y u =>
        refine ⟨(x, y), by simp, decide_eq_true ?_⟩
        have h1 := foldMax_mem (f := fun p : Int × Int => applyC t l p.1 p.2) ((x :: g).zip (y :: u)) 0 (x := (x, y)) (by simp)
        have h2 := applyC_nonneg h x y
        simp only at h1
        rw [he] at h1 ⊢
        show applyC t l x y = 0
        omega
  · exact ⟨p, hp, decide_eq_true he⟩
theorem cap_le (t : Tr) (l : List Cl) {g u : List Int} (hl : g.length = u.length) {p : Int × Int} (hp : p ∈ g.zip u) : ¬ capC t l g u < applyC t l p.1 p.2 := by
  unfold capC capL
  rw [if_pos hl]
  have := foldMax_mem (f := fun p : Int × Int => applyC t l p.1 p.2) (g.zip u) 0 hp
  omega

set_option maxHeartbeats 8000000 in
theorem clampCapacity_eq (L : List Int) (use : Int) : V 6 [.p (intsP L), .p (.int .i64 use)] [] = some (.p (.bool true), []) := by
  refine V_wp (vf := vf6) rfl ?_
  have hli := light_eq (L.map (PV.int .i64))
  rw [List.length_map] at hli
  by_cases hL : L.length ≤ 600
  · rw [decide_eq_true hL] at hli
    have hro := roll_eq L
    have htr : V 23 [.ptr (.arg 0 0) 0 0, .p (.int .i64 7)] [.box [.p (intsP L), .p (.int .i64 0)]] = some ((dTree L 0 7).1.vv, [diceB L (dTree L 0 7).2]) := tree_eq L 0 7 (by omega) (by omega)
    have hok := dTree_ok L 0 7
    generalize dTree L 0 7 = ta at htr hok
    obtain ⟨t, a0⟩ := ta
    simp only at htr hok
    have hlen := hok.len
    have hcl := clamps_eq L a0 t (by omega) (by omega)
    have hcok := dClamps_ok L a0 hok
    have hclen := dClamps_length L t.nodes a0
    generalize dClamps L a0 t.nodes = la at hcl hcok hclen
    obtain ⟨l, a1⟩ := la
    simp only at hcl hcok hclen
    have hn4 := next_eq L a1 4 (by omega) (by omega)
    have r0 := nextV_nonneg L a1 4
    have r1 := nextV_lt L a1 (n := 4) (by omega)
    obtain ⟨N, hN⟩ : ∃ N : Nat, nextV L a1 4 = N := ⟨(nextV L a1 4).toNat, by omega⟩
    rw [hN] at hn4 r0 r1
    generalize nextA L a1 4 = a2 at hn4
    simp -implicitDefEqProofs (disch := omega) only [vf6, vb6, hli, hro, htr, hcl, hn4, go_sem, ↓reduceIte, Nat.reduceAdd, Nat.reduceSub, Nat.reduceEqDiff, Nat.reduceLeDiff, reduceCtorEq]
    refine wp_count (N + 1) (fun k s => ∃ (g u : List Int) (b v8 v9 : Nat), g.length = k ∧ u.length = k ∧ s.pe 5 = .ptr (.slot 28 1) 0 0 ∧ s.pe 6 = .ptr (.slot 6 0) 0 0 ∧ s.pe 7 = .own (.slot 33 1) 0 0 l.length ∧ s.pe 8 = .own (.slot 8 0) v8 0 g.length ∧ s.pe 9 = .own (.slot 9 0) v9 0 u.length ∧ s.pe 10 = .p (.int .i64 (1 + (N : Int) - k)) ∧ s.h (.slot 28 1) = some (0, diceB L b) ∧ s.h (.slot 6 0) = some (0, .box [.p (nodesP t.nodes), .p (.int .i64 t.next)]) ∧ s.h (.slot 33 1) = some (0, .arr 3 (l.map Cl.pv)) ∧ s.h (.slot 8 0) = some (v8, .arr 1 (g.map (.int .i64))) ∧ s.h (.slot 9 0) = some (v9, .arr 1 (u.map (.int .i64))) ∧ s.h (.slot 91 0) = none) ?_ ?_
    · exact ⟨[], [], a2, 0, 0, rfl, rfl, by simp -implicitDefEqProofs (disch := omega) only [go_sem, ↓reduceIte, Nat.reduceAdd, Nat.reduceSub, Nat.reduceEqDiff, Nat.reduceLeDiff, reduceCtorEq], by simp -implicitDefEqProofs (disch := omega) only [go_sem, ↓reduceIte, Nat.reduceAdd, Nat.reduceSub, Nat.reduceEqDiff, Nat.reduceLeDiff, reduceCtorEq], by simp -implicitDefEqProofs (disch := omega) only [go_sem, ↓reduceIte, Nat.reduceAdd, Nat.reduceSub, Nat.reduceEqDiff, Nat.reduceLeDiff, reduceCtorEq], by simp -implicitDefEqProofs (disch := omega) only [go_sem, ↓reduceIte, Nat.reduceAdd, Nat.reduceSub, Nat.reduceEqDiff, Nat.reduceLeDiff, reduceCtorEq], by simp -implicitDefEqProofs (disch := omega) only [go_sem, ↓reduceIte, Nat.reduceAdd, Nat.reduceSub, Nat.reduceEqDiff, Nat.reduceLeDiff, reduceCtorEq], by simp -implicitDefEqProofs (disch := omega) only [go_sem, ↓reduceIte, Nat.reduceAdd, Nat.reduceSub, Nat.reduceEqDiff, Nat.reduceLeDiff, reduceCtorEq]; simp, by simp -implicitDefEqProofs (disch := omega) only [go_sem, ↓reduceIte, Nat.reduceAdd, Nat.reduceSub, Nat.reduceEqDiff, Nat.reduceLeDiff, reduceCtorEq], by simp -implicitDefEqProofs (disch := omega) only [go_sem, ↓reduceIte, Nat.reduceAdd, Nat.reduceSub, Nat.reduceEqDiff, Nat.reduceLeDiff, reduceCtorEq], by simp -implicitDefEqProofs (disch := omega) only [go_sem, ↓reduceIte, Nat.reduceAdd, Nat.reduceSub, Nat.reduceEqDiff, Nat.reduceLeDiff, reduceCtorEq], by simp -implicitDefEqProofs (disch := omega) only [go_sem, ↓reduceIte, Nat.reduceAdd, Nat.reduceSub, Nat.reduceEqDiff, Nat.reduceLeDiff, reduceCtorEq], by simp -implicitDefEqProofs (disch := omega) only [go_sem, ↓reduceIte, Nat.reduceAdd, Nat.reduceSub, Nat.reduceEqDiff, Nat.reduceLeDiff, reduceCtorEq], by simp -implicitDefEqProofs (disch := omega) only [go_sem, ↓reduceIte, Nat.reduceAdd, Nat.reduceSub, Nat.reduceEqDiff, Nat.reduceLeDiff, reduceCtorEq]⟩
    · rintro k s hk ⟨g, u, b, v8, v9, lg, lu, h5, h6, h7, h8, h9, h10, hh28, hh6, hh33, hh8, hh9, hh91⟩
      simp -implicitDefEqProofs (disch := omega) only [h5, h6, h7, h8, h9, h10, hh28, hh6, hh33, hh8, hh9, hh91, go_sem, ↓reduceIte, Nat.reduceAdd, Nat.reduceSub, Nat.reduceEqDiff, Nat.reduceLeDiff, reduceCtorEq]
      refine wp_if_d (fun hlt => ?_) (fun hge => ?_)
      · have c1 := next_eq L b t.nodes.length (by omega) (by omega)
        have s1 := nextV_nonneg L b t.nodes.length
        have s2 := nextV_lt L b (n := t.nodes.length) (by omega)
        generalize nextV L b t.nodes.length = x1 at c1 s1 s2
        generalize nextA L b t.nodes.length = b1 at c1
        have hm : t.nodes[x1.toNat]? = some t.nodes[x1.toNat] := List.getElem?_eq_getElem (by omega)
        generalize t.nodes[x1.toNat] = m at hm
        have c2 := next_eq L b1 10001 (by omega) (by omega)
        generalize nextV L b1 10001 = x2 at c2
        generalize nextA L b1 10001 = b2 at c2
        simp -implicitDefEqProofs (disch := omega) only [h5, h6, h7, h8, h9, h10, hh28, hh6, hh33, hh8, hh9, hh91, hlt, c1, c2, hm, go_sem, ↓reduceIte, Nat.reduceAdd, Nat.reduceSub, Nat.reduceEqDiff, Nat.reduceLeDiff, reduceCtorEq]
        refine ⟨by omega, g ++ [m.id], u ++ [x2], b2, v8 + 1, v9 + 1, by simp [lg], by simp [lu], ?_⟩
        simp [lg, lu]
        omega
      · have hglen : g.length = u.length := by omega
        have hg0 : g ≠ [] := by
          intro h
          rw [h] at lg
          simp at lg
          omega
        have hcap := ccap_eq t l g u hok.fits (by omega) (by omega)
        have hreach := cap_reach hcok hglen hg0
        have hle := fun p hp => cap_le t l hglen (p := p) hp
        generalize capC t l g u = C at hcap hreach hle
        simp -implicitDefEqProofs (disch := omega) only [h5, h6, h7, h8, h9, h10, hh28, hh6, hh33, hh8, hh9, hh91, hge, hcap, go_sem, ↓reduceIte, Nat.reduceAdd, Nat.reduceSub, Nat.reduceEqDiff, Nat.reduceLeDiff, reduceCtorEq]
        refine wp_count g.length (fun k s => s.pe 5 = .ptr (.slot 28 1) 0 0 ∧ s.pe 6 = .ptr (.slot 6 0) 0 0 ∧ s.pe 7 = .own (.slot 33 1) 0 0 l.length ∧ s.pe 8 = .own (.slot 8 0) v8 0 g.length ∧ s.pe 9 = .own (.slot 9 0) v9 0 u.length ∧ s.pe 11 = .p (.int .i64 C) ∧ s.pe 12 = .p (.bool (((g.zip u).take k).any fun p => decide (applyC t l p.1 p.2 = C))) ∧ s.pe 65 = .p (.int .i64 g.length) ∧ s.pe 66 = .p (.int .i64 k) ∧ s.h (.slot 28 1) = some (0, diceB L b) ∧ s.h (.slot 6 0) = some (0, .box [.p (nodesP t.nodes), .p (.int .i64 t.next)]) ∧ s.h (.slot 33 1) = some (0, .arr 3 (l.map Cl.pv)) ∧ s.h (.slot 8 0) = some (v8, .arr 1 (g.map (.int .i64))) ∧ s.h (.slot 9 0) = some (v9, .arr 1 (u.map (.int .i64))) ∧ s.h (.slot 91 0) = none) ?_ ?_
        · exact ⟨by simp -implicitDefEqProofs (disch := omega) only [h5, go_sem, ↓reduceIte, Nat.reduceAdd, Nat.reduceSub, Nat.reduceEqDiff, Nat.reduceLeDiff, reduceCtorEq], by simp -implicitDefEqProofs (disch := omega) only [h6, go_sem, ↓reduceIte, Nat.reduceAdd, Nat.reduceSub, Nat.reduceEqDiff, Nat.reduceLeDiff, reduceCtorEq], by simp -implicitDefEqProofs (disch := omega) only [h7, go_sem, ↓reduceIte, Nat.reduceAdd, Nat.reduceSub, Nat.reduceEqDiff, Nat.reduceLeDiff, reduceCtorEq], by simp -implicitDefEqProofs (disch := omega) only [h8, go_sem, ↓reduceIte, Nat.reduceAdd, Nat.reduceSub, Nat.reduceEqDiff, Nat.reduceLeDiff, reduceCtorEq], by simp -implicitDefEqProofs (disch := omega) only [h9, go_sem, ↓reduceIte, Nat.reduceAdd, Nat.reduceSub, Nat.reduceEqDiff, Nat.reduceLeDiff, reduceCtorEq], by simp -implicitDefEqProofs (disch := omega) only [go_sem, ↓reduceIte, Nat.reduceAdd, Nat.reduceSub, Nat.reduceEqDiff, Nat.reduceLeDiff, reduceCtorEq], by simp -implicitDefEqProofs (disch := omega) only [go_sem, ↓reduceIte, Nat.reduceAdd, Nat.reduceSub, Nat.reduceEqDiff, Nat.reduceLeDiff, reduceCtorEq], by simp -implicitDefEqProofs (disch := omega) only [go_sem, ↓reduceIte, Nat.reduceAdd, Nat.reduceSub, Nat.reduceEqDiff, Nat.reduceLeDiff, reduceCtorEq], rfl, by simp -implicitDefEqProofs (disch := omega) only [hh28, go_sem, ↓reduceIte, Nat.reduceAdd, Nat.reduceSub, Nat.reduceEqDiff, Nat.reduceLeDiff, reduceCtorEq], by simp -implicitDefEqProofs (disch := omega) only [hh6, go_sem, ↓reduceIte, Nat.reduceAdd, Nat.reduceSub, Nat.reduceEqDiff, Nat.reduceLeDiff, reduceCtorEq], by simp -implicitDefEqProofs (disch := omega) only [hh33, go_sem, ↓reduceIte, Nat.reduceAdd, Nat.reduceSub, Nat.reduceEqDiff, Nat.reduceLeDiff, reduceCtorEq], by simp -implicitDefEqProofs (disch := omega) only [hh8, go_sem, ↓reduceIte, Nat.reduceAdd, Nat.reduceSub, Nat.reduceEqDiff, Nat.reduceLeDiff, reduceCtorEq], by simp -implicitDefEqProofs (disch := omega) only [hh9, go_sem, ↓reduceIte, Nat.reduceAdd, Nat.reduceSub, Nat.reduceEqDiff, Nat.reduceLeDiff, reduceCtorEq], by simp -implicitDefEqProofs (disch := omega) only [hh91, go_sem, ↓reduceIte, Nat.reduceAdd, Nat.reduceSub, Nat.reduceEqDiff, Nat.reduceLeDiff, reduceCtorEq]⟩
        · rintro k s hk ⟨h5, h6, h7, h8, h9, h11, h12, h65, h66, hh28, hh6, hh33, hh8, hh9, hh91⟩
          simp -implicitDefEqProofs (disch := omega) only [h5, h6, h7, h8, h9, h11, h12, h65, h66, hh28, hh6, hh33, hh8, hh9, hh91, go_sem, ↓reduceIte, Nat.reduceAdd, Nat.reduceSub, Nat.reduceEqDiff, Nat.reduceLeDiff, reduceCtorEq]
          refine wp_if_d (fun hlt => ?_) (fun hge => ?_)
          · have hm : g[k]? = some g[k] := List.getElem?_eq_getElem hlt
            have hu : u[k]? = some u[k] := List.getElem?_eq_getElem (by omega)
            generalize g[k] = x at hm
            generalize u[k] = y at hu
            have hz : (g.zip u)[k]? = some (x, y) := by rw [List.getElem?_zip_eq_some]; exact ⟨hm, hu⟩
            have ca := cApply_eq t l x y hok.fits (by omega)
            have hle' := hle (x, y) (List.mem_of_getElem? hz)
            simp only at hle'
            have hst := any_take (p := fun p : Int × Int => decide (applyC t l p.1 p.2 = C)) hz
            simp only at hst
            generalize ((g.zip u).take k).any (fun p => decide (applyC t l p.1 p.2 = C)) = bb at h12 hst
            cases bb with
            | true =>
              simp -implicitDefEqProofs (disch := omega) only [h5, h6, h7, h8, h9, h11, h12, h65, h66, hh28, hh6, hh33, hh8, hh9, hh91, hlt, hm, hu, ca, hle', go_sem, ↓reduceIte, Nat.reduceAdd, Nat.reduceSub, Nat.reduceEqDiff, Nat.reduceLeDiff, reduceCtorEq]
              exact ⟨by rw [hst]; rfl, rfl⟩
            | false =>
              simp -implicitDefEqProofs (disch := omega) only [h5, h6, h7, h8, h9, h11, h12, h65, h66, hh28, hh6, hh33, hh8, hh9, hh91, hlt, hm, hu, ca, hle', go_sem, ↓reduceIte, Nat.reduceAdd, Nat.reduceSub, Nat.reduceEqDiff, Nat.reduceLeDiff, reduceCtorEq]
              exact ⟨by rw [hst]; rfl, rfl⟩
          · rw [List.take_of_length_le (by simp; omega), hreach] at h12
            have c1 := next_eq L b l.length (by omega) (by omega)
            have n0 := nextV_nonneg L b l.length
            have n1 := nextV_lt L b (n := l.length) (by omega)
            obtain ⟨j, hj⟩ : ∃ j : Nat, nextV L b l.length = j := ⟨_, (Int.toNat_of_nonneg n0).symm⟩
            rw [hj] at c1 n1
            generalize nextA L b l.length = b1 at c1
            have hjl : j < l.length := by omega
            have hcj : l[j]? = some l[j] := List.getElem?_eq_getElem hjl
            generalize l[j] = c at hcj
            have c2 := next_eq L b1 10001 (by omega) (by omega)
            have m0 := nextV_nonneg L b1 10001
            have m1 := nextV_lt L b1 (n := 10001) (by omega)
            generalize nextV L b1 10001 = mn at c2 m0 m1
            generalize nextA L b1 10001 = b2 at c2
            have c3 := next_eq L b2 10001 (by omega) (by omega)
            have m2 := nextV_nonneg L b2 10001
            have m3 := nextV_lt L b2 (n := 10001) (by omega)
            generalize nextV L b2 10001 = mx at c3 m2 m3
            generalize nextA L b2 10001 = b3 at c3
            have hok2 := hcok.set hcj (mn := mn) (mx := mx) m0 m2 (by omega) (by omega)
            have hoth := fun (i : Nat) (n : Nd) hn hno => eff_other hcok hcj ⟨c.group, mn, mx⟩ (i := i) (n := n) hn hno
            have hnj : t.nodes[j]? = some t.nodes[j] := List.getElem?_eq_getElem (by omega)
            generalize t.nodes[j] = nj at hnj
            have hcg := (hcok.each j nj c hnj hcj).1
            have hsl := subT_length hok hnj
            rw [← hcg] at hsl
            have csub := rsub_eq (t := t) c.group (by omega)
            simp -implicitDefEqProofs (disch := omega) only [h5, h6, h7, h8, h9, h11, h12, h65, h66, hh28, hh6, hh33, hh8, hh9, hh91, hge, c1, c2, c3, hcj, splice, setCells, List.getElem?_set_self, List.set_set, go_sem, ↓reduceIte, Nat.reduceAdd, Nat.reduceSub, Nat.reduceEqDiff, Nat.reduceLeDiff, reduceCtorEq]
            refine wp_count t.nodes.length (fun k s => s.pe 6 = .ptr (.slot 6 0) 0 0 ∧ s.pe 7 = .own (.slot 33 1) 0 0 l.length ∧ s.pe 12 = .p (.bool true) ∧ s.pe 15 = .own (.slot 91 0) 0 0 l.length ∧ s.pe 16 = .p (.int .i64 j) ∧ s.pe 110 = .p (.int .i64 t.nodes.length) ∧ s.pe 111 = .p (.int .i64 k) ∧ s.h (.slot 6 0) = some (0, .box [.p (nodesP t.nodes), .p (.int .i64 t.next)]) ∧ s.h (.slot 33 1) = some (0, .arr 3 (l.map Cl.pv)) ∧ s.h (.slot 91 0) = some (0, .arr 3 ((l.set j ⟨c.group, mn, mx⟩).map Cl.pv))) ?_ ?_
            · exact ⟨by simp -implicitDefEqProofs (disch := omega) only [h6, go_sem, ↓reduceIte, Nat.reduceAdd, Nat.reduceSub, Nat.reduceEqDiff, Nat.reduceLeDiff, reduceCtorEq], by simp -implicitDefEqProofs (disch := omega) only [h7, go_sem, ↓reduceIte, Nat.reduceAdd, Nat.reduceSub, Nat.reduceEqDiff, Nat.reduceLeDiff, reduceCtorEq], by simp -implicitDefEqProofs (disch := omega) only [h12, go_sem, ↓reduceIte, Nat.reduceAdd, Nat.reduceSub, Nat.reduceEqDiff, Nat.reduceLeDiff, reduceCtorEq], by simp -implicitDefEqProofs (disch := omega) only [go_sem, ↓reduceIte, Nat.reduceAdd, Nat.reduceSub, Nat.reduceEqDiff, Nat.reduceLeDiff, reduceCtorEq], by simp -implicitDefEqProofs (disch := omega) only [go_sem, ↓reduceIte, Nat.reduceAdd, Nat.reduceSub, Nat.reduceEqDiff, Nat.reduceLeDiff, reduceCtorEq], by simp -implicitDefEqProofs (disch := omega) only [go_sem, ↓reduceIte, Nat.reduceAdd, Nat.reduceSub, Nat.reduceEqDiff, Nat.reduceLeDiff, reduceCtorEq], rfl, by simp -implicitDefEqProofs (disch := omega) only [hh6, go_sem, ↓reduceIte, Nat.reduceAdd, Nat.reduceSub, Nat.reduceEqDiff, Nat.reduceLeDiff, reduceCtorEq], by simp -implicitDefEqProofs (disch := omega) only [hh33, go_sem, ↓reduceIte, Nat.reduceAdd, Nat.reduceSub, Nat.reduceEqDiff, Nat.reduceLeDiff, reduceCtorEq], by simp -implicitDefEqProofs (disch := omega) only [go_sem, ↓reduceIte, Nat.reduceAdd, Nat.reduceSub, Nat.reduceEqDiff, Nat.reduceLeDiff, reduceCtorEq]⟩
            · rintro k s hk ⟨h6, h7, h12, h15, h16, h110, h111, hh6, hh33, hh91⟩
              simp -implicitDefEqProofs (disch := omega) only [h6, h7, h12, h15, h16, h110, h111, hh6, hh33, hh91, go_sem, ↓reduceIte, Nat.reduceAdd, Nat.reduceSub, Nat.reduceEqDiff, Nat.reduceLeDiff, reduceCtorEq]
              refine wp_if_d (fun hlt => ?_) (fun hge => ?_)
              · have hm : t.nodes[k]? = some t.nodes[k] := List.getElem?_eq_getElem hlt
                generalize t.nodes[k] = m at hm
                have ch := has3_eq (subT t c.group) m.id (by omega)
                have hfm : (findN t.nodes m.id).isSome = true := by rw [findN_unique hok.inc hm]; rfl
                by_cases hin : m.id ∈ subT t c.group
                · simp -implicitDefEqProofs (disch := omega) only [h6, h7, h12, h15, h16, h110, h111, hh6, hh33, hh91, hlt, hm, csub, ch, hin, List.getElem?_set_self, go_sem, ↓reduceIte, Nat.reduceAdd, Nat.reduceSub, Nat.reduceEqDiff, Nat.reduceLeDiff, reduceCtorEq]
                  rfl
                · have e1 := ceffective_eq t l m.id hok.fits (by omega)
                  have e2 := ceffective_eq t (l.set j ⟨c.group, mn, mx⟩) m.id hok.fits (by omega)
                  rw [hok2.effC hfm, hoth k m hm hin] at e2
                  rw [hcok.effC hfm] at e1
                  simp -implicitDefEqProofs (disch := omega) only [h6, h7, h12, h15, h16, h110, h111, hh6, hh33, hh91, hlt, hm, csub, ch, hin, e1, e2, List.getElem?_set_self, go_sem, ↓reduceIte, Nat.reduceAdd, Nat.reduceSub, Nat.reduceEqDiff, Nat.reduceLeDiff, reduceCtorEq]
                  rfl
              · simp -implicitDefEqProofs (disch := omega) only [h6, h7, h12, h15, h16, h110, h111, hh6, hh33, hh91, hge, sane_eq, go_sem, ↓reduceIte, Nat.reduceAdd, Nat.reduceSub, Nat.reduceEqDiff, Nat.reduceLeDiff, reduceCtorEq]
  · rw [decide_eq_false hL] at hli
    simp -implicitDefEqProofs (disch := omega) only [vf6, vb6, hli, sane_eq, go_sem, ↓reduceIte, Nat.reduceAdd, Nat.reduceSub, Nat.reduceEqDiff, Nat.reduceLeDiff, reduceCtorEq]
end Go.V
