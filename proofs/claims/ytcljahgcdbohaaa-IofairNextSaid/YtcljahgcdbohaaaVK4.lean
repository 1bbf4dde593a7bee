/- The value machine V at work: the totals of all groups. -/
import Derived.Test.YtcljahgcdbohaaaVK1
set_option linter.unusedSimpArgs false
set_option linter.unusedVariables false
namespace Go.V

def Rep (ks : List MKey) (vs : List PV) (f : Int → Int) : Prop := ∀ id, (mget ks vs (.int id)).getD (.int .i64 0) = .int .i64 (f id)

theorem mget_mput (x k' : MKey) (v' : PV) : ∀ (ks : List MKey) (vs : List PV), mget (mput ks vs k' v').1 (mput ks vs k' v').2 x = if x = k' then some v' else mget ks vs x
  | [], [] => by simp [mput, mget]
  | [], _ :: _ => by simp [mput, mget]
  | _ :: _, [] => by simp [mput, mget]
  | k :: ks, v :: vs => by
    have ih := mget_mput x k' v' ks vs
    by_cases h : k' = k
    · subst h
      simp only [mput, if_true, mget]
      by_cases hx : x = k' <;> simp [hx]
    · simp only [mput, h, if_false, mget, ih]
      by_cases hx : x = k
      · have : ¬ x = k' := fun hh => h (hh ▸ hx)
        simp [hx, this]
        intro hh
        exact absurd hh.symm h
      · simp [hx]

theorem Rep.put {ks : List MKey} {vs : List PV} {f : Int → Int} (h : Rep ks vs f) (g v : Int) : Rep (mput ks vs (.int g) (.int .i64 v)).1 (mput ks vs (.int g) (.int .i64 v)).2 (fun x => if x = g then v else f x) := by
  intro id
  rw [mget_mput]
  by_cases hg : id = g
  · subst hg
    simp
  · simp [hg]
    exact h id

theorem ownC_snoc (c : Ch) (x : Int) : ∀ (a : List Ch), (∀ d ∈ a, d.group ≠ c.group) → ownC (a ++ [c]) x = if x = c.group then c.own else ownC a x
  | [], _ => by simp only [List.nil_append, ownC, eq_comm]
  | d :: a, h => by
    have ih := ownC_snoc c x a (fun e he => h e (List.mem_cons_of_mem _ he))
    have hd := h d (List.mem_cons_self ..)
    simp only [List.cons_append, ownC, ih]
    by_cases h1 : d.group = x
    · have h2 : ¬ x = c.group := by omega
      simp [h1, h2]
    · simp [h1]

set_option maxHeartbeats 1000000 in
theorem sums_eq {t : Tr} (h : TreeOk t) {l : List Ch} (hl : ChOk t.nodes l) (hn : t.nodes.length < 1000000) (hll : l.length < 1000000) : ∃ ks vs, V 91 [t.vv, .agg [.p (chsP l)]] [] = some (.p (.map (.int .i64) ks vs), []) ∧ ∀ (i : Nat) (n : Nd), t.nodes[i]? = some n → (mget ks vs (.int n.id)).getD (.int .i64 0) = .int .i64 (tot t (ownC l) n.id) := by
  suffices hw : wp (callF V vf91 [t.vv, .agg [.p (chsP l)]] []) (fun r => ∃ ks vs, r = (.p (.map (.int .i64) ks vs), []) ∧ Rep ks vs (part t (ownC l) 1)) by
    obtain ⟨r, hr, ks, vs, rfl, hrep⟩ := hw
    refine ⟨ks, vs, V_fix (vf := vf91) rfl hr, fun i n hi => ?_⟩
    rw [hrep n.id, part_tot h _ hi (by omega)]
  obtain ⟨r0, ns0, hns, _, _⟩ := h.root
  have hpos : 1 ≤ t.nodes.length := by rw [hns]; simp
  have hf0 : ∀ x, 0 ≤ ownC l x := ownC_nonneg hl.pos
  simp -implicitDefEqProofs (disch := omega) only [vf91, vb91, go_sem, ↓reduceIte, Nat.reduceAdd, Nat.reduceSub, Nat.reduceEqDiff, Nat.reduceLeDiff, reduceCtorEq]
  refine wp_count l.length (fun k s => ∃ ks vs, Rep ks vs (ownC (l.take k)) ∧ s.pe 2 = .ptr (.slot 2 0) 0 0 ∧ s.pe 5 = .mref (.slot 9 0) 0 ∧ s.pe 11 = .p (chsP l) ∧ s.pe 12 = .p (.int .i64 l.length) ∧ s.pe 13 = .p (.int .i64 k) ∧ s.h (.slot 2 0) = some (0, .box [.p (nodesP t.nodes), .p (.int .i64 t.next)]) ∧ s.h (.slot 9 0) = some (0, .map (.int .i64) ks vs)) ?_ ?_
  · exact ⟨[], [], fun id => rfl, rfl, rfl, rfl, rfl, rfl, rfl, rfl⟩
  · rintro k s hk ⟨ks, vs, hrep, h2, h5, h11, h12, h13, hh2, hh9⟩
    simp -implicitDefEqProofs (disch := omega) only [h2, h5, h11, h12, h13, hh2, hh9, go_sem, ↓reduceIte, Nat.reduceAdd, Nat.reduceSub, Nat.reduceEqDiff, Nat.reduceLeDiff, reduceCtorEq]
    refine wp_if_d (fun hlt => ?_) (fun hge => ?_)
    · have hm : l[k]? = some l[k] := List.getElem?_eq_getElem hlt
      have hfresh : ∀ d ∈ l.take k, d.group ≠ l[k].group := by
        intro d hd
        obtain ⟨j, hj⟩ := List.getElem?_of_mem hd
        have hjk : j < k := by
          have := (List.getElem?_eq_some_iff.1 hj).1
          simp at this
          omega
        rw [List.getElem?_take_of_lt hjk] at hj
        obtain ⟨hjl, he⟩ := List.getElem?_eq_some_iff.1 hj
        have := List.pairwise_iff_getElem.1 hl.inc j k hjl hlt hjk
        rw [he] at this
        omega
      have htk : l.take (k + 1) = l.take k ++ [l[k]] := by rw [List.take_add_one, hm]; rfl
      generalize l[k] = c at hm hfresh htk
      have hnext := hrep.put c.group c.own
      rw [show (fun x => if x = c.group then c.own else ownC (l.take k) x) = ownC (l.take (k + 1)) from by
        funext x
        rw [htk, ownC_snoc c x _ hfresh]] at hnext
      simp -implicitDefEqProofs (disch := omega) only [h2, h5, h11, h12, h13, hh2, hh9, hlt, hm, go_sem, ↓reduceIte, Nat.reduceAdd, Nat.reduceSub, Nat.reduceEqDiff, Nat.reduceLeDiff, reduceCtorEq]
      exact ⟨_, _, hnext, rfl, rfl⟩
    · rw [List.take_of_length_le (by omega)] at hrep
      simp -implicitDefEqProofs (disch := omega) only [h2, h5, h11, h12, h13, hh2, hh9, hge, go_sem, ↓reduceIte, Nat.reduceAdd, Nat.reduceSub, Nat.reduceEqDiff, Nat.reduceLeDiff, reduceCtorEq]
      refine wp_count (t.nodes.length - 1) (fun k s => ∃ ks vs, Rep ks vs (part t (ownC l) (t.nodes.length - k)) ∧ s.pe 2 = .ptr (.slot 2 0) 0 0 ∧ s.pe 5 = .mref (.slot 9 0) 0 ∧ s.pe 8 = .p (.int .i64 ((t.nodes.length : Int) - 1 - k)) ∧ s.h (.slot 2 0) = some (0, .box [.p (nodesP t.nodes), .p (.int .i64 t.next)]) ∧ s.h (.slot 9 0) = some (0, .map (.int .i64) ks vs)) ?_ ?_
      · refine ⟨ks, vs, ?_, by simp -implicitDefEqProofs (disch := omega) only [h2, go_sem, ↓reduceIte, Nat.reduceAdd, Nat.reduceSub, Nat.reduceEqDiff, Nat.reduceLeDiff, reduceCtorEq], by simp -implicitDefEqProofs (disch := omega) only [h5, go_sem, ↓reduceIte, Nat.reduceAdd, Nat.reduceSub, Nat.reduceEqDiff, Nat.reduceLeDiff, reduceCtorEq], by simp -implicitDefEqProofs (disch := omega) only [go_sem, ↓reduceIte, Nat.reduceAdd, Nat.reduceSub, Nat.reduceEqDiff, Nat.reduceLeDiff, reduceCtorEq]; simp, by simp -implicitDefEqProofs (disch := omega) only [hh2, go_sem, ↓reduceIte, Nat.reduceAdd, Nat.reduceSub, Nat.reduceEqDiff, Nat.reduceLeDiff, reduceCtorEq], by simp -implicitDefEqProofs (disch := omega) only [hh9, go_sem, ↓reduceIte, Nat.reduceAdd, Nat.reduceSub, Nat.reduceEqDiff, Nat.reduceLeDiff, reduceCtorEq]⟩
        rw [Nat.sub_zero, show part t (ownC l) t.nodes.length = ownC l from funext (part_end t _)]
        exact hrep
      · rintro k s hk ⟨ks, vs, hrep, h2, h5, h8, hh2, hh9⟩
        simp -implicitDefEqProofs (disch := omega) only [h2, h5, h8, hh2, hh9, go_sem, ↓reduceIte, Nat.reduceAdd, Nat.reduceSub, Nat.reduceEqDiff, Nat.reduceLeDiff, reduceCtorEq]
        refine wp_if_d (fun hlt => ?_) (fun hge => ?_)
        · have hi : t.nodes.length - 1 - k < t.nodes.length := by omega
          have hm : t.nodes[t.nodes.length - 1 - k]? = some t.nodes[t.nodes.length - 1 - k] := List.getElem?_eq_getElem hi
          have hm' : t.nodes[((t.nodes.length : Int) - 1 - k).toNat]? = some t.nodes[t.nodes.length - 1 - k] := by
            rw [show ((t.nodes.length : Int) - 1 - k).toNat = t.nodes.length - 1 - k by omega]
            exact hm
          generalize t.nodes[t.nodes.length - 1 - k] = n at hm hm'
          obtain ⟨_, hn1, j, p, hj, hp, hpe⟩ := (h.nodeAt hm).resolve_left (by omega)
          have e1 := hrep n.parent
          have e2 := hrep n.id
          rw [show t.nodes.length - k = (t.nodes.length - 1 - k) + 1 by omega] at e1 e2 hrep
          rw [part_tot h _ hm (Nat.le_refl _)] at e2
          have hst := part_step (ownC l) hm n.parent
          rw [if_pos rfl] at hst
          have b1 := part_le h hf0 hp (t.nodes.length - 1 - k)
          have b2 := tot_le h hl hp
          have b3 := hl.all
          have b4 := part_nonneg t hf0 (t.nodes.length - 1 - k + 1) n.parent
          have b5 := tot_nonneg t hf0 n.id
          rw [hpe] at b1 b2
          have hnext := hrep.put n.parent (part t (ownC l) (t.nodes.length - 1 - k + 1) n.parent + tot t (ownC l) n.id)
          rw [show (fun x => if x = n.parent then part t (ownC l) (t.nodes.length - 1 - k + 1) n.parent + tot t (ownC l) n.id else part t (ownC l) (t.nodes.length - 1 - k + 1) x) = part t (ownC l) (t.nodes.length - (k + 1)) from by
            funext x
            rw [show t.nodes.length - (k + 1) = t.nodes.length - 1 - k by omega, part_step (ownC l) hm x]
            by_cases hx : x = n.parent
            · simp [hx]
            · simp [hx]] at hnext
          generalize part t (ownC l) (t.nodes.length - 1 - k + 1) n.parent = A at e1 hst b4 hnext
          generalize tot t (ownC l) n.id = B at e2 hst b5 hnext
          have hwr : IntKind.i64.wrap (A + B) = A + B := wrap64 (by omega) (by omega)
          simp -implicitDefEqProofs (disch := omega) only [h2, h5, h8, hh2, hh9, hlt, hm', e1, e2, hwr, go_sem, ↓reduceIte, Nat.reduceAdd, Nat.reduceSub, Nat.reduceEqDiff, Nat.reduceLeDiff, reduceCtorEq]
          exact ⟨by omega, _, _, hnext, by congr 2; omega, rfl⟩
        · rw [show t.nodes.length - k = 1 by omega] at hrep
          simp -implicitDefEqProofs (disch := omega) only [h2, h5, h8, hh2, hh9, hge, go_sem, ↓reduceIte, Nat.reduceAdd, Nat.reduceSub, Nat.reduceEqDiff, Nat.reduceLeDiff, reduceCtorEq]
          exact ⟨_, _, rfl, hrep⟩
end Go.V

