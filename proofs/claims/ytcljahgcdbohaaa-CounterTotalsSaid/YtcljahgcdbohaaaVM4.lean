/- The law CounterAdds in the value machine. -/
import Derived.Test.YtcljahgcdbohaaaVM3
import Derived.Test.YtcljahgcdbohaaaVG2
set_option linter.unusedSimpArgs false
set_option linter.unusedVariables false
namespace Go.V

theorem tot_root {t : Tr} (h : TreeOk t) {c : List Ch} (hc : ChOk t.nodes c) : tot t (ownC c) 1 = sumI (c.map (·.own)) := by
  obtain ⟨r, hr, hr1⟩ := root_at h
  rw [← hr1]
  refine sum_own_eq hc.inc _ (subF_nodup h hr) fun d hd => ?_
  obtain ⟨m, hm, he⟩ := findN_some (hc.known d hd)
  obtain ⟨j, hj⟩ := List.getElem?_of_mem hm
  rw [← he]
  exact (mem_sub h hr _).2 ⟨j, m, hj, rfl, by rw [hr1]; exact root_anc h j m hj⟩

theorem dCounter_sum (L : List Int) {t : Tr} (h : TreeOk t) : ∀ (ns : List Nd) (a : Nat) (c : List Ch), ChOk t.nodes c → (∀ n ∈ ns, n ∈ t.nodes) → sumI ((dCounter L t ns a c).1.map (·.own)) ≤ sumI (c.map (·.own)) + 1000 * ns.length
  | [], _, _, _, _ => by simp [dCounter]
  | n :: ns, a, c, hc, hm => by
    have hp := pickV_mem L a (xs := [0, 1, 5, 40, 100, 1000]) (by simp)
    have hk : knownN t.nodes n.id = true := mem_find' (hm n (List.mem_cons_self ..))
    have hok := AddK_ok (t := t) (c := c) (id := n.id) (n := pickV L a [0, 1, 5, 40, 100, 1000])
    unfold dCounter
    have hpr : 0 ≤ pickV L a [0, 1, 5, 40, 100, 1000] ∧ pickV L a [0, 1, 5, 40, 100, 1000] ≤ 1000 := by
      generalize pickV L a [0, 1, 5, 40, 100, 1000] = p at hp
      simp at hp
      omega
    have hadd := AddK_eq h hc hk (pickV L a [0, 1, 5, 40, 100, 1000])
    by_cases h0 : (AddK t c n.id (pickV L a [0, 1, 5, 40, 100, 1000])).2 = 0
    · rw [if_pos h0]
      have ih := dCounter_sum L h ns (nextA L a 6) _ (hok h0) fun x hx => hm x (List.mem_cons_of_mem _ hx)
      have hs : sumI ((AddK t c n.id (pickV L a [0, 1, 5, 40, 100, 1000])).1.map (·.own)) = sumI (c.map (·.own)) + pickV L a [0, 1, 5, 40, 100, 1000] := by
        rw [hadd] at h0 ⊢
        unfold addK at h0 ⊢
        split at h0
        · simp at h0
        · rename_i ha
          rw [if_neg ha]
          split at h0
          · simp at h0
          · rename_i hb
            rw [if_neg hb]
            simp only [withC_sum hc.inc]
            omega
      simp only [List.length_cons, Int.natCast_add]
      omega
    · rw [if_neg h0]
      have ih := dCounter_sum L h ns (nextA L a 6) c hc fun x hx => hm x (List.mem_cons_of_mem _ hx)
      simp only [List.length_cons, Int.natCast_add]
      omega
where
  mem_find' {ns : List Nd} {n : Nd} (h : n ∈ ns) : (findN ns n.id).isSome = true := by
    rw [findN, List.find?_isSome]
    exact ⟨n, h, by simp⟩

/-- Adding and taking back. -/
theorem adds_facts {t : Tr} (h : TreeOk t) {c : List Ch} (hc : ChOk t.nodes c) {k : Nat} {m : Nd} (hm : t.nodes[k]? = some m) {n : Int} (h0 : 0 ≤ n) (h1 : n < 5000) (hs : sumI (c.map (·.own)) ≤ 64000) :
    ∃ x, AddK t c m.id n = (x, 0) ∧ ChOk t.nodes x ∧ AddK t x m.id (0 - n) = (c, 0) ∧ ∀ (i : Nat) (q : Nd), t.nodes[i]? = some q → tot t (ownC x) q.id = tot t (ownC c) q.id + if q.id ∈ ancF t.nodes t.nodes.length m.id then n else 0 := by
  have hk : knownN t.nodes m.id = true := by rw [knownN, findN_unique h.inc hm]; rfl
  have o0 := ownC_nonneg hc.pos m.id
  have o1 := ownC_le hc.pos m.id
  have e1 : AddK t c m.id n = (withC c m.id (ownC c m.id + n), 0) := by
    rw [AddK_eq h hc hk, addK, tot_root h hc, if_neg (by omega), if_neg (by omega)]
  have hx : ChOk t.nodes (withC c m.id (ownC c m.id + n)) := by
    have := AddK_ok (t := t) (c := c) (id := m.id) (n := n) (by rw [e1])
    rw [e1] at this
    exact this
  have ho : ownC (withC c m.id (ownC c m.id + n)) = fun y => if y = m.id then ownC c m.id + n else ownC c y := by
    funext y
    rw [withC_own]
  have hom : ownC (withC c m.id (ownC c m.id + n)) m.id = ownC c m.id + n := by rw [ho]; simp
  refine ⟨_, e1, hx, ?_, fun i q hq => ?_⟩
  · have hsx := withC_sum hc.inc m.id (ownC c m.id + n)
    rw [AddK_eq h hx hk, addK, tot_root h hx, hom, if_neg (by omega), if_neg (by omega)]
    congr 1
    have hw : ChOk t.nodes (withC (withC c m.id (ownC c m.id + n)) m.id (ownC c m.id + n + (0 - n))) := hx.with (by rw [findN_unique h.inc hm]; rfl) (by omega) (by rw [hom]; omega)
    refine ch_ext _ _ hw.inc hc.inc hw.pos hc.pos fun y => ?_
    rw [withC_own, ho]
    by_cases hy : y = m.id
    · subst hy; simp; omega
    · simp [hy]
  · rw [ho, tot_upd h (ownC c) hq hm]
    congr 1
    split
    · omega
    · rfl

set_option maxHeartbeats 4000000 in
theorem counterAdds_eq (L : List Int) (n : Int) : V 15 [.p (intsP L), .p (.int .i64 n)] [] = some (.p (.bool true), []) := by
  refine V_wp (vf := vf15) rfl ?_
  have hli := light_eq (L.map (PV.int .i64))
  rw [List.length_map] at hli
  by_cases hL : L.length ≤ 600
  · rw [decide_eq_true hL] at hli
    have hro := roll_eq L
    have htr : V 23 [.ptr (.arg 0 0) 0 0, .p (.int .i64 6)] [.box [.p (intsP L), .p (.int .i64 0)]] = some ((dTree L 0 6).1.vv, [diceB L (dTree L 0 6).2]) := tree_eq L 0 6 (by omega) (by omega)
    have hok := dTree_ok L 0 6
    generalize dTree L 0 6 = ta at htr hok
    obtain ⟨t, a0⟩ := ta
    simp only at htr hok
    have hlen := hok.len
    have hco := counter_eq L a0 hok (by omega)
    have hcok := dCounter_ok L t t.nodes a0 [] (ChOk.nil _)
    have hcs := dCounter_sum L hok t.nodes a0 [] (ChOk.nil _) (fun x hx => hx)
    generalize dCounter L t t.nodes a0 [] = ca at hco hcok hcs
    obtain ⟨c, a1⟩ := ca
    simp only [List.map_nil, sumI] at hco hcok hcs
    have hcl := hcok.length
    have hnx := next_eq L a1 t.nodes.length (by omega) (by omega)
    have x0 := nextV_nonneg L a1 t.nodes.length
    have x1 := nextV_lt L a1 (n := t.nodes.length) (by omega)
    generalize nextV L a1 t.nodes.length = xi at hnx x0 x1
    generalize nextA L a1 t.nodes.length = a2 at hnx
    have hm : t.nodes[xi.toNat]? = some t.nodes[xi.toNat] := List.getElem?_eq_getElem (by omega)
    generalize t.nodes[xi.toNat] = m at hm
    have r1 := roll_eq [n]
    have r2 : V 27 [.ptr (.arg 0 0) 0 0, .p (.int .i64 5000)] [.box [.p (intsP [n]), .p (.int .i64 0)]] = some (.p (.int .i64 (nextV [n] 0 5000)), [diceB [n] (nextA [n] 0 5000)]) := next_eq [n] 0 5000 (by simp) (by omega)
    have n0 := nextV_nonneg [n] 0 5000
    have n1 := nextV_lt [n] 0 (n := 5000) (by omega)
    generalize nextV [n] 0 5000 = p at r2 n0 n1
    generalize nextA [n] 0 5000 = b at r2
    simp only [intsP, List.map_cons, List.map_nil] at r1 r2
    obtain ⟨x, e1, hx, e2, htot⟩ := adds_facts hok hcok hm n0 n1 (by omega)
    have hxl := hx.length
    have c1 := Add_eq t c m.id p hok.fits (by omega) (by omega)
    have c2 := Add_eq t x m.id (0 - p) hok.fits (by omega) (by omega)
    rw [e1] at c1
    rw [e2] at c2
    simp only at c1 c2
    have c3 := same_eq c c (by omega)
    rw [decide_eq_true rfl] at c3
    have c4 := ranc_eq t m.id (by omega)
    have hal := ancF_length t.nodes t.nodes.length m.id
    rw [ancR_anc hok hm] at c4
    have hpos := fun x => ownC_nonneg hcok.pos x
    generalize ancF t.nodes t.nodes.length m.id = A at c4 hal htot
    simp -implicitDefEqProofs (disch := omega) only [vf15, vb15, hli, hro, htr, hco, hnx, hm, r1, r2, c1, c2, c3, go_sem, ↓reduceIte, Nat.reduceAdd, Nat.reduceSub, Nat.reduceEqDiff, Nat.reduceLeDiff, reduceCtorEq]
    obtain ⟨I, hI⟩ : ∃ I : Nat → St → Prop, ∀ k s, I k s ↔ s.pe 1 = .p (.int .i64 p) ∧ s.pe 6 = .ptr (.slot 6 0) 0 0 ∧ s.pe 7 = .ptr (.slot 7 0) 0 0 ∧ s.pe 8 = .p (.int .i64 m.id) ∧ s.pe 9 = .ptr (.slot 9 0) 0 0 ∧ s.pe 13 = .p (.int .i64 k) ∧ s.h (.slot 6 0) = some (0, Ob.box [.p (nodesP t.nodes), .p (.int .i64 t.next)]) ∧ s.h (.slot 7 0) = some (0, Ob.box [.p (chsP c)]) ∧ s.h (.slot 9 0) = some (0, Ob.box [.own (.slot 48 1) 0 0 x.length]) ∧ s.h (.slot 48 1) = some (0, Ob.arr 2 (List.map Ch.pv x)) := ⟨_, fun _ _ => Iff.rfl⟩
    refine wp_count (t.nodes.length) I ?_ ?_
    · refine (hI _ _).2 ⟨?_, ?_, ?_, ?_, ?_, ?_, ?_, ?_, ?_, ?_⟩
      all_goals first | with_reducible rfl | (simp -implicitDefEqProofs (disch := omega) only [List.map_append, go_sem, ↓reduceIte, Nat.reduceAdd, Nat.reduceSub, Nat.reduceEqDiff, Nat.reduceLeDiff, reduceCtorEq]; done) | (simp -implicitDefEqProofs (disch := omega) only [List.map_append, go_sem, ↓reduceIte, Nat.reduceAdd, Nat.reduceSub, Nat.reduceEqDiff, Nat.reduceLeDiff, reduceCtorEq]; first | rfl | (simp; done) | (congr 2; omega) | (congr 1; omega) | (congr 3; omega) | (simp; omega) | (congr 2; simp; omega)) | rfl | omega | (congr 2; omega) | (simp -implicitDefEqProofs (disch := omega) only [List.map_append, go_sem, ↓reduceIte, Nat.reduceAdd, Nat.reduceSub, Nat.reduceEqDiff, Nat.reduceLeDiff, reduceCtorEq]; refine ⟨_, rfl, ?_⟩; first | (simp -implicitDefEqProofs (disch := omega) only [List.map_append, go_sem, ↓reduceIte, Nat.reduceAdd, Nat.reduceSub, Nat.reduceEqDiff, Nat.reduceLeDiff, reduceCtorEq]; done) | rfl) | (refine ⟨_, by simp -implicitDefEqProofs (disch := omega) only [List.map_append, go_sem, ↓reduceIte, Nat.reduceAdd, Nat.reduceSub, Nat.reduceEqDiff, Nat.reduceLeDiff, reduceCtorEq], ?_⟩; first | (simp -implicitDefEqProofs (disch := omega) only [List.map_append, go_sem, ↓reduceIte, Nat.reduceAdd, Nat.reduceSub, Nat.reduceEqDiff, Nat.reduceLeDiff, reduceCtorEq]; done) | rfl)
    intro k s hk hIk
    obtain ⟨h1, h6, h7, h8, h9, h13, hh6_0, hh7_0, hh9_0, hh48_1⟩ := (hI _ _).1 hIk
    clear hIk
    simp -implicitDefEqProofs (disch := omega) only [h1, h6, h7, h8, h9, h13, hh6_0, hh7_0, hh9_0, hh48_1, go_sem, ↓reduceIte, Nat.reduceAdd, Nat.reduceSub, Nat.reduceEqDiff, Nat.reduceLeDiff, reduceCtorEq]
    refine wp_if_d (fun hlt => ?_) (fun hge => ?_)
    · have hq : t.nodes[k]? = some t.nodes[k] := List.getElem?_eq_getElem hlt
      generalize t.nodes[k] = q at hq
      have d1 := total_at hok hcok hq
      have d2 := total_at hok hx hq
      have d3 := has3_eq A q.id (by omega)
      have htq := htot k q hq
      have t0 := tot_nonneg t hpos q.id
      have t1 := tot_le hok hcok hq
      have t2 := hcok.all
      generalize tot t (ownC c) q.id = T at d1 htq t0 t1
      by_cases hin : q.id ∈ A
      · rw [if_pos hin] at htq
        rw [htq] at d2
        have z1 : T + p - T = p := by omega
        by_cases hp0 : p = 0
        · subst hp0
          simp -implicitDefEqProofs (disch := omega) only [h1, h6, h7, h8, h9, h13, hh6_0, hh7_0, hh9_0, hh48_1, hlt, hq, d1, d2, Int.add_zero, Int.sub_self, go_sem, ↓reduceIte, Nat.reduceAdd, Nat.reduceSub, Nat.reduceEqDiff, Nat.reduceLeDiff, reduceCtorEq]
          try refine And.intro (by omega) ?_
          refine (hI _ _).2 ⟨?_, ?_, ?_, ?_, ?_, ?_, ?_, ?_, ?_, ?_⟩
          all_goals first | with_reducible rfl | (simp -implicitDefEqProofs (disch := omega) only [h1, h6, h7, h8, h9, h13, hh6_0, hh7_0, hh9_0, hh48_1, List.map_append, go_sem, ↓reduceIte, Nat.reduceAdd, Nat.reduceSub, Nat.reduceEqDiff, Nat.reduceLeDiff, reduceCtorEq]; done) | (simp -implicitDefEqProofs (disch := omega) only [h1, h6, h7, h8, h9, h13, hh6_0, hh7_0, hh9_0, hh48_1, List.map_append, go_sem, ↓reduceIte, Nat.reduceAdd, Nat.reduceSub, Nat.reduceEqDiff, Nat.reduceLeDiff, reduceCtorEq]; first | rfl | (simp; done) | (congr 2; omega) | (congr 1; omega) | (congr 3; omega) | (simp; omega) | (congr 2; simp; omega)) | rfl | omega | (congr 2; omega) | (simp -implicitDefEqProofs (disch := omega) only [h1, h6, h7, h8, h9, h13, hh6_0, hh7_0, hh9_0, hh48_1, List.map_append, go_sem, ↓reduceIte, Nat.reduceAdd, Nat.reduceSub, Nat.reduceEqDiff, Nat.reduceLeDiff, reduceCtorEq]; refine ⟨_, rfl, ?_⟩; first | (simp -implicitDefEqProofs (disch := omega) only [h1, h6, h7, h8, h9, h13, hh6_0, hh7_0, hh9_0, hh48_1, List.map_append, go_sem, ↓reduceIte, Nat.reduceAdd, Nat.reduceSub, Nat.reduceEqDiff, Nat.reduceLeDiff, reduceCtorEq]; done) | rfl) | (refine ⟨_, by simp -implicitDefEqProofs (disch := omega) only [h1, h6, h7, h8, h9, h13, hh6_0, hh7_0, hh9_0, hh48_1, List.map_append, go_sem, ↓reduceIte, Nat.reduceAdd, Nat.reduceSub, Nat.reduceEqDiff, Nat.reduceLeDiff, reduceCtorEq], ?_⟩; first | (simp -implicitDefEqProofs (disch := omega) only [h1, h6, h7, h8, h9, h13, hh6_0, hh7_0, hh9_0, hh48_1, List.map_append, go_sem, ↓reduceIte, Nat.reduceAdd, Nat.reduceSub, Nat.reduceEqDiff, Nat.reduceLeDiff, reduceCtorEq]; done) | rfl)
        · have hne : ¬ T + p = T := by omega
          simp -implicitDefEqProofs (disch := omega) only [h1, h6, h7, h8, h9, h13, hh6_0, hh7_0, hh9_0, hh48_1, hlt, hq, d1, d2, d3, c4, hin, hp0, z1, hne, decide_true, go_sem, ↓reduceIte, Nat.reduceAdd, Nat.reduceSub, Nat.reduceEqDiff, Nat.reduceLeDiff, reduceCtorEq]
          try refine And.intro (by omega) ?_
          refine (hI _ _).2 ⟨?_, ?_, ?_, ?_, ?_, ?_, ?_, ?_, ?_, ?_⟩
          all_goals first | with_reducible rfl | (simp -implicitDefEqProofs (disch := omega) only [h1, h6, h7, h8, h9, h13, hh6_0, hh7_0, hh9_0, hh48_1, List.map_append, go_sem, ↓reduceIte, Nat.reduceAdd, Nat.reduceSub, Nat.reduceEqDiff, Nat.reduceLeDiff, reduceCtorEq]; done) | (simp -implicitDefEqProofs (disch := omega) only [h1, h6, h7, h8, h9, h13, hh6_0, hh7_0, hh9_0, hh48_1, List.map_append, go_sem, ↓reduceIte, Nat.reduceAdd, Nat.reduceSub, Nat.reduceEqDiff, Nat.reduceLeDiff, reduceCtorEq]; first | rfl | (simp; done) | (congr 2; omega) | (congr 1; omega) | (congr 3; omega) | (simp; omega) | (congr 2; simp; omega)) | rfl | omega | (congr 2; omega) | (simp -implicitDefEqProofs (disch := omega) only [h1, h6, h7, h8, h9, h13, hh6_0, hh7_0, hh9_0, hh48_1, List.map_append, go_sem, ↓reduceIte, Nat.reduceAdd, Nat.reduceSub, Nat.reduceEqDiff, Nat.reduceLeDiff, reduceCtorEq]; refine ⟨_, rfl, ?_⟩; first | (simp -implicitDefEqProofs (disch := omega) only [h1, h6, h7, h8, h9, h13, hh6_0, hh7_0, hh9_0, hh48_1, List.map_append, go_sem, ↓reduceIte, Nat.reduceAdd, Nat.reduceSub, Nat.reduceEqDiff, Nat.reduceLeDiff, reduceCtorEq]; done) | rfl) | (refine ⟨_, by simp -implicitDefEqProofs (disch := omega) only [h1, h6, h7, h8, h9, h13, hh6_0, hh7_0, hh9_0, hh48_1, List.map_append, go_sem, ↓reduceIte, Nat.reduceAdd, Nat.reduceSub, Nat.reduceEqDiff, Nat.reduceLeDiff, reduceCtorEq], ?_⟩; first | (simp -implicitDefEqProofs (disch := omega) only [h1, h6, h7, h8, h9, h13, hh6_0, hh7_0, hh9_0, hh48_1, List.map_append, go_sem, ↓reduceIte, Nat.reduceAdd, Nat.reduceSub, Nat.reduceEqDiff, Nat.reduceLeDiff, reduceCtorEq]; done) | rfl)
      · rw [if_neg hin, Int.add_zero] at htq
        rw [htq] at d2
        by_cases hp0 : p = 0
        · subst hp0
          simp -implicitDefEqProofs (disch := omega) only [h1, h6, h7, h8, h9, h13, hh6_0, hh7_0, hh9_0, hh48_1, hlt, hq, d1, d2, Int.sub_self, go_sem, ↓reduceIte, Nat.reduceAdd, Nat.reduceSub, Nat.reduceEqDiff, Nat.reduceLeDiff, reduceCtorEq]
          try refine And.intro (by omega) ?_
          refine (hI _ _).2 ⟨?_, ?_, ?_, ?_, ?_, ?_, ?_, ?_, ?_, ?_⟩
          all_goals first | with_reducible rfl | (simp -implicitDefEqProofs (disch := omega) only [h1, h6, h7, h8, h9, h13, hh6_0, hh7_0, hh9_0, hh48_1, List.map_append, go_sem, ↓reduceIte, Nat.reduceAdd, Nat.reduceSub, Nat.reduceEqDiff, Nat.reduceLeDiff, reduceCtorEq]; done) | (simp -implicitDefEqProofs (disch := omega) only [h1, h6, h7, h8, h9, h13, hh6_0, hh7_0, hh9_0, hh48_1, List.map_append, go_sem, ↓reduceIte, Nat.reduceAdd, Nat.reduceSub, Nat.reduceEqDiff, Nat.reduceLeDiff, reduceCtorEq]; first | rfl | (simp; done) | (congr 2; omega) | (congr 1; omega) | (congr 3; omega) | (simp; omega) | (congr 2; simp; omega)) | rfl | omega | (congr 2; omega) | (simp -implicitDefEqProofs (disch := omega) only [h1, h6, h7, h8, h9, h13, hh6_0, hh7_0, hh9_0, hh48_1, List.map_append, go_sem, ↓reduceIte, Nat.reduceAdd, Nat.reduceSub, Nat.reduceEqDiff, Nat.reduceLeDiff, reduceCtorEq]; refine ⟨_, rfl, ?_⟩; first | (simp -implicitDefEqProofs (disch := omega) only [h1, h6, h7, h8, h9, h13, hh6_0, hh7_0, hh9_0, hh48_1, List.map_append, go_sem, ↓reduceIte, Nat.reduceAdd, Nat.reduceSub, Nat.reduceEqDiff, Nat.reduceLeDiff, reduceCtorEq]; done) | rfl) | (refine ⟨_, by simp -implicitDefEqProofs (disch := omega) only [h1, h6, h7, h8, h9, h13, hh6_0, hh7_0, hh9_0, hh48_1, List.map_append, go_sem, ↓reduceIte, Nat.reduceAdd, Nat.reduceSub, Nat.reduceEqDiff, Nat.reduceLeDiff, reduceCtorEq], ?_⟩; first | (simp -implicitDefEqProofs (disch := omega) only [h1, h6, h7, h8, h9, h13, hh6_0, hh7_0, hh9_0, hh48_1, List.map_append, go_sem, ↓reduceIte, Nat.reduceAdd, Nat.reduceSub, Nat.reduceEqDiff, Nat.reduceLeDiff, reduceCtorEq]; done) | rfl)
        · have hne : ¬ (0 : Int) = p := by omega
          simp -implicitDefEqProofs (disch := omega) only [h1, h6, h7, h8, h9, h13, hh6_0, hh7_0, hh9_0, hh48_1, hlt, hq, d1, d2, d3, c4, hin, hp0, Int.sub_self, hne, decide_false, go_sem, ↓reduceIte, Nat.reduceAdd, Nat.reduceSub, Nat.reduceEqDiff, Nat.reduceLeDiff, reduceCtorEq]
          try refine And.intro (by omega) ?_
          refine (hI _ _).2 ⟨?_, ?_, ?_, ?_, ?_, ?_, ?_, ?_, ?_, ?_⟩
          all_goals first | with_reducible rfl | (simp -implicitDefEqProofs (disch := omega) only [h1, h6, h7, h8, h9, h13, hh6_0, hh7_0, hh9_0, hh48_1, List.map_append, go_sem, ↓reduceIte, Nat.reduceAdd, Nat.reduceSub, Nat.reduceEqDiff, Nat.reduceLeDiff, reduceCtorEq]; done) | (simp -implicitDefEqProofs (disch := omega) only [h1, h6, h7, h8, h9, h13, hh6_0, hh7_0, hh9_0, hh48_1, List.map_append, go_sem, ↓reduceIte, Nat.reduceAdd, Nat.reduceSub, Nat.reduceEqDiff, Nat.reduceLeDiff, reduceCtorEq]; first | rfl | (simp; done) | (congr 2; omega) | (congr 1; omega) | (congr 3; omega) | (simp; omega) | (congr 2; simp; omega)) | rfl | omega | (congr 2; omega) | (simp -implicitDefEqProofs (disch := omega) only [h1, h6, h7, h8, h9, h13, hh6_0, hh7_0, hh9_0, hh48_1, List.map_append, go_sem, ↓reduceIte, Nat.reduceAdd, Nat.reduceSub, Nat.reduceEqDiff, Nat.reduceLeDiff, reduceCtorEq]; refine ⟨_, rfl, ?_⟩; first | (simp -implicitDefEqProofs (disch := omega) only [h1, h6, h7, h8, h9, h13, hh6_0, hh7_0, hh9_0, hh48_1, List.map_append, go_sem, ↓reduceIte, Nat.reduceAdd, Nat.reduceSub, Nat.reduceEqDiff, Nat.reduceLeDiff, reduceCtorEq]; done) | rfl) | (refine ⟨_, by simp -implicitDefEqProofs (disch := omega) only [h1, h6, h7, h8, h9, h13, hh6_0, hh7_0, hh9_0, hh48_1, List.map_append, go_sem, ↓reduceIte, Nat.reduceAdd, Nat.reduceSub, Nat.reduceEqDiff, Nat.reduceLeDiff, reduceCtorEq], ?_⟩; first | (simp -implicitDefEqProofs (disch := omega) only [h1, h6, h7, h8, h9, h13, hh6_0, hh7_0, hh9_0, hh48_1, List.map_append, go_sem, ↓reduceIte, Nat.reduceAdd, Nat.reduceSub, Nat.reduceEqDiff, Nat.reduceLeDiff, reduceCtorEq]; done) | rfl)
    · simp -implicitDefEqProofs (disch := omega) only [h1, h6, h7, h8, h9, h13, hh6_0, hh7_0, hh9_0, hh48_1, hge, sane22_eq, go_sem, ↓reduceIte, Nat.reduceAdd, Nat.reduceSub, Nat.reduceEqDiff, Nat.reduceLeDiff, reduceCtorEq]
  · rw [decide_eq_false hL] at hli
    simp -implicitDefEqProofs (disch := omega) only [vf15, vb15, hli, sane22_eq, go_sem, ↓reduceIte, Nat.reduceAdd, Nat.reduceSub, Nat.reduceEqDiff, Nat.reduceLeDiff, reduceCtorEq]
end Go.V

