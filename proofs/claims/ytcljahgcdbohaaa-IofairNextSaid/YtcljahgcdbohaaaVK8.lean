/- The value machine V at work: charges below limits. -/
import Derived.Test.YtcljahgcdbohaaaVK6
set_option linter.unusedSimpArgs false
set_option linter.unusedVariables false
namespace Go.V

def lookC : List Ch → Int → Option Int
  | [], _ => none
  | c :: l, id => if c.group = id then some c.own else lookC l id

theorem lookC_snoc (c : Ch) (x : Int) : ∀ (a : List Ch), (∀ d ∈ a, d.group ≠ c.group) → lookC (a ++ [c]) x = if x = c.group then some c.own else lookC a x
  | [], _ => by simp only [List.nil_append, lookC, eq_comm]
  | d :: a, h => by
    have ih := lookC_snoc c x a (fun e he => h e (List.mem_cons_of_mem _ he))
    have hd := h d (List.mem_cons_self ..)
    simp only [List.cons_append, lookC, ih]
    by_cases h1 : d.group = x
    · have h2 : ¬ x = c.group := by omega
      simp [h1, h2]
    · simp [h1]
theorem lookC_mem {l : List Ch} {x m : Int} (h : lookC l x = some m) : ∃ c ∈ l, c.group = x ∧ c.own = m := by
  induction l with
  | nil => cases h
  | cons c l ih =>
    unfold lookC at h
    split at h
    · rename_i hg
      cases h
      exact ⟨c, List.mem_cons_self .., hg, rfl⟩
    · obtain ⟨d, hd, h1⟩ := ih h
      exact ⟨d, List.mem_cons_of_mem _ hd, h1⟩

theorem fresh_at {l : List Ch} (hinc : l.Pairwise fun a b => a.group < b.group) {k : Nat} {c : Ch} (hm : l[k]? = some c) : ∀ d ∈ l.take k, d.group ≠ c.group := by
  intro d hd
  obtain ⟨j, hj⟩ := List.getElem?_of_mem hd
  have hjk : j < k := by
    have := (List.getElem?_eq_some_iff.1 hj).1
    simp at this
    omega
  rw [List.getElem?_take_of_lt hjk] at hj
  obtain ⟨hjl, he⟩ := List.getElem?_eq_some_iff.1 hj
  obtain ⟨hkl, he2⟩ := List.getElem?_eq_some_iff.1 hm
  have := List.pairwise_iff_getElem.1 hinc j k hjl hkl hjk
  rw [he, he2] at this
  omega

def Rep2 (ks : List MKey) (vs : List PV) (f : Int → Option Int) : Prop := ∀ id, mget ks vs (.int id) = (f id).map (.int .i64)
theorem Rep2.put {ks : List MKey} {vs : List PV} {f : Int → Option Int} (h : Rep2 ks vs f) (g v : Int) : Rep2 (mput ks vs (.int g) (.int .i64 v)).1 (mput ks vs (.int g) (.int .i64 v)).2 (fun x => if x = g then some v else f x) := by
  intro id
  rw [mget_mput]
  by_cases hg : id = g
  · subst hg
    simp
  · simp [hg]
    exact h id

set_option maxHeartbeats 1000000 in
theorem limits_eq {l : List Ch} (hinc : l.Pairwise fun a b => a.group < b.group) (hll : l.length < 1000000) : ∃ ks vs, V 98 [.p (chsP l)] [] = some (.p (.map (.int .i64) ks vs), []) ∧ Rep2 ks vs (lookC l) := by
  suffices hw : wp (callF V vf98 [.p (chsP l)] []) (fun r => ∃ ks vs, r = (.p (.map (.int .i64) ks vs), []) ∧ Rep2 ks vs (lookC l)) by
    obtain ⟨r, hr, ks, vs, rfl, hrep⟩ := hw
    exact ⟨ks, vs, V_fix (vf := vf98) rfl hr, hrep⟩
  simp -implicitDefEqProofs (disch := omega) only [vf98, vb98, go_sem, ↓reduceIte, Nat.reduceAdd, Nat.reduceSub, Nat.reduceEqDiff, Nat.reduceLeDiff, reduceCtorEq]
  obtain ⟨I, hI⟩ : ∃ I : Nat → St → Prop, ∀ k s, I k s ↔ ∃ (ks : List MKey) (vs : List PV), Rep2 ks vs (lookC (l.take k)) ∧ s.pe 3 = .mref (.slot 6 0) 0 ∧ s.pe 7 = .p (chsP l) ∧ s.pe 8 = .p (.int .i64 l.length) ∧ s.pe 9 = .p (.int .i64 k) ∧ s.h (.slot 6 0) = some (0, .map (.int .i64) ks vs) := ⟨_, fun _ _ => Iff.rfl⟩
  refine wp_count (l.length) I ?_ ?_
  · refine (hI _ _).2 ⟨[], [], ?_, ?_, ?_, ?_, ?_, ?_⟩
    · exact fun id => rfl
    all_goals first | with_reducible rfl | (simp -implicitDefEqProofs (disch := omega) only [List.map_append, go_sem, ↓reduceIte, Nat.reduceAdd, Nat.reduceSub, Nat.reduceEqDiff, Nat.reduceLeDiff, reduceCtorEq]; first | done | rfl | (simp; done) | (congr 2; omega) | (congr 1; omega) | (congr 3; omega) | (simp; omega) | (congr 2; simp; omega) | (refine ⟨_, rfl, ?_⟩; first | rfl | (simp -implicitDefEqProofs (disch := omega) only [List.map_append, go_sem, ↓reduceIte, Nat.reduceAdd, Nat.reduceSub, Nat.reduceEqDiff, Nat.reduceLeDiff, reduceCtorEq]; done))) | rfl | omega | (congr 2; omega)
  intro k s hk hIk
  obtain ⟨ks, vs, hrep, h3, h7, h8, h9, hh6_0⟩ := (hI _ _).1 hIk
  clear hIk
  simp -implicitDefEqProofs (disch := omega) only [h3, h7, h8, h9, hh6_0, go_sem, ↓reduceIte, Nat.reduceAdd, Nat.reduceSub, Nat.reduceEqDiff, Nat.reduceLeDiff, reduceCtorEq]
  refine wp_if_d (fun hlt => ?_) (fun hge => ?_)
  · have hm : l[k]? = some l[k] := List.getElem?_eq_getElem hlt
    have htk : l.take (k + 1) = l.take k ++ [l[k]] := by rw [List.take_add_one, hm]; rfl
    generalize l[k] = c at hm htk
    have hnext := hrep.put c.group c.own
    rw [show (fun x => if x = c.group then some c.own else lookC (l.take k) x) = lookC (l.take (k + 1)) from by
      funext x
      rw [htk, lookC_snoc c x _ (fresh_at hinc hm)]] at hnext
    simp -implicitDefEqProofs (disch := omega) only [h3, h7, h8, h9, hh6_0, hlt, hm, go_sem, ↓reduceIte, Nat.reduceAdd, Nat.reduceSub, Nat.reduceEqDiff, Nat.reduceLeDiff, reduceCtorEq]
    try refine And.intro (by omega) ?_
    refine (hI _ _).2 ⟨(mput ks vs (.int c.group) (.int .i64 c.own)).1, (mput ks vs (.int c.group) (.int .i64 c.own)).2, ?_, ?_, ?_, ?_, ?_, ?_⟩
    · exact hnext
    all_goals first | with_reducible rfl | (simp -implicitDefEqProofs (disch := omega) only [h3, h7, h8, h9, hh6_0, List.map_append, go_sem, ↓reduceIte, Nat.reduceAdd, Nat.reduceSub, Nat.reduceEqDiff, Nat.reduceLeDiff, reduceCtorEq]; first | done | rfl | (simp; done) | (congr 2; omega) | (congr 1; omega) | (congr 3; omega) | (simp; omega) | (congr 2; simp; omega) | (refine ⟨_, rfl, ?_⟩; first | rfl | (simp -implicitDefEqProofs (disch := omega) only [h3, h7, h8, h9, hh6_0, List.map_append, go_sem, ↓reduceIte, Nat.reduceAdd, Nat.reduceSub, Nat.reduceEqDiff, Nat.reduceLeDiff, reduceCtorEq]; done))) | rfl | omega | (congr 2; omega)
  · rw [List.take_of_length_le (by omega)] at hrep
    simp -implicitDefEqProofs (disch := omega) only [h3, h7, h8, h9, hh6_0, hge, go_sem, ↓reduceIte, Nat.reduceAdd, Nat.reduceSub, Nat.reduceEqDiff, Nat.reduceLeDiff, reduceCtorEq]
    exact ⟨_, _, rfl, hrep⟩

def refuses (t : Tr) (c l : List Ch) (n : Int) (g : Int) : Bool := match lookC l g with
  | some m => decide (m < tot t (ownC c) g + n)
  | none => false

def ChargeK (t : Tr) (c l : List Ch) (id n : Int) : List Ch × Int × Int :=
  if validK t c = true ∧ validLK t l = true then
    (if checkK t c id = 0 then
      (if n < 0 then ([], 0, 3) else if (addK t c id n).2 ≠ 0 ∨ n = 0 then ((addK t c id n).1, 0, (addK t c id n).2)
       else match (ancF t.nodes t.nodes.length id).find? (refuses t c l n) with
        | some g => ([], g, 11)
        | none => ((addK t c id n).1, 0, 0))
     else ([], 0, checkK t c id))
  else ([], 0, 1)

theorem addK_range {t : Tr} {c : List Ch} {id n : Int} (h : (addK t c id n).2 = 0) : n ≤ 16777216 := by
  unfold addK at h
  split at h
  · simp at h
  · omega

theorem find_drop {α : Type} {p : α → Bool} {l : List α} {k : Nat} {x : α} (hm : l[k]? = some x) (h : l.find? p = (l.drop k).find? p) : l.find? p = if p x = true then some x else (l.drop (k + 1)).find? p := by
  have hl := (List.getElem?_eq_some_iff.1 hm).1
  rw [h, List.drop_eq_getElem_cons hl]
  rw [List.getElem?_eq_getElem hl] at hm
  cases hm
  rw [List.find?_cons]
  split <;> simp_all

set_option maxHeartbeats 2000000 in
theorem charge_eq (t : Tr) (c l : List Ch) (id n : Int) (hf : t.Fits) (hn : t.nodes.length < 1000000) (hc : c.length < 1000000) (hl : l.length < 1000000) : V 58 [t.vv, ctrV c, .p (chsP l), .p (.int .i64 id), .p (.int .i64 n)] [] = some (.tup [ctrF (ChargeK t c l id n).1, .p (.int .i64 (ChargeK t c l id n).2.1), .p (.int .i64 (ChargeK t c l id n).2.2)], []) := by
  refine V_wp (vf := vf58) rfl ?_
  have hv := kvalid_eq t c hf hn hc
  have hvl := klimits_eq t l hf hn hl
  have hch := kcheck_eq t c id hf hn hc
  unfold ChargeK
  cases hvv : validK t c with
  | false =>
    rw [hvv] at hv
    simp -implicitDefEqProofs (disch := omega) only [vf58, vb58, hv, go_sem, ↓reduceIte, Nat.reduceAdd, Nat.reduceSub, Nat.reduceEqDiff, Nat.reduceLeDiff, reduceCtorEq]
    simp
  | true =>
    rw [hvv] at hv
    cases hvl' : validLK t l with
    | false =>
      rw [hvl'] at hvl
      simp -implicitDefEqProofs (disch := omega) only [vf58, vb58, hv, hvl, go_sem, ↓reduceIte, Nat.reduceAdd, Nat.reduceSub, Nat.reduceEqDiff, Nat.reduceLeDiff, reduceCtorEq]
      simp
    | true =>
      rw [hvl'] at hvl
      rw [if_pos ⟨rfl, rfl⟩]
      by_cases h0 : checkK t c id = 0
      · rw [if_pos h0]
        rw [h0] at hch
        obtain ⟨h1, h2, i, nd, hi, rfl⟩ := checkK_zero.1 h0
        have hadd := add_eq h1 h2 nd.id n hn hc
        by_cases hn0 : n < 0
        · rw [if_pos hn0]
          simp -implicitDefEqProofs (disch := omega) only [vf58, vb58, hv, hvl, hch, hn0, go_sem, ↓reduceIte, Nat.reduceAdd, Nat.reduceSub, Nat.reduceEqDiff, Nat.reduceLeDiff, reduceCtorEq]
          try rfl
        · rw [if_neg hn0]
          have hrng := addK_range (t := t) (c := c) (id := nd.id) (n := n)
          generalize addK t c nd.id n = r at hadd hrng
          obtain ⟨rl, re⟩ := r
          simp only at hadd hrng
          by_cases he : re = 0
          · subst he
            have hr2 := hrng rfl
            by_cases hz : n = 0
            · subst hz
              simp -implicitDefEqProofs (disch := omega) only [vf58, vb58, hv, hvl, hch, hadd, hn0, go_sem, ↓reduceIte, Nat.reduceAdd, Nat.reduceSub, Nat.reduceEqDiff, Nat.reduceLeDiff, reduceCtorEq]
              try simp
            · rw [if_neg (by simp [hz])]
              obtain ⟨ks, vs, hs, hg⟩ := sums_eq h1 h2 hn hc
              obtain ⟨ks2, vs2, hs2, hrep⟩ := limits_eq (l := l) ((ascOk_iff _ _ _ _).1 (by simpa [validLK, (treeOk_iff t).2 h1] using hvl')).inc hl
              have ha := fanc_eq t nd.id hn
              have hanc := anc_le h1 i nd hi
              have hal := ancF_length t.nodes t.nodes.length nd.id
              generalize ancF t.nodes t.nodes.length nd.id = A at ha hanc hal
              simp -implicitDefEqProofs (disch := omega) only [vf58, vb58, hv, hvl, hch, hn0, hadd, hz, hs, hs2, ha, go_sem, ↓reduceIte, Nat.reduceAdd, Nat.reduceSub, Nat.reduceEqDiff, Nat.reduceLeDiff, reduceCtorEq]
              obtain ⟨I, hI⟩ : ∃ I : Nat → St → Prop, ∀ k s, I k s ↔ A.find? (refuses t c l n) = (A.drop k).find? (refuses t c l n) ∧ s.pe 4 = .p (.int .i64 n) ∧ s.pe 10 = .ptr (.slot 10 0) 0 0 ∧ s.pe 14 = .ptr (.slot 14 0) 0 0 ∧ s.pe 16 = .p (PV.map (KT.int IntKind.i64) ks vs) ∧ s.pe 17 = .p (PV.map (KT.int IntKind.i64) ks2 vs2) ∧ s.pe 67 = .own (.slot 67 1) 0 0 A.length ∧ s.pe 68 = .p (.int .i64 ↑A.length) ∧ s.pe 69 = .p (.int .i64 k) ∧ s.h (.slot 10 0) = some (0, Ob.box [.own (.slot 10 1) 0 0 0]) ∧ s.h (.slot 10 1) = some (0, Ob.arr 2 []) ∧ s.h (.slot 14 0) = some (0, Ob.box [.own (.slot 49 1) 0 0 rl.length]) ∧ s.h (.slot 49 1) = some (0, Ob.arr 2 (List.map Ch.pv rl)) ∧ s.h (.slot 67 1) = some (0, Ob.arr 1 (List.map (.int .i64) A)) := ⟨_, fun _ _ => Iff.rfl⟩
              refine wp_count (A.length) I ?_ ?_
              · refine (hI _ _).2 ⟨?_, ?_, ?_, ?_, ?_, ?_, ?_, ?_, ?_, ?_, ?_, ?_, ?_, ?_⟩
                · exact by first | rfl | omega | (simp; done) | (simp; omega)
                all_goals first | with_reducible rfl | (simp -implicitDefEqProofs (disch := omega) only [h3, h7, h8, h9, hh6_0, List.map_append, go_sem, ↓reduceIte, Nat.reduceAdd, Nat.reduceSub, Nat.reduceEqDiff, Nat.reduceLeDiff, reduceCtorEq]; first | done | rfl | (simp; done) | (congr 2; omega) | (congr 1; omega) | (congr 3; omega) | (simp; omega) | (congr 2; simp; omega) | (refine ⟨_, rfl, ?_⟩; first | rfl | (simp -implicitDefEqProofs (disch := omega) only [h3, h7, h8, h9, hh6_0, List.map_append, go_sem, ↓reduceIte, Nat.reduceAdd, Nat.reduceSub, Nat.reduceEqDiff, Nat.reduceLeDiff, reduceCtorEq]; done))) | rfl | omega | (congr 2; omega)
              intro k s hk hIk
              obtain ⟨hq, h4, h10, h14, h16, h17, h67, h68, h69, hh10_0, hh10_1, hh14_0, hh49_1, hh67_1⟩ := (hI _ _).1 hIk
              clear hIk
              simp -implicitDefEqProofs (disch := omega) only [h4, h10, h14, h16, h17, h67, h68, h69, hh10_0, hh10_1, hh14_0, hh49_1, hh67_1, go_sem, ↓reduceIte, Nat.reduceAdd, Nat.reduceSub, Nat.reduceEqDiff, Nat.reduceLeDiff, reduceCtorEq]
              refine wp_if_d (fun hlt => ?_) (fun hge => ?_)
              · have hm : A[k]? = some A[k] := List.getElem?_eq_getElem hlt
                generalize A[k] = g at hm
                obtain ⟨j, nj, _, hj, rfl⟩ := hanc g (List.mem_of_getElem? hm)
                have hgj := hg j nj hj
                have hrj := hrep nj.id
                have t0 := tot_nonneg t (ownC_nonneg h2.pos) nj.id
                have t1 := tot_le h1 h2 hj
                have t2 := h2.all
                have hst := find_drop hm hq
                unfold refuses at hst
                cases hlk : lookC l nj.id with
                | none =>
                  rw [hlk] at hrj hst
                  simp only [Option.map_none, Bool.false_eq_true, if_false] at hrj hst
                  simp -implicitDefEqProofs (disch := omega) only [h4, h10, h14, h16, h17, h67, h68, h69, hh10_0, hh10_1, hh14_0, hh49_1, hh67_1, hlt, hm, hrj, Option.isSome_none, go_sem, ↓reduceIte, Nat.reduceAdd, Nat.reduceSub, Nat.reduceEqDiff, Nat.reduceLeDiff, reduceCtorEq]
                  try refine And.intro (by omega) ?_
                  refine (hI _ _).2 ⟨?_, ?_, ?_, ?_, ?_, ?_, ?_, ?_, ?_, ?_, ?_, ?_, ?_, ?_⟩
                  · exact hst
                  all_goals first | with_reducible rfl | (simp -implicitDefEqProofs (disch := omega) only [h4, h10, h14, h16, h17, h67, h68, h69, hh10_0, hh10_1, hh14_0, hh49_1, hh67_1, List.map_append, go_sem, ↓reduceIte, Nat.reduceAdd, Nat.reduceSub, Nat.reduceEqDiff, Nat.reduceLeDiff, reduceCtorEq]; first | done | rfl | (simp; done) | (congr 2; omega) | (congr 1; omega) | (congr 3; omega) | (simp; omega) | (congr 2; simp; omega) | (refine ⟨_, rfl, ?_⟩; first | rfl | (simp -implicitDefEqProofs (disch := omega) only [h4, h10, h14, h16, h17, h67, h68, h69, hh10_0, hh10_1, hh14_0, hh49_1, hh67_1, List.map_append, go_sem, ↓reduceIte, Nat.reduceAdd, Nat.reduceSub, Nat.reduceEqDiff, Nat.reduceLeDiff, reduceCtorEq]; done))) | rfl | omega | (congr 2; omega)
                | some M =>
                  rw [hlk] at hrj hst
                  simp only [Option.map_some, decide_eq_true_eq] at hrj hst
                  generalize tot t (ownC c) nj.id = T at hgj t0 t1 hst
                  by_cases hb : M < T + n
                  · rw [if_pos hb] at hst
                    change A.find? (refuses t c l n) = _ at hst
                    simp -implicitDefEqProofs (disch := omega) only [h4, h10, h14, h16, h17, h67, h68, h69, hh10_0, hh10_1, hh14_0, hh49_1, hh67_1, hlt, hm, hrj, hgj, hb, hst, Option.isSome_some, Option.getD_some, go_sem, ↓reduceIte, Nat.reduceAdd, Nat.reduceSub, Nat.reduceEqDiff, Nat.reduceLeDiff, reduceCtorEq]
                    try rfl
                  · rw [if_neg hb] at hst
                    simp -implicitDefEqProofs (disch := omega) only [h4, h10, h14, h16, h17, h67, h68, h69, hh10_0, hh10_1, hh14_0, hh49_1, hh67_1, hlt, hm, hrj, hgj, hb, Option.isSome_some, Option.getD_some, go_sem, ↓reduceIte, Nat.reduceAdd, Nat.reduceSub, Nat.reduceEqDiff, Nat.reduceLeDiff, reduceCtorEq]
                    try refine And.intro (by omega) ?_
                    refine (hI _ _).2 ⟨?_, ?_, ?_, ?_, ?_, ?_, ?_, ?_, ?_, ?_, ?_, ?_, ?_, ?_⟩
                    · exact hst
                    all_goals first | with_reducible rfl | (simp -implicitDefEqProofs (disch := omega) only [h4, h10, h14, h16, h17, h67, h68, h69, hh10_0, hh10_1, hh14_0, hh49_1, hh67_1, List.map_append, go_sem, ↓reduceIte, Nat.reduceAdd, Nat.reduceSub, Nat.reduceEqDiff, Nat.reduceLeDiff, reduceCtorEq]; first | done | rfl | (simp; done) | (congr 2; omega) | (congr 1; omega) | (congr 3; omega) | (simp; omega) | (congr 2; simp; omega) | (refine ⟨_, rfl, ?_⟩; first | rfl | (simp -implicitDefEqProofs (disch := omega) only [h4, h10, h14, h16, h17, h67, h68, h69, hh10_0, hh10_1, hh14_0, hh49_1, hh67_1, List.map_append, go_sem, ↓reduceIte, Nat.reduceAdd, Nat.reduceSub, Nat.reduceEqDiff, Nat.reduceLeDiff, reduceCtorEq]; done))) | rfl | omega | (congr 2; omega)
              · rw [List.drop_of_length_le (by omega)] at hq
                rw [hq]
                simp -implicitDefEqProofs (disch := omega) only [h4, h10, h14, h16, h17, h67, h68, h69, hh10_0, hh10_1, hh14_0, hh49_1, hh67_1, hge, go_sem, ↓reduceIte, Nat.reduceAdd, Nat.reduceSub, Nat.reduceEqDiff, Nat.reduceLeDiff, reduceCtorEq]
                try rfl
          · rw [if_pos (Or.inl he)]
            simp -implicitDefEqProofs (disch := omega) only [vf58, vb58, hv, hvl, hch, hn0, hadd, he, go_sem, ↓reduceIte, Nat.reduceAdd, Nat.reduceSub, Nat.reduceEqDiff, Nat.reduceLeDiff, reduceCtorEq]
            try rfl
      · rw [if_neg h0]
        generalize checkK t c id = e at hch h0
        simp -implicitDefEqProofs (disch := omega) only [vf58, vb58, hv, hvl, hch, h0, go_sem, ↓reduceIte, Nat.reduceAdd, Nat.reduceSub, Nat.reduceEqDiff, Nat.reduceLeDiff, reduceCtorEq]
        try rfl
end Go.V

