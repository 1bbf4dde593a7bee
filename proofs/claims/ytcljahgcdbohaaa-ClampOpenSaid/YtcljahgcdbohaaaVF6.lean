/- The value machine V at work: the program's own look at trees. -/
import Derived.Test.YtcljahgcdbohaaaVF5
set_option linter.unusedSimpArgs false
set_option linter.unusedVariables false
namespace Go.V

/-! ### forest -/

def idxOf (ns : List Nd) (id : Int) : Int := match ns.findIdx? (fun n => decide (n.id = id)) with
  | some i => i
  | none => -1

theorem at1_eq (n : Nd) (id : Int) : V 114 [n.vv, .ptr (.arg 0 0) 0 0] [.box [.p (.int .i64 id)]] = some (.p (.bool (decide (n.id = id))), [.box [.p (.int .i64 id)]]) := by
  refine V_wp (vf := vf114) rfl ?_
  simp -implicitDefEqProofs (disch := omega) only [vf114, vb114, go_sem, ↓reduceIte, Nat.reduceAdd, Nat.reduceSub, Nat.reduceEqDiff, Nat.reduceLeDiff, reduceCtorEq]

theorem idxOf_at {ns : List Nd} {id : Int} {k : Nat} {m : Nd} (hm : ns[k]? = some m) (h : ∀ (i : Nat) (n : Nd), i < k → ns[i]? = some n → ¬ n.id = id) (he : m.id = id) : idxOf ns id = k := by
  unfold idxOf
  have : ns.findIdx? (fun n => decide (n.id = id)) = some k := by
    rw [List.findIdx?_eq_some_iff_getElem]
    refine ⟨(List.getElem?_eq_some_iff.1 hm).1, by rw [(List.getElem?_eq_some_iff.1 hm).2]; simpa using he, fun j hj => ?_⟩
    have hl : j < ns.length := Nat.lt_trans hj (List.getElem?_eq_some_iff.1 hm).1
    simpa using h j ns[j] hj (List.getElem?_eq_getElem hl)
  rw [this]
theorem idxOf_none {ns : List Nd} {id : Int} (h : ∀ n ∈ ns, ¬ n.id = id) : idxOf ns id = -1 := by
  unfold idxOf
  have : ns.findIdx? (fun n => decide (n.id = id)) = none := by
    rw [List.findIdx?_eq_none_iff]
    intro x hx
    simpa using h x hx
  rw [this]

theorem indexFunc_eq (ns : List Nd) (id : Int) (hl : ns.length < 1000000) : V 113 [.p (nodesP ns), .fn 114 [.ptr (.arg 0 0) 0 0]] [.box [.p (.int .i64 id)]] = some (.p (.int .i64 (idxOf ns id)), [.box [.p (.int .i64 id)]]) := by
  refine V_wp (vf := vf113) rfl ?_
  simp -implicitDefEqProofs (disch := omega) only [vf113, vb113, go_sem, ↓reduceIte, Nat.reduceAdd, Nat.reduceSub, Nat.reduceEqDiff, Nat.reduceLeDiff, reduceCtorEq]
  refine wp_count ns.length (fun k s => (∀ (i : Nat) (n : Nd), i < k → ns[i]? = some n → ¬ n.id = id) ∧ s.pe 0 = .p (nodesP ns) ∧ s.pe 1 = .fn 114 [.ptr (.arg 0 0) 0 0] ∧ s.pe 7 = .p (.int .i64 ns.length) ∧ s.pe 8 = .p (.int .i64 k) ∧ s.h (.arg 0 0) = some (0, .box [.p (.int .i64 id)])) ?_ ?_
  · exact ⟨by omega, rfl, rfl, rfl, rfl, rfl⟩
  · rintro k s hk ⟨hall, h0, h1, h7, h8, hh⟩
    simp -implicitDefEqProofs (disch := omega) only [h0, h1, h7, h8, hh, go_sem, ↓reduceIte, Nat.reduceAdd, Nat.reduceSub, Nat.reduceEqDiff, Nat.reduceLeDiff, reduceCtorEq]
    refine wp_if_d (fun hlt => ?_) (fun hge => ?_)
    · have hm : ns[k]? = some ns[k] := List.getElem?_eq_getElem hlt
      generalize ns[k] = m at hm
      have hc := at1_eq m id
      unfold Nd.vv at hc
      simp -implicitDefEqProofs (disch := omega) only [h0, h1, h7, h8, hh, hm, hc, go_sem, ↓reduceIte, Nat.reduceAdd, Nat.reduceSub, Nat.reduceEqDiff, Nat.reduceLeDiff, reduceCtorEq]
      repeat' (first | (refine wp_grn_d (fun hb => ?_) (fun hb => ?_) <;> simp -implicitDefEqProofs (disch := omega) only [hb, h0, h1, h7, h8, hh, go_sem, ↓reduceIte, Nat.reduceAdd, Nat.reduceSub, Nat.reduceEqDiff, Nat.reduceLeDiff, reduceCtorEq]) | (refine wp_gtn_d (fun hb => ?_) (fun hb => ?_) <;> simp -implicitDefEqProofs (disch := omega) only [hb, h0, h1, h7, h8, hh, go_sem, ↓reduceIte, Nat.reduceAdd, Nat.reduceSub, Nat.reduceEqDiff, Nat.reduceLeDiff, reduceCtorEq]) | (refine wp_gr_d (fun hb => ?_) (fun hb => ?_) <;> simp -implicitDefEqProofs (disch := omega) only [hb, h0, h1, h7, h8, hh, go_sem, ↓reduceIte, Nat.reduceAdd, Nat.reduceSub, Nat.reduceEqDiff, Nat.reduceLeDiff, reduceCtorEq]) | (refine wp_gt_d (fun hb => ?_) (fun hb => ?_) <;> simp -implicitDefEqProofs (disch := omega) only [hb, h0, h1, h7, h8, hh, go_sem, ↓reduceIte, Nat.reduceAdd, Nat.reduceSub, Nat.reduceEqDiff, Nat.reduceLeDiff, reduceCtorEq]) | (refine wp_gr (fun hb => ?_) (fun hb => ?_) <;> simp -implicitDefEqProofs (disch := omega) only [hb, h0, h1, h7, h8, hh, go_sem, ↓reduceIte, Nat.reduceAdd, Nat.reduceSub, Nat.reduceEqDiff, Nat.reduceLeDiff, reduceCtorEq]) | (refine wp_gt (fun hb => ?_) (fun hb => ?_) <;> simp -implicitDefEqProofs (disch := omega) only [hb, h0, h1, h7, h8, hh, go_sem, ↓reduceIte, Nat.reduceAdd, Nat.reduceSub, Nat.reduceEqDiff, Nat.reduceLeDiff, reduceCtorEq]) | (refine wp_nt_d (fun hb => ?_) (fun hb => ?_) <;> simp -implicitDefEqProofs (disch := omega) only [hb, h0, h1, h7, h8, hh, go_sem, ↓reduceIte, Nat.reduceAdd, Nat.reduceSub, Nat.reduceEqDiff, Nat.reduceLeDiff, reduceCtorEq]) | (refine wp_nt (fun hb => ?_) (fun hb => ?_) <;> simp -implicitDefEqProofs (disch := omega) only [hb, h0, h1, h7, h8, hh, go_sem, ↓reduceIte, Nat.reduceAdd, Nat.reduceSub, Nat.reduceEqDiff, Nat.reduceLeDiff, reduceCtorEq]) | (refine wp_if_d (fun hb => ?_) (fun hb => ?_) <;> simp -implicitDefEqProofs (disch := omega) only [hb, h0, h1, h7, h8, hh, go_sem, ↓reduceIte, Nat.reduceAdd, Nat.reduceSub, Nat.reduceEqDiff, Nat.reduceLeDiff, reduceCtorEq]) | (refine wp_if (fun hb => ?_) (fun hb => ?_) <;> simp -implicitDefEqProofs (disch := omega) only [hb, h0, h1, h7, h8, hh, go_sem, ↓reduceIte, Nat.reduceAdd, Nat.reduceSub, Nat.reduceEqDiff, Nat.reduceLeDiff, reduceCtorEq]))
      · rw [idxOf_at hm hall hb]
      · exact ⟨hlt, lt_succ_cases hm hall hb, by simp only [Int.natCast_add, Int.natCast_one]⟩
    · simp -implicitDefEqProofs (disch := omega) only [h0, h1, h7, h8, hh, hge, go_sem, ↓reduceIte, Nat.reduceAdd, Nat.reduceSub, Nat.reduceEqDiff, Nat.reduceLeDiff, reduceCtorEq]
      rw [idxOf_none]
      intro n hn
      obtain ⟨i, hi⟩ := List.getElem?_of_mem hn
      exact hall i n (by have := (List.getElem?_eq_some_iff.1 hi).1; omega) hi

theorem at_eq (t : Tr) (id : Int) (hl : t.nodes.length < 1000000) : V 73 [t.vv, .p (.int .i64 id)] [] = some (.p (.int .i64 (idxOf t.nodes id)), []) := by
  refine V_wp (vf := vf73) rfl ?_
  have hc := indexFunc_eq t.nodes id hl
  simp -implicitDefEqProofs (disch := omega) only [vf73, vb73, hc, go_sem, ↓reduceIte, Nat.reduceAdd, Nat.reduceSub, Nat.reduceEqDiff, Nat.reduceLeDiff, reduceCtorEq]

theorem idxOf_lt (ns : List Nd) (id : Int) : (idxOf ns id < 0 ∧ findN ns id = none) ∨ ∃ (k : Nat) (m : Nd), idxOf ns id = k ∧ ns[k]? = some m ∧ findN ns id = some m ∧ m.id = id := by
  unfold idxOf findN
  cases h : ns.findIdx? (fun n => decide (n.id = id)) with
  | none =>
    left
    rw [List.findIdx?_eq_none_iff] at h
    exact ⟨by show (-1 : Int) < 0; omega, List.find?_eq_none.2 fun x hx => by simp [h x hx]⟩
  | some k =>
    right
    rw [List.findIdx?_eq_some_iff_getElem] at h
    obtain ⟨h1, h2, h3⟩ := h
    refine ⟨k, ns[k], rfl, List.getElem?_eq_getElem h1, find_take_none (k := k) (fun i n hi hn => ?_) (List.getElem?_eq_getElem h1) h2, by simpa using h2⟩
    have := h3 i hi
    rw [← (List.getElem?_eq_some_iff.1 hn).2]
    simpa using this

theorem ffind_eq (t : Tr) (id : Int) (hl : t.nodes.length < 1000000) : V 93 [t.vv, .p (.int .i64 id)] [] = some (.tup [((findN t.nodes id).getD zeroNd).vv, .p (.bool (findN t.nodes id).isSome)], []) := by
  refine V_wp (vf := vf93) rfl ?_
  have hc := at_eq t id hl
  rcases idxOf_lt t.nodes id with ⟨h1, h2⟩ | ⟨k, m, h1, h2, h3, h4⟩
  · simp -implicitDefEqProofs (disch := omega) only [vf93, vb93, hc, h1, go_sem, ↓reduceIte, Nat.reduceAdd, Nat.reduceSub, Nat.reduceEqDiff, Nat.reduceLeDiff, reduceCtorEq]
    simp [h2, zeroNd, Nd.vv]
  · rw [h1] at hc
    have hk : ¬ (k : Int) < 0 := by omega
    simp -implicitDefEqProofs (disch := omega) only [vf93, vb93, hc, hk, h2, go_sem, ↓reduceIte, Nat.reduceAdd, Nat.reduceSub, Nat.reduceEqDiff, Nat.reduceLeDiff, reduceCtorEq]
    simp [h3, Nd.vv]

/-- The way up, in the program's own steps. -/
def ancF (ns : List Nd) : Nat → Int → List Int
  | 0, _ => []
  | k + 1, id => match findN ns id with
    | none => []
    | some n => id :: ancF ns k n.parent
theorem ancF_length (ns : List Nd) : ∀ (k : Nat) (id : Int), (ancF ns k id).length ≤ k
  | 0, _ => Nat.le_refl _
  | k + 1, id => by
    unfold ancF
    split
    · simp
    · have := ancF_length ns k
      simp
      exact this _

theorem fanc_eq (t : Tr) (id : Int) (hl : t.nodes.length < 1000000) : V 99 [t.vv, .p (.int .i64 id)] [] = some (.fresh 1 ((ancF t.nodes t.nodes.length id).map (.int .i64)), []) := by
  refine V_wp (vf := vf99) rfl ?_
  simp -implicitDefEqProofs (disch := omega) only [vf99, vb99, go_sem, ↓reduceIte, Nat.reduceAdd, Nat.reduceSub, Nat.reduceEqDiff, Nat.reduceLeDiff, reduceCtorEq]
  refine wp_count t.nodes.length (fun k s => ∃ (acc : List Int) (cur : Int) (v : Nat), ancF t.nodes t.nodes.length id = acc ++ ancF t.nodes (t.nodes.length - k) cur ∧ acc.length ≤ k ∧ s.pe 1 = .p (.int .i64 cur) ∧ s.pe 2 = .ptr (.slot 2 0) 0 0 ∧ s.pe 5 = .own (.slot 5 0) v 0 acc.length ∧ s.pe 10 = .p (.int .i64 t.nodes.length) ∧ s.pe 11 = .p (.int .i64 k) ∧ s.h (.slot 2 0) = some (0, .box [.p (nodesP t.nodes), .p (.int .i64 t.next)]) ∧ s.h (.slot 5 0) = some (v, .arr 1 (acc.map (.int .i64)))) ?_ ?_
  · exact ⟨[], id, 0, by simp, by simp, rfl, rfl, rfl, rfl, rfl, rfl, rfl⟩
  · rintro k s hk ⟨acc, cur, v, hup, hlen, h1, h2, h5, h10, h11, hh2, hh5⟩
    simp -implicitDefEqProofs (disch := omega) only [h1, h2, h5, h10, h11, hh2, hh5, go_sem, ↓reduceIte, Nat.reduceAdd, Nat.reduceSub, Nat.reduceEqDiff, Nat.reduceLeDiff, reduceCtorEq]
    refine wp_if_d (fun hlt => ?_) (fun hge => ?_)
    · have hc := ffind_eq t cur hl
      obtain ⟨d, hd⟩ : ∃ d, t.nodes.length - k = d + 1 := ⟨t.nodes.length - k - 1, by omega⟩
      have hd' : t.nodes.length - (k + 1) = d := by omega
      rw [hd, ancF] at hup
      cases hf : findN t.nodes cur with
      | none =>
        rw [hf] at hc hup
        simp only [Option.getD_none, Option.isSome_none, List.append_nil] at hc hup
        unfold Nd.vv zeroNd at hc
        simp -implicitDefEqProofs (disch := omega) only [h1, h2, h5, h10, h11, hh2, hh5, hc, go_sem, ↓reduceIte, Nat.reduceAdd, Nat.reduceSub, Nat.reduceEqDiff, Nat.reduceLeDiff, reduceCtorEq]
        rw [hup]
      | some m =>
        rw [hf] at hc hup
        simp only [Option.getD_some, Option.isSome_some] at hc hup
        unfold Nd.vv at hc
        simp -implicitDefEqProofs (disch := omega) only [h1, h2, h5, h10, h11, hh2, hh5, hc, go_sem, ↓reduceIte, Nat.reduceAdd, Nat.reduceSub, Nat.reduceEqDiff, Nat.reduceLeDiff, reduceCtorEq]
        exact ⟨hlt, acc ++ [cur], m.parent, v + 1, by rw [hup, hd']; simp, by simp; omega, rfl, by simp, by simp only [Int.natCast_add, Int.natCast_one], by simp⟩
    · have hz : t.nodes.length - k = 0 := by omega
      rw [hz, ancF, List.append_nil] at hup
      simp -implicitDefEqProofs (disch := omega) only [h1, h2, h5, h10, h11, hh2, hh5, hge, go_sem, ↓reduceIte, Nat.reduceAdd, Nat.reduceSub, Nat.reduceEqDiff, Nat.reduceLeDiff, reduceCtorEq]
      rw [hup]

end Go.V
