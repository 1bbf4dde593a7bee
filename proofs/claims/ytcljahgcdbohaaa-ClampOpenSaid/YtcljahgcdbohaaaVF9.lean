/- The value machine V at work: clamps. -/
import Derived.Test.YtcljahgcdbohaaaVF8
set_option linter.unusedSimpArgs false
set_option linter.unusedVariables false
namespace Go.V

structure Cl where
  group : Int
  min : Int
  max : Int
  deriving DecidableEq
def Cl.pv (c : Cl) : PV := .agg [.int .i64 c.group, .int .i64 c.min, .int .i64 c.max]
abbrev clsP (l : List Cl) : PV := .slice 3 (l.map Cl.pv)
theorem cls_flat (ns : List Cl) : (ns.map Cl.pv).all PV.flat = true := by
  rw [List.all_eq_true]
  intro x hx
  obtain ⟨n, _, rfl⟩ := List.mem_map.1 hx
  rfl
attribute [go_sem] Cl.pv cls_flat

def dClamps (L : List Int) : Nat → List Nd → List Cl × Nat
  | a, [] => ([], a)
  | a, n :: ns => (⟨n.id, nextV L a 10001, nextV L (nextA L a 10001) 10001⟩ :: (dClamps L (nextA L (nextA L a 10001) 10001) ns).1, (dClamps L (nextA L (nextA L a 10001) 10001) ns).2)
theorem dClamps_snoc (L : List Int) : ∀ (ns : List Nd) (a : Nat) (n : Nd), dClamps L a (ns ++ [n]) = ((dClamps L a ns).1 ++ [⟨n.id, nextV L (dClamps L a ns).2 10001, nextV L (nextA L (dClamps L a ns).2 10001) 10001⟩], nextA L (nextA L (dClamps L a ns).2 10001) 10001)
  | [], a, n => by simp [dClamps]
  | m :: ns, a, n => by
    simp only [List.cons_append, dClamps]
    rw [dClamps_snoc L ns _ n]
theorem dClamps_length (L : List Int) : ∀ (ns : List Nd) (a : Nat), (dClamps L a ns).1.length = ns.length
  | [], _ => rfl
  | m :: ns, a => by simp [dClamps, dClamps_length L ns]

set_option maxHeartbeats 2000000 in
theorem clamps_eq (L : List Int) (a : Nat) (t : Tr) (hL : L.length < 4611686018427387904) (hl : t.nodes.length < 1000000) : V 24 [.ptr (.arg 0 0) 0 0, t.vv] [diceB L a] = some (.fresh 3 ((dClamps L a t.nodes).1.map Cl.pv), [diceB L (dClamps L a t.nodes).2]) := by
  refine V_wp (vf := vf24) rfl ?_
  simp -implicitDefEqProofs (disch := omega) only [vf24, vb24, go_sem, ↓reduceIte, Nat.reduceAdd, Nat.reduceSub, Nat.reduceEqDiff, Nat.reduceLeDiff, reduceCtorEq]
  refine wp_count t.nodes.length (fun k s => ∃ (acc : List Cl) (b v : Nat), dClamps L a (t.nodes.take k) = (acc, b) ∧ acc.length = k ∧ s.pe 0 = .ptr (.arg 0 0) 0 0 ∧ s.pe 3 = .ptr (.slot 3 0) 0 0 ∧ s.pe 5 = .own (.slot 5 0) v 0 acc.length ∧ s.pe 6 = .p (.int .i64 k) ∧ s.h (.arg 0 0) = some (0, diceB L b) ∧ s.h (.slot 3 0) = some (0, .box [.p (nodesP t.nodes), .p (.int .i64 t.next)]) ∧ s.h (.slot 5 0) = some (v, .arr 3 (acc.map Cl.pv))) ?_ ?_
  · exact ⟨[], a, 0, rfl, rfl, rfl, rfl, rfl, rfl, rfl, rfl, rfl⟩
  · rintro k s hk ⟨acc, b, v, hd, hlen, h0, h3, h5, h6, hh0, hh3, hh5⟩
    simp -implicitDefEqProofs (disch := omega) only [h0, h3, h5, h6, hh0, hh3, hh5, go_sem, ↓reduceIte, Nat.reduceAdd, Nat.reduceSub, Nat.reduceEqDiff, Nat.reduceLeDiff, reduceCtorEq]
    refine wp_if_d (fun hlt => ?_) (fun hge => ?_)
    · have hm : t.nodes[k]? = some t.nodes[k] := List.getElem?_eq_getElem hlt
      generalize t.nodes[k] = m at hm
      have c1 := next_eq L b 10001 hL (by omega)
      have c2 := next_eq L (nextA L b 10001) 10001 hL (by omega)
      simp -implicitDefEqProofs (disch := omega) only [h0, h3, h5, h6, hh0, hh3, hh5, hm, c1, c2, go_sem, ↓reduceIte, Nat.reduceAdd, Nat.reduceSub, Nat.reduceEqDiff, Nat.reduceLeDiff, reduceCtorEq]
      refine ⟨hlt, acc ++ [⟨m.id, nextV L b 10001, nextV L (nextA L b 10001) 10001⟩], nextA L (nextA L b 10001) 10001, v + 1, ?_, by simp [hlen], by simp, by simp, ?_, by simp [Cl.pv]⟩
      · rw [take_snoc hm, dClamps_snoc, hd]
      · rfl
    · rw [List.take_of_length_le (by omega)] at hd
      simp -implicitDefEqProofs (disch := omega) only [h0, h3, h5, h6, hh0, hh3, hh5, hge, go_sem, ↓reduceIte, Nat.reduceAdd, Nat.reduceSub, Nat.reduceEqDiff, Nat.reduceLeDiff, reduceCtorEq]
      rw [hd]

def okC (n : Nd) (c : Cl) : Bool := decide (c.group = n.id ∧ 0 ≤ c.min ∧ 0 ≤ c.max ∧ c.min ≤ 10000 ∧ c.max ≤ 10000)
def validC (t : Tr) (l : List Cl) : Bool := treeOk t && decide (l.length = t.nodes.length) && (t.nodes.zip l).all fun p => okC p.1 p.2

set_option maxHeartbeats 2000000 in
theorem cvalid_eq (t : Tr) (l : List Cl) (hf : t.Fits) (hl : t.nodes.length < 1000000) : V 34 [t.vv, .p (clsP l)] [] = some (.p (.bool (validC t l)), []) := by
  refine V_wp (vf := vf34) rfl ?_
  have hc := tcheck_eq t hf hl
  cases hok : treeOk t with
  | false =>
    rw [hok] at hc
    simp -implicitDefEqProofs (disch := omega) only [vf34, vb34, hc, go_sem, ↓reduceIte, Nat.reduceAdd, Nat.reduceSub, Nat.reduceEqDiff, Nat.reduceLeDiff, reduceCtorEq]
    simp [validC, hok]
  | true =>
    rw [hok] at hc
    by_cases hlen : (l.length : Int) = t.nodes.length
    · simp -implicitDefEqProofs (disch := omega) only [vf34, vb34, hc, hlen, go_sem, ↓reduceIte, Nat.reduceAdd, Nat.reduceSub, Nat.reduceEqDiff, Nat.reduceLeDiff, reduceCtorEq]
      refine wp_count t.nodes.length (fun k s => (∀ (i : Nat) (n : Nd) (c : Cl), i < k → t.nodes[i]? = some n → l[i]? = some c → okC n c = true) ∧ s.pe 1 = .p (clsP l) ∧ s.pe 19 = .p (nodesP t.nodes) ∧ s.pe 20 = .p (.int .i64 t.nodes.length) ∧ s.pe 21 = .p (.int .i64 k)) ?_ ?_
      · exact ⟨by omega, rfl, rfl, rfl, rfl⟩
      · rintro k s hk ⟨hall, h1, h19, h20, h21⟩
        simp -implicitDefEqProofs (disch := omega) only [h1, h19, h20, h21, go_sem, ↓reduceIte, Nat.reduceAdd, Nat.reduceSub, Nat.reduceEqDiff, Nat.reduceLeDiff, reduceCtorEq]
        refine wp_if_d (fun hlt => ?_) (fun hge => ?_)
        · have hm : t.nodes[k]? = some t.nodes[k] := List.getElem?_eq_getElem hlt
          have hcl : l[k]? = some l[k] := List.getElem?_eq_getElem (by omega)
          generalize t.nodes[k] = m at hm
          generalize l[k] = c at hcl
          simp -implicitDefEqProofs (disch := omega) only [h1, h19, h20, h21, hm, hcl, go_sem, ↓reduceIte, Nat.reduceAdd, Nat.reduceSub, Nat.reduceEqDiff, Nat.reduceLeDiff, reduceCtorEq]
          repeat' (first | (refine wp_grn_d (fun hb => ?_) (fun hb => ?_) <;> simp -implicitDefEqProofs (disch := omega) only [hb, h1, h19, h20, h21, hm, hcl, go_sem, ↓reduceIte, Nat.reduceAdd, Nat.reduceSub, Nat.reduceEqDiff, Nat.reduceLeDiff, reduceCtorEq]) | (refine wp_gtn_d (fun hb => ?_) (fun hb => ?_) <;> simp -implicitDefEqProofs (disch := omega) only [hb, h1, h19, h20, h21, hm, hcl, go_sem, ↓reduceIte, Nat.reduceAdd, Nat.reduceSub, Nat.reduceEqDiff, Nat.reduceLeDiff, reduceCtorEq]) | (refine wp_gr_d (fun hb => ?_) (fun hb => ?_) <;> simp -implicitDefEqProofs (disch := omega) only [hb, h1, h19, h20, h21, hm, hcl, go_sem, ↓reduceIte, Nat.reduceAdd, Nat.reduceSub, Nat.reduceEqDiff, Nat.reduceLeDiff, reduceCtorEq]) | (refine wp_gt_d (fun hb => ?_) (fun hb => ?_) <;> simp -implicitDefEqProofs (disch := omega) only [hb, h1, h19, h20, h21, hm, hcl, go_sem, ↓reduceIte, Nat.reduceAdd, Nat.reduceSub, Nat.reduceEqDiff, Nat.reduceLeDiff, reduceCtorEq]) | (refine wp_gr (fun hb => ?_) (fun hb => ?_) <;> simp -implicitDefEqProofs (disch := omega) only [hb, h1, h19, h20, h21, hm, hcl, go_sem, ↓reduceIte, Nat.reduceAdd, Nat.reduceSub, Nat.reduceEqDiff, Nat.reduceLeDiff, reduceCtorEq]) | (refine wp_gt (fun hb => ?_) (fun hb => ?_) <;> simp -implicitDefEqProofs (disch := omega) only [hb, h1, h19, h20, h21, hm, hcl, go_sem, ↓reduceIte, Nat.reduceAdd, Nat.reduceSub, Nat.reduceEqDiff, Nat.reduceLeDiff, reduceCtorEq]) | (refine wp_nt_d (fun hb => ?_) (fun hb => ?_) <;> simp -implicitDefEqProofs (disch := omega) only [hb, h1, h19, h20, h21, hm, hcl, go_sem, ↓reduceIte, Nat.reduceAdd, Nat.reduceSub, Nat.reduceEqDiff, Nat.reduceLeDiff, reduceCtorEq]) | (refine wp_nt (fun hb => ?_) (fun hb => ?_) <;> simp -implicitDefEqProofs (disch := omega) only [hb, h1, h19, h20, h21, hm, hcl, go_sem, ↓reduceIte, Nat.reduceAdd, Nat.reduceSub, Nat.reduceEqDiff, Nat.reduceLeDiff, reduceCtorEq]) | (refine wp_if_d (fun hb => ?_) (fun hb => ?_) <;> simp -implicitDefEqProofs (disch := omega) only [hb, h1, h19, h20, h21, hm, hcl, go_sem, ↓reduceIte, Nat.reduceAdd, Nat.reduceSub, Nat.reduceEqDiff, Nat.reduceLeDiff, reduceCtorEq]) | (refine wp_if (fun hb => ?_) (fun hb => ?_) <;> simp -implicitDefEqProofs (disch := omega) only [hb, h1, h19, h20, h21, hm, hcl, go_sem, ↓reduceIte, Nat.reduceAdd, Nat.reduceSub, Nat.reduceEqDiff, Nat.reduceLeDiff, reduceCtorEq]))
          all_goals first
            | (have hbad : okC m c = false := by simp only [okC, decide_eq_false_iff_not]; omega
               have hz : ((t.nodes.zip l).all fun p => okC p.1 p.2) = false := by
                 rw [List.all_eq_false]
                 refine ⟨(m, c), List.mem_of_getElem? (i := k) ?_, by simp [hbad]⟩
                 rw [List.getElem?_zip_eq_some]
                 exact ⟨hm, hcl⟩
               simp only [validC, hz, Bool.and_false]
               done)
            | (refine ⟨hlt, fun i n x hi hn hx => ?_, by simp only [Int.natCast_add, Int.natCast_one]⟩
               rcases Nat.lt_or_ge i k with h0 | h0
               · exact hall i n x h0 hn hx
               · have : i = k := by omega
                 subst this
                 rw [hm] at hn
                 rw [hcl] at hx
                 simp only [Option.some.injEq] at hn hx
                 subst hn
                 subst hx
                 simp only [okC, decide_eq_true_eq]
                 omega)
        · have hz : ((t.nodes.zip l).all fun p => okC p.1 p.2) = true := by
            rw [List.all_eq_true]
            rintro ⟨n, c⟩ hp
            obtain ⟨i, hi⟩ := List.getElem?_of_mem hp
            rw [List.getElem?_zip_eq_some] at hi
            exact hall i n c (by have := (List.getElem?_eq_some_iff.1 hi.1).1; omega) hi.1 hi.2
          simp -implicitDefEqProofs (disch := omega) only [h1, h19, h20, h21, hge, go_sem, ↓reduceIte, Nat.reduceAdd, Nat.reduceSub, Nat.reduceEqDiff, Nat.reduceLeDiff, reduceCtorEq]
          simp only [validC, hok, hz, show l.length = t.nodes.length by omega, decide_true, Bool.and_self]
    · simp -implicitDefEqProofs (disch := omega) only [vf34, vb34, hc, hlen, go_sem, ↓reduceIte, Nat.reduceAdd, Nat.reduceSub, Nat.reduceEqDiff, Nat.reduceLeDiff, reduceCtorEq]
      simp [validC, show ¬ l.length = t.nodes.length by omega]

/-! ### the effective clamps -/

def clAt (ns : List Nd) (l : List Cl) (id : Int) : Cl := (l[(idxOf ns id).toNat]?).getD ⟨0, 0, 0⟩
def effMax (ns : List Nd) (l : List Cl) (ids : List Int) : Int := ids.foldl (fun m id => min m (clAt ns l id).max) 10000
def effOf (t : Tr) (l : List Cl) (g : Int) : Int × Int := (min (clAt t.nodes l g).min (effMax t.nodes l (ancF t.nodes t.nodes.length g)), effMax t.nodes l (ancF t.nodes t.nodes.length g))

theorem ancF_found (ns : List Nd) : ∀ (k : Nat) (id : Int), ∀ x ∈ ancF ns k id, (findN ns x).isSome = true
  | 0, _, x, hx => by simp [ancF] at hx
  | k + 1, id, x, hx => by
    unfold ancF at hx
    split at hx
    · cases hx
    · rename_i n hn
      rcases List.mem_cons.1 hx with rfl | hx
      · rw [hn]; rfl
      · exact ancF_found ns k n.parent x hx

/-- A group that there is has its clamp. -/
theorem clAt_some {ns : List Nd} {l : List Cl} (hlen : l.length = ns.length) {id : Int} (h : (findN ns id).isSome = true) : 0 ≤ idxOf ns id ∧ l[(idxOf ns id).toNat]? = some (clAt ns l id) := by
  rcases idxOf_lt ns id with ⟨_, h2⟩ | ⟨k, m, h1, h2, h3, h4⟩
  · rw [h2] at h; cases h
  · have hk := (List.getElem?_eq_some_iff.1 h2).1
    refine ⟨by omega, ?_⟩
    unfold clAt
    rw [h1, Int.toNat_natCast, List.getElem?_eq_getElem (by omega)]
    rfl

theorem foldl_take_snoc {α β : Type} (f : β → α → β) {l : List α} {k : Nat} {x : α} (h : l[k]? = some x) (b : β) : (l.take (k + 1)).foldl f b = f ((l.take k).foldl f b) x := by
  rw [take_snoc h, List.foldl_append]
  rfl

set_option maxHeartbeats 2000000 in
theorem ceff_eq (t : Tr) (l : List Cl) (g : Int) (hlen : l.length = t.nodes.length) (hg : (findN t.nodes g).isSome = true) (hl : t.nodes.length < 1000000) : V 74 [t.vv, .p (clsP l), .p (.int .i64 g)] [] = some (.tup [.p (.int .i64 (effOf t l g).1), .p (.int .i64 (effOf t l g).2)], []) := by
  refine V_wp (vf := vf74) rfl ?_
  have hc := fanc_eq t g hl
  have hal := ancF_length t.nodes t.nodes.length g
  have hfd := ancF_found t.nodes t.nodes.length g
  have heff : (effOf t l g).2 = effMax t.nodes l (ancF t.nodes t.nodes.length g) := rfl
  have heff1 : (effOf t l g).1 = min (clAt t.nodes l g).min (effMax t.nodes l (ancF t.nodes t.nodes.length g)) := rfl
  rw [heff, heff1]
  generalize ancF t.nodes t.nodes.length g = ids at hc hal hfd
  simp -implicitDefEqProofs (disch := omega) only [vf74, vb74, hc, go_sem, ↓reduceIte, Nat.reduceAdd, Nat.reduceSub, Nat.reduceEqDiff, Nat.reduceLeDiff, reduceCtorEq]
  refine wp_count ids.length (fun k s => s.pe 1 = .p (clsP l) ∧ s.pe 2 = .p (.int .i64 g) ∧ s.pe 3 = .ptr (.slot 3 0) 0 0 ∧ s.pe 8 = .p (.int .i64 (effMax t.nodes l (ids.take k))) ∧ s.pe 13 = .own (.slot 13 1) 0 0 ids.length ∧ s.pe 14 = .p (.int .i64 ids.length) ∧ s.pe 15 = .p (.int .i64 k) ∧ s.h (.slot 3 0) = some (0, .box [.p (nodesP t.nodes), .p (.int .i64 t.next)]) ∧ s.h (.slot 13 1) = some (0, .arr 1 (ids.map (.int .i64)))) ?_ ?_
  · exact ⟨rfl, rfl, rfl, rfl, rfl, rfl, rfl, rfl, rfl⟩
  · rintro k s hk ⟨h1, h2, h3, h8, h13, h14, h15, hh3, hh13⟩
    simp -implicitDefEqProofs (disch := omega) only [h1, h2, h3, h8, h13, h14, h15, hh3, hh13, go_sem, ↓reduceIte, Nat.reduceAdd, Nat.reduceSub, Nat.reduceEqDiff, Nat.reduceLeDiff, reduceCtorEq]
    refine wp_if_d (fun hlt => ?_) (fun hge => ?_)
    · have hm : ids[k]? = some ids[k] := List.getElem?_eq_getElem hlt
      generalize ids[k] = x at hm
      have hx := at_eq t x hl
      obtain ⟨e1, e2⟩ := clAt_some hlen (hfd x (List.mem_of_getElem? hm))
      simp -implicitDefEqProofs (disch := omega) only [h1, h2, h3, h8, h13, h14, h15, hh3, hh13, hm, hx, e1, e2, hlt, go_sem, ↓reduceIte, Nat.reduceAdd, Nat.reduceSub, Nat.reduceEqDiff, Nat.reduceLeDiff, reduceCtorEq]
      refine ⟨?_, rfl⟩
      unfold effMax
      rw [foldl_take_snoc _ hm]
    · have hx := at_eq t g hl
      obtain ⟨e1, e2⟩ := clAt_some hlen hg
      simp -implicitDefEqProofs (disch := omega) only [h1, h2, h3, h8, h13, h14, h15, hh3, hh13, hge, hx, e1, e2, go_sem, ↓reduceIte, Nat.reduceAdd, Nat.reduceSub, Nat.reduceEqDiff, Nat.reduceLeDiff, reduceCtorEq]
      rw [List.take_of_length_le (by omega)]

def effC (t : Tr) (l : List Cl) (g : Int) : Int × Int := if validC t l = true ∧ (findN t.nodes g).isSome = true then effOf t l g else (0, 0)
theorem validC_len {t : Tr} {l : List Cl} (h : validC t l = true) : l.length = t.nodes.length := by
  simp only [validC, Bool.and_eq_true, decide_eq_true_eq] at h
  exact h.1.2

theorem idx_neg {ns : List Nd} {g : Int} (h : (findN ns g).isSome = false) : idxOf ns g < 0 := by
  rcases idxOf_lt ns g with ⟨h1, _⟩ | ⟨k, m, _, _, h3, _⟩
  · exact h1
  · rw [h3] at h; cases h
theorem idx_pos {ns : List Nd} {g : Int} (h : (findN ns g).isSome = true) : ¬ idxOf ns g < 0 := by
  rcases idxOf_lt ns g with ⟨_, h2⟩ | ⟨k, m, h1, _, _, _⟩
  · rw [h2] at h; cases h
  · omega

theorem ceffective_eq (t : Tr) (l : List Cl) (g : Int) (hf : t.Fits) (hl : t.nodes.length < 1000000) : V 25 [t.vv, .p (clsP l), .p (.int .i64 g)] [] = some (.tup [.p (.int .i64 (effC t l g).1), .p (.int .i64 (effC t l g).2)], []) := by
  refine V_wp (vf := vf25) rfl ?_
  have hv := cvalid_eq t l hf hl
  have ha := at_eq t g hl
  cases hvv : validC t l with
  | false =>
    rw [hvv] at hv
    simp -implicitDefEqProofs (disch := omega) only [vf25, vb25, hv, go_sem, ↓reduceIte, Nat.reduceAdd, Nat.reduceSub, Nat.reduceEqDiff, Nat.reduceLeDiff, reduceCtorEq]
    simp [effC, hvv]
  | true =>
    rw [hvv] at hv
    cases hg : (findN t.nodes g).isSome with
    | false =>
      have hi := idx_neg hg
      simp -implicitDefEqProofs (disch := omega) only [vf25, vb25, hv, ha, hi, go_sem, ↓reduceIte, Nat.reduceAdd, Nat.reduceSub, Nat.reduceEqDiff, Nat.reduceLeDiff, reduceCtorEq]
      simp [effC, hg]
    | true =>
      have hi := idx_pos hg
      have he := ceff_eq t l g (validC_len hvv) hg hl
      simp -implicitDefEqProofs (disch := omega) only [vf25, vb25, hv, ha, hi, he, go_sem, ↓reduceIte, Nat.reduceAdd, Nat.reduceSub, Nat.reduceEqDiff, Nat.reduceLeDiff, reduceCtorEq]
      simp [effC, hg, hvv]

def applyOf (e : Int × Int) (use : Int) : Int := min (max (min (max use 0) 10000) e.1) e.2
theorem capply_eq (t : Tr) (l : List Cl) (g use : Int) (hlen : l.length = t.nodes.length) (hg : (findN t.nodes g).isSome = true) (hl : t.nodes.length < 1000000) : V 75 [t.vv, .p (clsP l), .p (.int .i64 g), .p (.int .i64 use)] [] = some (.p (.int .i64 (applyOf (effOf t l g) use)), []) := by
  refine V_wp (vf := vf75) rfl ?_
  have he := ceff_eq t l g hlen hg hl
  simp -implicitDefEqProofs (disch := omega) only [vf75, vb75, he, go_sem, ↓reduceIte, Nat.reduceAdd, Nat.reduceSub, Nat.reduceEqDiff, Nat.reduceLeDiff, reduceCtorEq]
  rfl

def applyC (t : Tr) (l : List Cl) (g use : Int) : Int := if validC t l = true ∧ (findN t.nodes g).isSome = true then applyOf (effOf t l g) use else 0
theorem cApply_eq (t : Tr) (l : List Cl) (g use : Int) (hf : t.Fits) (hl : t.nodes.length < 1000000) : V 26 [t.vv, .p (clsP l), .p (.int .i64 g), .p (.int .i64 use)] [] = some (.p (.int .i64 (applyC t l g use)), []) := by
  refine V_wp (vf := vf26) rfl ?_
  have hv := cvalid_eq t l hf hl
  have ha := at_eq t g hl
  cases hvv : validC t l with
  | false =>
    rw [hvv] at hv
    simp -implicitDefEqProofs (disch := omega) only [vf26, vb26, hv, go_sem, ↓reduceIte, Nat.reduceAdd, Nat.reduceSub, Nat.reduceEqDiff, Nat.reduceLeDiff, reduceCtorEq]
    simp [applyC, hvv]
  | true =>
    rw [hvv] at hv
    cases hg : (findN t.nodes g).isSome with
    | false =>
      have hi := idx_neg hg
      simp -implicitDefEqProofs (disch := omega) only [vf26, vb26, hv, ha, hi, go_sem, ↓reduceIte, Nat.reduceAdd, Nat.reduceSub, Nat.reduceEqDiff, Nat.reduceLeDiff, reduceCtorEq]
      simp [applyC, hg]
    | true =>
      have hi := idx_pos hg
      have he := capply_eq t l g use (validC_len hvv) hg hl
      simp -implicitDefEqProofs (disch := omega) only [vf26, vb26, hv, ha, hi, he, go_sem, ↓reduceIte, Nat.reduceAdd, Nat.reduceSub, Nat.reduceEqDiff, Nat.reduceLeDiff, reduceCtorEq]
      simp [applyC, hg, hvv]

/-! ### the example of the chapter -/

def saneT : Tr := ⟨[⟨1, 0, ⟨#[]⟩, 0, 0, 0⟩, ⟨2, 1, ⟨#[97]⟩, 0, 0, 0⟩, ⟨3, 2, ⟨#[98]⟩, 0, 0, 0⟩], 4⟩
theorem sane1 : addT newT 1 ⟨#[97]⟩ = (⟨[⟨1, 0, ⟨#[]⟩, 0, 0, 0⟩, ⟨2, 1, ⟨#[97]⟩, 0, 0, 0⟩], 3⟩, 2, 0) := by rfl
theorem sane2 : addT ⟨[⟨1, 0, ⟨#[]⟩, 0, 0, 0⟩, ⟨2, 1, ⟨#[97]⟩, 0, 0, 0⟩], 3⟩ 2 ⟨#[98]⟩ = (saneT, 3, 0) := by rfl
theorem sane3 : effC saneT [⟨1, 0, 10000⟩, ⟨2, 0, 5000⟩, ⟨3, 8000, 10000⟩] 3 = (5000, 5000) := by rfl
theorem saneT_fits : saneT.Fits := by
  intro n hn
  simp only [saneT, List.mem_cons, List.not_mem_nil, or_false] at hn
  rcases hn with rfl | rfl | rfl <;> exact ⟨by decide, by decide⟩

theorem sane_eq : V 21 [] [] = some (.p (.bool true), []) := by
  refine V_wp (vf := vf21) rfl ?_
  have c0 := rnew_eq
  have c1 := radd_eq newT 1 ⟨#[97]⟩ (by decide)
  rw [sane1] at c1
  have c2 := radd_eq ⟨[⟨1, 0, ⟨#[]⟩, 0, 0, 0⟩, ⟨2, 1, ⟨#[97]⟩, 0, 0, 0⟩], 3⟩ 2 ⟨#[98]⟩ (by decide)
  rw [sane2] at c2
  have c3 := ceffective_eq saneT [⟨1, 0, 10000⟩, ⟨2, 0, 5000⟩, ⟨3, 8000, 10000⟩] 3 saneT_fits (by decide)
  rw [sane3] at c3
  simp only [newT, saneT, Tr.fv, Tr.vv, nodesP, clsP, List.map_cons, List.map_nil, Nd.pv, Cl.pv] at c0 c1 c2 c3
  simp -implicitDefEqProofs (disch := omega) only [vf21, vb21, c0, c1, c2, c3, go_sem, ↓reduceIte, Nat.reduceAdd, Nat.reduceSub, Nat.reduceEqDiff, Nat.reduceLeDiff, reduceCtorEq]
end Go.V
