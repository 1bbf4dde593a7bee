/- The value machine V at work: the reference's trees, more. -/
import Derived.Test.YtcljahgcdbohaaaVF2
set_option linter.unusedSimpArgs false
set_option linter.unusedVariables false
namespace Go.V

def zeroNd : Nd := ⟨0, 0, ⟨#[]⟩, 0, 0, 0⟩
def findN (ns : List Nd) (id : Int) : Option Nd := ns.find? fun n => decide (n.id = id)
def findT (t : Tr) (id : Int) : Option Nd := if treeOk t then findN t.nodes id else none
attribute [go_sem] Nd.vv

theorem find_take_none {p : Nd → Bool} {l : List Nd} {k : Nat} (h : ∀ (i : Nat) (n : Nd), i < k → l[i]? = some n → p n = false) {m : Nd} (hm : l[k]? = some m) (hp : p m = true) : l.find? p = some m := by
  rw [List.find?_eq_some_iff_getElem]
  refine ⟨hp, k, (List.getElem?_eq_some_iff.1 hm).1, (List.getElem?_eq_some_iff.1 hm).2, fun j hj => ?_⟩
  have hl : j < l.length := Nat.lt_trans hj (List.getElem?_eq_some_iff.1 hm).1
  simpa using h j l[j] hj (List.getElem?_eq_getElem hl)
theorem find_none {p : Nd → Bool} {l : List Nd} (h : ∀ (i : Nat) (n : Nd), i < l.length → l[i]? = some n → p n = false) : l.find? p = none := by
  rw [List.find?_eq_none]
  intro x hx
  obtain ⟨i, hi⟩ := List.getElem?_of_mem hx
  simpa using h i x (List.getElem?_eq_some_iff.1 hi).1 hi
theorem lt_succ_cases {Q : Nat → Nd → Prop} {l : List Nd} {k : Nat} {m : Nd} (hm : l[k]? = some m) (h : ∀ (i : Nat) (n : Nd), i < k → l[i]? = some n → Q i n) (hk : Q k m) : ∀ (i : Nat) (n : Nd), i < k + 1 → l[i]? = some n → Q i n := fun i n hi hn => by
  rcases Nat.lt_or_ge i k with h0 | h0
  · exact h i n h0 hn
  · have : i = k := by omega
    subst this
    rw [hm] at hn
    simp at hn
    subst hn
    exact hk

theorem rfind_eq (t : Tr) (id : Int) (hl : t.nodes.length < 1000000) : V 115 [t.vv, .p (.int .i64 id)] [] = some (.tup [((findT t id).getD zeroNd).vv, .p (.bool (findT t id).isSome)], []) := by
  refine V_wp (vf := vf115) rfl ?_
  have hc := rcheck_eq t hl
  cases hok : treeOk t with
  | false =>
    rw [hok] at hc
    simp -implicitDefEqProofs (disch := omega) only [vf115, vb115, hc, go_sem, ↓reduceIte, Nat.reduceAdd, Nat.reduceSub, Nat.reduceEqDiff, Nat.reduceLeDiff, reduceCtorEq]
    simp [findT, hok, zeroNd]
  | true =>
    rw [hok] at hc
    simp -implicitDefEqProofs (disch := omega) only [vf115, vb115, hc, go_sem, ↓reduceIte, Nat.reduceAdd, Nat.reduceSub, Nat.reduceEqDiff, Nat.reduceLeDiff, reduceCtorEq]
    refine wp_count t.nodes.length (fun k s => (∀ (i : Nat) (n : Nd), i < k → t.nodes[i]? = some n → decide (n.id = id) = false) ∧ s.pe 1 = .p (.int .i64 id) ∧ s.pe 2 = .ptr (.slot 2 0) 0 0 ∧ s.pe 4 = .ptr (.slot 4 0) 0 0 ∧ s.pe 6 = .p (.int .i64 k) ∧ s.h (.slot 2 0) = some (0, .box [.p (nodesP t.nodes), .p (.int .i64 t.next)]) ∧ s.h (.slot 4 0) = some (0, .box (zeroNd.pv.cells.map .p))) ?_ ?_
    · exact ⟨by omega, rfl, rfl, rfl, rfl, rfl, by simp -implicitDefEqProofs (disch := omega) only [go_sem, ↓reduceIte, Nat.reduceAdd, Nat.reduceSub, Nat.reduceEqDiff, Nat.reduceLeDiff, reduceCtorEq]; rfl⟩
    · rintro k s hk ⟨hall, h1, h2, h4, h6, hh2, hh4⟩
      simp only [Nd.pv, zeroNd, PV.cells, List.map_cons, List.map_nil] at hh4
      simp -implicitDefEqProofs (disch := omega) only [h1, h2, h4, h6, hh2, hh4, go_sem, ↓reduceIte, Nat.reduceAdd, Nat.reduceSub, Nat.reduceEqDiff, Nat.reduceLeDiff, reduceCtorEq]
      refine wp_if_d (fun hlt => ?_) (fun hge => ?_)
      · have hm : t.nodes[k]? = some t.nodes[k] := List.getElem?_eq_getElem hlt
        generalize t.nodes[k] = m at hm
        simp -implicitDefEqProofs (disch := omega) only [h1, h2, h4, h6, hh2, hh4, hm, go_sem, ↓reduceIte, Nat.reduceAdd, Nat.reduceSub, Nat.reduceEqDiff, Nat.reduceLeDiff, reduceCtorEq]
        repeat' (first | (refine wp_grn_d (fun hb => ?_) (fun hb => ?_) <;> simp -implicitDefEqProofs (disch := omega) only [hb, h1, h2, h4, h6, hh2, hh4, hm, go_sem, ↓reduceIte, Nat.reduceAdd, Nat.reduceSub, Nat.reduceEqDiff, Nat.reduceLeDiff, reduceCtorEq]) | (refine wp_gtn_d (fun hb => ?_) (fun hb => ?_) <;> simp -implicitDefEqProofs (disch := omega) only [hb, h1, h2, h4, h6, hh2, hh4, hm, go_sem, ↓reduceIte, Nat.reduceAdd, Nat.reduceSub, Nat.reduceEqDiff, Nat.reduceLeDiff, reduceCtorEq]) | (refine wp_gr_d (fun hb => ?_) (fun hb => ?_) <;> simp -implicitDefEqProofs (disch := omega) only [hb, h1, h2, h4, h6, hh2, hh4, hm, go_sem, ↓reduceIte, Nat.reduceAdd, Nat.reduceSub, Nat.reduceEqDiff, Nat.reduceLeDiff, reduceCtorEq]) | (refine wp_gt_d (fun hb => ?_) (fun hb => ?_) <;> simp -implicitDefEqProofs (disch := omega) only [hb, h1, h2, h4, h6, hh2, hh4, hm, go_sem, ↓reduceIte, Nat.reduceAdd, Nat.reduceSub, Nat.reduceEqDiff, Nat.reduceLeDiff, reduceCtorEq]) | (refine wp_gr (fun hb => ?_) (fun hb => ?_) <;> simp -implicitDefEqProofs (disch := omega) only [hb, h1, h2, h4, h6, hh2, hh4, hm, go_sem, ↓reduceIte, Nat.reduceAdd, Nat.reduceSub, Nat.reduceEqDiff, Nat.reduceLeDiff, reduceCtorEq]) | (refine wp_gt (fun hb => ?_) (fun hb => ?_) <;> simp -implicitDefEqProofs (disch := omega) only [hb, h1, h2, h4, h6, hh2, hh4, hm, go_sem, ↓reduceIte, Nat.reduceAdd, Nat.reduceSub, Nat.reduceEqDiff, Nat.reduceLeDiff, reduceCtorEq]) | (refine wp_nt_d (fun hb => ?_) (fun hb => ?_) <;> simp -implicitDefEqProofs (disch := omega) only [hb, h1, h2, h4, h6, hh2, hh4, hm, go_sem, ↓reduceIte, Nat.reduceAdd, Nat.reduceSub, Nat.reduceEqDiff, Nat.reduceLeDiff, reduceCtorEq]) | (refine wp_nt (fun hb => ?_) (fun hb => ?_) <;> simp -implicitDefEqProofs (disch := omega) only [hb, h1, h2, h4, h6, hh2, hh4, hm, go_sem, ↓reduceIte, Nat.reduceAdd, Nat.reduceSub, Nat.reduceEqDiff, Nat.reduceLeDiff, reduceCtorEq]) | (refine wp_if_d (fun hb => ?_) (fun hb => ?_) <;> simp -implicitDefEqProofs (disch := omega) only [hb, h1, h2, h4, h6, hh2, hh4, hm, go_sem, ↓reduceIte, Nat.reduceAdd, Nat.reduceSub, Nat.reduceEqDiff, Nat.reduceLeDiff, reduceCtorEq]) | (refine wp_if (fun hb => ?_) (fun hb => ?_) <;> simp -implicitDefEqProofs (disch := omega) only [hb, h1, h2, h4, h6, hh2, hh4, hm, go_sem, ↓reduceIte, Nat.reduceAdd, Nat.reduceSub, Nat.reduceEqDiff, Nat.reduceLeDiff, reduceCtorEq]))
        · have hf : findT t id = some m := by
            simp only [findT, hok, if_true, findN]
            exact find_take_none hall hm (by simpa using hb)
          simp [hf, Nd.vv, hb]
        · exact ⟨hlt, lt_succ_cases hm hall (by simpa using ‹_›), by simp only [Int.natCast_add, Int.natCast_one], rfl⟩
      · have hf : findT t id = none := by
          simp only [findT, hok, if_true, findN]
          exact find_none fun i n hi => hall i n (by omega)
        simp -implicitDefEqProofs (disch := omega) only [h1, h2, h4, h6, hh2, hh4, hge, go_sem, ↓reduceIte, Nat.reduceAdd, Nat.reduceSub, Nat.reduceEqDiff, Nat.reduceLeDiff, reduceCtorEq]
        simp [hf, zeroNd, Nd.vv]

theorem rhas_eq (t : Tr) (id : Int) (hl : t.nodes.length < 1000000) : V 76 [t.vv, .p (.int .i64 id)] [] = some (.p (.bool (findT t id).isSome), []) := by
  refine V_wp (vf := vf76) rfl ?_
  have hc := rfind_eq t id hl
  simp -implicitDefEqProofs (disch := omega) only [vf76, vb76, hc, go_sem, ↓reduceIte, Nat.reduceAdd, Nat.reduceSub, Nat.reduceEqDiff, Nat.reduceLeDiff, reduceCtorEq]

def ancR (t : Tr) (id : Int) : List Int := if (findT t id).isSome then up t.nodes id else []
theorem ranc_eq (t : Tr) (id : Int) (hl : t.nodes.length < 1000000) : V 31 [t.vv, .p (.int .i64 id)] [] = some (.fresh 1 ((ancR t id).map (.int .i64)), []) := by
  refine V_wp (vf := vf31) rfl ?_
  have hc := rhas_eq t id hl
  have hu := up_eq t id hl
  cases hf : (findT t id).isSome with
  | false =>
    rw [hf] at hc
    simp -implicitDefEqProofs (disch := omega) only [vf31, vb31, hc, go_sem, ↓reduceIte, Nat.reduceAdd, Nat.reduceSub, Nat.reduceEqDiff, Nat.reduceLeDiff, reduceCtorEq]
    simp [ancR, hf]
  | true =>
    rw [hf] at hc
    simp -implicitDefEqProofs (disch := omega) only [vf31, vb31, hc, hu, go_sem, ↓reduceIte, Nat.reduceAdd, Nat.reduceSub, Nat.reduceEqDiff, Nat.reduceLeDiff, reduceCtorEq]
    simp [ancR, hf]

theorem rdepth_eq (t : Tr) (id : Int) (hl : t.nodes.length < 1000000) : V 111 [t.vv, .p (.int .i64 id)] [] = some (.p (.int .i64 ((ancR t id).length - 1)), []) := by
  refine V_wp (vf := vf111) rfl ?_
  have hc := ranc_eq t id hl
  have hlen : (ancR t id).length < 1000000 := by
    unfold ancR
    split
    · have := upR_length t.nodes.reverse id
      simp only [List.length_reverse] at this
      unfold up
      omega
    · simp
  simp -implicitDefEqProofs (disch := omega) only [vf111, vb111, hc, go_sem, ↓reduceIte, Nat.reduceAdd, Nat.reduceSub, Nat.reduceEqDiff, Nat.reduceLeDiff, reduceCtorEq]

def kids (t : Tr) (id : Int) : List Int := if (findT t id).isSome then (t.nodes.filter fun n => decide (n.parent = id)).map (·.id) else []
theorem filter_take {p : Nd → Bool} {l : List Nd} {k : Nat} {m : Nd} (hm : l[k]? = some m) : (l.take (k + 1)).filter p = if p m then (l.take k).filter p ++ [m] else (l.take k).filter p := by
  rw [List.take_add_one, hm]
  simp only [List.filter_append, Option.toList, List.filter_cons, List.filter_nil]
  split <;> simp
theorem filter_length_le {p : Nd → Bool} (l : List Nd) (k : Nat) : ((l.take k).filter p).length ≤ k := by
  have := List.length_filter_le p (l.take k)
  simp at this ⊢
  omega

theorem rkids_eq (t : Tr) (id : Int) (hl : t.nodes.length < 1000000) : V 45 [t.vv, .p (.int .i64 id)] [] = some (.fresh 1 ((kids t id).map (.int .i64)), []) := by
  refine V_wp (vf := vf45) rfl ?_
  have hc := rhas_eq t id hl
  cases hf : (findT t id).isSome with
  | false =>
    rw [hf] at hc
    simp -implicitDefEqProofs (disch := omega) only [vf45, vb45, hc, go_sem, ↓reduceIte, Nat.reduceAdd, Nat.reduceSub, Nat.reduceEqDiff, Nat.reduceLeDiff, reduceCtorEq]
    simp [kids, hf]
  | true =>
    rw [hf] at hc
    simp -implicitDefEqProofs (disch := omega) only [vf45, vb45, hc, go_sem, ↓reduceIte, Nat.reduceAdd, Nat.reduceSub, Nat.reduceEqDiff, Nat.reduceLeDiff, reduceCtorEq]
    refine wp_count t.nodes.length (fun k s => ∃ (acc : List Int) (v : Nat), acc = ((t.nodes.take k).filter fun n => decide (n.parent = id)).map (·.id) ∧ acc.length ≤ k ∧ s.pe 1 = .p (.int .i64 id) ∧ s.pe 2 = .ptr (.slot 2 0) 0 0 ∧ s.pe 5 = .own (.slot 5 0) v 0 acc.length ∧ s.pe 6 = .p (.int .i64 k) ∧ s.h (.slot 2 0) = some (0, .box [.p (nodesP t.nodes), .p (.int .i64 t.next)]) ∧ s.h (.slot 5 0) = some (v, .arr 1 (acc.map (.int .i64)))) ?_ ?_
    · exact ⟨[], 0, rfl, by simp, rfl, rfl, rfl, rfl, rfl, rfl⟩
    · rintro k s hk ⟨acc, v, hacc, hlen, h1, h2, h5, h6, hh2, hh5⟩
      simp -implicitDefEqProofs (disch := omega) only [h1, h2, h5, h6, hh2, hh5, go_sem, ↓reduceIte, Nat.reduceAdd, Nat.reduceSub, Nat.reduceEqDiff, Nat.reduceLeDiff, reduceCtorEq]
      refine wp_if_d (fun hlt => ?_) (fun hge => ?_)
      · have hm : t.nodes[k]? = some t.nodes[k] := List.getElem?_eq_getElem hlt
        generalize t.nodes[k] = m at hm
        simp -implicitDefEqProofs (disch := omega) only [h1, h2, h5, h6, hh2, hh5, hm, go_sem, ↓reduceIte, Nat.reduceAdd, Nat.reduceSub, Nat.reduceEqDiff, Nat.reduceLeDiff, reduceCtorEq]
        repeat' (first | (refine wp_grn_d (fun hb => ?_) (fun hb => ?_) <;> simp -implicitDefEqProofs (disch := omega) only [hb, h1, h2, h5, h6, hh2, hh5, hm, go_sem, ↓reduceIte, Nat.reduceAdd, Nat.reduceSub, Nat.reduceEqDiff, Nat.reduceLeDiff, reduceCtorEq]) | (refine wp_gtn_d (fun hb => ?_) (fun hb => ?_) <;> simp -implicitDefEqProofs (disch := omega) only [hb, h1, h2, h5, h6, hh2, hh5, hm, go_sem, ↓reduceIte, Nat.reduceAdd, Nat.reduceSub, Nat.reduceEqDiff, Nat.reduceLeDiff, reduceCtorEq]) | (refine wp_gr_d (fun hb => ?_) (fun hb => ?_) <;> simp -implicitDefEqProofs (disch := omega) only [hb, h1, h2, h5, h6, hh2, hh5, hm, go_sem, ↓reduceIte, Nat.reduceAdd, Nat.reduceSub, Nat.reduceEqDiff, Nat.reduceLeDiff, reduceCtorEq]) | (refine wp_gt_d (fun hb => ?_) (fun hb => ?_) <;> simp -implicitDefEqProofs (disch := omega) only [hb, h1, h2, h5, h6, hh2, hh5, hm, go_sem, ↓reduceIte, Nat.reduceAdd, Nat.reduceSub, Nat.reduceEqDiff, Nat.reduceLeDiff, reduceCtorEq]) | (refine wp_gr (fun hb => ?_) (fun hb => ?_) <;> simp -implicitDefEqProofs (disch := omega) only [hb, h1, h2, h5, h6, hh2, hh5, hm, go_sem, ↓reduceIte, Nat.reduceAdd, Nat.reduceSub, Nat.reduceEqDiff, Nat.reduceLeDiff, reduceCtorEq]) | (refine wp_gt (fun hb => ?_) (fun hb => ?_) <;> simp -implicitDefEqProofs (disch := omega) only [hb, h1, h2, h5, h6, hh2, hh5, hm, go_sem, ↓reduceIte, Nat.reduceAdd, Nat.reduceSub, Nat.reduceEqDiff, Nat.reduceLeDiff, reduceCtorEq]) | (refine wp_nt_d (fun hb => ?_) (fun hb => ?_) <;> simp -implicitDefEqProofs (disch := omega) only [hb, h1, h2, h5, h6, hh2, hh5, hm, go_sem, ↓reduceIte, Nat.reduceAdd, Nat.reduceSub, Nat.reduceEqDiff, Nat.reduceLeDiff, reduceCtorEq]) | (refine wp_nt (fun hb => ?_) (fun hb => ?_) <;> simp -implicitDefEqProofs (disch := omega) only [hb, h1, h2, h5, h6, hh2, hh5, hm, go_sem, ↓reduceIte, Nat.reduceAdd, Nat.reduceSub, Nat.reduceEqDiff, Nat.reduceLeDiff, reduceCtorEq]) | (refine wp_if_d (fun hb => ?_) (fun hb => ?_) <;> simp -implicitDefEqProofs (disch := omega) only [hb, h1, h2, h5, h6, hh2, hh5, hm, go_sem, ↓reduceIte, Nat.reduceAdd, Nat.reduceSub, Nat.reduceEqDiff, Nat.reduceLeDiff, reduceCtorEq]) | (refine wp_if (fun hb => ?_) (fun hb => ?_) <;> simp -implicitDefEqProofs (disch := omega) only [hb, h1, h2, h5, h6, hh2, hh5, hm, go_sem, ↓reduceIte, Nat.reduceAdd, Nat.reduceSub, Nat.reduceEqDiff, Nat.reduceLeDiff, reduceCtorEq]))
        · refine ⟨hlt, acc ++ [m.id], v + 1, ?_, by simp; omega, by simp, by simp, by simp⟩
          rw [filter_take hm, hacc]
          simp [hb]
        · refine ⟨hlt, acc, v, ?_, by omega, by simp, by simp, by simp⟩
          rw [filter_take hm, hacc]
          simp [hb]
      · rw [List.take_of_length_le (by omega)] at hacc
        simp -implicitDefEqProofs (disch := omega) only [h1, h2, h5, h6, hh2, hh5, hge, go_sem, ↓reduceIte, Nat.reduceAdd, Nat.reduceSub, Nat.reduceEqDiff, Nat.reduceLeDiff, reduceCtorEq]
        simp [kids, hf, hacc]

theorem rcopy_eq (t : Tr) (hl : t.nodes.length < 1000000) : V 112 [t.vv] [] = some (t.fv, []) := by
  refine V_wp (vf := vf112) rfl ?_
  simp -implicitDefEqProofs (disch := omega) only [vf112, vb112, go_sem, ↓reduceIte, Nat.reduceAdd, Nat.reduceSub, Nat.reduceEqDiff, Nat.reduceLeDiff, reduceCtorEq]

def newT : Tr := ⟨[⟨1, 0, ⟨#[]⟩, 0, 0, 0⟩], 2⟩
theorem rnew_eq : V 70 [] [] = some (newT.fv, []) := by
  refine V_wp (vf := vf70) rfl ?_
  simp -implicitDefEqProofs (disch := omega) only [vf70, vb70, go_sem, ↓reduceIte, Nat.reduceAdd, Nat.reduceSub, Nat.reduceEqDiff, Nat.reduceLeDiff, reduceCtorEq]
  rfl

theorem bool_eq (L : List Int) (a : Nat) (n : Int) (hL : L.length < 4611686018427387904) (h1 : 1 ≤ n) (hn : n < 4611686018427387904) : V 72 [.ptr (.arg 0 0) 0 0, .p (.int .i64 n)] [diceB L a] = some (.p (.bool (decide (nextV L a n = n - 1))), [diceB L (nextA L a n)]) := by
  refine V_wp (vf := vf72) rfl ?_
  have hc := next_eq L a n hL hn
  simp -implicitDefEqProofs (disch := omega) only [vf72, vb72, hc, go_sem, ↓reduceIte, Nat.reduceAdd, Nat.reduceSub, Nat.reduceEqDiff, Nat.reduceLeDiff, reduceCtorEq]

def names6 : List ByteArray := [⟨#[97]⟩, ⟨#[98]⟩, ⟨#[99]⟩, ⟨#[119, 101, 98]⟩, ⟨#[100, 98, 45, 49]⟩, ⟨#[88, 95, 57]⟩]
def nameV (L : List Int) (a : Nat) : ByteArray := names6.getD (nextV L a 6).toNat ⟨#[]⟩
theorem name_eq (L : List Int) (a : Nat) (hL : L.length < 4611686018427387904) : V 71 [.ptr (.arg 0 0) 0 0] [diceB L a] = some (.p (.str (nameV L a)), [diceB L (nextA L a 6)]) := by
  refine V_wp (vf := vf71) rfl ?_
  have hc := next_eq L a 6 hL (by omega)
  have h0 := nextV_nonneg L a 6
  have h1 := nextV_lt L a (n := 6) (by omega)
  have hl : (nextV L a 6).toNat < names6.length := by simp [names6]; omega
  have hg : ([.str ⟨#[97]⟩, .str ⟨#[98]⟩, .str ⟨#[99]⟩, .str ⟨#[119, 101, 98]⟩, .str ⟨#[100, 98, 45, 49]⟩, .str ⟨#[88, 95, 57]⟩] : List PV)[(nextV L a 6).toNat]? = some (.str (nameV L a)) := by
    show (names6.map PV.str)[(nextV L a 6).toNat]? = _
    rw [List.getElem?_map, nameV, List.getD_eq_getElem?_getD, List.getElem?_eq_getElem hl]
    rfl
  simp -implicitDefEqProofs (disch := omega) only [vf71, vb71, hc, h0, hg, go_sem, ↓reduceIte, Nat.reduceAdd, Nat.reduceSub, Nat.reduceEqDiff, Nat.reduceLeDiff, reduceCtorEq]
theorem nameV_mem (L : List Int) (a : Nat) : nameV L a ∈ names6 := by
  have h0 := nextV_nonneg L a 6
  have h1 := nextV_lt L a (n := 6) (by omega)
  have hl : (nextV L a 6).toNat < names6.length := by simp [names6]; omega
  rw [nameV, List.getD_eq_getElem?_getD, List.getElem?_eq_getElem hl]
  exact List.getElem_mem _
theorem names_valid : ∀ s ∈ names6, validN s = true := by
  intro s hs
  simp only [names6, List.mem_cons, List.not_mem_nil, or_false] at hs
  rcases hs with rfl | rfl | rfl | rfl | rfl | rfl <;> decide

theorem nodesOk_pos : ∀ (ns pre : List Nd), (∀ x ∈ pre, 1 ≤ x.id) → nodesOk pre ns = true → ∀ n ∈ ns, 1 ≤ n.id
  | [], _, _, _, n, hn => by cases hn
  | m :: ns, pre, hp, h, n, hn => by
    simp only [nodesOk, Bool.and_eq_true] at h
    have hm : 1 ≤ m.id := by
      have h1 := h.1
      unfold nodeOk at h1
      simp only [Bool.and_eq_true] at h1
      cases hl : pre.getLast? with
      | none =>
        rw [hl] at h1
        simp only [decide_eq_true_eq] at h1
        omega
      | some l =>
        rw [hl] at h1
        simp only [Bool.and_eq_true, decide_eq_true_eq] at h1
        have := hp l (List.mem_of_getLast? hl)
        omega
    rcases List.mem_cons.1 hn with rfl | hn
    · exact hm
    · refine nodesOk_pos ns (pre ++ [m]) (fun x hx => ?_) h.2 n hn
      rcases List.mem_append.1 hx with hx | hx
      · exact hp x hx
      · simp at hx; subst hx; exact hm
theorem treeNext {t : Tr} (h : treeOk t = true) : 1 < t.next ∧ t.next ≤ 2147483648 ∧ 1 ≤ t.nodes.length ∧ t.nodes.length ≤ 64 := by
  simp only [treeOk, Bool.and_eq_true, decide_eq_true_eq] at h
  obtain ⟨⟨⟨h1, h2⟩, _⟩, h3⟩ := h
  cases hl : t.nodes.getLast? with
  | none => rw [hl] at h3; cases h3
  | some l =>
    rw [hl] at h3
    simp only [decide_eq_true_eq] at h3
    have := nodesOk_pos t.nodes [] (by simp) h2 l (List.mem_of_getLast? hl)
    omega
/-- What Add answers: the tree, the new group, the error. -/
def addT (t : Tr) (p : Int) (s : ByteArray) : Tr × Int × Int :=
  if (treeOk t && validN s) = false then (⟨[], 0⟩, 0, 1)
  else if (findT t p).isSome = false then (⟨[], 0⟩, 0, 4)
  else if (t.nodes.any fun n => decide (n.parent = p ∧ n.name = s)) = true then (⟨[], 0⟩, 0, 5)
  else if (8 : Int) ≤ (ancR t p).length - 1 ∨ 64 ≤ t.nodes.length ∨ 2147483647 < t.next then (⟨[], 0⟩, 0, 7)
  else (⟨t.nodes ++ [⟨t.next, p, s, 0, 0, 0⟩], t.next + 1⟩, t.next, 0)

set_option maxHeartbeats 2000000 in
theorem radd_eq (t : Tr) (p : Int) (s : ByteArray) (hl : t.nodes.length < 1000000) : V 69 [t.vv, .p (.int .i64 p), .p (.str s)] [] = some (.tup [(addT t p s).1.fv, .p (.int .i64 (addT t p s).2.1), .p (.int .i64 (addT t p s).2.2)], []) := by
  refine V_wp (vf := vf69) rfl ?_
  have hc := rcheck_eq t hl
  have hv := rvalid_eq s
  have hh := rhas_eq t p hl
  have hd := rdepth_eq t p hl
  have hcp := rcopy_eq t hl
  cases hok : treeOk t with
  | false =>
    rw [hok] at hc
    simp -implicitDefEqProofs (disch := omega) only [vf69, vb69, hc, go_sem, ↓reduceIte, Nat.reduceAdd, Nat.reduceSub, Nat.reduceEqDiff, Nat.reduceLeDiff, reduceCtorEq]
    simp [addT, hok]
  | true =>
    rw [hok] at hc
    cases hvv : validN s with
    | false =>
      rw [hvv] at hv
      simp -implicitDefEqProofs (disch := omega) only [vf69, vb69, hc, hv, go_sem, ↓reduceIte, Nat.reduceAdd, Nat.reduceSub, Nat.reduceEqDiff, Nat.reduceLeDiff, reduceCtorEq]
      simp [addT, hok, hvv]
    | true =>
      rw [hvv] at hv
      cases hf : (findT t p).isSome with
      | false =>
        rw [hf] at hh
        simp -implicitDefEqProofs (disch := omega) only [vf69, vb69, hc, hv, hh, go_sem, ↓reduceIte, Nat.reduceAdd, Nat.reduceSub, Nat.reduceEqDiff, Nat.reduceLeDiff, reduceCtorEq]
        simp [addT, hok, hvv, hf]
      | true =>
        rw [hf] at hh
        simp -implicitDefEqProofs (disch := omega) only [vf69, vb69, hc, hv, hh, go_sem, ↓reduceIte, Nat.reduceAdd, Nat.reduceSub, Nat.reduceEqDiff, Nat.reduceLeDiff, reduceCtorEq]
        refine wp_count t.nodes.length (fun k st => (t.nodes.take k).any (fun n => decide (n.parent = p ∧ n.name = s)) = false ∧ st.pe 1 = .p (.int .i64 p) ∧ st.pe 2 = .p (.str s) ∧ st.pe 3 = .ptr (.slot 3 0) 0 0 ∧ st.pe 6 = .ptr (.slot 6 0) 0 0 ∧ st.pe 9 = .p (.int .i64 k) ∧ st.h (.slot 3 0) = some (0, .box [.p (nodesP t.nodes), .p (.int .i64 t.next)]) ∧ st.h (.slot 6 0) = some (0, .box [.own (.slot 6 1) 0 0 0, .p (.int .i64 0)]) ∧ st.h (.slot 6 1) = some (0, .arr 6 [])) ?_ ?_
        · exact ⟨by simp, rfl, rfl, rfl, rfl, rfl, rfl, rfl, rfl⟩
        · rintro k st hk ⟨hno, h1, h2, h3, h6, h9, hh3, hh6, hh61⟩
          simp -implicitDefEqProofs (disch := omega) only [h1, h2, h3, h6, h9, hh3, hh6, hh61, go_sem, ↓reduceIte, Nat.reduceAdd, Nat.reduceSub, Nat.reduceEqDiff, Nat.reduceLeDiff, reduceCtorEq]
          refine wp_if_d (fun hlt => ?_) (fun hge => ?_)
          · have hm : t.nodes[k]? = some t.nodes[k] := List.getElem?_eq_getElem hlt
            generalize t.nodes[k] = m at hm
            simp -implicitDefEqProofs (disch := omega) only [h1, h2, h3, h6, h9, hh3, hh6, hh61, hm, go_sem, ↓reduceIte, Nat.reduceAdd, Nat.reduceSub, Nat.reduceEqDiff, Nat.reduceLeDiff, reduceCtorEq]
            repeat' (first | (refine wp_grn_d (fun hb => ?_) (fun hb => ?_) <;> simp -implicitDefEqProofs (disch := omega) only [hb, h1, h2, h3, h6, h9, hh3, hh6, hh61, hm, go_sem, ↓reduceIte, Nat.reduceAdd, Nat.reduceSub, Nat.reduceEqDiff, Nat.reduceLeDiff, reduceCtorEq]) | (refine wp_gtn_d (fun hb => ?_) (fun hb => ?_) <;> simp -implicitDefEqProofs (disch := omega) only [hb, h1, h2, h3, h6, h9, hh3, hh6, hh61, hm, go_sem, ↓reduceIte, Nat.reduceAdd, Nat.reduceSub, Nat.reduceEqDiff, Nat.reduceLeDiff, reduceCtorEq]) | (refine wp_gr_d (fun hb => ?_) (fun hb => ?_) <;> simp -implicitDefEqProofs (disch := omega) only [hb, h1, h2, h3, h6, h9, hh3, hh6, hh61, hm, go_sem, ↓reduceIte, Nat.reduceAdd, Nat.reduceSub, Nat.reduceEqDiff, Nat.reduceLeDiff, reduceCtorEq]) | (refine wp_gt_d (fun hb => ?_) (fun hb => ?_) <;> simp -implicitDefEqProofs (disch := omega) only [hb, h1, h2, h3, h6, h9, hh3, hh6, hh61, hm, go_sem, ↓reduceIte, Nat.reduceAdd, Nat.reduceSub, Nat.reduceEqDiff, Nat.reduceLeDiff, reduceCtorEq]) | (refine wp_gr (fun hb => ?_) (fun hb => ?_) <;> simp -implicitDefEqProofs (disch := omega) only [hb, h1, h2, h3, h6, h9, hh3, hh6, hh61, hm, go_sem, ↓reduceIte, Nat.reduceAdd, Nat.reduceSub, Nat.reduceEqDiff, Nat.reduceLeDiff, reduceCtorEq]) | (refine wp_gt (fun hb => ?_) (fun hb => ?_) <;> simp -implicitDefEqProofs (disch := omega) only [hb, h1, h2, h3, h6, h9, hh3, hh6, hh61, hm, go_sem, ↓reduceIte, Nat.reduceAdd, Nat.reduceSub, Nat.reduceEqDiff, Nat.reduceLeDiff, reduceCtorEq]) | (refine wp_nt_d (fun hb => ?_) (fun hb => ?_) <;> simp -implicitDefEqProofs (disch := omega) only [hb, h1, h2, h3, h6, h9, hh3, hh6, hh61, hm, go_sem, ↓reduceIte, Nat.reduceAdd, Nat.reduceSub, Nat.reduceEqDiff, Nat.reduceLeDiff, reduceCtorEq]) | (refine wp_nt (fun hb => ?_) (fun hb => ?_) <;> simp -implicitDefEqProofs (disch := omega) only [hb, h1, h2, h3, h6, h9, hh3, hh6, hh61, hm, go_sem, ↓reduceIte, Nat.reduceAdd, Nat.reduceSub, Nat.reduceEqDiff, Nat.reduceLeDiff, reduceCtorEq]) | (refine wp_if_d (fun hb => ?_) (fun hb => ?_) <;> simp -implicitDefEqProofs (disch := omega) only [hb, h1, h2, h3, h6, h9, hh3, hh6, hh61, hm, go_sem, ↓reduceIte, Nat.reduceAdd, Nat.reduceSub, Nat.reduceEqDiff, Nat.reduceLeDiff, reduceCtorEq]) | (refine wp_if (fun hb => ?_) (fun hb => ?_) <;> simp -implicitDefEqProofs (disch := omega) only [hb, h1, h2, h3, h6, h9, hh3, hh6, hh61, hm, go_sem, ↓reduceIte, Nat.reduceAdd, Nat.reduceSub, Nat.reduceEqDiff, Nat.reduceLeDiff, reduceCtorEq]))
            all_goals first
              | exact ⟨hlt, by rw [any_take hm, hno]; simp [*], by simp only [Int.natCast_add, Int.natCast_one]⟩
              | (have ha : (t.nodes.any fun n => decide (n.parent = p ∧ n.name = s)) = true := by
                  rw [List.any_eq_true]
                  exact ⟨m, List.mem_of_getElem? hm, by simp [*]⟩
                 simp only [addT, hok, hvv, hf, ha, Bool.and_self, Bool.true_eq_false, if_false, if_true, List.map_nil]
                 rfl)
          · have ha : (t.nodes.any fun n => decide (n.parent = p ∧ n.name = s)) = false := by
              rw [List.take_of_length_le (by omega)] at hno
              exact hno
            by_cases hb1 : (8 : Int) ≤ (ancR t p).length - 1
            · simp -implicitDefEqProofs (disch := omega) only [h1, h2, h3, h6, h9, hh3, hh6, hh61, hge, hd, hb1, go_sem, ↓reduceIte, Nat.reduceAdd, Nat.reduceSub, Nat.reduceEqDiff, Nat.reduceLeDiff, reduceCtorEq]
              simp only [addT, hok, hvv, hf, ha, hb1, true_or, Bool.and_self, Bool.true_eq_false, Bool.false_eq_true, if_false, if_true, List.map_nil]
              rfl
            · by_cases hb2 : (64 : Int) ≤ t.nodes.length
              · simp -implicitDefEqProofs (disch := omega) only [h1, h2, h3, h6, h9, hh3, hh6, hh61, hge, hd, hb1, hb2, go_sem, ↓reduceIte, Nat.reduceAdd, Nat.reduceSub, Nat.reduceEqDiff, Nat.reduceLeDiff, reduceCtorEq]
                simp only [addT, hok, hvv, hf, ha, hb1, show 64 ≤ t.nodes.length by omega, true_or, or_true, Bool.and_self, Bool.true_eq_false, Bool.false_eq_true, if_false, if_true, List.map_nil]
                rfl
              · by_cases hb3 : 2147483647 < t.next
                · simp -implicitDefEqProofs (disch := omega) only [h1, h2, h3, h6, h9, hh3, hh6, hh61, hge, hd, hb1, hb2, hb3, go_sem, ↓reduceIte, Nat.reduceAdd, Nat.reduceSub, Nat.reduceEqDiff, Nat.reduceLeDiff, reduceCtorEq]
                  simp only [addT, hok, hvv, hf, ha, hb1, hb3, true_or, or_true, Bool.and_self, Bool.true_eq_false, Bool.false_eq_true, if_false, if_true, List.map_nil]
                  rfl
                · have hnx := treeNext hok
                  simp -implicitDefEqProofs (disch := omega) only [h1, h2, h3, h6, h9, hh3, hh6, hh61, hge, hd, hb1, hb2, hb3, hcp, go_sem, ↓reduceIte, Nat.reduceAdd, Nat.reduceSub, Nat.reduceEqDiff, Nat.reduceLeDiff, reduceCtorEq]
                  simp only [addT, hok, hvv, hf, ha, hb1, hb3, show ¬ 64 ≤ t.nodes.length by omega, or_self, Bool.and_self, Bool.true_eq_false, Bool.false_eq_true, if_false, List.map_append, List.map_cons, List.map_nil, Nd.pv, Tr.fv]

/-- What Remove answers. -/
def removeT (t : Tr) (id : Int) : Tr × Int :=
  if treeOk t = false then (⟨[], 0⟩, 1)
  else if (findT t id).isSome = false then (⟨[], 0⟩, 4)
  else if id = 1 then (⟨[], 0⟩, 9)
  else if kids t id ≠ [] then (⟨[], 0⟩, 6)
  else (⟨t.nodes.filter fun n => !decide (n.id = id), t.next⟩, 0)

end Go.V
