/- The value machine V at work: dice, lists of numbers, trees. -/
/- The value machine V at work: the reference's trees. -/
/- The value machine V at work: the reference's trees, more. -/
/- The value machine V at work: the removal of a group. -/
/- Trees, plainly: what Add and Remove keep. No program in sight. -/
/- The value machine V at work: trees out of dice. -/
/- The value machine V at work: the program's own look at trees. -/
import Derived.Test.YthmbpjnpcjfdiaaVX
set_option linter.unusedSimpArgs false
set_option linter.unusedVariables false
namespace Go.V

structure Nd where
  id : Int
  parent : Int
  name : ByteArray
  control : Int
  kind : Int
  owner : Int
  deriving DecidableEq

def Nd.pv (n : Nd) : PV := .agg [.int .i64 n.id, .int .i64 n.parent, .str n.name, .int .i64 n.control, .int .i64 n.kind, .int .i64 n.owner]
def Nd.vv (n : Nd) : VVal := .agg [.p (.int .i64 n.id), .p (.int .i64 n.parent), .p (.str n.name), .p (.int .i64 n.control), .p (.int .i64 n.kind), .p (.int .i64 n.owner)]
abbrev nodesP (ns : List Nd) : PV := .slice 6 (ns.map Nd.pv)
structure Tr where
  nodes : List Nd
  next : Int
abbrev Tr.vv (t : Tr) : VVal := .agg [.p (nodesP t.nodes), .p (.int .i64 t.next)]
abbrev Tr.fv (t : Tr) : VVal := .agg [.fresh 6 (t.nodes.map Nd.pv), .p (.int .i64 t.next)]
abbrev intsP (xs : List Int) : PV := .slice 1 (xs.map (.int .i64))

attribute [go_sem] Nd.pv solid

theorem nodes_flat (ns : List Nd) : (ns.map Nd.pv).all PV.flat = true := by
  rw [List.all_eq_true]
  intro x hx
  obtain ⟨n, _, rfl⟩ := List.mem_map.1 hx
  rfl
theorem ints_flat (k : IntKind) (xs : List Int) : (xs.map (PV.int k)).all PV.flat = true := by
  rw [List.all_eq_true]
  intro x hx
  obtain ⟨n, _, rfl⟩ := List.mem_map.1 hx
  rfl
attribute [go_sem] nodes_flat ints_flat

/-! ### dice -/

theorem light_eq (xs : List PV) : V 4 [.p (.slice 1 xs)] [] = some (.p (.bool (decide (xs.length ≤ 600))), []) := by
  refine V_fix (vf := vf4) rfl ?_
  simp -implicitDefEqProofs (disch := omega) only [vf4, vb4, go_sem, ↓reduceIte, Nat.reduceAdd, Nat.reduceSub, Nat.reduceEqDiff, Nat.reduceLeDiff, reduceCtorEq]
  simp only [show (600 : Int) = ((600 : Nat) : Int) from rfl, Int.ofNat_le]

abbrev diceB (L : List Int) (a : Nat) : Ob := .box [.p (intsP L), .p (.int .i64 a)]

theorem roll_eq (L : List Int) : V 6 [.p (intsP L)] [] = some (.boxed [.p (intsP L), .p (.int .i64 0)], []) := by
  refine V_fix (vf := vf6) rfl ?_
  simp -implicitDefEqProofs (disch := omega) only [vf6, vb6, go_sem, ↓reduceIte, Nat.reduceAdd, Nat.reduceSub, Nat.reduceEqDiff, Nat.reduceLeDiff, reduceCtorEq]

def nextV (L : List Int) (a : Nat) (n : Int) : Int := if 1 ≤ n then (L.getD a 0) % n else 0
def nextA (L : List Int) (a : Nat) (n : Int) : Nat := if a < L.length ∧ 1 ≤ n then a + 1 else a

theorem emod_tmod {x n : Int} (h : 1 ≤ n) : x % n = if x.tmod n < 0 then x.tmod n + n else x.tmod n := by
  have h3 := Int.emod_nonneg x (show n ≠ 0 by omega)
  have h4 := Int.emod_lt_of_pos x (show 0 < n by omega)
  have h5 := Int.tmod_eq_emod (a := x) (b := n)
  rw [h5]
  split <;> split <;> omega

theorem next_eq (L : List Int) (a : Nat) (n : Int) (hL : L.length < 4611686018427387904) (hn : n < 4611686018427387904) : V 10 [.ptr (.arg 0 0) 0 0, .p (.int .i64 n)] [diceB L a] = some (.p (.int .i64 (nextV L a n)), [diceB L (nextA L a n)]) := by
  refine V_wp (vf := vf10) rfl ?_
  by_cases ha : L.length ≤ a
  · simp -implicitDefEqProofs (disch := omega) only [vf10, vb10, ha, go_sem, ↓reduceIte, Nat.reduceAdd, Nat.reduceSub, Nat.reduceEqDiff, Nat.reduceLeDiff, reduceCtorEq]
    simp [nextV, nextA, List.getD_eq_getElem?_getD, List.getElem?_eq_none ha, Nat.not_lt.2 ha]
  · have hx : L[a]? = some (L.getD a 0) := by
      rw [List.getD_eq_getElem?_getD, List.getElem?_eq_getElem (by omega)]; rfl
    have ht : (((a : Int) + 1 - 1).toNat) = a := by omega
    simp -implicitDefEqProofs (disch := omega) only [vf10, vb10, ha, go_sem, ↓reduceIte, Nat.reduceAdd, Nat.reduceSub, Nat.reduceEqDiff, Nat.reduceLeDiff, reduceCtorEq]
    repeat' ((first | refine wp_grn_d (fun hb => ?_) (fun hb => ?_) | refine wp_gtn_d (fun hb => ?_) (fun hb => ?_) | refine wp_gr_d (fun hb => ?_) (fun hb => ?_) | refine wp_gt_d (fun hb => ?_) (fun hb => ?_) | refine wp_gr (fun hb => ?_) (fun hb => ?_) | refine wp_gt (fun hb => ?_) (fun hb => ?_) | refine wp_nt_d (fun hb => ?_) (fun hb => ?_) | refine wp_nt (fun hb => ?_) (fun hb => ?_) | refine wp_if_d (fun hb => ?_) (fun hb => ?_) | refine wp_if (fun hb => ?_) (fun hb => ?_)) <;> simp -implicitDefEqProofs (disch := omega) only [hb, hx, ht, go_sem, ↓reduceIte, Nat.reduceAdd, Nat.reduceSub, Nat.reduceEqDiff, Nat.reduceLeDiff, reduceCtorEq])
    · simp [nextV, nextA, show ¬ 1 ≤ n by omega]
    · have := emod_tmod (x := L.getD a 0) (n := n) (by omega)
      rw [if_pos (by assumption)] at this
      have h1 := Int.tmod_lt_of_pos (L.getD a 0) (show 0 < n by omega)
      have h2 := Int.emod_nonneg (L.getD a 0) (show n ≠ 0 by omega)
      rw [wrap64 (by omega) (by omega), ← this]
      simp only [nextV, nextA, show 1 ≤ n by omega, show a < L.length by omega, and_self, if_true, diceB, Int.natCast_add, Int.natCast_one]
    · have := emod_tmod (x := L.getD a 0) (n := n) (by omega)
      rw [if_neg (by assumption)] at this
      rw [← this]
      simp only [nextV, nextA, show 1 ≤ n by omega, show a < L.length by omega, and_self, if_true, diceB, Int.natCast_add, Int.natCast_one]
theorem nextV_nonneg (L : List Int) (a : Nat) (n : Int) : 0 ≤ nextV L a n := by
  unfold nextV
  split
  · exact Int.emod_nonneg _ (by omega)
  · omega
theorem nextV_lt (L : List Int) (a : Nat) {n : Int} (h : 1 ≤ n) : nextV L a n < n := by
  unfold nextV
  rw [if_pos h]
  exact Int.emod_lt_of_pos _ (by omega)
theorem nextA_le (L : List Int) (a : Nat) (n : Int) (h : a ≤ L.length) : nextA L a n ≤ L.length := by
  unfold nextA
  split <;> omega

/-! ### trees -/

theorem take_map_self {α β : Type} (f : α → β) (l : List α) : List.take l.length (l.map f) = l.map f := by
  rw [List.take_of_length_le (by simp)]
theorem take_map_snoc {α β : Type} (f : α → β) (l : List α) (x : β) : List.take (l.length + 1) (l.map f ++ [x]) = l.map f ++ [x] := by
  rw [List.take_of_length_le (by simp)]
attribute [go_sem] take_map_self take_map_snoc

def upR : List Nd → Int → List Int
  | [], _ => []
  | n :: ns, id => if n.id = id then id :: upR ns n.parent else upR ns id
def up (ns : List Nd) (id : Int) : List Int := upR ns.reverse id

theorem upR_length : ∀ (ns : List Nd) (id : Int), (upR ns id).length ≤ ns.length
  | [], _ => Nat.le_refl _
  | n :: ns, id => by
    unfold upR
    split
    · have := upR_length ns n.parent; simp; omega
    · have := upR_length ns id; simp; omega

theorem up_eq (t : Tr) (id : Int) (hl : t.nodes.length < 1000000) : V 62 [t.vv, .p (.int .i64 id)] [] = some (.fresh 1 ((up t.nodes id).map (.int .i64)), []) := by
  refine V_wp (vf := vf62) rfl ?_
  simp -implicitDefEqProofs (disch := omega) only [vf62, vb62, go_sem, ↓reduceIte, Nat.reduceAdd, Nat.reduceSub, Nat.reduceEqDiff, Nat.reduceLeDiff, reduceCtorEq]
  refine wp_count t.nodes.length (fun k s => ∃ (acc : List Int) (cur : Int) (v : Nat), up t.nodes id = acc ++ upR (t.nodes.reverse.drop k) cur ∧ acc.length ≤ k ∧ s.pe 1 = .p (.int .i64 cur) ∧ s.pe 2 = .ptr (.slot 2 0) 0 0 ∧ s.pe 5 = .own (.slot 5 0) v 0 acc.length ∧ s.pe 6 = .p (.int .i64 ((t.nodes.length : Int) - 1 - k)) ∧ s.h (.slot 2 0) = some (0, .box [.p (nodesP t.nodes), .p (.int .i64 t.next)]) ∧ s.h (.slot 5 0) = some (v, .arr 1 (acc.map (.int .i64)))) ?_ ?_
  · exact ⟨[], id, 0, by simp [up, enterE, updV, VHeap.upd, enterH, List.getD]⟩
  · rintro k s hk ⟨acc, cur, v, hup, hlen, h1, h2, h5, h6, hh2, hh5⟩
    simp -implicitDefEqProofs (disch := omega) only [h1, h2, h5, h6, hh2, hh5, go_sem, ↓reduceIte, Nat.reduceAdd, Nat.reduceSub, Nat.reduceEqDiff, Nat.reduceLeDiff, reduceCtorEq]
    refine wp_if_d (fun hge => ?_) (fun hlt => ?_)
    · have hk' : k < t.nodes.length := by omega
      have hn : t.nodes[((t.nodes.length : Int) - 1 - k).toNat]? = some t.nodes[t.nodes.length - 1 - k] := by
        rw [show ((t.nodes.length : Int) - 1 - k).toNat = t.nodes.length - 1 - k by omega]
        exact List.getElem?_eq_getElem (by omega)
      have hd : t.nodes.reverse.drop k = t.nodes[t.nodes.length - 1 - k] :: t.nodes.reverse.drop (k + 1) := by
        rw [List.drop_eq_getElem_cons (by simpa using hk')]
        simp
      generalize t.nodes[t.nodes.length - 1 - k] = n at hn hd
      rw [hd] at hup
      simp -implicitDefEqProofs (disch := omega) only [h1, h2, h5, h6, hh2, hh5, hn, hge, go_sem, ↓reduceIte, Nat.reduceAdd, Nat.reduceSub, Nat.reduceEqDiff, Nat.reduceLeDiff, reduceCtorEq]
      repeat' ((first | refine wp_grn_d (fun hb => ?_) (fun hb => ?_) | refine wp_gtn_d (fun hb => ?_) (fun hb => ?_) | refine wp_gr_d (fun hb => ?_) (fun hb => ?_) | refine wp_gt_d (fun hb => ?_) (fun hb => ?_) | refine wp_gr (fun hb => ?_) (fun hb => ?_) | refine wp_gt (fun hb => ?_) (fun hb => ?_) | refine wp_nt_d (fun hb => ?_) (fun hb => ?_) | refine wp_nt (fun hb => ?_) (fun hb => ?_) | refine wp_if_d (fun hb => ?_) (fun hb => ?_) | refine wp_if (fun hb => ?_) (fun hb => ?_)) <;> simp -implicitDefEqProofs (disch := omega) only [hb, h1, h2, h5, h6, hh2, hh5, hn, hge, go_sem, ↓reduceIte, Nat.reduceAdd, Nat.reduceSub, Nat.reduceEqDiff, Nat.reduceLeDiff, reduceCtorEq])
      · rw [upR, if_pos (by assumption)] at hup
        refine ⟨hk', acc ++ [cur], n.parent, v + 1, by rw [hup]; simp, by simp; omega, rfl, by simp, by congr 2; omega, by simp⟩
      · rw [upR, if_neg (by assumption)] at hup
        exact ⟨hk', acc, cur, v, hup, by omega, rfl, rfl, by congr 2; omega, rfl⟩
    · have hd : t.nodes.reverse.drop k = [] := List.drop_of_length_le (by simp; omega)
      rw [hd, upR, List.append_nil] at hup
      simp -implicitDefEqProofs (disch := omega) only [h1, h2, h5, h6, hh2, hh5, hup, go_sem, ↓reduceIte, Nat.reduceAdd, Nat.reduceSub, Nat.reduceEqDiff, Nat.reduceLeDiff, reduceCtorEq]

/-! ### names -/

def innerB (c : Int) : Bool := decide (97 ≤ c ∧ c ≤ 122) || decide (65 ≤ c ∧ c ≤ 90) || decide (48 ≤ c ∧ c ≤ 57) || decide (c = 95) || decide (c = 45)
def validN (s : ByteArray) : Bool := decide (s.size ≠ 0) && decide (s.size ≤ 32) && decide (s.data.toList[0]? ≠ some 45) && s.data.toList.all fun b => innerB b.toNat

theorem innerB_true {c : Int} (h : (97 ≤ c ∧ c ≤ 122) ∨ (65 ≤ c ∧ c ≤ 90) ∨ (48 ≤ c ∧ c ≤ 57) ∨ c = 95 ∨ c = 45) : innerB c = true := by
  simp only [innerB, Bool.or_eq_true, decide_eq_true_eq]
  omega
theorem innerB_false {c : Int} (h : ¬ ((97 ≤ c ∧ c ≤ 122) ∨ (65 ≤ c ∧ c ≤ 90) ∨ (48 ≤ c ∧ c ≤ 57) ∨ c = 95 ∨ c = 45)) : innerB c = false := by
  rw [Bool.eq_false_iff]
  intro h1
  simp only [innerB, Bool.or_eq_true, decide_eq_true_eq] at h1
  omega
theorem inner_eq (c : Int) : V 70 [.p (.int .u8 c)] [] = some (.p (.bool (innerB c)), []) := by
  refine V_wp (vf := vf70) rfl ?_
  simp -implicitDefEqProofs (disch := omega) only [vf70, vb70, go_sem, ↓reduceIte, Nat.reduceAdd, Nat.reduceSub, Nat.reduceEqDiff, Nat.reduceLeDiff, reduceCtorEq]
  repeat' ((first | refine wp_grn_d (fun hb => ?_) (fun hb => ?_) | refine wp_gtn_d (fun hb => ?_) (fun hb => ?_) | refine wp_gr_d (fun hb => ?_) (fun hb => ?_) | refine wp_gt_d (fun hb => ?_) (fun hb => ?_) | refine wp_gr (fun hb => ?_) (fun hb => ?_) | refine wp_gt (fun hb => ?_) (fun hb => ?_) | refine wp_nt_d (fun hb => ?_) (fun hb => ?_) | refine wp_nt (fun hb => ?_) (fun hb => ?_) | refine wp_if_d (fun hb => ?_) (fun hb => ?_) | refine wp_if (fun hb => ?_) (fun hb => ?_)) <;> simp -implicitDefEqProofs (disch := omega) only [hb, go_sem, ↓reduceIte, Nat.reduceAdd, Nat.reduceSub, Nat.reduceEqDiff, Nat.reduceLeDiff, reduceCtorEq])
  all_goals
    simp only [innerB, Prod.mk.injEq, VVal.p.injEq, PV.bool.injEq, and_true]
    rw [Bool.eq_iff_iff]
    simp only [Bool.or_eq_true, decide_eq_true_eq, true_iff, Bool.false_eq_true, false_iff]
    first | omega | simp

theorem size_list (s : ByteArray) : s.size = s.data.toList.length := rfl

/-- A loop over a name's bytes. -/
theorem all_take {α : Type} {p : α → Bool} {l : List α} {k : Nat} (h : (l.take k).all p = true) {x : α} (hx : l[k]? = some x) (hp : p x = true) : (l.take (k + 1)).all p = true := by
  rw [List.take_add_one, hx]
  simp only [List.all_append, h, Option.toList, List.all_cons, List.all_nil, hp, Bool.and_self]
theorem all_not {α : Type} {p : α → Bool} {l : List α} {k : Nat} {x : α} (hx : l[k]? = some x) (hp : p x = false) : l.all p = false := by
  rw [List.all_eq_false]
  exact ⟨x, List.mem_of_getElem? hx, by simp [hp]⟩

theorem toNat_45 (x : UInt8) : ((x.toNat : Int) = 45) = (x = 45) := by
  rw [eq_iff_iff]
  constructor
  · intro h
    have : x.toNat = (45 : UInt8).toNat := by simp; omega
    exact UInt8.toNat_inj.1 this
  · rintro rfl
    rfl

theorem rvalid_eq (s : ByteArray) : V 48 [.p (.str s)] [] = some (.p (.bool (validN s)), []) := by
  refine V_wp (vf := vf48) rfl ?_
  have hs := size_list s
  by_cases h0 : (s.size : Int) = 0
  · simp -implicitDefEqProofs (disch := omega) only [vf48, vb48, ba_get, h0, go_sem, ↓reduceIte, Nat.reduceAdd, Nat.reduceSub, Nat.reduceEqDiff, Nat.reduceLeDiff, reduceCtorEq]
    simp [validN, show s.size = 0 by omega]
  · by_cases h1 : 32 < (s.size : Int)
    · simp -implicitDefEqProofs (disch := omega) only [vf48, vb48, ba_get, h0, h1, go_sem, ↓reduceIte, Nat.reduceAdd, Nat.reduceSub, Nat.reduceEqDiff, Nat.reduceLeDiff, reduceCtorEq]
      simp [validN, show ¬ s.size ≤ 32 by omega]
    · have hx : s.data.toList[0]? = some s.data.toList[0] := List.getElem?_eq_getElem (by omega)
      generalize s.data.toList[0] = x at hx
      have hz : (0 : Int).toNat = 0 := rfl
      simp -implicitDefEqProofs (disch := omega) only [vf48, vb48, ba_get, h0, h1, hx, hz, go_sem, ↓reduceIte, Nat.reduceAdd, Nat.reduceSub, Nat.reduceEqDiff, Nat.reduceLeDiff, reduceCtorEq]
      by_cases h45 : x = 45
      · have h45' : ((x.toNat : Nat) : Int) = 45 := by rw [toNat_45]; exact h45
        simp -implicitDefEqProofs (disch := omega) only [h45', go_sem, ↓reduceIte, Nat.reduceAdd, Nat.reduceSub, Nat.reduceEqDiff, Nat.reduceLeDiff, reduceCtorEq]
        simp [validN, hx, h45]
      · have h45' : ¬ ((x.toNat : Nat) : Int) = 45 := by rw [toNat_45]; exact h45
        simp -implicitDefEqProofs (disch := omega) only [h45', go_sem, ↓reduceIte, Nat.reduceAdd, Nat.reduceSub, Nat.reduceEqDiff, Nat.reduceLeDiff, reduceCtorEq]
        refine wp_count s.size (fun k t => (s.data.toList.take k).all (fun b => innerB b.toNat) = true ∧ t.pe 0 = .p (.str s) ∧ t.pe 3 = .p (.int .i64 k)) ?_ ?_
        · simp [enterE, updV]
        · rintro k t hk ⟨hall, h2, h3⟩
          simp -implicitDefEqProofs (disch := omega) only [h2, h3, go_sem, ↓reduceIte, Nat.reduceAdd, Nat.reduceSub, Nat.reduceEqDiff, Nat.reduceLeDiff, reduceCtorEq]
          refine wp_if_d (fun hlt => ?_) (fun hge => ?_)
          · have hy : s.data.toList[k]? = some s.data.toList[k] := List.getElem?_eq_getElem (by omega)
            generalize s.data.toList[k] = y at hy
            simp -implicitDefEqProofs (disch := omega) only [h2, h3, ba_get, hy, hlt, go_sem, ↓reduceIte, Nat.reduceAdd, Nat.reduceSub, Nat.reduceEqDiff, Nat.reduceLeDiff, reduceCtorEq]
            repeat' ((first | refine wp_grn_d (fun hb => ?_) (fun hb => ?_) | refine wp_gtn_d (fun hb => ?_) (fun hb => ?_) | refine wp_gr_d (fun hb => ?_) (fun hb => ?_) | refine wp_gt_d (fun hb => ?_) (fun hb => ?_) | refine wp_gr (fun hb => ?_) (fun hb => ?_) | refine wp_gt (fun hb => ?_) (fun hb => ?_) | refine wp_nt_d (fun hb => ?_) (fun hb => ?_) | refine wp_nt (fun hb => ?_) (fun hb => ?_) | refine wp_if_d (fun hb => ?_) (fun hb => ?_) | refine wp_if (fun hb => ?_) (fun hb => ?_)) <;> simp -implicitDefEqProofs (disch := omega) only [hb, ba_get, hy, h2, h3, go_sem, ↓reduceIte, Nat.reduceAdd, Nat.reduceSub, Nat.reduceEqDiff, Nat.reduceLeDiff, reduceCtorEq])
            all_goals first
              | exact ⟨by omega, all_take hall hy (innerB_true (by omega)), by simp only [Int.natCast_add, Int.natCast_one]⟩
              | (have := all_not (p := fun b : UInt8 => innerB b.toNat) hy (innerB_false (by omega)); simp [validN, this])
          · simp -implicitDefEqProofs (disch := omega) only [h2, h3, hge, go_sem, ↓reduceIte, Nat.reduceAdd, Nat.reduceSub, Nat.reduceEqDiff, Nat.reduceLeDiff, reduceCtorEq]
            have hall' : s.data.toList.all (fun b => innerB b.toNat) = true := by rw [List.take_of_length_le (by omega)] at hall; exact hall
            simp only [validN, hall', hx, show s.size ≠ 0 by omega, show s.size ≤ 32 by omega, ne_eq, not_false_eq_true, decide_true, Bool.and_self, Option.some.injEq, h45]

theorem pvalid_eq (s : ByteArray) (hl : s.size < 9223372036854775808) : V 69 [.p (.str s)] [] = some (.p (.bool (validN s)), []) := by
  refine V_wp (vf := vf69) rfl ?_
  have hs := size_list s
  simp -implicitDefEqProofs (disch := omega) only [vf69, vb69, go_sem, ↓reduceIte, Nat.reduceAdd, Nat.reduceSub, Nat.reduceEqDiff, Nat.reduceLeDiff, reduceCtorEq]
  refine wp_count s.size (fun k t => (s.data.toList.take k).all (fun b => innerB b.toNat) = true ∧ t.pe 0 = .p (.str s) ∧ t.pe 6 = .p (.slice 1 (s.data.toList.map fun b => .int .u8 b.toNat)) ∧ t.pe 7 = .p (.int .i64 s.size) ∧ t.pe 8 = .p (.int .i64 k)) ?_ ?_
  · exact ⟨by simp, rfl, rfl, rfl, rfl⟩
  · rintro k t hk ⟨hall, h0, h6, h7, h8⟩
    simp -implicitDefEqProofs (disch := omega) only [h0, h6, h7, h8, go_sem, ↓reduceIte, Nat.reduceAdd, Nat.reduceSub, Nat.reduceEqDiff, Nat.reduceLeDiff, reduceCtorEq]
    refine wp_if_d (fun hlt => ?_) (fun hge => ?_)
    · have hy : s.data.toList[k]? = some s.data.toList[k] := List.getElem?_eq_getElem (by omega)
      generalize s.data.toList[k] = y at hy
      simp -implicitDefEqProofs (disch := omega) only [h0, h6, h7, h8, hy, hlt, inner_eq, go_sem, ↓reduceIte, Nat.reduceAdd, Nat.reduceSub, Nat.reduceEqDiff, Nat.reduceLeDiff, reduceCtorEq]
      repeat' ((first | refine wp_grn_d (fun hb => ?_) (fun hb => ?_) | refine wp_gtn_d (fun hb => ?_) (fun hb => ?_) | refine wp_gr_d (fun hb => ?_) (fun hb => ?_) | refine wp_gt_d (fun hb => ?_) (fun hb => ?_) | refine wp_gr (fun hb => ?_) (fun hb => ?_) | refine wp_gt (fun hb => ?_) (fun hb => ?_) | refine wp_nt_d (fun hb => ?_) (fun hb => ?_) | refine wp_nt (fun hb => ?_) (fun hb => ?_) | refine wp_if_d (fun hb => ?_) (fun hb => ?_) | refine wp_if (fun hb => ?_) (fun hb => ?_)) <;> simp -implicitDefEqProofs (disch := omega) only [hb, h0, h6, h7, h8, hy, inner_eq, go_sem, ↓reduceIte, Nat.reduceAdd, Nat.reduceSub, Nat.reduceEqDiff, Nat.reduceLeDiff, reduceCtorEq])
      · have := all_not (p := fun b : UInt8 => innerB b.toNat) hy (by assumption)
        simp [validN, this]
      · exact ⟨by omega, all_take hall hy (by assumption), by simp only [Int.natCast_add, Int.natCast_one]⟩
    · simp -implicitDefEqProofs (disch := omega) only [h0, h6, h7, h8, hge, go_sem, ↓reduceIte, Nat.reduceAdd, Nat.reduceSub, Nat.reduceEqDiff, Nat.reduceLeDiff, reduceCtorEq]
      have hall' : s.data.toList.all (fun b => innerB b.toNat) = true := by rw [List.take_of_length_le (by omega)] at hall; exact hall
      have hz : (0 : Int).toNat = 0 := rfl
      by_cases he : s = ⟨#[]⟩
      · subst he
        simp -implicitDefEqProofs (disch := omega) only [h0, go_sem, ↓reduceIte, Nat.reduceAdd, Nat.reduceSub, Nat.reduceEqDiff, Nat.reduceLeDiff, reduceCtorEq]
        rfl
      · have hne : s.size ≠ 0 := fun h => he (by
          cases s with
          | mk d =>
            congr 1
            exact Array.eq_empty_of_size_eq_zero h)
        simp -implicitDefEqProofs (disch := omega) only [he, h0, go_sem, ↓reduceIte, Nat.reduceAdd, Nat.reduceSub, Nat.reduceEqDiff, Nat.reduceLeDiff, reduceCtorEq]
        by_cases h1 : (s.size : Int) ≤ 32
        · have hx : s.data.toList[0]? = some s.data.toList[0] := List.getElem?_eq_getElem (by omega)
          generalize s.data.toList[0] = x at hx
          simp -implicitDefEqProofs (disch := omega) only [h0, h1, hx, hz, ba_get, toNat_45, go_sem, ↓reduceIte, Nat.reduceAdd, Nat.reduceSub, Nat.reduceEqDiff, Nat.reduceLeDiff, reduceCtorEq]
          simp only [validN, hall', hx, hne, show s.size ≤ 32 by omega, ne_eq, not_false_eq_true, decide_true, Bool.true_and, Bool.and_true, Option.some.injEq, decide_not]
        · simp -implicitDefEqProofs (disch := omega) only [h0, h1, go_sem, ↓reduceIte, Nat.reduceAdd, Nat.reduceSub, Nat.reduceEqDiff, Nat.reduceLeDiff, reduceCtorEq]
          simp [validN, show ¬ s.size ≤ 32 by omega]

end Go.V

namespace Go.V

/-- What a node must be, behind others. -/
def nodeOk (pre : List Nd) (n : Nd) : Bool :=
  decide (n.kind = 0 ∨ n.kind = 1) && decide (0 ≤ n.control ∧ n.control ≤ 31 ∧ 0 ≤ n.owner ∧ n.owner ≤ 1048576) &&
  (match pre.getLast? with
   | none => decide (n.id = 1 ∧ n.parent = 0 ∧ n.name = ⟨#[]⟩ ∧ n.kind = 0)
   | some l => decide (l.id < n.id) && validN n.name && !(pre.any fun x => decide (x.parent = n.parent ∧ x.name = n.name)) && pre.any fun x => decide (x.id = n.parent))

theorem any_take {α : Type} {p : α → Bool} {l : List α} {k : Nat} {x : α} (hx : l[k]? = some x) : (l.take (k + 1)).any p = ((l.take k).any p || p x) := by
  rw [List.take_add_one, hx]
  simp only [List.any_append, Option.toList, List.any_cons, List.any_nil, Bool.or_false]
theorem any_of_take {α : Type} {p : α → Bool} {l : List α} {k i : Nat} (h : k ≤ i) (hp : (l.take k).any p = true) : (l.take i).any p = true := by
  rw [List.any_eq_true] at hp ⊢
  obtain ⟨x, hx, h1⟩ := hp
  exact ⟨x, (List.take_sublist_take_left h).subset hx, h1⟩

set_option maxHeartbeats 2000000 in
theorem node_eq (t : Tr) (i : Nat) (n : Nd) (hn : t.nodes[i]? = some n) (hl : t.nodes.length < 1000000) : V 61 [t.vv, .p (.int .i64 i)] [] = some (.p (.bool (nodeOk (t.nodes.take i) n)), []) := by
  refine V_wp (vf := vf61) rfl ?_
  have hlt : i < t.nodes.length := (List.getElem?_eq_some_iff.1 hn).1
  by_cases hi : (i : Int) = 0
  · have hi' : i = 0 := by omega
    have hz : (0 : Int).toNat = 0 := rfl
    rw [hi'] at hn
    simp -implicitDefEqProofs (disch := omega) only [vf61, vb61, hi, hz, hn, go_sem, ↓reduceIte, Nat.reduceAdd, Nat.reduceSub, Nat.reduceEqDiff, Nat.reduceLeDiff, reduceCtorEq]
    repeat' ((first | refine wp_grn_d (fun hb => ?_) (fun hb => ?_) | refine wp_gtn_d (fun hb => ?_) (fun hb => ?_) | refine wp_gr_d (fun hb => ?_) (fun hb => ?_) | refine wp_gt_d (fun hb => ?_) (fun hb => ?_) | refine wp_gr (fun hb => ?_) (fun hb => ?_) | refine wp_gt (fun hb => ?_) (fun hb => ?_) | refine wp_nt_d (fun hb => ?_) (fun hb => ?_) | refine wp_nt (fun hb => ?_) (fun hb => ?_) | refine wp_if_d (fun hb => ?_) (fun hb => ?_) | refine wp_if (fun hb => ?_) (fun hb => ?_)) <;> simp -implicitDefEqProofs (disch := omega) only [hb, go_sem, ↓reduceIte, Nat.reduceAdd, Nat.reduceSub, Nat.reduceEqDiff, Nat.reduceLeDiff, reduceCtorEq])
    all_goals
      simp only [nodeOk, hi', List.take_zero, List.getLast?_nil, Prod.mk.injEq, VVal.p.injEq, PV.bool.injEq, and_true]
      rw [Bool.eq_iff_iff]
      simp only [Bool.and_eq_true, decide_eq_true_eq, true_iff, Bool.false_eq_true, false_iff]
      try simp only [*]
      first | omega | (simp; done) | (simp; omega)
  · obtain ⟨l, hlast⟩ : ∃ l, (t.nodes.take i).getLast? = some l := by
      cases hq : (t.nodes.take i).getLast? with
      | none =>
        rw [List.getLast?_eq_none_iff] at hq
        have := congrArg List.length hq
        rw [List.length_take, List.length_nil] at this
        omega
      | some l => exact ⟨l, rfl⟩
    have hpre : t.nodes[((i : Int) - 1).toNat]? = some l := by
      rw [List.getLast?_take, if_neg (by omega)] at hlast
      rw [show ((i : Int) - 1).toNat = i - 1 by omega]
      rw [List.getElem?_eq_getElem (by omega)] at hlast ⊢
      simpa using hlast
    simp -implicitDefEqProofs (disch := omega) only [vf61, vb61, hn, hi, go_sem, ↓reduceIte, Nat.reduceAdd, Nat.reduceSub, Nat.reduceEqDiff, Nat.reduceLeDiff, reduceCtorEq]
    repeat' ((first | refine wp_grn_d (fun hb => ?_) (fun hb => ?_) | refine wp_gtn_d (fun hb => ?_) (fun hb => ?_) | refine wp_gr_d (fun hb => ?_) (fun hb => ?_) | refine wp_gt_d (fun hb => ?_) (fun hb => ?_) | refine wp_gr (fun hb => ?_) (fun hb => ?_) | refine wp_gt (fun hb => ?_) (fun hb => ?_) | refine wp_nt_d (fun hb => ?_) (fun hb => ?_) | refine wp_nt (fun hb => ?_) (fun hb => ?_) | refine wp_if_d (fun hb => ?_) (fun hb => ?_) | refine wp_if (fun hb => ?_) (fun hb => ?_)) <;> simp -implicitDefEqProofs (disch := omega) only [hb, hn, hi, hpre, rvalid_eq, go_sem, ↓reduceIte, Nat.reduceAdd, Nat.reduceSub, Nat.reduceEqDiff, Nat.reduceLeDiff, reduceCtorEq])
    all_goals first
      | (simp only [nodeOk, hlast, Prod.mk.injEq, VVal.p.injEq, PV.bool.injEq, and_true]
         rw [Bool.eq_iff_iff]
         simp only [Bool.and_eq_true, decide_eq_true_eq, Bool.false_eq_true, false_iff]
         try simp only [*]
         first | omega | (simp; done) | (simp; omega))
      | skip
    all_goals
      refine wp_count i (fun k s => (t.nodes.take k).any (fun x => decide (x.parent = n.parent ∧ x.name = n.name)) = false ∧ s.pe 1 = .p (.int .i64 i) ∧ s.pe 2 = .ptr (.slot 2 0) 0 0 ∧ s.pe 5 = .ptr (.slot 5 0) 0 0 ∧ s.pe 6 = .p (.bool ((t.nodes.take k).any fun x => decide (x.id = n.parent))) ∧ s.pe 7 = .p (.int .i64 k) ∧
        s.h (.slot 2 0) = some (0, .box [.p (nodesP t.nodes), .p (.int .i64 t.next)]) ∧ s.h (.slot 5 0) = some (0, .box (n.pv.cells.map .p))) ?_ ?_
      · exact ⟨by simp, rfl, rfl, rfl, rfl, rfl, rfl, by simp -implicitDefEqProofs (disch := omega) only [go_sem, ↓reduceIte, Nat.reduceAdd, Nat.reduceSub, Nat.reduceEqDiff, Nat.reduceLeDiff, reduceCtorEq]; simp only [*]⟩
      · rintro k s hk ⟨hno, h1, h2, h5, h6, h7, hh2, hh5⟩
        simp only [Nd.pv, PV.cells, List.map_cons, List.map_nil] at hh5
        simp -implicitDefEqProofs (disch := omega) only [h1, h2, h5, h6, h7, hh2, hh5, go_sem, ↓reduceIte, Nat.reduceAdd, Nat.reduceSub, Nat.reduceEqDiff, Nat.reduceLeDiff, reduceCtorEq]
        refine wp_if_d (fun hki => ?_) (fun hge => ?_)
        · have hm : t.nodes[k]? = some t.nodes[k] := List.getElem?_eq_getElem (by omega)
          generalize t.nodes[k] = m at hm
          simp -implicitDefEqProofs (disch := omega) only [h1, h2, h5, h6, h7, hh2, hh5, hm, hki, go_sem, ↓reduceIte, Nat.reduceAdd, Nat.reduceSub, Nat.reduceEqDiff, Nat.reduceLeDiff, reduceCtorEq]
          repeat' ((first | refine wp_grn_d (fun hb => ?_) (fun hb => ?_) | refine wp_gtn_d (fun hb => ?_) (fun hb => ?_) | refine wp_gr_d (fun hb => ?_) (fun hb => ?_) | refine wp_gt_d (fun hb => ?_) (fun hb => ?_) | refine wp_gr (fun hb => ?_) (fun hb => ?_) | refine wp_gt (fun hb => ?_) (fun hb => ?_) | refine wp_nt_d (fun hb => ?_) (fun hb => ?_) | refine wp_nt (fun hb => ?_) (fun hb => ?_) | refine wp_if_d (fun hb => ?_) (fun hb => ?_) | refine wp_if (fun hb => ?_) (fun hb => ?_)) <;> simp -implicitDefEqProofs (disch := omega) only [hb, h1, h2, h5, h6, h7, hh2, hh5, hm, hki, go_sem, ↓reduceIte, Nat.reduceAdd, Nat.reduceSub, Nat.reduceEqDiff, Nat.reduceLeDiff, reduceCtorEq])
          all_goals first
            | (have ha : ((t.nodes.take i).any fun x => decide (x.parent = n.parent ∧ x.name = n.name)) = true := by
                refine any_of_take (k := k + 1) (by omega) ?_
                rw [any_take hm]
                simp [*]
               simp only [nodeOk, hlast, ha, Bool.not_true, Bool.and_false, Bool.false_and]
               done)
            | exact ⟨by rw [any_take hm, hno]; simp [*], by rw [any_take hm]; simp [*], by simp only [Int.natCast_add, Int.natCast_one]⟩
        · simp -implicitDefEqProofs (disch := omega) only [h1, h2, h5, h6, h7, hh2, hh5, hge, go_sem, ↓reduceIte, Nat.reduceAdd, Nat.reduceSub, Nat.reduceEqDiff, Nat.reduceLeDiff, reduceCtorEq]
          have hki : k = i := by omega
          subst hki
          simp only [nodeOk, hlast, hno, Prod.mk.injEq, VVal.p.injEq, PV.bool.injEq, and_true]
          rw [Bool.eq_iff_iff]
          simp only [Bool.and_eq_true, decide_eq_true_eq, Bool.not_false, and_true, true_and]
          exact ⟨fun h => ⟨⟨by omega, by omega, by omega, by omega, by omega⟩, ⟨by omega, by assumption⟩, h⟩, fun h => h.2.2⟩

/-- The nodes from some place on, each behind those before it. -/
def nodesOk : List Nd → List Nd → Bool
  | _, [] => true
  | pre, n :: ns => nodeOk pre n && nodesOk (pre ++ [n]) ns

theorem nodesOk_iff : ∀ (ns pre : List Nd), nodesOk pre ns = true ↔ ∀ (i : Nat) (n : Nd), ns[i]? = some n → nodeOk (pre ++ ns.take i) n = true
  | [], pre => by simp [nodesOk]
  | n :: ns, pre => by
    simp only [nodesOk, Bool.and_eq_true]
    rw [nodesOk_iff ns (pre ++ [n])]
    constructor
    · rintro ⟨h1, h2⟩ i m hm
      cases i with
      | zero => simp at hm; subst hm; simpa using h1
      | succ i => simpa using h2 i m (by simpa using hm)
    · intro h
      exact ⟨by simpa using h 0 n rfl, fun i m hm => by simpa using h (i + 1) m (by simpa using hm)⟩

/-- A well-formed tree. -/
def treeOk (t : Tr) : Bool :=
  decide (1 ≤ t.nodes.length ∧ t.nodes.length ≤ 64) && nodesOk [] t.nodes && t.nodes.all (fun n => decide ((up t.nodes n.id).length ≤ 9)) &&
  (match t.nodes.getLast? with
   | none => false
   | some l => decide (l.id < t.next ∧ t.next ≤ 2147483648))

theorem rcheck_eq (t : Tr) (hl : t.nodes.length < 1000000) : V 47 [t.vv] [] = some (.p (.bool (treeOk t)), []) := by
  refine V_wp (vf := vf47) rfl ?_
  by_cases h1 : (t.nodes.length : Int) < 1
  · simp -implicitDefEqProofs (disch := omega) only [vf47, vb47, h1, go_sem, ↓reduceIte, Nat.reduceAdd, Nat.reduceSub, Nat.reduceEqDiff, Nat.reduceLeDiff, reduceCtorEq]
    simp [treeOk, show ¬ 1 ≤ t.nodes.length by omega]
  · by_cases h2 : 64 < (t.nodes.length : Int)
    · simp -implicitDefEqProofs (disch := omega) only [vf47, vb47, h1, h2, go_sem, ↓reduceIte, Nat.reduceAdd, Nat.reduceSub, Nat.reduceEqDiff, Nat.reduceLeDiff, reduceCtorEq]
      simp [treeOk, show ¬ t.nodes.length ≤ 64 by omega]
    · simp -implicitDefEqProofs (disch := omega) only [vf47, vb47, h1, h2, go_sem, ↓reduceIte, Nat.reduceAdd, Nat.reduceSub, Nat.reduceEqDiff, Nat.reduceLeDiff, reduceCtorEq]
      refine wp_count t.nodes.length (fun k s => (∀ (i : Nat) (n : Nd), i < k → t.nodes[i]? = some n → nodeOk (t.nodes.take i) n = true) ∧ s.pe 1 = .ptr (.slot 1 0) 0 0 ∧ s.pe 3 = .p (.int .i64 t.nodes.length) ∧ s.pe 4 = .p (.int .i64 k) ∧ s.h (.slot 1 0) = some (0, .box [.p (nodesP t.nodes), .p (.int .i64 t.next)])) ?_ ?_
      · exact ⟨by omega, rfl, rfl, rfl, rfl⟩
      · rintro k s hk ⟨hall, h3, h4, h5, hh⟩
        simp -implicitDefEqProofs (disch := omega) only [h3, h4, h5, hh, go_sem, ↓reduceIte, Nat.reduceAdd, Nat.reduceSub, Nat.reduceEqDiff, Nat.reduceLeDiff, reduceCtorEq]
        refine wp_if_d (fun hlt => ?_) (fun hge => ?_)
        · have hm : t.nodes[k]? = some t.nodes[k] := List.getElem?_eq_getElem hlt
          generalize t.nodes[k] = m at hm
          have hc := node_eq t k m hm hl
          simp -implicitDefEqProofs (disch := omega) only [h3, h4, h5, hh, hm, hc, hlt, go_sem, ↓reduceIte, Nat.reduceAdd, Nat.reduceSub, Nat.reduceEqDiff, Nat.reduceLeDiff, reduceCtorEq]
          repeat' ((first | refine wp_grn_d (fun hb => ?_) (fun hb => ?_) | refine wp_gtn_d (fun hb => ?_) (fun hb => ?_) | refine wp_gr_d (fun hb => ?_) (fun hb => ?_) | refine wp_gt_d (fun hb => ?_) (fun hb => ?_) | refine wp_gr (fun hb => ?_) (fun hb => ?_) | refine wp_gt (fun hb => ?_) (fun hb => ?_) | refine wp_nt_d (fun hb => ?_) (fun hb => ?_) | refine wp_nt (fun hb => ?_) (fun hb => ?_) | refine wp_if_d (fun hb => ?_) (fun hb => ?_) | refine wp_if (fun hb => ?_) (fun hb => ?_)) <;> simp -implicitDefEqProofs (disch := omega) only [hb, h3, h4, h5, hh, hm, hc, go_sem, ↓reduceIte, Nat.reduceAdd, Nat.reduceSub, Nat.reduceEqDiff, Nat.reduceLeDiff, reduceCtorEq])
          · have hf : nodesOk [] t.nodes = false := by
              rw [Bool.eq_false_iff]
              intro h0
              have := (nodesOk_iff _ _).1 h0 k m hm
              simp_all
            simp [treeOk, hf]
          · refine ⟨hlt, fun i n hi hn => ?_, by simp only [Int.natCast_add, Int.natCast_one]⟩
            rcases Nat.lt_or_ge i k with h0 | h0
            · exact hall i n h0 hn
            · have : i = k := by omega
              subst this
              rw [hm] at hn
              simp at hn
              subst hn
              assumption
        · have hok : nodesOk [] t.nodes = true := (nodesOk_iff _ _).2 fun i n hn => by simpa using hall i n (by have := (List.getElem?_eq_some_iff.1 hn).1; omega) hn
          simp -implicitDefEqProofs (disch := omega) only [h3, h4, h5, hh, hge, go_sem, ↓reduceIte, Nat.reduceAdd, Nat.reduceSub, Nat.reduceEqDiff, Nat.reduceLeDiff, reduceCtorEq]
          refine wp_count t.nodes.length (fun k s => (∀ (i : Nat) (n : Nd), i < k → t.nodes[i]? = some n → (up t.nodes n.id).length ≤ 9) ∧ s.pe 1 = .ptr (.slot 1 0) 0 0 ∧ s.pe 3 = .p (.int .i64 t.nodes.length) ∧ s.pe 5 = .p (.int .i64 k) ∧ s.h (.slot 1 0) = some (0, .box [.p (nodesP t.nodes), .p (.int .i64 t.next)])) ?_ ?_
          · simp -implicitDefEqProofs (disch := omega) only [h3, h4, h5, hh, go_sem, ↓reduceIte, Nat.reduceAdd, Nat.reduceSub, Nat.reduceEqDiff, Nat.reduceLeDiff, reduceCtorEq]
            simp
          · rintro k s hk ⟨hall2, h3, h4, h5, hh⟩
            simp -implicitDefEqProofs (disch := omega) only [h3, h4, h5, hh, go_sem, ↓reduceIte, Nat.reduceAdd, Nat.reduceSub, Nat.reduceEqDiff, Nat.reduceLeDiff, reduceCtorEq]
            refine wp_if_d (fun hlt => ?_) (fun hge => ?_)
            · have hm : t.nodes[k]? = some t.nodes[k] := List.getElem?_eq_getElem hlt
              generalize t.nodes[k] = m at hm
              have hc := up_eq t m.id hl
              simp -implicitDefEqProofs (disch := omega) only [h3, h4, h5, hh, hm, hc, hlt, go_sem, ↓reduceIte, Nat.reduceAdd, Nat.reduceSub, Nat.reduceEqDiff, Nat.reduceLeDiff, reduceCtorEq]
              repeat' ((first | refine wp_grn_d (fun hb => ?_) (fun hb => ?_) | refine wp_gtn_d (fun hb => ?_) (fun hb => ?_) | refine wp_gr_d (fun hb => ?_) (fun hb => ?_) | refine wp_gt_d (fun hb => ?_) (fun hb => ?_) | refine wp_gr (fun hb => ?_) (fun hb => ?_) | refine wp_gt (fun hb => ?_) (fun hb => ?_) | refine wp_nt_d (fun hb => ?_) (fun hb => ?_) | refine wp_nt (fun hb => ?_) (fun hb => ?_) | refine wp_if_d (fun hb => ?_) (fun hb => ?_) | refine wp_if (fun hb => ?_) (fun hb => ?_)) <;> simp -implicitDefEqProofs (disch := omega) only [hb, h3, h4, h5, hh, hm, hc, go_sem, ↓reduceIte, Nat.reduceAdd, Nat.reduceSub, Nat.reduceEqDiff, Nat.reduceLeDiff, reduceCtorEq])
              · rename_i hb
                have hf : t.nodes.all (fun n => decide ((up t.nodes n.id).length ≤ 9)) = false := by
                  rw [List.all_eq_false]
                  exact ⟨m, List.mem_of_getElem? hm, by simp; omega⟩
                simp [treeOk, hf]
              · rename_i hb
                refine ⟨hlt, fun i n hi hn => ?_, by simp only [Int.natCast_add, Int.natCast_one]⟩
                rcases Nat.lt_or_ge i k with h0 | h0
                · exact hall2 i n h0 hn
                · have : i = k := by omega
                  subst this
                  rw [hm] at hn
                  simp at hn
                  subst hn
                  omega
            · have hk2 : t.nodes.all (fun n => decide ((up t.nodes n.id).length ≤ 9)) = true := by
                rw [List.all_eq_true]
                intro n hn
                obtain ⟨i, hi⟩ := List.getElem?_of_mem hn
                have := hall2 i n (by have := (List.getElem?_eq_some_iff.1 hi).1; omega) hi
                simpa using this
              have hla : t.nodes[((t.nodes.length : Int) - 1).toNat]? = some t.nodes[t.nodes.length - 1] := by
                rw [show ((t.nodes.length : Int) - 1).toNat = t.nodes.length - 1 by omega]
                exact List.getElem?_eq_getElem (by omega)
              have hlast : t.nodes.getLast? = some t.nodes[t.nodes.length - 1] := by
                rw [List.getLast?_eq_getElem?]
                exact List.getElem?_eq_getElem (by omega)
              generalize t.nodes[t.nodes.length - 1] = l at hla hlast
              simp -implicitDefEqProofs (disch := omega) only [h3, h4, h5, hh, hge, hla, go_sem, ↓reduceIte, Nat.reduceAdd, Nat.reduceSub, Nat.reduceEqDiff, Nat.reduceLeDiff, reduceCtorEq]
              repeat' ((first | refine wp_grn_d (fun hb => ?_) (fun hb => ?_) | refine wp_gtn_d (fun hb => ?_) (fun hb => ?_) | refine wp_gr_d (fun hb => ?_) (fun hb => ?_) | refine wp_gt_d (fun hb => ?_) (fun hb => ?_) | refine wp_gr (fun hb => ?_) (fun hb => ?_) | refine wp_gt (fun hb => ?_) (fun hb => ?_) | refine wp_nt_d (fun hb => ?_) (fun hb => ?_) | refine wp_nt (fun hb => ?_) (fun hb => ?_) | refine wp_if_d (fun hb => ?_) (fun hb => ?_) | refine wp_if (fun hb => ?_) (fun hb => ?_)) <;> simp -implicitDefEqProofs (disch := omega) only [hb, h3, h4, h5, hh, hla, go_sem, ↓reduceIte, Nat.reduceAdd, Nat.reduceSub, Nat.reduceEqDiff, Nat.reduceLeDiff, reduceCtorEq])
              all_goals
                simp only [treeOk, hok, hk2, hlast, show (1 ≤ t.nodes.length ∧ t.nodes.length ≤ 64) by omega, Prod.mk.injEq, VVal.p.injEq, PV.bool.injEq, and_true, decide_true, Bool.true_and]
                rw [Bool.eq_iff_iff]
                simp only [decide_eq_true_eq, Bool.false_eq_true, false_iff]
                omega
end Go.V

namespace Go.V

def zeroNd : Nd := ⟨0, 0, ⟨#[]⟩, 0, 0, 0⟩
def findN (ns : List Nd) (id : Int) : Option Nd := ns.find? fun n => decide (n.id = id)
def findT (t : Tr) (id : Int) : Option Nd := if treeOk t then findN t.nodes id else none
attribute [go_sem] Nd.vv

theorem find_take_none {p : Nd → Bool} {l : List Nd} {k : Nat} (h : ∀ (i : Nat) (n : Nd), i < k → l[i]? = some n → p n = false) {m : Nd} (hm : l[k]? = some m) (hp : p m = true) : l.find? p = some m := by
  rw [List.find?_eq_some_iff_getElem]
  refine ⟨hp, k, (List.getElem?_eq_some_iff.1 hm).1, (List.getElem?_eq_some_iff.1 hm).2, fun j hj => ?_⟩
  have hl : j < l.length := Nat.lt_trans hj (List.getElem?_eq_some_iff.1 hm).1
  simpa using h j l[j] hj (List.getElem?_eq_getElem hl)
theorem find_none {p : Nd → Bool} {l : List Nd} (h : ∀ (i : Nat) (n : Nd), i < l.length → l[i]? = some n → p n = false) : l.find? p = none := by
  rw [List.find?_eq_none]
  intro x hx
  obtain ⟨i, hi⟩ := List.getElem?_of_mem hx
  simpa using h i x (List.getElem?_eq_some_iff.1 hi).1 hi
theorem lt_succ_cases {Q : Nat → Nd → Prop} {l : List Nd} {k : Nat} {m : Nd} (hm : l[k]? = some m) (h : ∀ (i : Nat) (n : Nd), i < k → l[i]? = some n → Q i n) (hk : Q k m) : ∀ (i : Nat) (n : Nd), i < k + 1 → l[i]? = some n → Q i n := fun i n hi hn => by
  rcases Nat.lt_or_ge i k with h0 | h0
  · exact h i n h0 hn
  · have : i = k := by omega
    subst this
    rw [hm] at hn
    simp at hn
    subst hn
    exact hk

theorem rfind_eq (t : Tr) (id : Int) (hl : t.nodes.length < 1000000) : V 63 [t.vv, .p (.int .i64 id)] [] = some (.tup [((findT t id).getD zeroNd).vv, .p (.bool (findT t id).isSome)], []) := by
  refine V_wp (vf := vf63) rfl ?_
  have hc := rcheck_eq t hl
  cases hok : treeOk t with
  | false =>
    rw [hok] at hc
    simp -implicitDefEqProofs (disch := omega) only [vf63, vb63, hc, go_sem, ↓reduceIte, Nat.reduceAdd, Nat.reduceSub, Nat.reduceEqDiff, Nat.reduceLeDiff, reduceCtorEq]
    simp [findT, hok, zeroNd]
  | true =>
    rw [hok] at hc
    simp -implicitDefEqProofs (disch := omega) only [vf63, vb63, hc, go_sem, ↓reduceIte, Nat.reduceAdd, Nat.reduceSub, Nat.reduceEqDiff, Nat.reduceLeDiff, reduceCtorEq]
    refine wp_count t.nodes.length (fun k s => (∀ (i : Nat) (n : Nd), i < k → t.nodes[i]? = some n → decide (n.id = id) = false) ∧ s.pe 1 = .p (.int .i64 id) ∧ s.pe 2 = .ptr (.slot 2 0) 0 0 ∧ s.pe 4 = .ptr (.slot 4 0) 0 0 ∧ s.pe 6 = .p (.int .i64 k) ∧ s.h (.slot 2 0) = some (0, .box [.p (nodesP t.nodes), .p (.int .i64 t.next)]) ∧ s.h (.slot 4 0) = some (0, .box (zeroNd.pv.cells.map .p))) ?_ ?_
    · exact ⟨by omega, rfl, rfl, rfl, rfl, rfl, by simp -implicitDefEqProofs (disch := omega) only [go_sem, ↓reduceIte, Nat.reduceAdd, Nat.reduceSub, Nat.reduceEqDiff, Nat.reduceLeDiff, reduceCtorEq]; rfl⟩
    · rintro k s hk ⟨hall, h1, h2, h4, h6, hh2, hh4⟩
      simp only [Nd.pv, zeroNd, PV.cells, List.map_cons, List.map_nil] at hh4
      simp -implicitDefEqProofs (disch := omega) only [h1, h2, h4, h6, hh2, hh4, go_sem, ↓reduceIte, Nat.reduceAdd, Nat.reduceSub, Nat.reduceEqDiff, Nat.reduceLeDiff, reduceCtorEq]
      refine wp_if_d (fun hlt => ?_) (fun hge => ?_)
      · have hm : t.nodes[k]? = some t.nodes[k] := List.getElem?_eq_getElem hlt
        generalize t.nodes[k] = m at hm
        simp -implicitDefEqProofs (disch := omega) only [h1, h2, h4, h6, hh2, hh4, hm, go_sem, ↓reduceIte, Nat.reduceAdd, Nat.reduceSub, Nat.reduceEqDiff, Nat.reduceLeDiff, reduceCtorEq]
        repeat' ((first | refine wp_grn_d (fun hb => ?_) (fun hb => ?_) | refine wp_gtn_d (fun hb => ?_) (fun hb => ?_) | refine wp_gr_d (fun hb => ?_) (fun hb => ?_) | refine wp_gt_d (fun hb => ?_) (fun hb => ?_) | refine wp_gr (fun hb => ?_) (fun hb => ?_) | refine wp_gt (fun hb => ?_) (fun hb => ?_) | refine wp_nt_d (fun hb => ?_) (fun hb => ?_) | refine wp_nt (fun hb => ?_) (fun hb => ?_) | refine wp_if_d (fun hb => ?_) (fun hb => ?_) | refine wp_if (fun hb => ?_) (fun hb => ?_)) <;> simp -implicitDefEqProofs (disch := omega) only [hb, h1, h2, h4, h6, hh2, hh4, hm, go_sem, ↓reduceIte, Nat.reduceAdd, Nat.reduceSub, Nat.reduceEqDiff, Nat.reduceLeDiff, reduceCtorEq])
        · have hf : findT t id = some m := by
            simp only [findT, hok, if_true, findN]
            exact find_take_none hall hm (by simpa using hb)
          simp [hf, Nd.vv, hb]
        · exact ⟨hlt, lt_succ_cases hm hall (by simpa using ‹_›), by simp only [Int.natCast_add, Int.natCast_one], rfl⟩
      · have hf : findT t id = none := by
          simp only [findT, hok, if_true, findN]
          exact find_none fun i n hi => hall i n (by omega)
        simp -implicitDefEqProofs (disch := omega) only [h1, h2, h4, h6, hh2, hh4, hge, go_sem, ↓reduceIte, Nat.reduceAdd, Nat.reduceSub, Nat.reduceEqDiff, Nat.reduceLeDiff, reduceCtorEq]
        simp [hf, zeroNd, Nd.vv]

theorem rhas_eq (t : Tr) (id : Int) (hl : t.nodes.length < 1000000) : V 49 [t.vv, .p (.int .i64 id)] [] = some (.p (.bool (findT t id).isSome), []) := by
  refine V_wp (vf := vf49) rfl ?_
  have hc := rfind_eq t id hl
  simp -implicitDefEqProofs (disch := omega) only [vf49, vb49, hc, go_sem, ↓reduceIte, Nat.reduceAdd, Nat.reduceSub, Nat.reduceEqDiff, Nat.reduceLeDiff, reduceCtorEq]

def ancR (t : Tr) (id : Int) : List Int := if (findT t id).isSome then up t.nodes id else []
theorem ranc_eq (t : Tr) (id : Int) (hl : t.nodes.length < 1000000) : V 57 [t.vv, .p (.int .i64 id)] [] = some (.fresh 1 ((ancR t id).map (.int .i64)), []) := by
  refine V_wp (vf := vf57) rfl ?_
  have hc := rhas_eq t id hl
  have hu := up_eq t id hl
  cases hf : (findT t id).isSome with
  | false =>
    rw [hf] at hc
    simp -implicitDefEqProofs (disch := omega) only [vf57, vb57, hc, go_sem, ↓reduceIte, Nat.reduceAdd, Nat.reduceSub, Nat.reduceEqDiff, Nat.reduceLeDiff, reduceCtorEq]
    simp [ancR, hf]
  | true =>
    rw [hf] at hc
    simp -implicitDefEqProofs (disch := omega) only [vf57, vb57, hc, hu, go_sem, ↓reduceIte, Nat.reduceAdd, Nat.reduceSub, Nat.reduceEqDiff, Nat.reduceLeDiff, reduceCtorEq]
    simp [ancR, hf]

theorem rdepth_eq (t : Tr) (id : Int) (hl : t.nodes.length < 1000000) : V 50 [t.vv, .p (.int .i64 id)] [] = some (.p (.int .i64 ((ancR t id).length - 1)), []) := by
  refine V_wp (vf := vf50) rfl ?_
  have hc := ranc_eq t id hl
  have hlen : (ancR t id).length < 1000000 := by
    unfold ancR
    split
    · have := upR_length t.nodes.reverse id
      simp only [List.length_reverse] at this
      unfold up
      omega
    · simp
  simp -implicitDefEqProofs (disch := omega) only [vf50, vb50, hc, go_sem, ↓reduceIte, Nat.reduceAdd, Nat.reduceSub, Nat.reduceEqDiff, Nat.reduceLeDiff, reduceCtorEq]

def kids (t : Tr) (id : Int) : List Int := if (findT t id).isSome then (t.nodes.filter fun n => decide (n.parent = id)).map (·.id) else []
theorem filter_take {p : Nd → Bool} {l : List Nd} {k : Nat} {m : Nd} (hm : l[k]? = some m) : (l.take (k + 1)).filter p = if p m then (l.take k).filter p ++ [m] else (l.take k).filter p := by
  rw [List.take_add_one, hm]
  simp only [List.filter_append, Option.toList, List.filter_cons, List.filter_nil]
  split <;> simp
theorem filter_length_le {p : Nd → Bool} (l : List Nd) (k : Nat) : ((l.take k).filter p).length ≤ k := by
  have := List.length_filter_le p (l.take k)
  simp at this ⊢
  omega

theorem rkids_eq (t : Tr) (id : Int) (hl : t.nodes.length < 1000000) : V 52 [t.vv, .p (.int .i64 id)] [] = some (.fresh 1 ((kids t id).map (.int .i64)), []) := by
  refine V_wp (vf := vf52) rfl ?_
  have hc := rhas_eq t id hl
  cases hf : (findT t id).isSome with
  | false =>
    rw [hf] at hc
    simp -implicitDefEqProofs (disch := omega) only [vf52, vb52, hc, go_sem, ↓reduceIte, Nat.reduceAdd, Nat.reduceSub, Nat.reduceEqDiff, Nat.reduceLeDiff, reduceCtorEq]
    simp [kids, hf]
  | true =>
    rw [hf] at hc
    simp -implicitDefEqProofs (disch := omega) only [vf52, vb52, hc, go_sem, ↓reduceIte, Nat.reduceAdd, Nat.reduceSub, Nat.reduceEqDiff, Nat.reduceLeDiff, reduceCtorEq]
    refine wp_count t.nodes.length (fun k s => ∃ (acc : List Int) (v : Nat), acc = ((t.nodes.take k).filter fun n => decide (n.parent = id)).map (·.id) ∧ acc.length ≤ k ∧ s.pe 1 = .p (.int .i64 id) ∧ s.pe 2 = .ptr (.slot 2 0) 0 0 ∧ s.pe 5 = .own (.slot 5 0) v 0 acc.length ∧ s.pe 6 = .p (.int .i64 k) ∧ s.h (.slot 2 0) = some (0, .box [.p (nodesP t.nodes), .p (.int .i64 t.next)]) ∧ s.h (.slot 5 0) = some (v, .arr 1 (acc.map (.int .i64)))) ?_ ?_
    · exact ⟨[], 0, rfl, by simp, rfl, rfl, rfl, rfl, rfl, rfl⟩
    · rintro k s hk ⟨acc, v, hacc, hlen, h1, h2, h5, h6, hh2, hh5⟩
      simp -implicitDefEqProofs (disch := omega) only [h1, h2, h5, h6, hh2, hh5, go_sem, ↓reduceIte, Nat.reduceAdd, Nat.reduceSub, Nat.reduceEqDiff, Nat.reduceLeDiff, reduceCtorEq]
      refine wp_if_d (fun hlt => ?_) (fun hge => ?_)
      · have hm : t.nodes[k]? = some t.nodes[k] := List.getElem?_eq_getElem hlt
        generalize t.nodes[k] = m at hm
        simp -implicitDefEqProofs (disch := omega) only [h1, h2, h5, h6, hh2, hh5, hm, go_sem, ↓reduceIte, Nat.reduceAdd, Nat.reduceSub, Nat.reduceEqDiff, Nat.reduceLeDiff, reduceCtorEq]
        repeat' ((first | refine wp_grn_d (fun hb => ?_) (fun hb => ?_) | refine wp_gtn_d (fun hb => ?_) (fun hb => ?_) | refine wp_gr_d (fun hb => ?_) (fun hb => ?_) | refine wp_gt_d (fun hb => ?_) (fun hb => ?_) | refine wp_gr (fun hb => ?_) (fun hb => ?_) | refine wp_gt (fun hb => ?_) (fun hb => ?_) | refine wp_nt_d (fun hb => ?_) (fun hb => ?_) | refine wp_nt (fun hb => ?_) (fun hb => ?_) | refine wp_if_d (fun hb => ?_) (fun hb => ?_) | refine wp_if (fun hb => ?_) (fun hb => ?_)) <;> simp -implicitDefEqProofs (disch := omega) only [hb, h1, h2, h5, h6, hh2, hh5, hm, go_sem, ↓reduceIte, Nat.reduceAdd, Nat.reduceSub, Nat.reduceEqDiff, Nat.reduceLeDiff, reduceCtorEq])
        · refine ⟨hlt, acc ++ [m.id], v + 1, ?_, by simp; omega, by simp, by simp, by simp⟩
          rw [filter_take hm, hacc]
          simp [hb]
        · refine ⟨hlt, acc, v, ?_, by omega, by simp, by simp, by simp⟩
          rw [filter_take hm, hacc]
          simp [hb]
      · rw [List.take_of_length_le (by omega)] at hacc
        simp -implicitDefEqProofs (disch := omega) only [h1, h2, h5, h6, hh2, hh5, hge, go_sem, ↓reduceIte, Nat.reduceAdd, Nat.reduceSub, Nat.reduceEqDiff, Nat.reduceLeDiff, reduceCtorEq]
        simp [kids, hf, hacc]

theorem rcopy_eq (t : Tr) (hl : t.nodes.length < 1000000) : V 51 [t.vv] [] = some (t.fv, []) := by
  refine V_wp (vf := vf51) rfl ?_
  simp -implicitDefEqProofs (disch := omega) only [vf51, vb51, go_sem, ↓reduceIte, Nat.reduceAdd, Nat.reduceSub, Nat.reduceEqDiff, Nat.reduceLeDiff, reduceCtorEq]

def newT : Tr := ⟨[⟨1, 0, ⟨#[]⟩, 0, 0, 0⟩], 2⟩
theorem rnew_eq : V 18 [] [] = some (newT.fv, []) := by
  refine V_wp (vf := vf18) rfl ?_
  simp -implicitDefEqProofs (disch := omega) only [vf18, vb18, go_sem, ↓reduceIte, Nat.reduceAdd, Nat.reduceSub, Nat.reduceEqDiff, Nat.reduceLeDiff, reduceCtorEq]
  rfl

theorem bool_eq (L : List Int) (a : Nat) (n : Int) (hL : L.length < 4611686018427387904) (h1 : 1 ≤ n) (hn : n < 4611686018427387904) : V 21 [.ptr (.arg 0 0) 0 0, .p (.int .i64 n)] [diceB L a] = some (.p (.bool (decide (nextV L a n = n - 1))), [diceB L (nextA L a n)]) := by
  refine V_wp (vf := vf21) rfl ?_
  have hc := next_eq L a n hL hn
  simp -implicitDefEqProofs (disch := omega) only [vf21, vb21, hc, go_sem, ↓reduceIte, Nat.reduceAdd, Nat.reduceSub, Nat.reduceEqDiff, Nat.reduceLeDiff, reduceCtorEq]

def names6 : List ByteArray := [⟨#[97]⟩, ⟨#[98]⟩, ⟨#[99]⟩, ⟨#[119, 101, 98]⟩, ⟨#[100, 98, 45, 49]⟩, ⟨#[88, 95, 57]⟩]
def nameV (L : List Int) (a : Nat) : ByteArray := names6.getD (nextV L a 6).toNat ⟨#[]⟩
theorem name_eq (L : List Int) (a : Nat) (hL : L.length < 4611686018427387904) : V 20 [.ptr (.arg 0 0) 0 0] [diceB L a] = some (.p (.str (nameV L a)), [diceB L (nextA L a 6)]) := by
  refine V_wp (vf := vf20) rfl ?_
  have hc := next_eq L a 6 hL (by omega)
  have h0 := nextV_nonneg L a 6
  have h1 := nextV_lt L a (n := 6) (by omega)
  have hl : (nextV L a 6).toNat < names6.length := by simp [names6]; omega
  have hg : ([.str ⟨#[97]⟩, .str ⟨#[98]⟩, .str ⟨#[99]⟩, .str ⟨#[119, 101, 98]⟩, .str ⟨#[100, 98, 45, 49]⟩, .str ⟨#[88, 95, 57]⟩] : List PV)[(nextV L a 6).toNat]? = some (.str (nameV L a)) := by
    show (names6.map PV.str)[(nextV L a 6).toNat]? = _
    rw [List.getElem?_map, nameV, List.getD_eq_getElem?_getD, List.getElem?_eq_getElem hl]
    rfl
  simp -implicitDefEqProofs (disch := omega) only [vf20, vb20, hc, h0, hg, go_sem, ↓reduceIte, Nat.reduceAdd, Nat.reduceSub, Nat.reduceEqDiff, Nat.reduceLeDiff, reduceCtorEq]
theorem nameV_mem (L : List Int) (a : Nat) : nameV L a ∈ names6 := by
  have h0 := nextV_nonneg L a 6
  have h1 := nextV_lt L a (n := 6) (by omega)
  have hl : (nextV L a 6).toNat < names6.length := by simp [names6]; omega
  rw [nameV, List.getD_eq_getElem?_getD, List.getElem?_eq_getElem hl]
  exact List.getElem_mem _
theorem names_valid : ∀ s ∈ names6, validN s = true := by
  intro s hs
  simp only [names6, List.mem_cons, List.not_mem_nil, or_false] at hs
  rcases hs with rfl | rfl | rfl | rfl | rfl | rfl <;> decide

theorem nodesOk_pos : ∀ (ns pre : List Nd), (∀ x ∈ pre, 1 ≤ x.id) → nodesOk pre ns = true → ∀ n ∈ ns, 1 ≤ n.id
  | [], _, _, _, n, hn => by cases hn
  | m :: ns, pre, hp, h, n, hn => by
    simp only [nodesOk, Bool.and_eq_true] at h
    have hm : 1 ≤ m.id := by
      have h1 := h.1
      unfold nodeOk at h1
      simp only [Bool.and_eq_true] at h1
      cases hl : pre.getLast? with
      | none =>
        rw [hl] at h1
        simp only [decide_eq_true_eq] at h1
        omega
      | some l =>
        rw [hl] at h1
        simp only [Bool.and_eq_true, decide_eq_true_eq] at h1
        have := hp l (List.mem_of_getLast? hl)
        omega
    rcases List.mem_cons.1 hn with rfl | hn
    · exact hm
    · refine nodesOk_pos ns (pre ++ [m]) (fun x hx => ?_) h.2 n hn
      rcases List.mem_append.1 hx with hx | hx
      · exact hp x hx
      · simp at hx; subst hx; exact hm
theorem treeNext {t : Tr} (h : treeOk t = true) : 1 < t.next ∧ t.next ≤ 2147483648 ∧ 1 ≤ t.nodes.length ∧ t.nodes.length ≤ 64 := by
  simp only [treeOk, Bool.and_eq_true, decide_eq_true_eq] at h
  obtain ⟨⟨⟨h1, h2⟩, _⟩, h3⟩ := h
  cases hl : t.nodes.getLast? with
  | none => rw [hl] at h3; cases h3
  | some l =>
    rw [hl] at h3
    simp only [decide_eq_true_eq] at h3
    have := nodesOk_pos t.nodes [] (by simp) h2 l (List.mem_of_getLast? hl)
    omega
/-- What Add answers: the tree, the new group, the error. -/
def addT (t : Tr) (p : Int) (s : ByteArray) : Tr × Int × Int :=
  if (treeOk t && validN s) = false then (⟨[], 0⟩, 0, 1)
  else if (findT t p).isSome = false then (⟨[], 0⟩, 0, 4)
  else if (t.nodes.any fun n => decide (n.parent = p ∧ n.name = s)) = true then (⟨[], 0⟩, 0, 5)
  else if (8 : Int) ≤ (ancR t p).length - 1 ∨ 64 ≤ t.nodes.length ∨ 2147483647 < t.next then (⟨[], 0⟩, 0, 7)
  else (⟨t.nodes ++ [⟨t.next, p, s, 0, 0, 0⟩], t.next + 1⟩, t.next, 0)

set_option maxHeartbeats 2000000 in
theorem radd_eq (t : Tr) (p : Int) (s : ByteArray) (hl : t.nodes.length < 1000000) : V 19 [t.vv, .p (.int .i64 p), .p (.str s)] [] = some (.tup [(addT t p s).1.fv, .p (.int .i64 (addT t p s).2.1), .p (.int .i64 (addT t p s).2.2)], []) := by
  refine V_wp (vf := vf19) rfl ?_
  have hc := rcheck_eq t hl
  have hv := rvalid_eq s
  have hh := rhas_eq t p hl
  have hd := rdepth_eq t p hl
  have hcp := rcopy_eq t hl
  cases hok : treeOk t with
  | false =>
    rw [hok] at hc
    simp -implicitDefEqProofs (disch := omega) only [vf19, vb19, hc, go_sem, ↓reduceIte, Nat.reduceAdd, Nat.reduceSub, Nat.reduceEqDiff, Nat.reduceLeDiff, reduceCtorEq]
    simp [addT, hok]
  | true =>
    rw [hok] at hc
    cases hvv : validN s with
    | false =>
      rw [hvv] at hv
      simp -implicitDefEqProofs (disch := omega) only [vf19, vb19, hc, hv, go_sem, ↓reduceIte, Nat.reduceAdd, Nat.reduceSub, Nat.reduceEqDiff, Nat.reduceLeDiff, reduceCtorEq]
      simp [addT, hok, hvv]
    | true =>
      rw [hvv] at hv
      cases hf : (findT t p).isSome with
      | false =>
        rw [hf] at hh
        simp -implicitDefEqProofs (disch := omega) only [vf19, vb19, hc, hv, hh, go_sem, ↓reduceIte, Nat.reduceAdd, Nat.reduceSub, Nat.reduceEqDiff, Nat.reduceLeDiff, reduceCtorEq]
        simp [addT, hok, hvv, hf]
      | true =>
        rw [hf] at hh
        simp -implicitDefEqProofs (disch := omega) only [vf19, vb19, hc, hv, hh, go_sem, ↓reduceIte, Nat.reduceAdd, Nat.reduceSub, Nat.reduceEqDiff, Nat.reduceLeDiff, reduceCtorEq]
        refine wp_count t.nodes.length (fun k st => (t.nodes.take k).any (fun n => decide (n.parent = p ∧ n.name = s)) = false ∧ st.pe 1 = .p (.int .i64 p) ∧ st.pe 2 = .p (.str s) ∧ st.pe 3 = .ptr (.slot 3 0) 0 0 ∧ st.pe 6 = .ptr (.slot 6 0) 0 0 ∧ st.pe 9 = .p (.int .i64 k) ∧ st.h (.slot 3 0) = some (0, .box [.p (nodesP t.nodes), .p (.int .i64 t.next)]) ∧ st.h (.slot 6 0) = some (0, .box [.own (.slot 6 1) 0 0 0, .p (.int .i64 0)]) ∧ st.h (.slot 6 1) = some (0, .arr 6 [])) ?_ ?_
        · exact ⟨by simp, rfl, rfl, rfl, rfl, rfl, rfl, rfl, rfl⟩
        · rintro k st hk ⟨hno, h1, h2, h3, h6, h9, hh3, hh6, hh61⟩
          simp -implicitDefEqProofs (disch := omega) only [h1, h2, h3, h6, h9, hh3, hh6, hh61, go_sem, ↓reduceIte, Nat.reduceAdd, Nat.reduceSub, Nat.reduceEqDiff, Nat.reduceLeDiff, reduceCtorEq]
          refine wp_if_d (fun hlt => ?_) (fun hge => ?_)
          · have hm : t.nodes[k]? = some t.nodes[k] := List.getElem?_eq_getElem hlt
            generalize t.nodes[k] = m at hm
            simp -implicitDefEqProofs (disch := omega) only [h1, h2, h3, h6, h9, hh3, hh6, hh61, hm, go_sem, ↓reduceIte, Nat.reduceAdd, Nat.reduceSub, Nat.reduceEqDiff, Nat.reduceLeDiff, reduceCtorEq]
            repeat' ((first | refine wp_grn_d (fun hb => ?_) (fun hb => ?_) | refine wp_gtn_d (fun hb => ?_) (fun hb => ?_) | refine wp_gr_d (fun hb => ?_) (fun hb => ?_) | refine wp_gt_d (fun hb => ?_) (fun hb => ?_) | refine wp_gr (fun hb => ?_) (fun hb => ?_) | refine wp_gt (fun hb => ?_) (fun hb => ?_) | refine wp_nt_d (fun hb => ?_) (fun hb => ?_) | refine wp_nt (fun hb => ?_) (fun hb => ?_) | refine wp_if_d (fun hb => ?_) (fun hb => ?_) | refine wp_if (fun hb => ?_) (fun hb => ?_)) <;> simp -implicitDefEqProofs (disch := omega) only [hb, h1, h2, h3, h6, h9, hh3, hh6, hh61, hm, go_sem, ↓reduceIte, Nat.reduceAdd, Nat.reduceSub, Nat.reduceEqDiff, Nat.reduceLeDiff, reduceCtorEq])
            all_goals first
              | exact ⟨hlt, by rw [any_take hm, hno]; simp [*], by simp only [Int.natCast_add, Int.natCast_one]⟩
              | (have ha : (t.nodes.any fun n => decide (n.parent = p ∧ n.name = s)) = true := by
                  rw [List.any_eq_true]
                  exact ⟨m, List.mem_of_getElem? hm, by simp [*]⟩
                 simp only [addT, hok, hvv, hf, ha, Bool.and_self, Bool.true_eq_false, if_false, if_true, List.map_nil]
                 rfl)
          · have ha : (t.nodes.any fun n => decide (n.parent = p ∧ n.name = s)) = false := by
              rw [List.take_of_length_le (by omega)] at hno
              exact hno
            by_cases hb1 : (8 : Int) ≤ (ancR t p).length - 1
            · simp -implicitDefEqProofs (disch := omega) only [h1, h2, h3, h6, h9, hh3, hh6, hh61, hge, hd, hb1, go_sem, ↓reduceIte, Nat.reduceAdd, Nat.reduceSub, Nat.reduceEqDiff, Nat.reduceLeDiff, reduceCtorEq]
              simp only [addT, hok, hvv, hf, ha, hb1, true_or, Bool.and_self, Bool.true_eq_false, Bool.false_eq_true, if_false, if_true, List.map_nil]
              rfl
            · by_cases hb2 : (64 : Int) ≤ t.nodes.length
              · simp -implicitDefEqProofs (disch := omega) only [h1, h2, h3, h6, h9, hh3, hh6, hh61, hge, hd, hb1, hb2, go_sem, ↓reduceIte, Nat.reduceAdd, Nat.reduceSub, Nat.reduceEqDiff, Nat.reduceLeDiff, reduceCtorEq]
                simp only [addT, hok, hvv, hf, ha, hb1, show 64 ≤ t.nodes.length by omega, true_or, or_true, Bool.and_self, Bool.true_eq_false, Bool.false_eq_true, if_false, if_true, List.map_nil]
                rfl
              · by_cases hb3 : 2147483647 < t.next
                · simp -implicitDefEqProofs (disch := omega) only [h1, h2, h3, h6, h9, hh3, hh6, hh61, hge, hd, hb1, hb2, hb3, go_sem, ↓reduceIte, Nat.reduceAdd, Nat.reduceSub, Nat.reduceEqDiff, Nat.reduceLeDiff, reduceCtorEq]
                  simp only [addT, hok, hvv, hf, ha, hb1, hb3, true_or, or_true, Bool.and_self, Bool.true_eq_false, Bool.false_eq_true, if_false, if_true, List.map_nil]
                  rfl
                · have hnx := treeNext hok
                  simp -implicitDefEqProofs (disch := omega) only [h1, h2, h3, h6, h9, hh3, hh6, hh61, hge, hd, hb1, hb2, hb3, hcp, go_sem, ↓reduceIte, Nat.reduceAdd, Nat.reduceSub, Nat.reduceEqDiff, Nat.reduceLeDiff, reduceCtorEq]
                  simp only [addT, hok, hvv, hf, ha, hb1, hb3, show ¬ 64 ≤ t.nodes.length by omega, or_self, Bool.and_self, Bool.true_eq_false, Bool.false_eq_true, if_false, List.map_append, List.map_cons, List.map_nil, Nd.pv, Tr.fv]

/-- What Remove answers. -/
def removeT (t : Tr) (id : Int) : Tr × Int :=
  if treeOk t = false then (⟨[], 0⟩, 1)
  else if (findT t id).isSome = false then (⟨[], 0⟩, 4)
  else if id = 1 then (⟨[], 0⟩, 9)
  else if kids t id ≠ [] then (⟨[], 0⟩, 6)
  else (⟨t.nodes.filter fun n => !decide (n.id = id), t.next⟩, 0)

end Go.V

namespace Go.V
set_option maxHeartbeats 2000000 in
theorem rremove_eq (t : Tr) (id : Int) (hl : t.nodes.length < 1000000) : V 22 [t.vv, .p (.int .i64 id)] [] = some (.tup [(removeT t id).1.fv, .p (.int .i64 (removeT t id).2)], []) := by
  refine V_wp (vf := vf22) rfl ?_
  have hc := rcheck_eq t hl
  have hh := rhas_eq t id hl
  have hk := rkids_eq t id hl
  cases hok : treeOk t with
  | false =>
    rw [hok] at hc
    simp -implicitDefEqProofs (disch := omega) only [vf22, vb22, hc, go_sem, ↓reduceIte, Nat.reduceAdd, Nat.reduceSub, Nat.reduceEqDiff, Nat.reduceLeDiff, reduceCtorEq]
    simp [removeT, hok]
  | true =>
    rw [hok] at hc
    cases hf : (findT t id).isSome with
    | false =>
      rw [hf] at hh
      simp -implicitDefEqProofs (disch := omega) only [vf22, vb22, hc, hh, go_sem, ↓reduceIte, Nat.reduceAdd, Nat.reduceSub, Nat.reduceEqDiff, Nat.reduceLeDiff, reduceCtorEq]
      simp [removeT, hok, hf]
    | true =>
      rw [hf] at hh
      by_cases h1 : id = 1
      · subst h1
        simp -implicitDefEqProofs (disch := omega) only [vf22, vb22, hc, hh, go_sem, ↓reduceIte, Nat.reduceAdd, Nat.reduceSub, Nat.reduceEqDiff, Nat.reduceLeDiff, reduceCtorEq]
        simp [removeT, hok, hf]
      · by_cases h2 : (0 : Int) < (kids t id).length
        · have h3 : kids t id ≠ [] := fun e => by rw [e] at h2; simp at h2
          simp -implicitDefEqProofs (disch := omega) only [vf22, vb22, hc, hh, hk, h1, h2, go_sem, ↓reduceIte, Nat.reduceAdd, Nat.reduceSub, Nat.reduceEqDiff, Nat.reduceLeDiff, reduceCtorEq]
          simp [removeT, hok, hf, h1, h3]
        · have h3 : kids t id = [] := List.length_eq_zero_iff.1 (by omega)
          simp -implicitDefEqProofs (disch := omega) only [vf22, vb22, hc, hh, hk, h1, h2, go_sem, ↓reduceIte, Nat.reduceAdd, Nat.reduceSub, Nat.reduceEqDiff, Nat.reduceLeDiff, reduceCtorEq]
          refine wp_count t.nodes.length (fun k s => ∃ (acc : List Nd) (v : Nat), acc = ((t.nodes.take k).filter fun n => !decide (n.id = id)) ∧ acc.length ≤ k ∧ s.pe 1 = .p (.int .i64 id) ∧ s.pe 2 = .ptr (.slot 2 0) 0 0 ∧ s.pe 4 = .ptr (.slot 4 0) 0 0 ∧ s.pe 6 = .ptr (.slot 6 0) 0 0 ∧ s.pe 7 = .p (.int .i64 k) ∧ s.h (.slot 2 0) = some (0, .box [.p (nodesP t.nodes), .p (.int .i64 t.next)]) ∧ s.h (.slot 4 0) = some (0, .box [.own (.slot 4 1) 0 0 0, .p (.int .i64 0)]) ∧
            s.h (.slot 6 0) = some (0, .box [.own (.slot 32 1) v 0 acc.length, .p (.int .i64 t.next)]) ∧ s.h (.slot 32 1) = some (v, .arr 6 (acc.map Nd.pv))) ?_ ?_
          · refine ⟨[], 0, rfl, by simp, ?_⟩
            simp -implicitDefEqProofs (disch := omega) only [go_sem, ↓reduceIte, Nat.reduceAdd, Nat.reduceSub, Nat.reduceEqDiff, Nat.reduceLeDiff, reduceCtorEq]
            rfl
          · rintro k s hk' ⟨acc, v, hacc, hlen, p1, p2, p4, p6, p7, hh2, hh4, hh6, hh32⟩
            simp -implicitDefEqProofs (disch := omega) only [p1, p2, p4, p6, p7, hh2, hh4, hh6, hh32, go_sem, ↓reduceIte, Nat.reduceAdd, Nat.reduceSub, Nat.reduceEqDiff, Nat.reduceLeDiff, reduceCtorEq]
            refine wp_if_d (fun hlt => ?_) (fun hge => ?_)
            · have hm : t.nodes[k]? = some t.nodes[k] := List.getElem?_eq_getElem hlt
              generalize t.nodes[k] = m at hm
              simp -implicitDefEqProofs (disch := omega) only [p1, p2, p4, p6, p7, hh2, hh4, hh6, hh32, hm, go_sem, ↓reduceIte, Nat.reduceAdd, Nat.reduceSub, Nat.reduceEqDiff, Nat.reduceLeDiff, reduceCtorEq]
              repeat' ((first | refine wp_grn_d (fun hb => ?_) (fun hb => ?_) | refine wp_gtn_d (fun hb => ?_) (fun hb => ?_) | refine wp_gr_d (fun hb => ?_) (fun hb => ?_) | refine wp_gt_d (fun hb => ?_) (fun hb => ?_) | refine wp_gr (fun hb => ?_) (fun hb => ?_) | refine wp_gt (fun hb => ?_) (fun hb => ?_) | refine wp_nt_d (fun hb => ?_) (fun hb => ?_) | refine wp_nt (fun hb => ?_) (fun hb => ?_) | refine wp_if_d (fun hb => ?_) (fun hb => ?_) | refine wp_if (fun hb => ?_) (fun hb => ?_)) <;> simp -implicitDefEqProofs (disch := omega) only [hb, p1, p2, p4, p6, p7, hh2, hh4, hh6, hh32, hm, go_sem, ↓reduceIte, Nat.reduceAdd, Nat.reduceSub, Nat.reduceEqDiff, Nat.reduceLeDiff, reduceCtorEq])
              · refine ⟨hlt, acc ++ [m], v + 1, ?_, by simp; omega, by simp, by simp, by simp [Nd.pv]⟩
                rw [filter_take hm, hacc]
                simp [hb]
              · refine ⟨hlt, acc, v, ?_, by omega, by simp, by simp, by simp⟩
                rw [filter_take hm, hacc]
                simp [hb]
            · rw [List.take_of_length_le (by omega)] at hacc
              simp -implicitDefEqProofs (disch := omega) only [p1, p2, p4, p6, p7, hh2, hh4, hh6, hh32, hge, go_sem, ↓reduceIte, Nat.reduceAdd, Nat.reduceSub, Nat.reduceEqDiff, Nat.reduceLeDiff, reduceCtorEq]
              simp [removeT, hok, hf, h1, h3, hacc]
end Go.V

namespace Go.V

theorem nodesOk_append : ∀ (a pre b : List Nd), nodesOk pre (a ++ b) = (nodesOk pre a && nodesOk (pre ++ a) b)
  | [], pre, b => by simp [nodesOk]
  | n :: a, pre, b => by
    simp only [List.cons_append, nodesOk]
    rw [nodesOk_append a (pre ++ [n]) b]
    simp [Bool.and_assoc]

/-- What a good node says, plainly. -/
theorem nodeOk_nil {n : Nd} (h : nodeOk [] n = true) : n.id = 1 ∧ n.parent = 0 ∧ n.name = ⟨#[]⟩ ∧ n.kind = 0 := by
  simp only [nodeOk, List.getLast?_nil, Bool.and_eq_true, decide_eq_true_eq] at h
  exact h.2
theorem nodeOk_some {pre : List Nd} {l n : Nd} (hl : pre.getLast? = some l) : nodeOk pre n = true ↔ ((n.kind = 0 ∨ n.kind = 1) ∧ 0 ≤ n.control ∧ n.control ≤ 31 ∧ 0 ≤ n.owner ∧ n.owner ≤ 1048576) ∧ l.id < n.id ∧ validN n.name = true ∧ (∀ x ∈ pre, ¬ (x.parent = n.parent ∧ x.name = n.name)) ∧ ∃ x ∈ pre, x.id = n.parent := by
  simp only [nodeOk, hl, Bool.and_eq_true, decide_eq_true_eq, Bool.not_eq_true', List.any_eq_false, List.any_eq_true]
  constructor
  · rintro ⟨⟨h1, h2⟩, ⟨⟨h3, h4⟩, h5⟩, h6⟩
    exact ⟨⟨h1, h2⟩, h3, h4, h5, h6⟩
  · rintro ⟨⟨h1, h2⟩, h3, h4, h5, h6⟩
    exact ⟨⟨h1, h2⟩, ⟨⟨h3, h4⟩, h5⟩, h6⟩

/-- Ids grow. -/
theorem ids_lt : ∀ (ns pre : List Nd), nodesOk pre ns = true → (∀ (l : Nd), pre.getLast? = some l → ∀ x ∈ pre, x.id ≤ l.id) →
    (∀ x ∈ pre, ∀ n ∈ ns, x.id < n.id) ∧ ns.Pairwise fun a b => a.id < b.id
  | [], _, _, _ => ⟨fun _ _ _ h => (by cases h), List.Pairwise.nil⟩
  | m :: ns, pre, h, hp => by
    simp only [nodesOk, Bool.and_eq_true] at h
    have hm : ∀ x ∈ pre, x.id < m.id := fun x hx => by
      cases hl : pre.getLast? with
      | none => rw [List.getLast?_eq_none_iff] at hl; rw [hl] at hx; cases hx
      | some l =>
        have := ((nodeOk_some hl).1 h.1).2.1
        have := hp l hl x hx
        omega
    obtain ⟨h1, h2⟩ := ids_lt ns (pre ++ [m]) h.2 (fun l hl x hx => by
      simp at hl
      subst hl
      rcases List.mem_append.1 hx with hx | hx
      · exact Int.le_of_lt (hm x hx)
      · simp at hx; subst hx; exact Int.le_refl _)
    refine ⟨fun x hx n hn => ?_, List.pairwise_cons.2 ⟨fun n hn => h1 m (by simp) n hn, h2⟩⟩
    rcases List.mem_cons.1 hn with rfl | hn
    · exact hm x hx
    · exact h1 x (by simp [hx]) n hn

structure TreeOk (t : Tr) : Prop where
  len : 1 ≤ t.nodes.length ∧ t.nodes.length ≤ 64
  nodes : nodesOk [] t.nodes = true
  depth : ∀ n ∈ t.nodes, (up t.nodes n.id).length ≤ 9
  next : ∃ l, t.nodes.getLast? = some l ∧ l.id < t.next ∧ t.next ≤ 2147483648

theorem treeOk_iff (t : Tr) : treeOk t = true ↔ TreeOk t := by
  simp only [treeOk, Bool.and_eq_true, decide_eq_true_eq, List.all_eq_true]
  constructor
  · rintro ⟨⟨⟨h1, h2⟩, h3⟩, h4⟩
    cases hl : t.nodes.getLast? with
    | none => rw [hl] at h4; cases h4
    | some l =>
      rw [hl] at h4
      simp only [decide_eq_true_eq] at h4
      exact ⟨h1, h2, h3, l, hl, h4⟩
  · rintro ⟨h1, h2, h3, l, hl, h4⟩
    refine ⟨⟨⟨h1, h2⟩, h3⟩, ?_⟩
    rw [hl]
    simpa using h4

theorem TreeOk.inc {t : Tr} (h : TreeOk t) : t.nodes.Pairwise fun a b => a.id < b.id := (ids_lt t.nodes [] h.nodes (fun _ h => by simp at h)).2
theorem TreeOk.lt_next {t : Tr} (h : TreeOk t) : ∀ n ∈ t.nodes, n.id < t.next := by
  obtain ⟨l, hl, h1, _⟩ := h.next
  intro n hn
  obtain ⟨i, hi⟩ := List.getElem?_of_mem hn
  have hlt := (List.getElem?_eq_some_iff.1 hi).1
  rw [List.getLast?_eq_getElem?] at hl
  have hlt2 := (List.getElem?_eq_some_iff.1 hl).1
  have hinc := List.pairwise_iff_getElem.1 h.inc
  rcases Nat.lt_or_ge i (t.nodes.length - 1) with h2 | h2
  · have := hinc i (t.nodes.length - 1) hlt hlt2 h2
    rw [(List.getElem?_eq_some_iff.1 hi).2, (List.getElem?_eq_some_iff.1 hl).2] at this
    omega
  · have : i = t.nodes.length - 1 := by omega
    rw [this, hl] at hi
    simp at hi
    rw [← hi]
    exact h1
theorem TreeOk.root {t : Tr} (h : TreeOk t) : ∃ r ns, t.nodes = r :: ns ∧ r.id = 1 ∧ r.parent = 0 := by
  cases hn : t.nodes with
  | nil => have := h.len.1; rw [hn] at this; simp at this
  | cons r ns =>
    have := h.nodes
    rw [hn] at this
    simp only [nodesOk, Bool.and_eq_true] at this
    have := nodeOk_nil this.1
    exact ⟨r, ns, rfl, this.1, this.2.1⟩

theorem newT_ok : TreeOk newT := by
  refine ⟨by simp [newT], by decide, by decide, ⟨1, 0, ⟨#[]⟩, 0, 0, 0⟩, rfl, by decide, by decide⟩

theorem findN_some {ns : List Nd} {id : Int} (h : (findN ns id).isSome = true) : ∃ n ∈ ns, n.id = id := by
  unfold findN at h
  rw [List.find?_isSome] at h
  obtain ⟨n, hn, h⟩ := h
  exact ⟨n, hn, by simpa using h⟩

theorem upR_skip : ∀ (ns : List Nd) (id : Int), (∀ n ∈ ns, n.id ≠ id) → upR ns id = []
  | [], _, _ => rfl
  | n :: ns, id, h => by
    rw [upR, if_neg (h n (List.mem_cons_self ..)), upR_skip ns id fun m hm => h m (List.mem_cons_of_mem _ hm)]

theorem addT_ok {t : Tr} {p : Int} {s : ByteArray} (h0 : (addT t p s).2.2 = 0) : TreeOk t ∧ TreeOk (addT t p s).1 ∧ (addT t p s).1 = ⟨t.nodes ++ [⟨t.next, p, s, 0, 0, 0⟩], t.next + 1⟩ := by
  unfold addT at h0 ⊢
  split at h0 <;> try (simp at h0; done)
  rename_i h1
  split at h0 <;> try (simp at h0; done)
  rename_i h2
  split at h0 <;> try (simp at h0; done)
  rename_i h3
  split at h0 <;> try (simp at h0; done)
  rename_i h4
  rw [if_neg h1, if_neg h2, if_neg h3, if_neg h4]
  simp only [Bool.not_eq_false, Bool.and_eq_true] at h1
  simp only [Bool.not_eq_false] at h2
  have hok := (treeOk_iff t).1 h1.1
  refine ⟨hok, ?_, rfl⟩
  have hf : (findN t.nodes p).isSome = true := by
    unfold findT at h2
    rw [if_pos h1.1] at h2
    exact h2
  obtain ⟨l, hl, hl1, hl2⟩ := hok.next
  have hlt := hok.lt_next
  have hup : ∀ id, id ≠ t.next → up (t.nodes ++ [⟨t.next, p, s, 0, 0, 0⟩]) id = up t.nodes id := fun id hid => by
    unfold up
    rw [List.reverse_append]
    simp only [List.reverse_cons, List.reverse_nil, List.nil_append, List.cons_append, upR]
    rw [if_neg (Ne.symm hid)]
  refine ⟨by simp; omega, ?_, fun n hn => ?_, ⟨⟨t.next, p, s, 0, 0, 0⟩, by simp, by simp; omega, by simp; omega⟩⟩
  · rw [nodesOk_append, hok.nodes]
    simp only [List.nil_append, nodesOk, Bool.and_true, Bool.true_and]
    rw [nodeOk_some hl]
    refine ⟨by simp, hl1, h1.2, fun x hx hd => ?_, findN_some hf⟩
    apply h3
    rw [List.any_eq_true]
    exact ⟨x, hx, by simpa using hd⟩
  · simp only [List.mem_append, List.mem_singleton] at hn
    rcases hn with hn | rfl
    · rw [hup n.id (by have := hlt n hn; omega)]
      exact hok.depth n hn
    · have ha : ancR t p = up t.nodes p := by unfold ancR; rw [if_pos h2]
      rw [ha] at h4
      have : up (t.nodes ++ [⟨t.next, p, s, 0, 0, 0⟩]) t.next = t.next :: up t.nodes p := by
        unfold up
        rw [List.reverse_append]
        simp only [List.reverse_cons, List.reverse_nil, List.nil_append, List.cons_append, upR, if_true]
      simp only
      rw [this]
      simp only [List.length_cons]
      omega

theorem upR_filter {q : Int} : ∀ (ns : List Nd) (id : Int), id ≠ q → (∀ n ∈ ns, n.parent ≠ q) → upR (ns.filter fun n => !decide (n.id = q)) id = upR ns id
  | [], _, _, _ => rfl
  | n :: ns, id, hid, hp => by
    have hp' : ∀ m ∈ ns, m.parent ≠ q := fun m hm => hp m (List.mem_cons_of_mem _ hm)
    by_cases hq : n.id = q
    · have : n.id ≠ id := fun e => hid (e ▸ hq)
      rw [List.filter_cons_of_neg (by simp [hq]), upR, if_neg this, upR_filter ns id hid hp']
    · rw [List.filter_cons_of_pos (by simp [hq]), upR, upR]
      split
      · rw [upR_filter ns n.parent (hp n (List.mem_cons_self ..)) hp']
      · rw [upR_filter ns id hid hp']

theorem nodesOk_filter {q : Int} (hq1 : q ≠ 1) : ∀ (ns pre : List Nd), nodesOk pre ns = true → (∀ n ∈ ns, n.parent ≠ q) → (∀ (l : Nd), pre.getLast? = some l → ∀ x ∈ pre, x.id ≤ l.id) → (pre.filter (fun n => !decide (n.id = q)) = [] → pre = []) →
    nodesOk (pre.filter fun n => !decide (n.id = q)) (ns.filter fun n => !decide (n.id = q)) = true
  | [], _, _, _, _, _ => by simp [nodesOk]
  | n :: ns, pre, h, hp, hlast, hne => by
    simp only [nodesOk, Bool.and_eq_true] at h
    have hinc := ids_lt (n :: ns) pre (by simp only [nodesOk, Bool.and_eq_true]; exact h) hlast
    have hp' : ∀ m ∈ ns, m.parent ≠ q := fun m hm => hp m (List.mem_cons_of_mem _ hm)
    have hlast' : ∀ (l : Nd), (pre ++ [n]).getLast? = some l → ∀ x ∈ pre ++ [n], x.id ≤ l.id := fun l hl x hx => by
      simp at hl
      subst hl
      rcases List.mem_append.1 hx with hx | hx
      · exact Int.le_of_lt (hinc.1 x hx n (by simp))
      · simp at hx; subst hx; exact Int.le_refl _
    by_cases hq : n.id = q
    · have ih := nodesOk_filter hq1 ns (pre ++ [n]) h.2 hp' hlast' (fun e => by
        rw [List.filter_append, List.filter_cons_of_neg (by simp [hq]), List.filter_nil, List.append_nil] at e
        have := hne e
        subst this
        exact absurd ((nodeOk_nil h.1).1.symm.trans hq) (Ne.symm hq1))
      rw [List.filter_append, List.filter_cons_of_neg (by simp [hq]), List.filter_nil, List.append_nil] at ih
      rw [List.filter_cons_of_neg (by simp [hq])]
      exact ih
    · have ih := nodesOk_filter hq1 ns (pre ++ [n]) h.2 hp' hlast' (fun e => by
        rw [List.filter_append, List.filter_cons_of_pos (by simp [hq])] at e
        simp at e)
      rw [List.filter_append, List.filter_cons_of_pos (by simp [hq]), List.filter_nil] at ih
      rw [List.filter_cons_of_pos (by simp [hq])]
      simp only [nodesOk, Bool.and_eq_true]
      refine ⟨?_, ih⟩
      cases hl : pre.getLast? with
      | none =>
        rw [List.getLast?_eq_none_iff] at hl
        subst hl
        simpa using h.1
      | some l =>
        obtain ⟨b1, b2, b3, b4, x, hx, b5⟩ := (nodeOk_some hl).1 h.1
        have hin : x ∈ pre.filter fun n => !decide (n.id = q) := by
          rw [List.mem_filter]
          exact ⟨hx, by simpa using (fun e => hp n (by simp) (b5.symm.trans e))⟩
        cases hl2 : (pre.filter fun n => !decide (n.id = q)).getLast? with
        | none =>
          rw [List.getLast?_eq_none_iff] at hl2
          rw [hl2] at hin
          cases hin
        | some l2 =>
          have hl2m := List.mem_of_getLast? hl2
          rw [List.mem_filter] at hl2m
          rw [nodeOk_some hl2]
          exact ⟨b1, hinc.1 l2 hl2m.1 n (by simp), b3, fun y hy => b4 y (List.mem_filter.1 hy).1, x, hin, b5⟩

theorem removeT_ok {t : Tr} {q : Int} (h0 : (removeT t q).2 = 0) : TreeOk t ∧ TreeOk (removeT t q).1 ∧ (removeT t q).1 = ⟨t.nodes.filter fun n => !decide (n.id = q), t.next⟩ := by
  unfold removeT at h0 ⊢
  split at h0 <;> try (simp at h0; done)
  rename_i h1
  split at h0 <;> try (simp at h0; done)
  rename_i h2
  split at h0 <;> try (simp at h0; done)
  rename_i h3
  split at h0 <;> try (simp at h0; done)
  rename_i h4
  rw [if_neg h1, if_neg h2, if_neg h3, if_neg h4]
  simp only [Bool.not_eq_false] at h1 h2
  have hok := (treeOk_iff t).1 h1
  have hpar : ∀ n ∈ t.nodes, n.parent ≠ q := fun n hn e => by
    apply h4
    unfold kids
    rw [if_pos h2]
    intro e2
    have : n ∈ t.nodes.filter fun n => decide (n.parent = q) := by
      rw [List.mem_filter]
      exact ⟨hn, by simpa using e⟩
    have := List.mem_map_of_mem (f := (·.id)) this
    rw [e2] at this
    cases this
  refine ⟨hok, ?_, rfl⟩
  obtain ⟨r, ns, hr, hr1, _⟩ := hok.root
  have hrin : r ∈ t.nodes.filter fun n => !decide (n.id = q) := by
    rw [List.mem_filter, hr]
    exact ⟨by simp, by simp; intro e; exact h3 (e.symm.trans hr1)⟩
  have hnodes := nodesOk_filter h3 t.nodes [] hok.nodes hpar (fun _ h => by simp at h) (fun _ => rfl)
  refine ⟨⟨?_, ?_⟩, by simpa using hnodes, fun n hn => ?_, ?_⟩
  · exact List.length_pos_of_mem hrin
  · exact Nat.le_trans (List.length_filter_le _ _) hok.len.2
  · rw [List.mem_filter] at hn
    have hid : n.id ≠ q := by simpa using hn.2
    have : up (t.nodes.filter fun n => !decide (n.id = q)) n.id = up t.nodes n.id := by
      unfold up
      rw [← List.filter_reverse]
      exact upR_filter _ _ hid fun m hm => hpar m (by simpa using hm)
    simp only
    rw [this]
    exact hok.depth n hn.1
  · cases hl : (t.nodes.filter fun n => !decide (n.id = q)).getLast? with
    | none =>
      rw [List.getLast?_eq_none_iff] at hl
      rw [hl] at hrin
      cases hrin
    | some l =>
      have hm := (List.mem_filter.1 (List.mem_of_getLast? hl)).1
      obtain ⟨_, _, _, h5⟩ := hok.next
      exact ⟨l, rfl, hok.lt_next l hm, h5⟩

end Go.V

namespace Go.V

/-- One step of the making of a tree. -/
def treeStep (L : List Int) (a : Nat) (t : Tr) : Tr × Nat :=
  let a1 := nextA L a t.nodes.length
  let p := ((t.nodes[(nextV L a t.nodes.length).toNat]?).map (·.id)).getD 0
  let r := addT t p (nameV L a1)
  let a2 := nextA L a1 6
  let t1 := if r.2.2 = 0 then r.1 else t
  let a3 := nextA L a2 6
  if nextV L a2 6 = 5 then
    let q := ((t1.nodes[(nextV L a3 t1.nodes.length).toNat]?).map (·.id)).getD 0
    let u := removeT t1 q
    (if u.2 = 0 then u.1 else t1, nextA L a3 t1.nodes.length)
  else (t1, a3)
def treeLoop (L : List Int) : Nat → Nat → Tr → Tr × Nat
  | 0, a, t => (t, a)
  | k + 1, a, t => treeLoop L k (treeStep L a t).2 (treeStep L a t).1
def dTree (L : List Int) (a : Nat) (n : Nat) : Tr × Nat := treeLoop L (nextV L a (n + 1)).toNat (nextA L a (n + 1)) newT

theorem treeStep_ok (L : List Int) (a : Nat) {t : Tr} (h : TreeOk t) : TreeOk (treeStep L a t).1 := by
  have h1 : ∀ p s, TreeOk (if (addT t p s).2.2 = 0 then (addT t p s).1 else t) := fun p s => by
    split
    · exact (addT_ok (by assumption)).2.1
    · exact h
  unfold treeStep
  simp only
  split
  · have h2 : ∀ (u : Tr) (q : Int), TreeOk u → TreeOk (if (removeT u q).2 = 0 then (removeT u q).1 else u) := fun u q hu => by
      split
      · exact (removeT_ok (by assumption)).2.1
      · exact hu
    exact h2 _ _ (h1 _ _)
  · exact h1 _ _
theorem treeLoop_ok (L : List Int) : ∀ (k a : Nat) {t : Tr}, TreeOk t → TreeOk (treeLoop L k a t).1
  | 0, _, _, h => h
  | k + 1, a, _, h => treeLoop_ok L k _ (treeStep_ok L a h)
theorem dTree_ok (L : List Int) (a n : Nat) : TreeOk (dTree L a n).1 := treeLoop_ok L _ _ newT_ok

set_option maxHeartbeats 4000000 in
theorem tree_eq (L : List Int) (a n : Nat) (hL : L.length < 4611686018427387904) (hn : n < 1000) : V 7 [.ptr (.arg 0 0) 0 0, .p (.int .i64 n)] [diceB L a] = some ((dTree L a n).1.vv, [diceB L (dTree L a n).2]) := by
  refine V_wp (vf := vf7) rfl ?_
  have hnx := next_eq L a ((n : Int) + 1) hL (by omega)
  have hn0 := nextV_nonneg L a ((n : Int) + 1)
  have hn1 := nextV_lt L a (n := (n : Int) + 1) (by omega)
  simp -implicitDefEqProofs (disch := omega) only [vf7, vb7, rnew_eq, hnx, go_sem, ↓reduceIte, Nat.reduceAdd, Nat.reduceSub, Nat.reduceEqDiff, Nat.reduceLeDiff, reduceCtorEq]
  refine wp_meas (σ := Nat × Nat × Tr) (fun x s => TreeOk x.2.2 ∧ x.1 < 1000 ∧ treeLoop L x.1 x.2.1 x.2.2 = dTree L a n ∧ s.pe 0 = .ptr (.arg 0 0) 0 0 ∧ s.pe 4 = .ptr (.slot 4 0) 0 0 ∧ s.pe 5 = .ptr (.slot 5 0) 0 0 ∧ s.pe 6 = .p (.int .i64 x.1) ∧ s.h (.arg 0 0) = some (0, diceB L x.2.1) ∧ s.h (.slot 4 0) = some (0, .box [.own (.slot 4 1) 0 0 0, .p (.int .i64 0)]) ∧
    ∃ X, s.h (.slot 5 0) = some (0, .box [X, .p (.int .i64 x.2.2.next)]) ∧ fz0 [8, 11, 13, 37, 58] s.h X = .p (nodesP x.2.2.nodes)) (fun x => x.1) ((nextV L a (n + 1)).toNat, nextA L a (n + 1), newT) ?_ ?_
  · refine ⟨newT_ok, by omega, rfl, ?_⟩
    simp -implicitDefEqProofs (disch := omega) only [Int.toNat_of_nonneg hn0, go_sem, ↓reduceIte, Nat.reduceAdd, Nat.reduceSub, Nat.reduceEqDiff, Nat.reduceLeDiff, reduceCtorEq]
    refine ⟨_, rfl, ?_⟩
    simp -implicitDefEqProofs (disch := omega) only [go_sem, ↓reduceIte, Nat.reduceAdd, Nat.reduceSub, Nat.reduceEqDiff, Nat.reduceLeDiff, reduceCtorEq]
  · rintro ⟨k, b, t⟩ s ⟨hok, hk, htl, h0, h4, h5, h6, hh0, hh4, X, hh5, hX⟩
    simp only at hok hk htl h6 hh0 hh5 hX
    simp -implicitDefEqProofs (disch := omega) only [h0, h4, h5, h6, hh0, hh4, hh5, hX, go_sem, ↓reduceIte, Nat.reduceAdd, Nat.reduceSub, Nat.reduceEqDiff, Nat.reduceLeDiff, reduceCtorEq]
    refine wp_if_d (fun hgt => ?_) (fun hle => ?_)
    · obtain ⟨k', rfl⟩ : ∃ k', k = k' + 1 := ⟨k - 1, by omega⟩
      have hlen := hok.len
      have c1 := next_eq L b t.nodes.length hL (by omega)
      have c2 := nextV_nonneg L b t.nodes.length
      have c3 := nextV_lt L b (n := t.nodes.length) (by omega)
      have hm : t.nodes[(nextV L b t.nodes.length).toNat]? = some t.nodes[(nextV L b t.nodes.length).toNat] := List.getElem?_eq_getElem (by omega)
      generalize t.nodes[(nextV L b t.nodes.length).toNat]'(by omega) = m at hm
      have c4 := name_eq L (nextA L b t.nodes.length) hL
      have c5 := radd_eq t m.id (nameV L (nextA L b t.nodes.length)) (by omega)
      have c6 : V 21 [.ptr (.arg 0 0) 0 0, .p (.int .i64 6)] [diceB L (nextA L (nextA L b t.nodes.length) 6)] = some (.p (.bool (decide (nextV L (nextA L (nextA L b t.nodes.length) 6) 6 = 5))), [diceB L (nextA L (nextA L (nextA L b t.nodes.length) 6) 6)]) := bool_eq L _ 6 hL (by omega) (by omega)
      have hst : treeLoop L k' (treeStep L b t).2 (treeStep L b t).1 = dTree L a n := htl
      have hstok := treeStep_ok L b hok
      obtain ⟨t1, ht1, h1ok⟩ : ∃ t1, t1 = (if (addT t m.id (nameV L (nextA L b t.nodes.length))).2.2 = 0 then (addT t m.id (nameV L (nextA L b t.nodes.length))).1 else t) ∧ TreeOk t1 := ⟨_, rfl, by
        split
        · exact (addT_ok (by assumption)).2.1
        · exact hok⟩
      have hlen1 := h1ok.len
      have d1 := next_eq L (nextA L (nextA L (nextA L b t.nodes.length) 6) 6) t1.nodes.length hL (by omega)
      have d2 := nextV_nonneg L (nextA L (nextA L (nextA L b t.nodes.length) 6) 6) t1.nodes.length
      have d3 := nextV_lt L (nextA L (nextA L (nextA L b t.nodes.length) 6) 6) (n := t1.nodes.length) (by omega)
      have hq : t1.nodes[(nextV L (nextA L (nextA L (nextA L b t.nodes.length) 6) 6) t1.nodes.length).toNat]? = some t1.nodes[(nextV L (nextA L (nextA L (nextA L b t.nodes.length) 6) 6) t1.nodes.length).toNat] := List.getElem?_eq_getElem (by omega)
      generalize t1.nodes[(nextV L (nextA L (nextA L (nextA L b t.nodes.length) 6) 6) t1.nodes.length).toNat]'(by omega) = q at hq
      have d4 := rremove_eq t1 q.id (by omega)
      have hstep : treeStep L b t = if nextV L (nextA L (nextA L b t.nodes.length) 6) 6 = 5 then (if (removeT t1 q.id).2 = 0 then (removeT t1 q.id).1 else t1, nextA L (nextA L (nextA L (nextA L b t.nodes.length) 6) 6) t1.nodes.length) else (t1, nextA L (nextA L (nextA L b t.nodes.length) 6) 6) := by
        simp only [treeStep, hm, Option.map_some, Option.getD_some, ← ht1, hq]
      rw [hstep] at hst hstok
      by_cases he : (addT t m.id (nameV L (nextA L b t.nodes.length))).2.2 = 0
      · rw [if_pos he] at ht1
        simp -implicitDefEqProofs (disch := omega) only [h0, h4, h5, h6, hh0, hh4, hh5, hX, c1, c2, hm, c4, c5, c6, he, ← ht1, go_sem, ↓reduceIte, Nat.reduceAdd, Nat.reduceSub, Nat.reduceEqDiff, Nat.reduceLeDiff, reduceCtorEq]
        refine wp_if_d (fun h5b => ?_) (fun h5b => ?_)
        · rw [if_pos h5b] at hst hstok
          by_cases hr : (removeT t1 q.id).2 = 0
          · rw [if_pos hr] at hst hstok
            simp -implicitDefEqProofs (disch := omega) only [h0, h4, h5, h6, hh0, hh4, hh5, hX, d1, d2, hq, d4, hr, go_sem, ↓reduceIte, Nat.reduceAdd, Nat.reduceSub, Nat.reduceEqDiff, Nat.reduceLeDiff, reduceCtorEq]
            refine ⟨(k', nextA L (nextA L (nextA L (nextA L b t.nodes.length) 6) 6) t1.nodes.length, (removeT t1 q.id).1), Nat.lt_succ_self _, hstok, by simp only; omega, hst, ?_⟩
            simp -implicitDefEqProofs (disch := omega) only [h0, h4, h5, h6, hh0, hh4, hh5, hX, go_sem, ↓reduceIte, Nat.reduceAdd, Nat.reduceSub, Nat.reduceEqDiff, Nat.reduceLeDiff, reduceCtorEq]
            refine ⟨by congr 2; omega, _, rfl, ?_⟩
            simp -implicitDefEqProofs (disch := omega) only [go_sem, ↓reduceIte, Nat.reduceAdd, Nat.reduceSub, Nat.reduceEqDiff, Nat.reduceLeDiff, reduceCtorEq]
          · rw [if_neg hr] at hst hstok
            simp -implicitDefEqProofs (disch := omega) only [h0, h4, h5, h6, hh0, hh4, hh5, hX, d1, d2, hq, d4, hr, go_sem, ↓reduceIte, Nat.reduceAdd, Nat.reduceSub, Nat.reduceEqDiff, Nat.reduceLeDiff, reduceCtorEq]
            refine ⟨(k', nextA L (nextA L (nextA L (nextA L b t.nodes.length) 6) 6) t1.nodes.length, t1), Nat.lt_succ_self _, hstok, by simp only; omega, hst, ?_⟩
            simp -implicitDefEqProofs (disch := omega) only [h0, h4, h5, h6, hh0, hh4, hh5, hX, go_sem, ↓reduceIte, Nat.reduceAdd, Nat.reduceSub, Nat.reduceEqDiff, Nat.reduceLeDiff, reduceCtorEq]
            refine ⟨by congr 2; omega, _, rfl, ?_⟩
            simp -implicitDefEqProofs (disch := omega) only [go_sem, ↓reduceIte, Nat.reduceAdd, Nat.reduceSub, Nat.reduceEqDiff, Nat.reduceLeDiff, reduceCtorEq]
        · rw [if_neg h5b] at hst hstok
          simp -implicitDefEqProofs (disch := omega) only [h0, h4, h5, h6, hh0, hh4, hh5, hX, go_sem, ↓reduceIte, Nat.reduceAdd, Nat.reduceSub, Nat.reduceEqDiff, Nat.reduceLeDiff, reduceCtorEq]
          refine ⟨(k', nextA L (nextA L (nextA L b t.nodes.length) 6) 6, t1), Nat.lt_succ_self _, hstok, by simp only; omega, hst, ?_⟩
          simp -implicitDefEqProofs (disch := omega) only [h0, h4, h5, h6, hh0, hh4, hh5, hX, go_sem, ↓reduceIte, Nat.reduceAdd, Nat.reduceSub, Nat.reduceEqDiff, Nat.reduceLeDiff, reduceCtorEq]
          refine ⟨by congr 2; omega, _, rfl, ?_⟩
          simp -implicitDefEqProofs (disch := omega) only [go_sem, ↓reduceIte, Nat.reduceAdd, Nat.reduceSub, Nat.reduceEqDiff, Nat.reduceLeDiff, reduceCtorEq]
      · rw [if_neg he] at ht1
        subst ht1
        simp -implicitDefEqProofs (disch := omega) only [h0, h4, h5, h6, hh0, hh4, hh5, hX, c1, c2, hm, c4, c5, c6, he, go_sem, ↓reduceIte, Nat.reduceAdd, Nat.reduceSub, Nat.reduceEqDiff, Nat.reduceLeDiff, reduceCtorEq]
        refine wp_if_d (fun h5b => ?_) (fun h5b => ?_)
        · rw [if_pos h5b] at hst hstok
          by_cases hr : (removeT t1 q.id).2 = 0
          · rw [if_pos hr] at hst hstok
            simp -implicitDefEqProofs (disch := omega) only [h0, h4, h5, h6, hh0, hh4, hh5, hX, d1, d2, hq, d4, hr, go_sem, ↓reduceIte, Nat.reduceAdd, Nat.reduceSub, Nat.reduceEqDiff, Nat.reduceLeDiff, reduceCtorEq]
            refine ⟨(k', nextA L (nextA L (nextA L (nextA L b t1.nodes.length) 6) 6) t1.nodes.length, (removeT t1 q.id).1), Nat.lt_succ_self _, hstok, by simp only; omega, hst, ?_⟩
            simp -implicitDefEqProofs (disch := omega) only [h0, h4, h5, h6, hh0, hh4, hh5, hX, go_sem, ↓reduceIte, Nat.reduceAdd, Nat.reduceSub, Nat.reduceEqDiff, Nat.reduceLeDiff, reduceCtorEq]
            refine ⟨by congr 2; omega, _, rfl, ?_⟩
            simp -implicitDefEqProofs (disch := omega) only [go_sem, ↓reduceIte, Nat.reduceAdd, Nat.reduceSub, Nat.reduceEqDiff, Nat.reduceLeDiff, reduceCtorEq]
          · rw [if_neg hr] at hst hstok
            simp -implicitDefEqProofs (disch := omega) only [h0, h4, h5, h6, hh0, hh4, hh5, hX, d1, d2, hq, d4, hr, go_sem, ↓reduceIte, Nat.reduceAdd, Nat.reduceSub, Nat.reduceEqDiff, Nat.reduceLeDiff, reduceCtorEq]
            refine ⟨(k', nextA L (nextA L (nextA L (nextA L b t1.nodes.length) 6) 6) t1.nodes.length, t1), Nat.lt_succ_self _, hstok, by simp only; omega, hst, ?_⟩
            simp -implicitDefEqProofs (disch := omega) only [h0, h4, h5, h6, hh0, hh4, hh5, hX, go_sem, ↓reduceIte, Nat.reduceAdd, Nat.reduceSub, Nat.reduceEqDiff, Nat.reduceLeDiff, reduceCtorEq]
            refine ⟨by congr 2; omega, _, rfl, ?_⟩
            simp -implicitDefEqProofs (disch := omega) only [go_sem, ↓reduceIte, Nat.reduceAdd, Nat.reduceSub, Nat.reduceEqDiff, Nat.reduceLeDiff, reduceCtorEq]
        · rw [if_neg h5b] at hst hstok
          simp -implicitDefEqProofs (disch := omega) only [h0, h4, h5, h6, hh0, hh4, hh5, hX, go_sem, ↓reduceIte, Nat.reduceAdd, Nat.reduceSub, Nat.reduceEqDiff, Nat.reduceLeDiff, reduceCtorEq]
          refine ⟨(k', nextA L (nextA L (nextA L b t1.nodes.length) 6) 6, t1), Nat.lt_succ_self _, hstok, by simp only; omega, hst, ?_⟩
          simp -implicitDefEqProofs (disch := omega) only [h0, h4, h5, h6, hh0, hh4, hh5, hX, go_sem, ↓reduceIte, Nat.reduceAdd, Nat.reduceSub, Nat.reduceEqDiff, Nat.reduceLeDiff, reduceCtorEq]
          refine ⟨by congr 2; omega, _, rfl, ?_⟩
          simp -implicitDefEqProofs (disch := omega) only [go_sem, ↓reduceIte, Nat.reduceAdd, Nat.reduceSub, Nat.reduceEqDiff, Nat.reduceLeDiff, reduceCtorEq]
    · have hk0 : k = 0 := by omega
      subst hk0
      simp only [treeLoop] at htl
      simp -implicitDefEqProofs (disch := omega) only [h0, h4, h5, h6, hh0, hh4, hh5, hX, go_sem, ↓reduceIte, Nat.reduceAdd, Nat.reduceSub, Nat.reduceEqDiff, Nat.reduceLeDiff, reduceCtorEq]
      rw [← htl]
end Go.V

namespace Go.V

/-! ### forest -/

def idxOf (ns : List Nd) (id : Int) : Int := match ns.findIdx? (fun n => decide (n.id = id)) with
  | some i => i
  | none => -1

theorem at1_eq (n : Nd) (id : Int) : V 68 [n.vv, .ptr (.arg 0 0) 0 0] [.box [.p (.int .i64 id)]] = some (.p (.bool (decide (n.id = id))), [.box [.p (.int .i64 id)]]) := by
  refine V_wp (vf := vf68) rfl ?_
  simp -implicitDefEqProofs (disch := omega) only [vf68, vb68, go_sem, ↓reduceIte, Nat.reduceAdd, Nat.reduceSub, Nat.reduceEqDiff, Nat.reduceLeDiff, reduceCtorEq]

theorem idxOf_at {ns : List Nd} {id : Int} {k : Nat} {m : Nd} (hm : ns[k]? = some m) (h : ∀ (i : Nat) (n : Nd), i < k → ns[i]? = some n → ¬ n.id = id) (he : m.id = id) : idxOf ns id = k := by
  unfold idxOf
  have : ns.findIdx? (fun n => decide (n.id = id)) = some k := by
    rw [List.findIdx?_eq_some_iff_getElem]
    refine ⟨(List.getElem?_eq_some_iff.1 hm).1, by rw [(List.getElem?_eq_some_iff.1 hm).2]; simpa using he, fun j hj => ?_⟩
    have hl : j < ns.length := Nat.lt_trans hj (List.getElem?_eq_some_iff.1 hm).1
    simpa using h j ns[j] hj (List.getElem?_eq_getElem hl)
  rw [this]
theorem idxOf_none {ns : List Nd} {id : Int} (h : ∀ n ∈ ns, ¬ n.id = id) : idxOf ns id = -1 := by
  unfold idxOf
  have : ns.findIdx? (fun n => decide (n.id = id)) = none := by
    rw [List.findIdx?_eq_none_iff]
    intro x hx
    simpa using h x hx
  rw [this]

theorem indexFunc_eq (ns : List Nd) (id : Int) (hl : ns.length < 1000000) : V 67 [.p (nodesP ns), .fn 68 [.ptr (.arg 0 0) 0 0]] [.box [.p (.int .i64 id)]] = some (.p (.int .i64 (idxOf ns id)), [.box [.p (.int .i64 id)]]) := by
  refine V_wp (vf := vf67) rfl ?_
  simp -implicitDefEqProofs (disch := omega) only [vf67, vb67, go_sem, ↓reduceIte, Nat.reduceAdd, Nat.reduceSub, Nat.reduceEqDiff, Nat.reduceLeDiff, reduceCtorEq]
  refine wp_count ns.length (fun k s => (∀ (i : Nat) (n : Nd), i < k → ns[i]? = some n → ¬ n.id = id) ∧ s.pe 0 = .p (nodesP ns) ∧ s.pe 1 = .fn 68 [.ptr (.arg 0 0) 0 0] ∧ s.pe 7 = .p (.int .i64 ns.length) ∧ s.pe 8 = .p (.int .i64 k) ∧ s.h (.arg 0 0) = some (0, .box [.p (.int .i64 id)])) ?_ ?_
  · exact ⟨by omega, rfl, rfl, rfl, rfl, rfl⟩
  · rintro k s hk ⟨hall, h0, h1, h7, h8, hh⟩
    simp -implicitDefEqProofs (disch := omega) only [h0, h1, h7, h8, hh, go_sem, ↓reduceIte, Nat.reduceAdd, Nat.reduceSub, Nat.reduceEqDiff, Nat.reduceLeDiff, reduceCtorEq]
    refine wp_if_d (fun hlt => ?_) (fun hge => ?_)
    · have hm : ns[k]? = some ns[k] := List.getElem?_eq_getElem hlt
      generalize ns[k] = m at hm
      have hc := at1_eq m id
      unfold Nd.vv at hc
      simp -implicitDefEqProofs (disch := omega) only [h0, h1, h7, h8, hh, hm, hc, go_sem, ↓reduceIte, Nat.reduceAdd, Nat.reduceSub, Nat.reduceEqDiff, Nat.reduceLeDiff, reduceCtorEq]
      repeat' ((first | refine wp_grn_d (fun hb => ?_) (fun hb => ?_) | refine wp_gtn_d (fun hb => ?_) (fun hb => ?_) | refine wp_gr_d (fun hb => ?_) (fun hb => ?_) | refine wp_gt_d (fun hb => ?_) (fun hb => ?_) | refine wp_gr (fun hb => ?_) (fun hb => ?_) | refine wp_gt (fun hb => ?_) (fun hb => ?_) | refine wp_nt_d (fun hb => ?_) (fun hb => ?_) | refine wp_nt (fun hb => ?_) (fun hb => ?_) | refine wp_if_d (fun hb => ?_) (fun hb => ?_) | refine wp_if (fun hb => ?_) (fun hb => ?_)) <;> simp -implicitDefEqProofs (disch := omega) only [hb, h0, h1, h7, h8, hh, go_sem, ↓reduceIte, Nat.reduceAdd, Nat.reduceSub, Nat.reduceEqDiff, Nat.reduceLeDiff, reduceCtorEq])
      · rw [idxOf_at hm hall hb]
      · exact ⟨hlt, lt_succ_cases hm hall hb, by simp only [Int.natCast_add, Int.natCast_one]⟩
    · simp -implicitDefEqProofs (disch := omega) only [h0, h1, h7, h8, hh, hge, go_sem, ↓reduceIte, Nat.reduceAdd, Nat.reduceSub, Nat.reduceEqDiff, Nat.reduceLeDiff, reduceCtorEq]
      rw [idxOf_none]
      intro n hn
      obtain ⟨i, hi⟩ := List.getElem?_of_mem hn
      exact hall i n (by have := (List.getElem?_eq_some_iff.1 hi).1; omega) hi

theorem at_eq (t : Tr) (id : Int) (hl : t.nodes.length < 1000000) : V 60 [t.vv, .p (.int .i64 id)] [] = some (.p (.int .i64 (idxOf t.nodes id)), []) := by
  refine V_wp (vf := vf60) rfl ?_
  have hc := indexFunc_eq t.nodes id hl
  simp -implicitDefEqProofs (disch := omega) only [vf60, vb60, hc, go_sem, ↓reduceIte, Nat.reduceAdd, Nat.reduceSub, Nat.reduceEqDiff, Nat.reduceLeDiff, reduceCtorEq]

theorem idxOf_lt (ns : List Nd) (id : Int) : (idxOf ns id < 0 ∧ findN ns id = none) ∨ ∃ (k : Nat) (m : Nd), idxOf ns id = k ∧ ns[k]? = some m ∧ findN ns id = some m ∧ m.id = id := by
  unfold idxOf findN
  cases h : ns.findIdx? (fun n => decide (n.id = id)) with
  | none =>
    left
    rw [List.findIdx?_eq_none_iff] at h
    exact ⟨by show (-1 : Int) < 0; omega, List.find?_eq_none.2 fun x hx => by simp [h x hx]⟩
  | some k =>
    right
    rw [List.findIdx?_eq_some_iff_getElem] at h
    obtain ⟨h1, h2, h3⟩ := h
    refine ⟨k, ns[k], rfl, List.getElem?_eq_getElem h1, find_take_none (k := k) (fun i n hi hn => ?_) (List.getElem?_eq_getElem h1) h2, by simpa using h2⟩
    have := h3 i hi
    rw [← (List.getElem?_eq_some_iff.1 hn).2]
    simpa using this

theorem ffind_eq (t : Tr) (id : Int) (hl : t.nodes.length < 1000000) : V 45 [t.vv, .p (.int .i64 id)] [] = some (.tup [((findN t.nodes id).getD zeroNd).vv, .p (.bool (findN t.nodes id).isSome)], []) := by
  refine V_wp (vf := vf45) rfl ?_
  have hc := at_eq t id hl
  rcases idxOf_lt t.nodes id with ⟨h1, h2⟩ | ⟨k, m, h1, h2, h3, h4⟩
  · simp -implicitDefEqProofs (disch := omega) only [vf45, vb45, hc, h1, go_sem, ↓reduceIte, Nat.reduceAdd, Nat.reduceSub, Nat.reduceEqDiff, Nat.reduceLeDiff, reduceCtorEq]
    simp [h2, zeroNd, Nd.vv]
  · rw [h1] at hc
    have hk : ¬ (k : Int) < 0 := by omega
    simp -implicitDefEqProofs (disch := omega) only [vf45, vb45, hc, hk, h2, go_sem, ↓reduceIte, Nat.reduceAdd, Nat.reduceSub, Nat.reduceEqDiff, Nat.reduceLeDiff, reduceCtorEq]
    simp [h3, Nd.vv]

/-- The way up, in the program's own steps. -/
def ancF (ns : List Nd) : Nat → Int → List Int
  | 0, _ => []
  | k + 1, id => match findN ns id with
    | none => []
    | some n => id :: ancF ns k n.parent
theorem ancF_length (ns : List Nd) : ∀ (k : Nat) (id : Int), (ancF ns k id).length ≤ k
  | 0, _ => Nat.le_refl _
  | k + 1, id => by
    unfold ancF
    split
    · simp
    · have := ancF_length ns k
      simp
      exact this _

theorem fanc_eq (t : Tr) (id : Int) (hl : t.nodes.length < 1000000) : V 43 [t.vv, .p (.int .i64 id)] [] = some (.fresh 1 ((ancF t.nodes t.nodes.length id).map (.int .i64)), []) := by
  refine V_wp (vf := vf43) rfl ?_
  simp -implicitDefEqProofs (disch := omega) only [vf43, vb43, go_sem, ↓reduceIte, Nat.reduceAdd, Nat.reduceSub, Nat.reduceEqDiff, Nat.reduceLeDiff, reduceCtorEq]
  refine wp_count t.nodes.length (fun k s => ∃ (acc : List Int) (cur : Int) (v : Nat), ancF t.nodes t.nodes.length id = acc ++ ancF t.nodes (t.nodes.length - k) cur ∧ acc.length ≤ k ∧ s.pe 1 = .p (.int .i64 cur) ∧ s.pe 2 = .ptr (.slot 2 0) 0 0 ∧ s.pe 5 = .own (.slot 5 0) v 0 acc.length ∧ s.pe 10 = .p (.int .i64 t.nodes.length) ∧ s.pe 11 = .p (.int .i64 k) ∧ s.h (.slot 2 0) = some (0, .box [.p (nodesP t.nodes), .p (.int .i64 t.next)]) ∧ s.h (.slot 5 0) = some (v, .arr 1 (acc.map (.int .i64)))) ?_ ?_
  · exact ⟨[], id, 0, by simp, by simp, rfl, rfl, rfl, rfl, rfl, rfl, rfl⟩
  · rintro k s hk ⟨acc, cur, v, hup, hlen, h1, h2, h5, h10, h11, hh2, hh5⟩
    simp -implicitDefEqProofs (disch := omega) only [h1, h2, h5, h10, h11, hh2, hh5, go_sem, ↓reduceIte, Nat.reduceAdd, Nat.reduceSub, Nat.reduceEqDiff, Nat.reduceLeDiff, reduceCtorEq]
    refine wp_if_d (fun hlt => ?_) (fun hge => ?_)
    · have hc := ffind_eq t cur hl
      obtain ⟨d, hd⟩ : ∃ d, t.nodes.length - k = d + 1 := ⟨t.nodes.length - k - 1, by omega⟩
      have hd' : t.nodes.length - (k + 1) = d := by omega
      rw [hd, ancF] at hup
      cases hf : findN t.nodes cur with
      | none =>
        rw [hf] at hc hup
        simp only [Option.getD_none, Option.isSome_none, List.append_nil] at hc hup
        unfold Nd.vv zeroNd at hc
        simp -implicitDefEqProofs (disch := omega) only [h1, h2, h5, h10, h11, hh2, hh5, hc, go_sem, ↓reduceIte, Nat.reduceAdd, Nat.reduceSub, Nat.reduceEqDiff, Nat.reduceLeDiff, reduceCtorEq]
        rw [hup]
      | some m =>
        rw [hf] at hc hup
        simp only [Option.getD_some, Option.isSome_some] at hc hup
        unfold Nd.vv at hc
        simp -implicitDefEqProofs (disch := omega) only [h1, h2, h5, h10, h11, hh2, hh5, hc, go_sem, ↓reduceIte, Nat.reduceAdd, Nat.reduceSub, Nat.reduceEqDiff, Nat.reduceLeDiff, reduceCtorEq]
        exact ⟨hlt, acc ++ [cur], m.parent, v + 1, by rw [hup, hd']; simp, by simp; omega, rfl, by simp, by simp only [Int.natCast_add, Int.natCast_one], by simp⟩
    · have hz : t.nodes.length - k = 0 := by omega
      rw [hz, ancF, List.append_nil] at hup
      simp -implicitDefEqProofs (disch := omega) only [h1, h2, h5, h10, h11, hh2, hh5, hge, go_sem, ↓reduceIte, Nat.reduceAdd, Nat.reduceSub, Nat.reduceEqDiff, Nat.reduceLeDiff, reduceCtorEq]
      rw [hup]

end Go.V

