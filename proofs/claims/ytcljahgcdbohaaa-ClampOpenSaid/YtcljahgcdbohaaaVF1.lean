/- The value machine V at work: dice, lists of numbers, trees. -/
import Derived.Test.YtcljahgcdbohaaaVProg
import Derived.Test.YtcljahgcdbohaaaVMono
set_option linter.unusedSimpArgs false
set_option linter.unusedVariables false
namespace Go.V

noncomputable abbrev V : Sig := vcall prog (fun _ _ _ => none)

theorem V_fix {f : FuncId} {vf : VFunc} (hf : prog f = some vf) {args : List VVal} {H : List Ob} {r : VVal × List Ob} (h : callF V vf args H = some r) : V f args H = some r := vcall_fix (fun _ _ => rfl) hf h
theorem V_wp {f : FuncId} {vf : VFunc} (hf : prog f = some vf) {args : List VVal} {H : List Ob} {r : VVal × List Ob} (h : wp (callF V vf args H) (· = r)) : V f args H = some r := V_fix hf (eq_of_wp h)

structure Nd where
  id : Int
  parent : Int
  name : ByteArray
  control : Int
  kind : Int
  owner : Int
  deriving DecidableEq

def Nd.pv (n : Nd) : PV := .agg [.int .i64 n.id, .int .i64 n.parent, .str n.name, .int .i64 n.control, .int .i64 n.kind, .int .i64 n.owner]
def Nd.vv (n : Nd) : VVal := .agg [.p (.int .i64 n.id), .p (.int .i64 n.parent), .p (.str n.name), .p (.int .i64 n.control), .p (.int .i64 n.kind), .p (.int .i64 n.owner)]
abbrev nodesP (ns : List Nd) : PV := .slice 6 (ns.map Nd.pv)
structure Tr where
  nodes : List Nd
  next : Int
abbrev Tr.vv (t : Tr) : VVal := .agg [.p (nodesP t.nodes), .p (.int .i64 t.next)]
abbrev Tr.fv (t : Tr) : VVal := .agg [.fresh 6 (t.nodes.map Nd.pv), .p (.int .i64 t.next)]
abbrev intsP (xs : List Int) : PV := .slice 1 (xs.map (.int .i64))

attribute [go_sem] Nd.pv solid

theorem nodes_flat (ns : List Nd) : (ns.map Nd.pv).all PV.flat = true := by
  rw [List.all_eq_true]
  intro x hx
  obtain ⟨n, _, rfl⟩ := List.mem_map.1 hx
  rfl
theorem ints_flat (k : IntKind) (xs : List Int) : (xs.map (PV.int k)).all PV.flat = true := by
  rw [List.all_eq_true]
  intro x hx
  obtain ⟨n, _, rfl⟩ := List.mem_map.1 hx
  rfl
attribute [go_sem] nodes_flat ints_flat

/-! ### dice -/

theorem light_eq (xs : List PV) : V 20 [.p (.slice 1 xs)] [] = some (.p (.bool (decide (xs.length ≤ 600))), []) := by
  refine V_fix (vf := vf20) rfl ?_
  simp -implicitDefEqProofs (disch := omega) only [vf20, vb20, go_sem, ↓reduceIte, Nat.reduceAdd, Nat.reduceSub, Nat.reduceEqDiff, Nat.reduceLeDiff, reduceCtorEq]
  simp only [show (600 : Int) = ((600 : Nat) : Int) from rfl, Int.ofNat_le]

abbrev diceB (L : List Int) (a : Nat) : Ob := .box [.p (intsP L), .p (.int .i64 a)]

theorem roll_eq (L : List Int) : V 22 [.p (intsP L)] [] = some (.boxed [.p (intsP L), .p (.int .i64 0)], []) := by
  refine V_fix (vf := vf22) rfl ?_
  simp -implicitDefEqProofs (disch := omega) only [vf22, vb22, go_sem, ↓reduceIte, Nat.reduceAdd, Nat.reduceSub, Nat.reduceEqDiff, Nat.reduceLeDiff, reduceCtorEq]

def nextV (L : List Int) (a : Nat) (n : Int) : Int := if 1 ≤ n then (L.getD a 0) % n else 0
def nextA (L : List Int) (a : Nat) (n : Int) : Nat := if a < L.length ∧ 1 ≤ n then a + 1 else a

theorem emod_tmod {x n : Int} (h : 1 ≤ n) : x % n = if x.tmod n < 0 then x.tmod n + n else x.tmod n := by
  have h3 := Int.emod_nonneg x (show n ≠ 0 by omega)
  have h4 := Int.emod_lt_of_pos x (show 0 < n by omega)
  have h5 := Int.tmod_eq_emod (a := x) (b := n)
  rw [h5]
  split <;> split <;> omega

theorem next_eq (L : List Int) (a : Nat) (n : Int) (hL : L.length < 4611686018427387904) (hn : n < 4611686018427387904) : V 27 [.ptr (.arg 0 0) 0 0, .p (.int .i64 n)] [diceB L a] = some (.p (.int .i64 (nextV L a n)), [diceB L (nextA L a n)]) := by
  refine V_wp (vf := vf27) rfl ?_
  by_cases ha : L.length ≤ a
  · simp -implicitDefEqProofs (disch := omega) only [vf27, vb27, ha, go_sem, ↓reduceIte, Nat.reduceAdd, Nat.reduceSub, Nat.reduceEqDiff, Nat.reduceLeDiff, reduceCtorEq]
    simp [nextV, nextA, List.getD_eq_getElem?_getD, List.getElem?_eq_none ha, Nat.not_lt.2 ha]
  · have hx : L[a]? = some (L.getD a 0) := by
      rw [List.getD_eq_getElem?_getD, List.getElem?_eq_getElem (by omega)]; rfl
    have ht : (((a : Int) + 1 - 1).toNat) = a := by omega
    simp -implicitDefEqProofs (disch := omega) only [vf27, vb27, ha, go_sem, ↓reduceIte, Nat.reduceAdd, Nat.reduceSub, Nat.reduceEqDiff, Nat.reduceLeDiff, reduceCtorEq]
    repeat' (first | (refine wp_grn_d (fun hb => ?_) (fun hb => ?_) <;> simp -implicitDefEqProofs (disch := omega) only [hb, hx, ht, go_sem, ↓reduceIte, Nat.reduceAdd, Nat.reduceSub, Nat.reduceEqDiff, Nat.reduceLeDiff, reduceCtorEq]) | (refine wp_gtn_d (fun hb => ?_) (fun hb => ?_) <;> simp -implicitDefEqProofs (disch := omega) only [hb, hx, ht, go_sem, ↓reduceIte, Nat.reduceAdd, Nat.reduceSub, Nat.reduceEqDiff, Nat.reduceLeDiff, reduceCtorEq]) | (refine wp_gr_d (fun hb => ?_) (fun hb => ?_) <;> simp -implicitDefEqProofs (disch := omega) only [hb, hx, ht, go_sem, ↓reduceIte, Nat.reduceAdd, Nat.reduceSub, Nat.reduceEqDiff, Nat.reduceLeDiff, reduceCtorEq]) | (refine wp_gt_d (fun hb => ?_) (fun hb => ?_) <;> simp -implicitDefEqProofs (disch := omega) only [hb, hx, ht, go_sem, ↓reduceIte, Nat.reduceAdd, Nat.reduceSub, Nat.reduceEqDiff, Nat.reduceLeDiff, reduceCtorEq]) | (refine wp_gr (fun hb => ?_) (fun hb => ?_) <;> simp -implicitDefEqProofs (disch := omega) only [hb, hx, ht, go_sem, ↓reduceIte, Nat.reduceAdd, Nat.reduceSub, Nat.reduceEqDiff, Nat.reduceLeDiff, reduceCtorEq]) | (refine wp_gt (fun hb => ?_) (fun hb => ?_) <;> simp -implicitDefEqProofs (disch := omega) only [hb, hx, ht, go_sem, ↓reduceIte, Nat.reduceAdd, Nat.reduceSub, Nat.reduceEqDiff, Nat.reduceLeDiff, reduceCtorEq]) | (refine wp_nt_d (fun hb => ?_) (fun hb => ?_) <;> simp -implicitDefEqProofs (disch := omega) only [hb, hx, ht, go_sem, ↓reduceIte, Nat.reduceAdd, Nat.reduceSub, Nat.reduceEqDiff, Nat.reduceLeDiff, reduceCtorEq]) | (refine wp_nt (fun hb => ?_) (fun hb => ?_) <;> simp -implicitDefEqProofs (disch := omega) only [hb, hx, ht, go_sem, ↓reduceIte, Nat.reduceAdd, Nat.reduceSub, Nat.reduceEqDiff, Nat.reduceLeDiff, reduceCtorEq]) | (refine wp_if_d (fun hb => ?_) (fun hb => ?_) <;> simp -implicitDefEqProofs (disch := omega) only [hb, hx, ht, go_sem, ↓reduceIte, Nat.reduceAdd, Nat.reduceSub, Nat.reduceEqDiff, Nat.reduceLeDiff, reduceCtorEq]) | (refine wp_if (fun hb => ?_) (fun hb => ?_) <;> simp -implicitDefEqProofs (disch := omega) only [hb, hx, ht, go_sem, ↓reduceIte, Nat.reduceAdd, Nat.reduceSub, Nat.reduceEqDiff, Nat.reduceLeDiff, reduceCtorEq]))
    · simp [nextV, nextA, show ¬ 1 ≤ n by omega]
    · have := emod_tmod (x := L.getD a 0) (n := n) (by omega)
      rw [if_pos (by assumption)] at this
      have h1 := Int.tmod_lt_of_pos (L.getD a 0) (show 0 < n by omega)
      have h2 := Int.emod_nonneg (L.getD a 0) (show n ≠ 0 by omega)
      rw [wrap64 (by omega) (by omega), ← this]
      simp only [nextV, nextA, show 1 ≤ n by omega, show a < L.length by omega, and_self, if_true, diceB, Int.natCast_add, Int.natCast_one]
    · have := emod_tmod (x := L.getD a 0) (n := n) (by omega)
      rw [if_neg (by assumption)] at this
      rw [← this]
      simp only [nextV, nextA, show 1 ≤ n by omega, show a < L.length by omega, and_self, if_true, diceB, Int.natCast_add, Int.natCast_one]
theorem nextV_nonneg (L : List Int) (a : Nat) (n : Int) : 0 ≤ nextV L a n := by
  unfold nextV
  split
  · exact Int.emod_nonneg _ (by omega)
  · omega
theorem nextV_lt (L : List Int) (a : Nat) {n : Int} (h : 1 ≤ n) : nextV L a n < n := by
  unfold nextV
  rw [if_pos h]
  exact Int.emod_lt_of_pos _ (by omega)
theorem nextA_le (L : List Int) (a : Nat) (n : Int) (h : a ≤ L.length) : nextA L a n ≤ L.length := by
  unfold nextA
  split <;> omega

/-! ### trees -/

theorem take_map_self {α β : Type} (f : α → β) (l : List α) : List.take l.length (l.map f) = l.map f := by
  rw [List.take_of_length_le (by simp)]
theorem take_map_snoc {α β : Type} (f : α → β) (l : List α) (x : β) : List.take (l.length + 1) (l.map f ++ [x]) = l.map f ++ [x] := by
  rw [List.take_of_length_le (by simp)]
attribute [go_sem] take_map_self take_map_snoc

def upR : List Nd → Int → List Int
  | [], _ => []
  | n :: ns, id => if n.id = id then id :: upR ns n.parent else upR ns id
def up (ns : List Nd) (id : Int) : List Int := upR ns.reverse id

theorem upR_length : ∀ (ns : List Nd) (id : Int), (upR ns id).length ≤ ns.length
  | [], _ => Nat.le_refl _
  | n :: ns, id => by
    unfold upR
    split
    · have := upR_length ns n.parent; simp; omega
    · have := upR_length ns id; simp; omega

theorem up_eq (t : Tr) (id : Int) (hl : t.nodes.length < 1000000) : V 77 [t.vv, .p (.int .i64 id)] [] = some (.fresh 1 ((up t.nodes id).map (.int .i64)), []) := by
  refine V_wp (vf := vf77) rfl ?_
  simp -implicitDefEqProofs (disch := omega) only [vf77, vb77, go_sem, ↓reduceIte, Nat.reduceAdd, Nat.reduceSub, Nat.reduceEqDiff, Nat.reduceLeDiff, reduceCtorEq]
  refine wp_count t.nodes.length (fun k s => ∃ (acc : List Int) (cur : Int) (v : Nat), up t.nodes id = acc ++ upR (t.nodes.reverse.drop k) cur ∧ acc.length ≤ k ∧ s.pe 1 = .p (.int .i64 cur) ∧ s.pe 2 = .ptr (.slot 2 0) 0 0 ∧ s.pe 5 = .own (.slot 5 0) v 0 acc.length ∧ s.pe 6 = .p (.int .i64 ((t.nodes.length : Int) - 1 - k)) ∧ s.h (.slot 2 0) = some (0, .box [.p (nodesP t.nodes), .p (.int .i64 t.next)]) ∧ s.h (.slot 5 0) = some (v, .arr 1 (acc.map (.int .i64)))) ?_ ?_
  · exact ⟨[], id, 0, by simp [up, enterE, updV, VHeap.upd, enterH, List.getD]⟩
  · rintro k s hk ⟨acc, cur, v, hup, hlen, h1, h2, h5, h6, hh2, hh5⟩
    simp -implicitDefEqProofs (disch := omega) only [h1, h2, h5, h6, hh2, hh5, go_sem, ↓reduceIte, Nat.reduceAdd, Nat.reduceSub, Nat.reduceEqDiff, Nat.reduceLeDiff, reduceCtorEq]
    refine wp_if_d (fun hge => ?_) (fun hlt => ?_)
    · have hk' : k < t.nodes.length := by omega
      have hn : t.nodes[((t.nodes.length : Int) - 1 - k).toNat]? = some t.nodes[t.nodes.length - 1 - k] := by
        rw [show ((t.nodes.length : Int) - 1 - k).toNat = t.nodes.length - 1 - k by omega]
        exact List.getElem?_eq_getElem (by omega)
      have hd : t.nodes.reverse.drop k = t.nodes[t.nodes.length - 1 - k] :: t.nodes.reverse.drop (k + 1) := by
        rw [List.drop_eq_getElem_cons (by simpa using hk')]
        simp
      generalize t.nodes[t.nodes.length - 1 - k] = n at hn hd
      rw [hd] at hup
      simp -implicitDefEqProofs (disch := omega) only [h1, h2, h5, h6, hh2, hh5, hn, hge, go_sem, ↓reduceIte, Nat.reduceAdd, Nat.reduceSub, Nat.reduceEqDiff, Nat.reduceLeDiff, reduceCtorEq]
      repeat' (first | (refine wp_grn_d (fun hb => ?_) (fun hb => ?_) <;> simp -implicitDefEqProofs (disch := omega) only [hb, h1, h2, h5, h6, hh2, hh5, hn, hge, go_sem, ↓reduceIte, Nat.reduceAdd, Nat.reduceSub, Nat.reduceEqDiff, Nat.reduceLeDiff, reduceCtorEq]) | (refine wp_gtn_d (fun hb => ?_) (fun hb => ?_) <;> simp -implicitDefEqProofs (disch := omega) only [hb, h1, h2, h5, h6, hh2, hh5, hn, hge, go_sem, ↓reduceIte, Nat.reduceAdd, Nat.reduceSub, Nat.reduceEqDiff, Nat.reduceLeDiff, reduceCtorEq]) | (refine wp_gr_d (fun hb => ?_) (fun hb => ?_) <;> simp -implicitDefEqProofs (disch := omega) only [hb, h1, h2, h5, h6, hh2, hh5, hn, hge, go_sem, ↓reduceIte, Nat.reduceAdd, Nat.reduceSub, Nat.reduceEqDiff, Nat.reduceLeDiff, reduceCtorEq]) | (refine wp_gt_d (fun hb => ?_) (fun hb => ?_) <;> simp -implicitDefEqProofs (disch := omega) only [hb, h1, h2, h5, h6, hh2, hh5, hn, hge, go_sem, ↓reduceIte, Nat.reduceAdd, Nat.reduceSub, Nat.reduceEqDiff, Nat.reduceLeDiff, reduceCtorEq]) | (refine wp_gr (fun hb => ?_) (fun hb => ?_) <;> simp -implicitDefEqProofs (disch := omega) only [hb, h1, h2, h5, h6, hh2, hh5, hn, hge, go_sem, ↓reduceIte, Nat.reduceAdd, Nat.reduceSub, Nat.reduceEqDiff, Nat.reduceLeDiff, reduceCtorEq]) | (refine wp_gt (fun hb => ?_) (fun hb => ?_) <;> simp -implicitDefEqProofs (disch := omega) only [hb, h1, h2, h5, h6, hh2, hh5, hn, hge, go_sem, ↓reduceIte, Nat.reduceAdd, Nat.reduceSub, Nat.reduceEqDiff, Nat.reduceLeDiff, reduceCtorEq]) | (refine wp_nt_d (fun hb => ?_) (fun hb => ?_) <;> simp -implicitDefEqProofs (disch := omega) only [hb, h1, h2, h5, h6, hh2, hh5, hn, hge, go_sem, ↓reduceIte, Nat.reduceAdd, Nat.reduceSub, Nat.reduceEqDiff, Nat.reduceLeDiff, reduceCtorEq]) | (refine wp_nt (fun hb => ?_) (fun hb => ?_) <;> simp -implicitDefEqProofs (disch := omega) only [hb, h1, h2, h5, h6, hh2, hh5, hn, hge, go_sem, ↓reduceIte, Nat.reduceAdd, Nat.reduceSub, Nat.reduceEqDiff, Nat.reduceLeDiff, reduceCtorEq]) | (refine wp_if_d (fun hb => ?_) (fun hb => ?_) <;> simp -implicitDefEqProofs (disch := omega) only [hb, h1, h2, h5, h6, hh2, hh5, hn, hge, go_sem, ↓reduceIte, Nat.reduceAdd, Nat.reduceSub, Nat.reduceEqDiff, Nat.reduceLeDiff, reduceCtorEq]) | (refine wp_if (fun hb => ?_) (fun hb => ?_) <;> simp -implicitDefEqProofs (disch := omega) only [hb, h1, h2, h5, h6, hh2, hh5, hn, hge, go_sem, ↓reduceIte, Nat.reduceAdd, Nat.reduceSub, Nat.reduceEqDiff, Nat.reduceLeDiff, reduceCtorEq]))
      · rw [upR, if_pos (by assumption)] at hup
        refine ⟨hk', acc ++ [cur], n.parent, v + 1, by rw [hup]; simp, by simp; omega, rfl, by simp, by congr 2; omega, by simp⟩
      · rw [upR, if_neg (by assumption)] at hup
        exact ⟨hk', acc, cur, v, hup, by omega, rfl, rfl, by congr 2; omega, rfl⟩
    · have hd : t.nodes.reverse.drop k = [] := List.drop_of_length_le (by simp; omega)
      rw [hd, upR, List.append_nil] at hup
      simp -implicitDefEqProofs (disch := omega) only [h1, h2, h5, h6, hh2, hh5, hup, go_sem, ↓reduceIte, Nat.reduceAdd, Nat.reduceSub, Nat.reduceEqDiff, Nat.reduceLeDiff, reduceCtorEq]

/-! ### names -/

def innerB (c : Int) : Bool := decide (97 ≤ c ∧ c ≤ 122) || decide (65 ≤ c ∧ c ≤ 90) || decide (48 ≤ c ∧ c ≤ 57) || decide (c = 95) || decide (c = 45)
def validN (s : ByteArray) : Bool := decide (s.size ≠ 0) && decide (s.size ≤ 32) && decide (s.data.toList[0]? ≠ some 45) && s.data.toList.all fun b => innerB b.toNat

theorem innerB_true {c : Int} (h : (97 ≤ c ∧ c ≤ 122) ∨ (65 ≤ c ∧ c ≤ 90) ∨ (48 ≤ c ∧ c ≤ 57) ∨ c = 95 ∨ c = 45) : innerB c = true := by
  simp only [innerB, Bool.or_eq_true, decide_eq_true_eq]
  omega
theorem innerB_false {c : Int} (h : ¬ ((97 ≤ c ∧ c ≤ 122) ∨ (65 ≤ c ∧ c ≤ 90) ∨ (48 ≤ c ∧ c ≤ 57) ∨ c = 95 ∨ c = 45)) : innerB c = false := by
  rw [Bool.eq_false_iff]
  intro h1
  simp only [innerB, Bool.or_eq_true, decide_eq_true_eq] at h1
  omega
theorem inner_eq (c : Int) : V 130 [.p (.int .u8 c)] [] = some (.p (.bool (innerB c)), []) := by
  refine V_wp (vf := vf130) rfl ?_
  simp -implicitDefEqProofs (disch := omega) only [vf130, vb130, go_sem, ↓reduceIte, Nat.reduceAdd, Nat.reduceSub, Nat.reduceEqDiff, Nat.reduceLeDiff, reduceCtorEq]
  repeat' (first | (refine wp_grn_d (fun hb => ?_) (fun hb => ?_) <;> simp -implicitDefEqProofs (disch := omega) only [hb, go_sem, ↓reduceIte, Nat.reduceAdd, Nat.reduceSub, Nat.reduceEqDiff, Nat.reduceLeDiff, reduceCtorEq]) | (refine wp_gtn_d (fun hb => ?_) (fun hb => ?_) <;> simp -implicitDefEqProofs (disch := omega) only [hb, go_sem, ↓reduceIte, Nat.reduceAdd, Nat.reduceSub, Nat.reduceEqDiff, Nat.reduceLeDiff, reduceCtorEq]) | (refine wp_gr_d (fun hb => ?_) (fun hb => ?_) <;> simp -implicitDefEqProofs (disch := omega) only [hb, go_sem, ↓reduceIte, Nat.reduceAdd, Nat.reduceSub, Nat.reduceEqDiff, Nat.reduceLeDiff, reduceCtorEq]) | (refine wp_gt_d (fun hb => ?_) (fun hb => ?_) <;> simp -implicitDefEqProofs (disch := omega) only [hb, go_sem, ↓reduceIte, Nat.reduceAdd, Nat.reduceSub, Nat.reduceEqDiff, Nat.reduceLeDiff, reduceCtorEq]) | (refine wp_gr (fun hb => ?_) (fun hb => ?_) <;> simp -implicitDefEqProofs (disch := omega) only [hb, go_sem, ↓reduceIte, Nat.reduceAdd, Nat.reduceSub, Nat.reduceEqDiff, Nat.reduceLeDiff, reduceCtorEq]) | (refine wp_gt (fun hb => ?_) (fun hb => ?_) <;> simp -implicitDefEqProofs (disch := omega) only [hb, go_sem, ↓reduceIte, Nat.reduceAdd, Nat.reduceSub, Nat.reduceEqDiff, Nat.reduceLeDiff, reduceCtorEq]) | (refine wp_nt_d (fun hb => ?_) (fun hb => ?_) <;> simp -implicitDefEqProofs (disch := omega) only [hb, go_sem, ↓reduceIte, Nat.reduceAdd, Nat.reduceSub, Nat.reduceEqDiff, Nat.reduceLeDiff, reduceCtorEq]) | (refine wp_nt (fun hb => ?_) (fun hb => ?_) <;> simp -implicitDefEqProofs (disch := omega) only [hb, go_sem, ↓reduceIte, Nat.reduceAdd, Nat.reduceSub, Nat.reduceEqDiff, Nat.reduceLeDiff, reduceCtorEq]) | (refine wp_if_d (fun hb => ?_) (fun hb => ?_) <;> simp -implicitDefEqProofs (disch := omega) only [hb, go_sem, ↓reduceIte, Nat.reduceAdd, Nat.reduceSub, Nat.reduceEqDiff, Nat.reduceLeDiff, reduceCtorEq]) | (refine wp_if (fun hb => ?_) (fun hb => ?_) <;> simp -implicitDefEqProofs (disch := omega) only [hb, go_sem, ↓reduceIte, Nat.reduceAdd, Nat.reduceSub, Nat.reduceEqDiff, Nat.reduceLeDiff, reduceCtorEq]))
  all_goals
    simp only [innerB, Prod.mk.injEq, VVal.p.injEq, PV.bool.injEq, and_true]
    rw [Bool.eq_iff_iff]
    simp only [Bool.or_eq_true, decide_eq_true_eq, true_iff, Bool.false_eq_true, false_iff]
    first | omega | simp

theorem size_list (s : ByteArray) : s.size = s.data.toList.length := rfl

/-- A loop over a name's bytes. -/
theorem all_take {α : Type} {p : α → Bool} {l : List α} {k : Nat} (h : (l.take k).all p = true) {x : α} (hx : l[k]? = some x) (hp : p x = true) : (l.take (k + 1)).all p = true := by
  rw [List.take_add_one, hx]
  simp only [List.all_append, h, Option.toList, List.all_cons, List.all_nil, hp, Bool.and_self]
theorem all_not {α : Type} {p : α → Bool} {l : List α} {k : Nat} {x : α} (hx : l[k]? = some x) (hp : p x = false) : l.all p = false := by
  rw [List.all_eq_false]
  exact ⟨x, List.mem_of_getElem? hx, by simp [hp]⟩

theorem toNat_45 (x : UInt8) : ((x.toNat : Int) = 45) = (x = 45) := by
  rw [eq_iff_iff]
  constructor
  · intro h
    have : x.toNat = (45 : UInt8).toNat := by simp; omega
    exact UInt8.toNat_inj.1 this
  · rintro rfl
    rfl

theorem rvalid_eq (s : ByteArray) : V 110 [.p (.str s)] [] = some (.p (.bool (validN s)), []) := by
  refine V_wp (vf := vf110) rfl ?_
  have hs := size_list s
  by_cases h0 : (s.size : Int) = 0
  · simp -implicitDefEqProofs (disch := omega) only [vf110, vb110, ba_get, h0, go_sem, ↓reduceIte, Nat.reduceAdd, Nat.reduceSub, Nat.reduceEqDiff, Nat.reduceLeDiff, reduceCtorEq]
    simp [validN, show s.size = 0 by omega]
  · by_cases h1 : 32 < (s.size : Int)
    · simp -implicitDefEqProofs (disch := omega) only [vf110, vb110, ba_get, h0, h1, go_sem, ↓reduceIte, Nat.reduceAdd, Nat.reduceSub, Nat.reduceEqDiff, Nat.reduceLeDiff, reduceCtorEq]
      simp [validN, show ¬ s.size ≤ 32 by omega]
    · have hx : s.data.toList[0]? = some s.data.toList[0] := List.getElem?_eq_getElem (by omega)
      generalize s.data.toList[0] = x at hx
      have hz : (0 : Int).toNat = 0 := rfl
      simp -implicitDefEqProofs (disch := omega) only [vf110, vb110, ba_get, h0, h1, hx, hz, go_sem, ↓reduceIte, Nat.reduceAdd, Nat.reduceSub, Nat.reduceEqDiff, Nat.reduceLeDiff, reduceCtorEq]
      by_cases h45 : x = 45
      · have h45' : ((x.toNat : Nat) : Int) = 45 := by rw [toNat_45]; exact h45
        simp -implicitDefEqProofs (disch := omega) only [h45', go_sem, ↓reduceIte, Nat.reduceAdd, Nat.reduceSub, Nat.reduceEqDiff, Nat.reduceLeDiff, reduceCtorEq]
        simp [validN, hx, h45]
      · have h45' : ¬ ((x.toNat : Nat) : Int) = 45 := by rw [toNat_45]; exact h45
        simp -implicitDefEqProofs (disch := omega) only [h45', go_sem, ↓reduceIte, Nat.reduceAdd, Nat.reduceSub, Nat.reduceEqDiff, Nat.reduceLeDiff, reduceCtorEq]
        refine wp_count s.size (fun k t => (s.data.toList.take k).all (fun b => innerB b.toNat) = true ∧ t.pe 0 = .p (.str s) ∧ t.pe 3 = .p (.int .i64 k)) ?_ ?_
        · simp [enterE, updV]
        · rintro k t hk ⟨hall, h2, h3⟩
          simp -implicitDefEqProofs (disch := omega) only [h2, h3, go_sem, ↓reduceIte, Nat.reduceAdd, Nat.reduceSub, Nat.reduceEqDiff, Nat.reduceLeDiff, reduceCtorEq]
          refine wp_if_d (fun hlt => ?_) (fun hge => ?_)
          · have hy : s.data.toList[k]? = some s.data.toList[k] := List.getElem?_eq_getElem (by omega)
            generalize s.data.toList[k] = y at hy
            simp -implicitDefEqProofs (disch := omega) only [h2, h3, ba_get, hy, hlt, go_sem, ↓reduceIte, Nat.reduceAdd, Nat.reduceSub, Nat.reduceEqDiff, Nat.reduceLeDiff, reduceCtorEq]
            repeat' (first | (refine wp_grn_d (fun hb => ?_) (fun hb => ?_) <;> simp -implicitDefEqProofs (disch := omega) only [hb, ba_get, hy, h2, h3, go_sem, ↓reduceIte, Nat.reduceAdd, Nat.reduceSub, Nat.reduceEqDiff, Nat.reduceLeDiff, reduceCtorEq]) | (refine wp_gtn_d (fun hb => ?_) (fun hb => ?_) <;> simp -implicitDefEqProofs (disch := omega) only [hb, ba_get, hy, h2, h3, go_sem, ↓reduceIte, Nat.reduceAdd, Nat.reduceSub, Nat.reduceEqDiff, Nat.reduceLeDiff, reduceCtorEq]) | (refine wp_gr_d (fun hb => ?_) (fun hb => ?_) <;> simp -implicitDefEqProofs (disch := omega) only [hb, ba_get, hy, h2, h3, go_sem, ↓reduceIte, Nat.reduceAdd, Nat.reduceSub, Nat.reduceEqDiff, Nat.reduceLeDiff, reduceCtorEq]) | (refine wp_gt_d (fun hb => ?_) (fun hb => ?_) <;> simp -implicitDefEqProofs (disch := omega) only [hb, ba_get, hy, h2, h3, go_sem, ↓reduceIte, Nat.reduceAdd, Nat.reduceSub, Nat.reduceEqDiff, Nat.reduceLeDiff, reduceCtorEq]) | (refine wp_gr (fun hb => ?_) (fun hb => ?_) <;> simp -implicitDefEqProofs (disch := omega) only [hb, ba_get, hy, h2, h3, go_sem, ↓reduceIte, Nat.reduceAdd, Nat.reduceSub, Nat.reduceEqDiff, Nat.reduceLeDiff, reduceCtorEq]) | (refine wp_gt (fun hb => ?_) (fun hb => ?_) <;> simp -implicitDefEqProofs (disch := omega) only [hb, ba_get, hy, h2, h3, go_sem, ↓reduceIte, Nat.reduceAdd, Nat.reduceSub, Nat.reduceEqDiff, Nat.reduceLeDiff, reduceCtorEq]) | (refine wp_nt_d (fun hb => ?_) (fun hb => ?_) <;> simp -implicitDefEqProofs (disch := omega) only [hb, ba_get, hy, h2, h3, go_sem, ↓reduceIte, Nat.reduceAdd, Nat.reduceSub, Nat.reduceEqDiff, Nat.reduceLeDiff, reduceCtorEq]) | (refine wp_nt (fun hb => ?_) (fun hb => ?_) <;> simp -implicitDefEqProofs (disch := omega) only [hb, ba_get, hy, h2, h3, go_sem, ↓reduceIte, Nat.reduceAdd, Nat.reduceSub, Nat.reduceEqDiff, Nat.reduceLeDiff, reduceCtorEq]) | (refine wp_if_d (fun hb => ?_) (fun hb => ?_) <;> simp -implicitDefEqProofs (disch := omega) only [hb, ba_get, hy, h2, h3, go_sem, ↓reduceIte, Nat.reduceAdd, Nat.reduceSub, Nat.reduceEqDiff, Nat.reduceLeDiff, reduceCtorEq]) | (refine wp_if (fun hb => ?_) (fun hb => ?_) <;> simp -implicitDefEqProofs (disch := omega) only [hb, ba_get, hy, h2, h3, go_sem, ↓reduceIte, Nat.reduceAdd, Nat.reduceSub, Nat.reduceEqDiff, Nat.reduceLeDiff, reduceCtorEq]))
            all_goals first
              | exact ⟨by omega, all_take hall hy (innerB_true (by omega)), by simp only [Int.natCast_add, Int.natCast_one]⟩
              | (have := all_not (p := fun b : UInt8 => innerB b.toNat) hy (innerB_false (by omega)); simp [validN, this])
          · simp -implicitDefEqProofs (disch := omega) only [h2, h3, hge, go_sem, ↓reduceIte, Nat.reduceAdd, Nat.reduceSub, Nat.reduceEqDiff, Nat.reduceLeDiff, reduceCtorEq]
            have hall' : s.data.toList.all (fun b => innerB b.toNat) = true := by rw [List.take_of_length_le (by omega)] at hall; exact hall
            simp only [validN, hall', hx, show s.size ≠ 0 by omega, show s.size ≤ 32 by omega, ne_eq, not_false_eq_true, decide_true, Bool.and_self, Option.some.injEq, h45]

theorem pvalid_eq (s : ByteArray) (hl : s.size < 4611686018427387904) : V 128 [.p (.str s)] [] = some (.p (.bool (validN s)), []) := by
  refine V_wp (vf := vf128) rfl ?_
  have hs := size_list s
  simp -implicitDefEqProofs (disch := omega) only [vf128, vb128, go_sem, ↓reduceIte, Nat.reduceAdd, Nat.reduceSub, Nat.reduceEqDiff, Nat.reduceLeDiff, reduceCtorEq]
  refine wp_count s.size (fun k t => (s.data.toList.take k).all (fun b => innerB b.toNat) = true ∧ t.pe 0 = .p (.str s) ∧ t.pe 6 = .p (.slice 1 (s.data.toList.map fun b => .int .u8 b.toNat)) ∧ t.pe 7 = .p (.int .i64 s.size) ∧ t.pe 8 = .p (.int .i64 k)) ?_ ?_
  · exact ⟨by simp, rfl, rfl, rfl, rfl⟩
  · rintro k t hk ⟨hall, h0, h6, h7, h8⟩
    simp -implicitDefEqProofs (disch := omega) only [h0, h6, h7, h8, go_sem, ↓reduceIte, Nat.reduceAdd, Nat.reduceSub, Nat.reduceEqDiff, Nat.reduceLeDiff, reduceCtorEq]
    refine wp_if_d (fun hlt => ?_) (fun hge => ?_)
    · have hy : s.data.toList[k]? = some s.data.toList[k] := List.getElem?_eq_getElem (by omega)
      generalize s.data.toList[k] = y at hy
      simp -implicitDefEqProofs (disch := omega) only [h0, h6, h7, h8, hy, hlt, inner_eq, go_sem, ↓reduceIte, Nat.reduceAdd, Nat.reduceSub, Nat.reduceEqDiff, Nat.reduceLeDiff, reduceCtorEq]
      repeat' (first | (refine wp_grn_d (fun hb => ?_) (fun hb => ?_) <;> simp -implicitDefEqProofs (disch := omega) only [hb, h0, h6, h7, h8, hy, inner_eq, go_sem, ↓reduceIte, Nat.reduceAdd, Nat.reduceSub, Nat.reduceEqDiff, Nat.reduceLeDiff, reduceCtorEq]) | (refine wp_gtn_d (fun hb => ?_) (fun hb => ?_) <;> simp -implicitDefEqProofs (disch := omega) only [hb, h0, h6, h7, h8, hy, inner_eq, go_sem, ↓reduceIte, Nat.reduceAdd, Nat.reduceSub, Nat.reduceEqDiff, Nat.reduceLeDiff, reduceCtorEq]) | (refine wp_gr_d (fun hb => ?_) (fun hb => ?_) <;> simp -implicitDefEqProofs (disch := omega) only [hb, h0, h6, h7, h8, hy, inner_eq, go_sem, ↓reduceIte, Nat.reduceAdd, Nat.reduceSub, Nat.reduceEqDiff, Nat.reduceLeDiff, reduceCtorEq]) | (refine wp_gt_d (fun hb => ?_) (fun hb => ?_) <;> simp -implicitDefEqProofs (disch := omega) only [hb, h0, h6, h7, h8, hy, inner_eq, go_sem, ↓reduceIte, Nat.reduceAdd, Nat.reduceSub, Nat.reduceEqDiff, Nat.reduceLeDiff, reduceCtorEq]) | (refine wp_gr (fun hb => ?_) (fun hb => ?_) <;> simp -implicitDefEqProofs (disch := omega) only [hb, h0, h6, h7, h8, hy, inner_eq, go_sem, ↓reduceIte, Nat.reduceAdd, Nat.reduceSub, Nat.reduceEqDiff, Nat.reduceLeDiff, reduceCtorEq]) | (refine wp_gt (fun hb => ?_) (fun hb => ?_) <;> simp -implicitDefEqProofs (disch := omega) only [hb, h0, h6, h7, h8, hy, inner_eq, go_sem, ↓reduceIte, Nat.reduceAdd, Nat.reduceSub, Nat.reduceEqDiff, Nat.reduceLeDiff, reduceCtorEq]) | (refine wp_nt_d (fun hb => ?_) (fun hb => ?_) <;> simp -implicitDefEqProofs (disch := omega) only [hb, h0, h6, h7, h8, hy, inner_eq, go_sem, ↓reduceIte, Nat.reduceAdd, Nat.reduceSub, Nat.reduceEqDiff, Nat.reduceLeDiff, reduceCtorEq]) | (refine wp_nt (fun hb => ?_) (fun hb => ?_) <;> simp -implicitDefEqProofs (disch := omega) only [hb, h0, h6, h7, h8, hy, inner_eq, go_sem, ↓reduceIte, Nat.reduceAdd, Nat.reduceSub, Nat.reduceEqDiff, Nat.reduceLeDiff, reduceCtorEq]) | (refine wp_if_d (fun hb => ?_) (fun hb => ?_) <;> simp -implicitDefEqProofs (disch := omega) only [hb, h0, h6, h7, h8, hy, inner_eq, go_sem, ↓reduceIte, Nat.reduceAdd, Nat.reduceSub, Nat.reduceEqDiff, Nat.reduceLeDiff, reduceCtorEq]) | (refine wp_if (fun hb => ?_) (fun hb => ?_) <;> simp -implicitDefEqProofs (disch := omega) only [hb, h0, h6, h7, h8, hy, inner_eq, go_sem, ↓reduceIte, Nat.reduceAdd, Nat.reduceSub, Nat.reduceEqDiff, Nat.reduceLeDiff, reduceCtorEq]))
      · have := all_not (p := fun b : UInt8 => innerB b.toNat) hy (by assumption)
        simp [validN, this]
      · exact ⟨by omega, all_take hall hy (by assumption), by simp only [Int.natCast_add, Int.natCast_one]⟩
    · simp -implicitDefEqProofs (disch := omega) only [h0, h6, h7, h8, hge, go_sem, ↓reduceIte, Nat.reduceAdd, Nat.reduceSub, Nat.reduceEqDiff, Nat.reduceLeDiff, reduceCtorEq]
      have hall' : s.data.toList.all (fun b => innerB b.toNat) = true := by rw [List.take_of_length_le (by omega)] at hall; exact hall
      have hz : (0 : Int).toNat = 0 := rfl
      by_cases he : s = ⟨#[]⟩
      · subst he
        simp -implicitDefEqProofs (disch := omega) only [h0, go_sem, ↓reduceIte, Nat.reduceAdd, Nat.reduceSub, Nat.reduceEqDiff, Nat.reduceLeDiff, reduceCtorEq]
        rfl
      · have hne : s.size ≠ 0 := fun h => he (by
          cases s with
          | mk d =>
            congr 1
            exact Array.eq_empty_of_size_eq_zero h)
        simp -implicitDefEqProofs (disch := omega) only [he, h0, go_sem, ↓reduceIte, Nat.reduceAdd, Nat.reduceSub, Nat.reduceEqDiff, Nat.reduceLeDiff, reduceCtorEq]
        by_cases h1 : (s.size : Int) ≤ 32
        · have hx : s.data.toList[0]? = some s.data.toList[0] := List.getElem?_eq_getElem (by omega)
          generalize s.data.toList[0] = x at hx
          simp -implicitDefEqProofs (disch := omega) only [h0, h1, hx, hz, ba_get, toNat_45, go_sem, ↓reduceIte, Nat.reduceAdd, Nat.reduceSub, Nat.reduceEqDiff, Nat.reduceLeDiff, reduceCtorEq]
          simp only [validN, hall', hx, hne, show s.size ≤ 32 by omega, ne_eq, not_false_eq_true, decide_true, Bool.true_and, Bool.and_true, Option.some.injEq, decide_not]
        · simp -implicitDefEqProofs (disch := omega) only [h0, h1, go_sem, ↓reduceIte, Nat.reduceAdd, Nat.reduceSub, Nat.reduceEqDiff, Nat.reduceLeDiff, reduceCtorEq]
          simp [validN, show ¬ s.size ≤ 32 by omega]

end Go.V
