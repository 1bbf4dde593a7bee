/- Part 3 of the proof. -/
import Derived.Test.YtmfbifkaonehkaaGreatG2
set_option linter.unusedSimpArgs false
set_option linter.unusedVariables false
open Nat (reduceAdd reduceSub reduceEqDiff reduceLeDiff)
namespace Go.V
structure Nd where
 id : Int
 parent : Int
 name : ByteArray
 control : Int
 kind : Int
 owner : Int
 deriving DecidableEq
def Nd.pv (n : Nd) : PV := .agg [.int .i64 n.id, .int .i64 n.parent, .str n.name, .int .i64 n.control, .int .i64 n.kind, .int .i64 n.owner]
def Nd.vv (n : Nd) : VVal := .agg [.p (.int .i64 n.id), .p (.int .i64 n.parent), .p (.str n.name), .p (.int .i64 n.control), .p (.int .i64 n.kind), .p (.int .i64 n.owner)]
abbrev nodesP (ns : List Nd) : PV := .slice 6 (ns.map Nd.pv)
structure Tr where
 nodes : List Nd
 next : Int
abbrev Tr.vv (t : Tr) : VVal := .agg [.p (nodesP t.nodes), .p (.int .i64 t.next)]
abbrev Tr.fv (t : Tr) : VVal := .agg [.fresh 6 (t.nodes.map Nd.pv), .p (.int .i64 t.next)]
abbrev intsP (xs : List Int) : PV := .slice 1 (xs.map (.int .i64))
attribute [go_sem] Nd.pv solid
theorem nodes_flat (ns : List Nd) : (ns.map Nd.pv).all PV.flat = true := by
 rw [List.all_eq_true]
 intro x hx
 obtain ⟨n, _, rfl⟩ := List.mem_map.1 hx
 rfl
theorem ints_flat (k : IntKind) (xs : List Int) : (xs.map (PV.int k)).all PV.flat = true := by
 rw [List.all_eq_true]
 intro x hx
 obtain ⟨n, _, rfl⟩ := List.mem_map.1 hx
 rfl
attribute [go_sem] nodes_flat ints_flat
abbrev diceB (L : List Int) (a : Nat) : Ob := .box [.p (intsP L), .p (.int .i64 a)]
theorem roll_eq (L : List Int) : V 11 [.p (intsP L)] [] = some (.boxed [.p (intsP L), .p (.int .i64 0)], []) := by
 refine V_fix (vf := vf11) rfl ?_
 simp -implicitDefEqProofs (disch:=omega) only [vf11,vb11,go_sem,↓reduceIte,reduceAdd,reduceSub,reduceEqDiff,reduceLeDiff,reduceCtorEq]
def nextV (L : List Int) (a : Nat) (n : Int) : Int := if 1 ≤ n then (L.getD a 0) % n else 0
def nextA (L : List Int) (a : Nat) (n : Int) : Nat := if a < L.length ∧ 1 ≤ n then a + 1 else a
theorem emod_tmod {x n : Int} (h : 1 ≤ n) : x % n = if x.tmod n < 0 then x.tmod n + n else x.tmod n := by
 have h3 := Int.emod_nonneg x (show n ≠ 0 by omega)
 have h4 := Int.emod_lt_of_pos x (show 0 < n by omega)
 have h5 := Int.tmod_eq_emod (a := x) (b := n)
 rw [h5]
 split <;> split <;> omega
theorem next_eq (L : List Int) (a : Nat) (n : Int) (hL : L.length < 4611686018427387904) (hn : n < 4611686018427387904) : V 15 [.ptr (.arg 0 0) 0 0, .p (.int .i64 n)] [diceB L a] = some (.p (.int .i64 (nextV L a n)), [diceB L (nextA L a n)]) := by
 refine V_wp (vf := vf15) rfl ?_
 by_cases ha : L.length ≤ a
 ·simp -implicitDefEqProofs (disch:=omega) only [vf15,vb15,ha,go_sem,↓reduceIte,reduceAdd,reduceSub,reduceEqDiff,reduceLeDiff,reduceCtorEq]
  simp [nextV, nextA, List.getD_eq_getElem?_getD, List.getElem?_eq_none ha, Nat.not_lt.2 ha]
 ·have hx : L[a]? = some (L.getD a 0) := by
   rw [List.getD_eq_getElem?_getD, List.getElem?_eq_getElem (by omega)]; rfl
  have ht : (((a : Int) + 1 - 1).toNat) = a := by omega
  simp -implicitDefEqProofs (disch:=omega) only [vf15,vb15,ha,go_sem,↓reduceIte,reduceAdd,reduceSub,reduceEqDiff,reduceLeDiff,reduceCtorEq]
  repeat' ((first | refine wp_grn_d (fun hb => ?_) (fun hb => ?_) | refine wp_gtn_d (fun hb => ?_) (fun hb => ?_) | refine wp_gr_d (fun hb => ?_) (fun hb => ?_) | refine wp_gt_d (fun hb => ?_) (fun hb => ?_) | refine wp_gr (fun hb => ?_) (fun hb => ?_) | refine wp_gt (fun hb => ?_) (fun hb => ?_) | refine wp_nt_d (fun hb => ?_) (fun hb => ?_) | refine wp_nt (fun hb => ?_) (fun hb => ?_) | refine wp_if_d (fun hb => ?_) (fun hb => ?_) | refine wp_if (fun hb => ?_) (fun hb => ?_)) <;> simp -implicitDefEqProofs (disch:=omega) only [hb,hx,ht,go_sem,↓reduceIte,reduceAdd,reduceSub,reduceEqDiff,reduceLeDiff,reduceCtorEq])
  ·simp [nextV, nextA, show ¬ 1 ≤ n by omega]
  ·have := emod_tmod (x := L.getD a 0) (n := n) (by omega)
   rw [if_pos (by assumption)] at this
   have h1 := Int.tmod_lt_of_pos (L.getD a 0) (show 0 < n by omega)
   have h2 := Int.emod_nonneg (L.getD a 0) (show n ≠ 0 by omega)
   rw [wrap64 (by omega) (by omega), ← this]
   simp only [nextV, nextA, show 1 ≤ n by omega, show a < L.length by omega, and_self, if_true, diceB, Int.natCast_add, Int.natCast_one]
  ·have := emod_tmod (x := L.getD a 0) (n := n) (by omega)
   rw [if_neg (by assumption)] at this
   rw [← this]
   simp only [nextV, nextA, show 1 ≤ n by omega, show a < L.length by omega, and_self, if_true, diceB, Int.natCast_add, Int.natCast_one]
theorem nextV_nonneg (L : List Int) (a : Nat) (n : Int) : 0 ≤ nextV L a n := by
 unfold nextV
 split
 ·exact Int.emod_nonneg _ (by omega)
 ·omega
theorem nextV_lt (L : List Int) (a : Nat) {n : Int} (h : 1 ≤ n) : nextV L a n < n := by
 unfold nextV
 rw [if_pos h]
 exact Int.emod_lt_of_pos _ (by omega)
theorem take_map_self {α β : Type} (f : α → β) (l : List α) : List.take l.length (l.map f) = l.map f := by
 rw [List.take_of_length_le (by simp)]
theorem take_map_snoc {α β : Type} (f : α → β) (l : List α) (x : β) : List.take (l.length + 1) (l.map f ++ [x]) = l.map f ++ [x] := by
 rw [List.take_of_length_le (by simp)]
attribute [go_sem] take_map_self take_map_snoc
def upR : List Nd → Int → List Int
 | [], _ => []
 | n :: ns, id => if n.id = id then id :: upR ns n.parent else upR ns id
def up (ns : List Nd) (id : Int) : List Int := upR ns.reverse id
theorem upR_length : ∀ (ns : List Nd) (id : Int), (upR ns id).length ≤ ns.length
 | [], _ => Nat.le_refl _
 | n :: ns, id => by
  unfold upR
  split
  ·have := upR_length ns n.parent; simp; omega
  ·have := upR_length ns id; simp; omega
theorem up_eq (t : Tr) (id : Int) (hl : t.nodes.length < 1000000) : V 45 [t.vv, .p (.int .i64 id)] [] = some (.fresh 1 ((up t.nodes id).map (.int .i64)), []) := by
 refine V_wp (vf := vf45) rfl ?_
 simp -implicitDefEqProofs (disch:=omega) only [vf45,vb45,go_sem,↓reduceIte,reduceAdd,reduceSub,reduceEqDiff,reduceLeDiff,reduceCtorEq]
 refine wp_count t.nodes.length (fun k s => ∃ (acc : List Int) (cur : Int) (v : Nat), up t.nodes id = acc ++ upR (t.nodes.reverse.drop k) cur ∧ acc.length ≤ k ∧ s.pe 1 = .p (.int .i64 cur) ∧ s.pe 2 = .ptr (.slot 2 0) 0 0 ∧ s.pe 5 = .own (.slot 5 0) v 0 acc.length ∧ s.pe 6 = .p (.int .i64 ((t.nodes.length : Int) - 1 - k)) ∧ s.h (.slot 2 0) = some (0, .box [.p (nodesP t.nodes), .p (.int .i64 t.next)]) ∧ s.h (.slot 5 0) = some (v, .arr 1 (acc.map (.int .i64)))) ?_ ?_
 ·exact ⟨[], id, 0, by simp [up, enterE, updV, VHeap.upd, enterH, List.getD]⟩
 ·rintro k s hk ⟨acc, cur, v, hup, hlen, h1, h2, h5, h6, hh2, hh5⟩
  simp -implicitDefEqProofs (disch:=omega) only [h1,h2,h5,h6,hh2,hh5,go_sem,↓reduceIte,reduceAdd,reduceSub,reduceEqDiff,reduceLeDiff,reduceCtorEq]
  refine wp_if_d (fun hge => ?_) (fun hlt => ?_)
  ·have hk' : k < t.nodes.length := by omega
   have hn : t.nodes[((t.nodes.length : Int) - 1 - k).toNat]? = some t.nodes[t.nodes.length - 1 - k] := by
    rw [show ((t.nodes.length : Int) - 1 - k).toNat = t.nodes.length - 1 - k by omega]
    exact List.getElem?_eq_getElem (by omega)
   have hd : t.nodes.reverse.drop k = t.nodes[t.nodes.length - 1 - k] :: t.nodes.reverse.drop (k + 1) := by
    rw [List.drop_eq_getElem_cons (by simpa using hk')]
    simp
   generalize t.nodes[t.nodes.length - 1 - k] = n at hn hd
   rw [hd] at hup
   simp -implicitDefEqProofs (disch:=omega) only [h1,h2,h5,h6,hh2,hh5,hn,hge,go_sem,↓reduceIte,reduceAdd,reduceSub,reduceEqDiff,reduceLeDiff,reduceCtorEq]
   repeat' ((first | refine wp_grn_d (fun hb => ?_) (fun hb => ?_) | refine wp_gtn_d (fun hb => ?_) (fun hb => ?_) | refine wp_gr_d (fun hb => ?_) (fun hb => ?_) | refine wp_gt_d (fun hb => ?_) (fun hb => ?_) | refine wp_gr (fun hb => ?_) (fun hb => ?_) | refine wp_gt (fun hb => ?_) (fun hb => ?_) | refine wp_nt_d (fun hb => ?_) (fun hb => ?_) | refine wp_nt (fun hb => ?_) (fun hb => ?_) | refine wp_if_d (fun hb => ?_) (fun hb => ?_) | refine wp_if (fun hb => ?_) (fun hb => ?_)) <;> simp -implicitDefEqProofs (disch:=omega) only [hb,h1,h2,h5,h6,hh2,hh5,hn,hge,go_sem,↓reduceIte,reduceAdd,reduceSub,reduceEqDiff,reduceLeDiff,reduceCtorEq])
   ·rw [upR, if_pos (by assumption)] at hup
    refine ⟨hk', acc ++ [cur], n.parent, v + 1, by rw [hup]; simp, by simp; omega, rfl, by simp, by congr 2; omega, by simp⟩
   ·rw [upR, if_neg (by assumption)] at hup
    exact ⟨hk', acc, cur, v, hup, by omega, rfl, rfl, by congr 2; omega, rfl⟩
  ·have hd : t.nodes.reverse.drop k = [] := List.drop_of_length_le (by simp; omega)
   rw [hd, upR, List.append_nil] at hup
   simp -implicitDefEqProofs (disch:=omega) only [h1,h2,h5,h6,hh2,hh5,hup,go_sem,↓reduceIte,reduceAdd,reduceSub,reduceEqDiff,reduceLeDiff,reduceCtorEq]
def innerB (c : Int) : Bool := decide (97 ≤ c ∧ c ≤ 122) || decide (65 ≤ c ∧ c ≤ 90) || decide (48 ≤ c ∧ c ≤ 57) || decide (c = 95) || decide (c = 45)
def validN (s : ByteArray) : Bool := decide (s.size ≠ 0) && decide (s.size ≤ 32) && decide (s.data.toList[0]? ≠ some 45) && s.data.toList.all fun b => innerB b.toNat
theorem innerB_true {c : Int} (h : (97 ≤ c ∧ c ≤ 122) ∨ (65 ≤ c ∧ c ≤ 90) ∨ (48 ≤ c ∧ c ≤ 57) ∨ c = 95 ∨ c = 45) : innerB c = true := by
 simp only [innerB, Bool.or_eq_true, decide_eq_true_eq]
 omega
theorem innerB_false {c : Int} (h : ¬ ((97 ≤ c ∧ c ≤ 122) ∨ (65 ≤ c ∧ c ≤ 90) ∨ (48 ≤ c ∧ c ≤ 57) ∨ c = 95 ∨ c = 45)) : innerB c = false := by
 rw [Bool.eq_false_iff]
 intro h1
 simp only [innerB, Bool.or_eq_true, decide_eq_true_eq] at h1
 omega
theorem inner_eq (c : Int) : V 126 [.p (.int .u8 c)] [] = some (.p (.bool (innerB c)), []) := by
 refine V_wp (vf := vf126) rfl ?_
 simp -implicitDefEqProofs (disch:=omega) only [vf126,vb126,go_sem,↓reduceIte,reduceAdd,reduceSub,reduceEqDiff,reduceLeDiff,reduceCtorEq]
 repeat' ((first | refine wp_grn_d (fun hb => ?_) (fun hb => ?_) | refine wp_gtn_d (fun hb => ?_) (fun hb => ?_) | refine wp_gr_d (fun hb => ?_) (fun hb => ?_) | refine wp_gt_d (fun hb => ?_) (fun hb => ?_) | refine wp_gr (fun hb => ?_) (fun hb => ?_) | refine wp_gt (fun hb => ?_) (fun hb => ?_) | refine wp_nt_d (fun hb => ?_) (fun hb => ?_) | refine wp_nt (fun hb => ?_) (fun hb => ?_) | refine wp_if_d (fun hb => ?_) (fun hb => ?_) | refine wp_if (fun hb => ?_) (fun hb => ?_)) <;> simp -implicitDefEqProofs (disch:=omega) only [hb,go_sem,↓reduceIte,reduceAdd,reduceSub,reduceEqDiff,reduceLeDiff,reduceCtorEq])
 all_goals
  simp only [innerB, Prod.mk.injEq, VVal.p.injEq, PV.bool.injEq, and_true]
  rw [Bool.eq_iff_iff]
  simp only [Bool.or_eq_true, decide_eq_true_eq, true_iff, Bool.false_eq_true, false_iff]
  first | omega | simp
theorem size_list (s : ByteArray) : s.size = s.data.toList.length := rfl
theorem all_take {α : Type} {p : α → Bool} {l : List α} {k : Nat} (h : (l.take k).all p = true) {x : α} (hx : l[k]? = some x) (hp : p x = true) : (l.take (k + 1)).all p = true := by
 rw [List.take_add_one, hx]
 simp only [List.all_append, h, Option.toList, List.all_cons, List.all_nil, hp, Bool.and_self]
theorem all_not {α : Type} {p : α → Bool} {l : List α} {k : Nat} {x : α} (hx : l[k]? = some x) (hp : p x = false) : l.all p = false := by
 rw [List.all_eq_false]
 exact ⟨x, List.mem_of_getElem? hx, by simp [hp]⟩
theorem toNat_45 (x : UInt8) : ((x.toNat : Int) = 45) = (x = 45) := by
 rw [eq_iff_iff]
 constructor
 ·intro h
  have : x.toNat = (45 : UInt8).toNat := by simp; omega
  exact UInt8.toNat_inj.1 this
 ·rintro rfl
  rfl
theorem rvalid_eq (s : ByteArray) : V 59 [.p (.str s)] [] = some (.p (.bool (validN s)), []) := by
 refine V_wp (vf := vf59) rfl ?_
 have hs := size_list s
 by_cases h0 : (s.size : Int) = 0
 ·simp -implicitDefEqProofs (disch:=omega) only [vf59,vb59,ba_get,h0,go_sem,↓reduceIte,reduceAdd,reduceSub,reduceEqDiff,reduceLeDiff,reduceCtorEq]
  simp [validN, show s.size = 0 by omega]
 ·by_cases h1 : 32 < (s.size : Int)
  ·simp -implicitDefEqProofs (disch:=omega) only [vf59,vb59,ba_get,h0,h1,go_sem,↓reduceIte,reduceAdd,reduceSub,reduceEqDiff,reduceLeDiff,reduceCtorEq]
   simp [validN, show ¬ s.size ≤ 32 by omega]
  ·have hx : s.data.toList[0]? = some s.data.toList[0] := List.getElem?_eq_getElem (by omega)
   generalize s.data.toList[0] = x at hx
   have hz : (0 : Int).toNat = 0 := rfl
   simp -implicitDefEqProofs (disch:=omega) only [vf59,vb59,ba_get,h0,h1,hx,hz,go_sem,↓reduceIte,reduceAdd,reduceSub,reduceEqDiff,reduceLeDiff,reduceCtorEq]
   by_cases h45 : x = 45
   ·have h45' : ((x.toNat : Nat) : Int) = 45 := by rw [toNat_45]; exact h45
    simp -implicitDefEqProofs (disch:=omega) only [h45',go_sem,↓reduceIte,reduceAdd,reduceSub,reduceEqDiff,reduceLeDiff,reduceCtorEq]
    simp [validN, hx, h45]
   ·have h45' : ¬ ((x.toNat : Nat) : Int) = 45 := by rw [toNat_45]; exact h45
    simp -implicitDefEqProofs (disch:=omega) only [h45',go_sem,↓reduceIte,reduceAdd,reduceSub,reduceEqDiff,reduceLeDiff,reduceCtorEq]
    refine wp_count s.size (fun k t => (s.data.toList.take k).all (fun b => innerB b.toNat) = true ∧ t.pe 0 = .p (.str s) ∧ t.pe 3 = .p (.int .i64 k)) ?_ ?_
    ·simp [enterE, updV]
    ·rintro k t hk ⟨hall, h2, h3⟩
     simp -implicitDefEqProofs (disch:=omega) only [h2,h3,go_sem,↓reduceIte,reduceAdd,reduceSub,reduceEqDiff,reduceLeDiff,reduceCtorEq]
     refine wp_if_d (fun hlt => ?_) (fun hge => ?_)
     ·have hy : s.data.toList[k]? = some s.data.toList[k] := List.getElem?_eq_getElem (by omega)
      generalize s.data.toList[k] = y at hy
      simp -implicitDefEqProofs (disch:=omega) only [h2,h3,ba_get,hy,hlt,go_sem,↓reduceIte,reduceAdd,reduceSub,reduceEqDiff,reduceLeDiff,reduceCtorEq]
      repeat' ((first | refine wp_grn_d (fun hb => ?_) (fun hb => ?_) | refine wp_gtn_d (fun hb => ?_) (fun hb => ?_) | refine wp_gr_d (fun hb => ?_) (fun hb => ?_) | refine wp_gt_d (fun hb => ?_) (fun hb => ?_) | refine wp_gr (fun hb => ?_) (fun hb => ?_) | refine wp_gt (fun hb => ?_) (fun hb => ?_) | refine wp_nt_d (fun hb => ?_) (fun hb => ?_) | refine wp_nt (fun hb => ?_) (fun hb => ?_) | refine wp_if_d (fun hb => ?_) (fun hb => ?_) | refine wp_if (fun hb => ?_) (fun hb => ?_)) <;> simp -implicitDefEqProofs (disch:=omega) only [hb,ba_get,hy,h2,h3,go_sem,↓reduceIte,reduceAdd,reduceSub,reduceEqDiff,reduceLeDiff,reduceCtorEq])
      all_goals first
       | exact ⟨by omega, all_take hall hy (innerB_true (by omega)), by simp only [Int.natCast_add, Int.natCast_one]⟩
       | (have := all_not (p := fun b : UInt8 => innerB b.toNat) hy (innerB_false (by omega)); simp [validN, this])
     ·simp -implicitDefEqProofs (disch:=omega) only [h2,h3,hge,go_sem,↓reduceIte,reduceAdd,reduceSub,reduceEqDiff,reduceLeDiff,reduceCtorEq]
      have hall' : s.data.toList.all (fun b => innerB b.toNat) = true := by rw [List.take_of_length_le (by omega)] at hall; exact hall
      simp only [validN, hall', hx, show s.size ≠ 0 by omega, show s.size ≤ 32 by omega, ne_eq, not_false_eq_true, decide_true, Bool.and_self, Option.some.injEq, h45]
theorem pvalid_eq (s : ByteArray) (hl : s.size < 9223372036854775808) : V 121 [.p (.str s)] [] = some (.p (.bool (validN s)), []) := by
 refine V_wp (vf := vf121) rfl ?_
 have hs := size_list s
 simp -implicitDefEqProofs (disch:=omega) only [vf121,vb121,go_sem,↓reduceIte,reduceAdd,reduceSub,reduceEqDiff,reduceLeDiff,reduceCtorEq]
 refine wp_count s.size (fun k t => (s.data.toList.take k).all (fun b => innerB b.toNat) = true ∧ t.pe 0 = .p (.str s) ∧ t.pe 6 = .p (.slice 1 (s.data.toList.map fun b => .int .u8 b.toNat)) ∧ t.pe 7 = .p (.int .i64 s.size) ∧ t.pe 8 = .p (.int .i64 k)) ?_ ?_
 ·exact ⟨by simp, rfl, rfl, rfl, rfl⟩
 ·rintro k t hk ⟨hall, h0, h6, h7, h8⟩
  simp -implicitDefEqProofs (disch:=omega) only [h0,h6,h7,h8,go_sem,↓reduceIte,reduceAdd,reduceSub,reduceEqDiff,reduceLeDiff,reduceCtorEq]
  refine wp_if_d (fun hlt => ?_) (fun hge => ?_)
  ·have hy : s.data.toList[k]? = some s.data.toList[k] := List.getElem?_eq_getElem (by omega)
   generalize s.data.toList[k] = y at hy
   simp -implicitDefEqProofs (disch:=omega) only [h0,h6,h7,h8,hy,hlt,inner_eq,go_sem,↓reduceIte,reduceAdd,reduceSub,reduceEqDiff,reduceLeDiff,reduceCtorEq]
   repeat' ((first | refine wp_grn_d (fun hb => ?_) (fun hb => ?_) | refine wp_gtn_d (fun hb => ?_) (fun hb => ?_) | refine wp_gr_d (fun hb => ?_) (fun hb => ?_) | refine wp_gt_d (fun hb => ?_) (fun hb => ?_) | refine wp_gr (fun hb => ?_) (fun hb => ?_) | refine wp_gt (fun hb => ?_) (fun hb => ?_) | refine wp_nt_d (fun hb => ?_) (fun hb => ?_) | refine wp_nt (fun hb => ?_) (fun hb => ?_) | refine wp_if_d (fun hb => ?_) (fun hb => ?_) | refine wp_if (fun hb => ?_) (fun hb => ?_)) <;> simp -implicitDefEqProofs (disch:=omega) only [hb,h0,h6,h7,h8,hy,inner_eq,go_sem,↓reduceIte,reduceAdd,reduceSub,reduceEqDiff,reduceLeDiff,reduceCtorEq])
   ·have := all_not (p := fun b : UInt8 => innerB b.toNat) hy (by assumption)
    simp [validN, this]
   ·exact ⟨by omega, all_take hall hy (by assumption), by simp only [Int.natCast_add, Int.natCast_one]⟩
  ·simp -implicitDefEqProofs (disch:=omega) only [h0,h6,h7,h8,hge,go_sem,↓reduceIte,reduceAdd,reduceSub,reduceEqDiff,reduceLeDiff,reduceCtorEq]
   have hall' : s.data.toList.all (fun b => innerB b.toNat) = true := by rw [List.take_of_length_le (by omega)] at hall; exact hall
   have hz : (0 : Int).toNat = 0 := rfl
   by_cases he : s = ⟨#[]⟩
   ·subst he
    simp -implicitDefEqProofs (disch:=omega) only [h0,go_sem,↓reduceIte,reduceAdd,reduceSub,reduceEqDiff,reduceLeDiff,reduceCtorEq]
    rfl
   ·have hne : s.size ≠ 0 := fun h => he (by
     cases s with
     | mk d =>
      congr 1
      exact Array.eq_empty_of_size_eq_zero h)
    simp -implicitDefEqProofs (disch:=omega) only [he,h0,go_sem,↓reduceIte,reduceAdd,reduceSub,reduceEqDiff,reduceLeDiff,reduceCtorEq]
    by_cases h1 : (s.size : Int) ≤ 32
    ·have hx : s.data.toList[0]? = some s.data.toList[0] := List.getElem?_eq_getElem (by omega)
     generalize s.data.toList[0] = x at hx
     simp -implicitDefEqProofs (disch:=omega) only [h0,h1,hx,hz,ba_get,toNat_45,go_sem,↓reduceIte,reduceAdd,reduceSub,reduceEqDiff,reduceLeDiff,reduceCtorEq]
     simp only [validN, hall', hx, hne, show s.size ≤ 32 by omega, ne_eq, not_false_eq_true, decide_true, Bool.true_and, Bool.and_true, Option.some.injEq, decide_not]
    ·simp -implicitDefEqProofs (disch:=omega) only [h0,h1,go_sem,↓reduceIte,reduceAdd,reduceSub,reduceEqDiff,reduceLeDiff,reduceCtorEq]
     simp [validN, show ¬ s.size ≤ 32 by omega]
def nodeOk (pre : List Nd) (n : Nd) : Bool :=
  decide (n.kind = 0 ∨ n.kind = 1) && decide (0 ≤ n.control ∧ n.control ≤ 31 ∧ 0 ≤ n.owner ∧ n.owner ≤ 1048576) &&
  (match pre.getLast? with
   | none => decide (n.id = 1 ∧ n.parent = 0 ∧ n.name = ⟨#[]⟩ ∧ n.kind = 0)
   | some l => decide (l.id < n.id) && validN n.name && !(pre.any fun x => decide (x.parent = n.parent ∧ x.name = n.name)) && pre.any fun x => decide (x.id = n.parent))
theorem any_take {α : Type} {p : α → Bool} {l : List α} {k : Nat} {x : α} (hx : l[k]? = some x) : (l.take (k + 1)).any p = ((l.take k).any p || p x) := by
 rw [List.take_add_one, hx]
 simp only [List.any_append, Option.toList, List.any_cons, List.any_nil, Bool.or_false]
theorem any_of_take {α : Type} {p : α → Bool} {l : List α} {k i : Nat} (h : k ≤ i) (hp : (l.take k).any p = true) : (l.take i).any p = true := by
 rw [List.any_eq_true] at hp ⊢
 obtain ⟨x, hx, h1⟩ := hp
 exact ⟨x, (List.take_sublist_take_left h).subset hx, h1⟩
set_option maxHeartbeats 2000000 in
theorem node_eq (t : Tr) (i : Nat) (n : Nd) (hn : t.nodes[i]? = some n) (hl : t.nodes.length < 1000000) : V 81 [t.vv, .p (.int .i64 i)] [] = some (.p (.bool (nodeOk (t.nodes.take i) n)), []) := by
  refine V_wp (vf := vf81) rfl ?_
  have hlt : i < t.nodes.length := (List.getElem?_eq_some_iff.1 hn).1
  by_cases hi : (i : Int) = 0
  · have hi' : i = 0 := by omega
    have hz : (0 : Int).toNat = 0 := rfl
    rw [hi'] at hn
    simp -implicitDefEqProofs (disch:=omega) only [vf81,vb81,hi,hz,hn,go_sem,↓reduceIte,reduceAdd,reduceSub,reduceEqDiff,reduceLeDiff,reduceCtorEq]
    repeat' ((first | refine wp_grn_d (fun hb => ?_) (fun hb => ?_) | refine wp_gtn_d (fun hb => ?_) (fun hb => ?_) | refine wp_gr_d (fun hb => ?_) (fun hb => ?_) | refine wp_gt_d (fun hb => ?_) (fun hb => ?_) | refine wp_gr (fun hb => ?_) (fun hb => ?_) | refine wp_gt (fun hb => ?_) (fun hb => ?_) | refine wp_nt_d (fun hb => ?_) (fun hb => ?_) | refine wp_nt (fun hb => ?_) (fun hb => ?_) | refine wp_if_d (fun hb => ?_) (fun hb => ?_) | refine wp_if (fun hb => ?_) (fun hb => ?_)) <;> simp -implicitDefEqProofs (disch:=omega) only [hb,go_sem,↓reduceIte,reduceAdd,reduceSub,reduceEqDiff,reduceLeDiff,reduceCtorEq])
    all_goals
      simp only [nodeOk, hi', List.take_zero, List.getLast?_nil, Prod.mk.injEq, VVal.p.injEq, PV.bool.injEq, and_true]
      rw [Bool.eq_iff_iff]
      simp only [Bool.and_eq_true, decide_eq_true_eq, true_iff, Bool.false_eq_true, false_iff]
      try simp only [*]
      first | omega | (simp; done) | (simp; omega)
  · obtain ⟨l, hlast⟩ : ∃ l, (t.nodes.take i).getLast? = some l := by
      cases hq : (t.nodes.take i).getLast? with
      | none =>
        rw [List.getLast?_eq_none_iff] at hq
        have := congrArg List.length hq
        rw [List.length_take, List.length_nil] at this
        omega
      | some l => exact ⟨l, rfl⟩
    have hpre : t.nodes[((i : Int) - 1).toNat]? = some l := by
      rw [List.getLast?_take, if_neg (by omega)] at hlast
      rw [show ((i : Int) - 1).toNat = i - 1 by omega]
      rw [List.getElem?_eq_getElem (by omega)] at hlast ⊢
      simpa using hlast
    simp -implicitDefEqProofs (disch:=omega) only [vf81,vb81,hn,hi,go_sem,↓reduceIte,reduceAdd,reduceSub,reduceEqDiff,reduceLeDiff,reduceCtorEq]
    repeat' ((first | refine wp_grn_d (fun hb => ?_) (fun hb => ?_) | refine wp_gtn_d (fun hb => ?_) (fun hb => ?_) | refine wp_gr_d (fun hb => ?_) (fun hb => ?_) | refine wp_gt_d (fun hb => ?_) (fun hb => ?_) | refine wp_gr (fun hb => ?_) (fun hb => ?_) | refine wp_gt (fun hb => ?_) (fun hb => ?_) | refine wp_nt_d (fun hb => ?_) (fun hb => ?_) | refine wp_nt (fun hb => ?_) (fun hb => ?_) | refine wp_if_d (fun hb => ?_) (fun hb => ?_) | refine wp_if (fun hb => ?_) (fun hb => ?_)) <;> simp -implicitDefEqProofs (disch:=omega) only [hb,hn,hi,hpre,rvalid_eq,go_sem,↓reduceIte,reduceAdd,reduceSub,reduceEqDiff,reduceLeDiff,reduceCtorEq])
    all_goals first
      | (simp only [nodeOk, hlast, Prod.mk.injEq, VVal.p.injEq, PV.bool.injEq, and_true]
         rw [Bool.eq_iff_iff]
         simp only [Bool.and_eq_true, decide_eq_true_eq, Bool.false_eq_true, false_iff]
         try simp only [*]
         first | omega | (simp; done) | (simp; omega))
      | skip
    all_goals
      refine wp_count i (fun k s => (t.nodes.take k).any (fun x => decide (x.parent = n.parent ∧ x.name = n.name)) = false ∧ s.pe 1 = .p (.int .i64 i) ∧ s.pe 2 = .ptr (.slot 2 0) 0 0 ∧ s.pe 5 = .ptr (.slot 5 0) 0 0 ∧ s.pe 6 = .p (.bool ((t.nodes.take k).any fun x => decide (x.id = n.parent))) ∧ s.pe 7 = .p (.int .i64 k) ∧
        s.h (.slot 2 0) = some (0, .box [.p (nodesP t.nodes), .p (.int .i64 t.next)]) ∧ s.h (.slot 5 0) = some (0, .box (n.pv.cells.map .p))) ?_ ?_
      · exact ⟨by simp, rfl, rfl, rfl, rfl, rfl, rfl, by simp -implicitDefEqProofs (disch := omega) only [go_sem, ↓reduceIte, reduceAdd, reduceSub, reduceEqDiff, reduceLeDiff, reduceCtorEq]; simp only [*]⟩
      · rintro k s hk ⟨hno, h1, h2, h5, h6, h7, hh2, hh5⟩
        simp only [Nd.pv, PV.cells, List.map_cons, List.map_nil] at hh5
        simp -implicitDefEqProofs (disch:=omega) only [h1,h2,h5,h6,h7,hh2,hh5,go_sem,↓reduceIte,reduceAdd,reduceSub,reduceEqDiff,reduceLeDiff,reduceCtorEq]
        refine wp_if_d (fun hki => ?_) (fun hge => ?_)
        · have hm : t.nodes[k]? = some t.nodes[k] := List.getElem?_eq_getElem (by omega)
          generalize t.nodes[k] = m at hm
          simp -implicitDefEqProofs (disch:=omega) only [h1,h2,h5,h6,h7,hh2,hh5,hm,hki,go_sem,↓reduceIte,reduceAdd,reduceSub,reduceEqDiff,reduceLeDiff,reduceCtorEq]
          repeat' ((first | refine wp_grn_d (fun hb => ?_) (fun hb => ?_) | refine wp_gtn_d (fun hb => ?_) (fun hb => ?_) | refine wp_gr_d (fun hb => ?_) (fun hb => ?_) | refine wp_gt_d (fun hb => ?_) (fun hb => ?_) | refine wp_gr (fun hb => ?_) (fun hb => ?_) | refine wp_gt (fun hb => ?_) (fun hb => ?_) | refine wp_nt_d (fun hb => ?_) (fun hb => ?_) | refine wp_nt (fun hb => ?_) (fun hb => ?_) | refine wp_if_d (fun hb => ?_) (fun hb => ?_) | refine wp_if (fun hb => ?_) (fun hb => ?_)) <;> simp -implicitDefEqProofs (disch:=omega) only [hb,h1,h2,h5,h6,h7,hh2,hh5,hm,hki,go_sem,↓reduceIte,reduceAdd,reduceSub,reduceEqDiff,reduceLeDiff,reduceCtorEq])
          all_goals first
            | (have ha : ((t.nodes.take i).any fun x => decide (x.parent = n.parent ∧ x.name = n.name)) = true := by
                refine any_of_take (k := k + 1) (by omega) ?_
                rw [any_take hm]
                simp [*]
               simp only [nodeOk, hlast, ha, Bool.not_true, Bool.and_false, Bool.false_and]
               done)
            | exact ⟨by rw [any_take hm, hno]; simp [*], by rw [any_take hm]; simp [*], by simp only [Int.natCast_add, Int.natCast_one]⟩
        · simp -implicitDefEqProofs (disch:=omega) only [h1,h2,h5,h6,h7,hh2,hh5,hge,go_sem,↓reduceIte,reduceAdd,reduceSub,reduceEqDiff,reduceLeDiff,reduceCtorEq]
          have hki : k = i := by omega
          subst hki
          simp only [nodeOk, hlast, hno, Prod.mk.injEq, VVal.p.injEq, PV.bool.injEq, and_true]
          rw [Bool.eq_iff_iff]
          simp only [Bool.and_eq_true, decide_eq_true_eq, Bool.not_false, and_true, true_and]
          exact ⟨fun h => ⟨⟨by omega, by omega, by omega, by omega, by omega⟩, ⟨by omega, by assumption⟩, h⟩, fun h => h.2.2⟩
def nodesOk : List Nd → List Nd → Bool
 | _, [] => true
 | pre, n :: ns => nodeOk pre n && nodesOk (pre ++ [n]) ns
theorem nodesOk_iff : ∀ (ns pre : List Nd), nodesOk pre ns = true ↔ ∀ (i : Nat) (n : Nd), ns[i]? = some n → nodeOk (pre ++ ns.take i) n = true
 | [], pre => by simp [nodesOk]
 | n :: ns, pre => by
  simp only [nodesOk, Bool.and_eq_true]
  rw [nodesOk_iff ns (pre ++ [n])]
  constructor
  ·rintro ⟨h1, h2⟩ i m hm
   cases i with
   | zero => simp at hm; subst hm; simpa using h1
   | succ i => simpa using h2 i m (by simpa using hm)
  ·intro h
   exact ⟨by simpa using h 0 n rfl, fun i m hm => by simpa using h (i + 1) m (by simpa using hm)⟩
def treeOk (t : Tr) : Bool :=
  decide (1 ≤ t.nodes.length ∧ t.nodes.length ≤ 64) && nodesOk [] t.nodes && t.nodes.all (fun n => decide ((up t.nodes n.id).length ≤ 9)) &&
  (match t.nodes.getLast? with
   | none => false
   | some l => decide (l.id < t.next ∧ t.next ≤ 2147483648))
theorem rcheck_eq (t : Tr) (hl : t.nodes.length < 1000000) : V 58 [t.vv] [] = some (.p (.bool (treeOk t)), []) := by
 refine V_wp (vf := vf58) rfl ?_
 by_cases h1 : (t.nodes.length : Int) < 1
 ·simp -implicitDefEqProofs (disch:=omega) only [vf58,vb58,h1,go_sem,↓reduceIte,reduceAdd,reduceSub,reduceEqDiff,reduceLeDiff,reduceCtorEq]
  simp [treeOk, show ¬ 1 ≤ t.nodes.length by omega]
 ·by_cases h2 : 64 < (t.nodes.length : Int)
  ·simp -implicitDefEqProofs (disch:=omega) only [vf58,vb58,h1,h2,go_sem,↓reduceIte,reduceAdd,reduceSub,reduceEqDiff,reduceLeDiff,reduceCtorEq]
   simp [treeOk, show ¬ t.nodes.length ≤ 64 by omega]
  ·simp -implicitDefEqProofs (disch:=omega) only [vf58,vb58,h1,h2,go_sem,↓reduceIte,reduceAdd,reduceSub,reduceEqDiff,reduceLeDiff,reduceCtorEq]
   refine wp_count t.nodes.length (fun k s => (∀ (i : Nat) (n : Nd), i < k → t.nodes[i]? = some n → nodeOk (t.nodes.take i) n = true) ∧ s.pe 1 = .ptr (.slot 1 0) 0 0 ∧ s.pe 3 = .p (.int .i64 t.nodes.length) ∧ s.pe 4 = .p (.int .i64 k) ∧ s.h (.slot 1 0) = some (0, .box [.p (nodesP t.nodes), .p (.int .i64 t.next)])) ?_ ?_
   ·exact ⟨by omega, rfl, rfl, rfl, rfl⟩
   ·rintro k s hk ⟨hall, h3, h4, h5, hh⟩
    simp -implicitDefEqProofs (disch:=omega) only [h3,h4,h5,hh,go_sem,↓reduceIte,reduceAdd,reduceSub,reduceEqDiff,reduceLeDiff,reduceCtorEq]
    refine wp_if_d (fun hlt => ?_) (fun hge => ?_)
    ·have hm : t.nodes[k]? = some t.nodes[k] := List.getElem?_eq_getElem hlt
     generalize t.nodes[k] = m at hm
     have hc := node_eq t k m hm hl
     simp -implicitDefEqProofs (disch:=omega) only [h3,h4,h5,hh,hm,hc,hlt,go_sem,↓reduceIte,reduceAdd,reduceSub,reduceEqDiff,reduceLeDiff,reduceCtorEq]
     repeat' ((first | refine wp_grn_d (fun hb => ?_) (fun hb => ?_) | refine wp_gtn_d (fun hb => ?_) (fun hb => ?_) | refine wp_gr_d (fun hb => ?_) (fun hb => ?_) | refine wp_gt_d (fun hb => ?_) (fun hb => ?_) | refine wp_gr (fun hb => ?_) (fun hb => ?_) | refine wp_gt (fun hb => ?_) (fun hb => ?_) | refine wp_nt_d (fun hb => ?_) (fun hb => ?_) | refine wp_nt (fun hb => ?_) (fun hb => ?_) | refine wp_if_d (fun hb => ?_) (fun hb => ?_) | refine wp_if (fun hb => ?_) (fun hb => ?_)) <;> simp -implicitDefEqProofs (disch:=omega) only [hb,h3,h4,h5,hh,hm,hc,go_sem,↓reduceIte,reduceAdd,reduceSub,reduceEqDiff,reduceLeDiff,reduceCtorEq])
     ·have hf : nodesOk [] t.nodes = false := by
       rw [Bool.eq_false_iff]
       intro h0
       have := (nodesOk_iff _ _).1 h0 k m hm
       simp_all
      simp [treeOk, hf]
     ·refine ⟨hlt, fun i n hi hn => ?_, by simp only [Int.natCast_add, Int.natCast_one]⟩
      rcases Nat.lt_or_ge i k with h0 | h0
      ·exact hall i n h0 hn
      ·have : i = k := by omega
       subst this
       rw [hm] at hn
       simp at hn
       subst hn
       assumption
    ·have hok : nodesOk [] t.nodes = true := (nodesOk_iff _ _).2 fun i n hn => by simpa using hall i n (by have := (List.getElem?_eq_some_iff.1 hn).1; omega) hn
     simp -implicitDefEqProofs (disch:=omega) only [h3,h4,h5,hh,hge,go_sem,↓reduceIte,reduceAdd,reduceSub,reduceEqDiff,reduceLeDiff,reduceCtorEq]
     refine wp_count t.nodes.length (fun k s => (∀ (i : Nat) (n : Nd), i < k → t.nodes[i]? = some n → (up t.nodes n.id).length ≤ 9) ∧ s.pe 1 = .ptr (.slot 1 0) 0 0 ∧ s.pe 3 = .p (.int .i64 t.nodes.length) ∧ s.pe 5 = .p (.int .i64 k) ∧ s.h (.slot 1 0) = some (0, .box [.p (nodesP t.nodes), .p (.int .i64 t.next)])) ?_ ?_
     ·simp -implicitDefEqProofs (disch:=omega) only [h3,h4,h5,hh,go_sem,↓reduceIte,reduceAdd,reduceSub,reduceEqDiff,reduceLeDiff,reduceCtorEq]
      simp
     ·rintro k s hk ⟨hall2, h3, h4, h5, hh⟩
      simp -implicitDefEqProofs (disch:=omega) only [h3,h4,h5,hh,go_sem,↓reduceIte,reduceAdd,reduceSub,reduceEqDiff,reduceLeDiff,reduceCtorEq]
      refine wp_if_d (fun hlt => ?_) (fun hge => ?_)
      ·have hm : t.nodes[k]? = some t.nodes[k] := List.getElem?_eq_getElem hlt
       generalize t.nodes[k] = m at hm
       have hc := up_eq t m.id hl
       simp -implicitDefEqProofs (disch:=omega) only [h3,h4,h5,hh,hm,hc,hlt,go_sem,↓reduceIte,reduceAdd,reduceSub,reduceEqDiff,reduceLeDiff,reduceCtorEq]
       repeat' ((first | refine wp_grn_d (fun hb => ?_) (fun hb => ?_) | refine wp_gtn_d (fun hb => ?_) (fun hb => ?_) | refine wp_gr_d (fun hb => ?_) (fun hb => ?_) | refine wp_gt_d (fun hb => ?_) (fun hb => ?_) | refine wp_gr (fun hb => ?_) (fun hb => ?_) | refine wp_gt (fun hb => ?_) (fun hb => ?_) | refine wp_nt_d (fun hb => ?_) (fun hb => ?_) | refine wp_nt (fun hb => ?_) (fun hb => ?_) | refine wp_if_d (fun hb => ?_) (fun hb => ?_) | refine wp_if (fun hb => ?_) (fun hb => ?_)) <;> simp -implicitDefEqProofs (disch:=omega) only [hb,h3,h4,h5,hh,hm,hc,go_sem,↓reduceIte,reduceAdd,reduceSub,reduceEqDiff,reduceLeDiff,reduceCtorEq])
       ·rename_i hb
        have hf : t.nodes.all (fun n => decide ((up t.nodes n.id).length ≤ 9)) = false := by
         rw [List.all_eq_false]
         exact ⟨m, List.mem_of_getElem? hm, by simp; omega⟩
        simp [treeOk, hf]
       ·rename_i hb
        refine ⟨hlt, fun i n hi hn => ?_, by simp only [Int.natCast_add, Int.natCast_one]⟩
        rcases Nat.lt_or_ge i k with h0 | h0
        ·exact hall2 i n h0 hn
        ·have : i = k := by omega
         subst this
         rw [hm] at hn
         simp at hn
         subst hn
         omega
      ·have hk2 : t.nodes.all (fun n => decide ((up t.nodes n.id).length ≤ 9)) = true := by
        rw [List.all_eq_true]
        intro n hn
        obtain ⟨i, hi⟩ := List.getElem?_of_mem hn
        have := hall2 i n (by have := (List.getElem?_eq_some_iff.1 hi).1; omega) hi
        simpa using this
       have hla : t.nodes[((t.nodes.length : Int) - 1).toNat]? = some t.nodes[t.nodes.length - 1] := by
        rw [show ((t.nodes.length : Int) - 1).toNat = t.nodes.length - 1 by omega]
        exact List.getElem?_eq_getElem (by omega)
       have hlast : t.nodes.getLast? = some t.nodes[t.nodes.length - 1] := by
        rw [List.getLast?_eq_getElem?]
        exact List.getElem?_eq_getElem (by omega)
       generalize t.nodes[t.nodes.length - 1] = l at hla hlast
       simp -implicitDefEqProofs (disch:=omega) only [h3,h4,h5,hh,hge,hla,go_sem,↓reduceIte,reduceAdd,reduceSub,reduceEqDiff,reduceLeDiff,reduceCtorEq]
       repeat' ((first | refine wp_grn_d (fun hb => ?_) (fun hb => ?_) | refine wp_gtn_d (fun hb => ?_) (fun hb => ?_) | refine wp_gr_d (fun hb => ?_) (fun hb => ?_) | refine wp_gt_d (fun hb => ?_) (fun hb => ?_) | refine wp_gr (fun hb => ?_) (fun hb => ?_) | refine wp_gt (fun hb => ?_) (fun hb => ?_) | refine wp_nt_d (fun hb => ?_) (fun hb => ?_) | refine wp_nt (fun hb => ?_) (fun hb => ?_) | refine wp_if_d (fun hb => ?_) (fun hb => ?_) | refine wp_if (fun hb => ?_) (fun hb => ?_)) <;> simp -implicitDefEqProofs (disch:=omega) only [hb,h3,h4,h5,hh,hla,go_sem,↓reduceIte,reduceAdd,reduceSub,reduceEqDiff,reduceLeDiff,reduceCtorEq])
       all_goals
        simp only [treeOk, hok, hk2, hlast, show (1 ≤ t.nodes.length ∧ t.nodes.length ≤ 64) by omega, Prod.mk.injEq, VVal.p.injEq, PV.bool.injEq, and_true, decide_true, Bool.true_and]
        rw [Bool.eq_iff_iff]
        simp only [decide_eq_true_eq, Bool.false_eq_true, false_iff]
        omega
def zeroNd : Nd := ⟨0, 0, ⟨#[]⟩, 0, 0, 0⟩
def findN (ns : List Nd) (id : Int) : Option Nd := ns.find? fun n => decide (n.id = id)
def findT (t : Tr) (id : Int) : Option Nd := if treeOk t then findN t.nodes id else none
attribute [go_sem] Nd.vv
theorem find_take_none {p : Nd → Bool} {l : List Nd} {k : Nat} (h : ∀ (i : Nat) (n : Nd), i < k → l[i]? = some n → p n = false) {m : Nd} (hm : l[k]? = some m) (hp : p m = true) : l.find? p = some m := by
 rw [List.find?_eq_some_iff_getElem]
 refine ⟨hp, k, (List.getElem?_eq_some_iff.1 hm).1, (List.getElem?_eq_some_iff.1 hm).2, fun j hj => ?_⟩
 have hl : j < l.length := Nat.lt_trans hj (List.getElem?_eq_some_iff.1 hm).1
 simpa using h j l[j] hj (List.getElem?_eq_getElem hl)
theorem find_none {p : Nd → Bool} {l : List Nd} (h : ∀ (i : Nat) (n : Nd), i < l.length → l[i]? = some n → p n = false) : l.find? p = none := by
 rw [List.find?_eq_none]
 intro x hx
 obtain ⟨i, hi⟩ := List.getElem?_of_mem hx
 simpa using h i x (List.getElem?_eq_some_iff.1 hi).1 hi
theorem lt_succ_cases {Q : Nat → Nd → Prop} {l : List Nd} {k : Nat} {m : Nd} (hm : l[k]? = some m) (h : ∀ (i : Nat) (n : Nd), i < k → l[i]? = some n → Q i n) (hk : Q k m) : ∀ (i : Nat) (n : Nd), i < k + 1 → l[i]? = some n → Q i n := fun i n hi hn => by
 rcases Nat.lt_or_ge i k with h0 | h0
 ·exact h i n h0 hn
 ·have : i = k := by omega
  subst this
  rw [hm] at hn
  simp at hn
  subst hn
  exact hk
theorem rfind_eq (t : Tr) (id : Int) (hl : t.nodes.length < 1000000) : V 69 [t.vv, .p (.int .i64 id)] [] = some (.tup [((findT t id).getD zeroNd).vv, .p (.bool (findT t id).isSome)], []) := by
 refine V_wp (vf := vf69) rfl ?_
 have hc := rcheck_eq t hl
 cases hok : treeOk t with
 | false =>
  rw [hok] at hc
  simp -implicitDefEqProofs (disch:=omega) only [vf69,vb69,hc,go_sem,↓reduceIte,reduceAdd,reduceSub,reduceEqDiff,reduceLeDiff,reduceCtorEq]
  simp [findT, hok, zeroNd]
 | true =>
  rw [hok] at hc
  simp -implicitDefEqProofs (disch:=omega) only [vf69,vb69,hc,go_sem,↓reduceIte,reduceAdd,reduceSub,reduceEqDiff,reduceLeDiff,reduceCtorEq]
  refine wp_count t.nodes.length (fun k s => (∀ (i : Nat) (n : Nd), i < k → t.nodes[i]? = some n → decide (n.id = id) = false) ∧ s.pe 1 = .p (.int .i64 id) ∧ s.pe 2 = .ptr (.slot 2 0) 0 0 ∧ s.pe 4 = .ptr (.slot 4 0) 0 0 ∧ s.pe 6 = .p (.int .i64 k) ∧ s.h (.slot 2 0) = some (0, .box [.p (nodesP t.nodes), .p (.int .i64 t.next)]) ∧ s.h (.slot 4 0) = some (0, .box (zeroNd.pv.cells.map .p))) ?_ ?_
  ·exact ⟨by omega, rfl, rfl, rfl, rfl, rfl, by simp -implicitDefEqProofs (disch := omega) only [go_sem, ↓reduceIte, reduceAdd, reduceSub, reduceEqDiff, reduceLeDiff, reduceCtorEq]; rfl⟩
  ·rintro k s hk ⟨hall, h1, h2, h4, h6, hh2, hh4⟩
   simp only [Nd.pv, zeroNd, PV.cells, List.map_cons, List.map_nil] at hh4
   simp -implicitDefEqProofs (disch:=omega) only [h1,h2,h4,h6,hh2,hh4,go_sem,↓reduceIte,reduceAdd,reduceSub,reduceEqDiff,reduceLeDiff,reduceCtorEq]
   refine wp_if_d (fun hlt => ?_) (fun hge => ?_)
   ·have hm : t.nodes[k]? = some t.nodes[k] := List.getElem?_eq_getElem hlt
    generalize t.nodes[k] = m at hm
    simp -implicitDefEqProofs (disch:=omega) only [h1,h2,h4,h6,hh2,hh4,hm,go_sem,↓reduceIte,reduceAdd,reduceSub,reduceEqDiff,reduceLeDiff,reduceCtorEq]
    repeat' ((first | refine wp_grn_d (fun hb => ?_) (fun hb => ?_) | refine wp_gtn_d (fun hb => ?_) (fun hb => ?_) | refine wp_gr_d (fun hb => ?_) (fun hb => ?_) | refine wp_gt_d (fun hb => ?_) (fun hb => ?_) | refine wp_gr (fun hb => ?_) (fun hb => ?_) | refine wp_gt (fun hb => ?_) (fun hb => ?_) | refine wp_nt_d (fun hb => ?_) (fun hb => ?_) | refine wp_nt (fun hb => ?_) (fun hb => ?_) | refine wp_if_d (fun hb => ?_) (fun hb => ?_) | refine wp_if (fun hb => ?_) (fun hb => ?_)) <;> simp -implicitDefEqProofs (disch:=omega) only [hb,h1,h2,h4,h6,hh2,hh4,hm,go_sem,↓reduceIte,reduceAdd,reduceSub,reduceEqDiff,reduceLeDiff,reduceCtorEq])
    ·have hf : findT t id = some m := by
      simp only [findT, hok, if_true, findN]
      exact find_take_none hall hm (by simpa using hb)
     simp [hf, Nd.vv, hb]
    ·exact ⟨hlt, lt_succ_cases hm hall (by simpa using ‹_›), by simp only [Int.natCast_add, Int.natCast_one], rfl⟩
   ·have hf : findT t id = none := by
     simp only [findT, hok, if_true, findN]
     exact find_none fun i n hi => hall i n (by omega)
    simp -implicitDefEqProofs (disch:=omega) only [h1,h2,h4,h6,hh2,hh4,hge,go_sem,↓reduceIte,reduceAdd,reduceSub,reduceEqDiff,reduceLeDiff,reduceCtorEq]
    simp [hf, zeroNd, Nd.vv]
theorem rhas_eq (t : Tr) (id : Int) (hl : t.nodes.length < 1000000) : V 44 [t.vv, .p (.int .i64 id)] [] = some (.p (.bool (findT t id).isSome), []) := by
 refine V_wp (vf := vf44) rfl ?_
 have hc := rfind_eq t id hl
 simp -implicitDefEqProofs (disch:=omega) only [vf44,vb44,hc,go_sem,↓reduceIte,reduceAdd,reduceSub,reduceEqDiff,reduceLeDiff,reduceCtorEq]
def ancR (t : Tr) (id : Int) : List Int := if (findT t id).isSome then up t.nodes id else []
def kids (t : Tr) (id : Int) : List Int := if (findT t id).isSome then (t.nodes.filter fun n => decide (n.parent = id)).map (·.id) else []
theorem filter_take {p : Nd → Bool} {l : List Nd} {k : Nat} {m : Nd} (hm : l[k]? = some m) : (l.take (k + 1)).filter p = if p m then (l.take k).filter p ++ [m] else (l.take k).filter p := by
 rw [List.take_add_one, hm]
 simp only [List.filter_append, Option.toList, List.filter_cons, List.filter_nil]
 split <;> simp
theorem rkids_eq (t : Tr) (id : Int) (hl : t.nodes.length < 1000000) : V 49 [t.vv, .p (.int .i64 id)] [] = some (.fresh 1 ((kids t id).map (.int .i64)), []) := by
 refine V_wp (vf := vf49) rfl ?_
 have hc := rhas_eq t id hl
 cases hf : (findT t id).isSome with
 | false =>
  rw [hf] at hc
  simp -implicitDefEqProofs (disch:=omega) only [vf49,vb49,hc,go_sem,↓reduceIte,reduceAdd,reduceSub,reduceEqDiff,reduceLeDiff,reduceCtorEq]
  simp [kids, hf]
 | true =>
  rw [hf] at hc
  simp -implicitDefEqProofs (disch:=omega) only [vf49,vb49,hc,go_sem,↓reduceIte,reduceAdd,reduceSub,reduceEqDiff,reduceLeDiff,reduceCtorEq]
  refine wp_count t.nodes.length (fun k s => ∃ (acc : List Int) (v : Nat), acc = ((t.nodes.take k).filter fun n => decide (n.parent = id)).map (·.id) ∧ acc.length ≤ k ∧ s.pe 1 = .p (.int .i64 id) ∧ s.pe 2 = .ptr (.slot 2 0) 0 0 ∧ s.pe 5 = .own (.slot 5 0) v 0 acc.length ∧ s.pe 6 = .p (.int .i64 k) ∧ s.h (.slot 2 0) = some (0, .box [.p (nodesP t.nodes), .p (.int .i64 t.next)]) ∧ s.h (.slot 5 0) = some (v, .arr 1 (acc.map (.int .i64)))) ?_ ?_
  ·exact ⟨[], 0, rfl, by simp, rfl, rfl, rfl, rfl, rfl, rfl⟩
  ·rintro k s hk ⟨acc, v, hacc, hlen, h1, h2, h5, h6, hh2, hh5⟩
   simp -implicitDefEqProofs (disch:=omega) only [h1,h2,h5,h6,hh2,hh5,go_sem,↓reduceIte,reduceAdd,reduceSub,reduceEqDiff,reduceLeDiff,reduceCtorEq]
   refine wp_if_d (fun hlt => ?_) (fun hge => ?_)
   ·have hm : t.nodes[k]? = some t.nodes[k] := List.getElem?_eq_getElem hlt
    generalize t.nodes[k] = m at hm
    simp -implicitDefEqProofs (disch:=omega) only [h1,h2,h5,h6,hh2,hh5,hm,go_sem,↓reduceIte,reduceAdd,reduceSub,reduceEqDiff,reduceLeDiff,reduceCtorEq]
    repeat' ((first | refine wp_grn_d (fun hb => ?_) (fun hb => ?_) | refine wp_gtn_d (fun hb => ?_) (fun hb => ?_) | refine wp_gr_d (fun hb => ?_) (fun hb => ?_) | refine wp_gt_d (fun hb => ?_) (fun hb => ?_) | refine wp_gr (fun hb => ?_) (fun hb => ?_) | refine wp_gt (fun hb => ?_) (fun hb => ?_) | refine wp_nt_d (fun hb => ?_) (fun hb => ?_) | refine wp_nt (fun hb => ?_) (fun hb => ?_) | refine wp_if_d (fun hb => ?_) (fun hb => ?_) | refine wp_if (fun hb => ?_) (fun hb => ?_)) <;> simp -implicitDefEqProofs (disch:=omega) only [hb,h1,h2,h5,h6,hh2,hh5,hm,go_sem,↓reduceIte,reduceAdd,reduceSub,reduceEqDiff,reduceLeDiff,reduceCtorEq])
    ·refine ⟨hlt, acc ++ [m.id], v + 1, ?_, by simp; omega, by simp, by simp, by simp⟩
     rw [filter_take hm, hacc]
     simp [hb]
    ·refine ⟨hlt, acc, v, ?_, by omega, by simp, by simp, by simp⟩
     rw [filter_take hm, hacc]
     simp [hb]
   ·rw [List.take_of_length_le (by omega)] at hacc
    simp -implicitDefEqProofs (disch:=omega) only [h1,h2,h5,h6,hh2,hh5,hge,go_sem,↓reduceIte,reduceAdd,reduceSub,reduceEqDiff,reduceLeDiff,reduceCtorEq]
    simp [kids, hf, hacc]
theorem nodesOk_pos : ∀ (ns pre : List Nd), (∀ x ∈ pre, 1 ≤ x.id) → nodesOk pre ns = true → ∀ n ∈ ns, 1 ≤ n.id
 | [], _, _, _, n, hn => by cases hn
 | m :: ns, pre, hp, h, n, hn => by
  simp only [nodesOk, Bool.and_eq_true] at h
  have hm : 1 ≤ m.id := by
   have h1 := h.1
   unfold nodeOk at h1
   simp only [Bool.and_eq_true] at h1
   cases hl : pre.getLast? with
   | none =>
    rw [hl] at h1
    simp only [decide_eq_true_eq] at h1
    omega
   | some l =>
    rw [hl] at h1
    simp only [Bool.and_eq_true, decide_eq_true_eq] at h1
    have := hp l (List.mem_of_getLast? hl)
    omega
  rcases List.mem_cons.1 hn with rfl | hn
  ·exact hm
  ·refine nodesOk_pos ns (pre ++ [m]) (fun x hx => ?_) h.2 n hn
   rcases List.mem_append.1 hx with hx | hx
   ·exact hp x hx
   ·simp at hx; subst hx; exact hm
theorem nodeOk_nil {n : Nd} (h : nodeOk [] n = true) : n.id = 1 ∧ n.parent = 0 ∧ n.name = ⟨#[]⟩ ∧ n.kind = 0 := by
 simp only [nodeOk, List.getLast?_nil, Bool.and_eq_true, decide_eq_true_eq] at h
 exact h.2
theorem nodeOk_some {pre : List Nd} {l n : Nd} (hl : pre.getLast? = some l) : nodeOk pre n = true ↔ ((n.kind = 0 ∨ n.kind = 1) ∧ 0 ≤ n.control ∧ n.control ≤ 31 ∧ 0 ≤ n.owner ∧ n.owner ≤ 1048576) ∧ l.id < n.id ∧ validN n.name = true ∧ (∀ x ∈ pre, ¬ (x.parent = n.parent ∧ x.name = n.name)) ∧ ∃ x ∈ pre, x.id = n.parent := by
 simp only [nodeOk, hl, Bool.and_eq_true, decide_eq_true_eq, Bool.not_eq_true', List.any_eq_false, List.any_eq_true]
 constructor
 ·rintro ⟨⟨h1, h2⟩, ⟨⟨h3, h4⟩, h5⟩, h6⟩
  exact ⟨⟨h1, h2⟩, h3, h4, h5, h6⟩
 ·rintro ⟨⟨h1, h2⟩, h3, h4, h5, h6⟩
  exact ⟨⟨h1, h2⟩, ⟨⟨h3, h4⟩, h5⟩, h6⟩
theorem ids_lt : ∀ (ns pre : List Nd), nodesOk pre ns = true → (∀ (l : Nd), pre.getLast? = some l → ∀ x ∈ pre, x.id ≤ l.id) →
  (∀ x ∈ pre, ∀ n ∈ ns, x.id < n.id) ∧ ns.Pairwise fun a b => a.id < b.id
 | [], _, _, _ => ⟨fun _ _ _ h => (by cases h), List.Pairwise.nil⟩
 | m :: ns, pre, h, hp => by
  simp only [nodesOk, Bool.and_eq_true] at h
  have hm : ∀ x ∈ pre, x.id < m.id := fun x hx => by
   cases hl : pre.getLast? with
   | none => rw [List.getLast?_eq_none_iff] at hl; rw [hl] at hx; cases hx
   | some l =>
    have := ((nodeOk_some hl).1 h.1).2.1
    have := hp l hl x hx
    omega
  obtain ⟨h1, h2⟩ := ids_lt ns (pre ++ [m]) h.2 (fun l hl x hx => by
   simp at hl
   subst hl
   rcases List.mem_append.1 hx with hx | hx
   ·exact Int.le_of_lt (hm x hx)
   ·simp at hx; subst hx; exact Int.le_refl _)
  refine ⟨fun x hx n hn => ?_, List.pairwise_cons.2 ⟨fun n hn => h1 m (by simp) n hn, h2⟩⟩
  rcases List.mem_cons.1 hn with rfl | hn
  ·exact hm x hx
  ·exact h1 x (by simp [hx]) n hn
structure TreeOk (t : Tr) : Prop where
 len : 1 ≤ t.nodes.length ∧ t.nodes.length ≤ 64
 nodes : nodesOk [] t.nodes = true
 depth : ∀ n ∈ t.nodes, (up t.nodes n.id).length ≤ 9
 next : ∃ l, t.nodes.getLast? = some l ∧ l.id < t.next ∧ t.next ≤ 2147483648
theorem treeOk_iff (t : Tr) : treeOk t = true ↔ TreeOk t := by
 simp only [treeOk, Bool.and_eq_true, decide_eq_true_eq, List.all_eq_true]
 constructor
 ·rintro ⟨⟨⟨h1, h2⟩, h3⟩, h4⟩
  cases hl : t.nodes.getLast? with
  | none => rw [hl] at h4; cases h4
  | some l =>
   rw [hl] at h4
   simp only [decide_eq_true_eq] at h4
   exact ⟨h1, h2, h3, l, hl, h4⟩
 ·rintro ⟨h1, h2, h3, l, hl, h4⟩
  refine ⟨⟨⟨h1, h2⟩, h3⟩, ?_⟩
  rw [hl]
  simpa using h4
theorem TreeOk.inc {t : Tr} (h : TreeOk t) : t.nodes.Pairwise fun a b => a.id < b.id := (ids_lt t.nodes [] h.nodes (fun _ h => by simp at h)).2
theorem TreeOk.lt_next {t : Tr} (h : TreeOk t) : ∀ n ∈ t.nodes, n.id < t.next := by
 obtain ⟨l, hl, h1, _⟩ := h.next
 intro n hn
 obtain ⟨i, hi⟩ := List.getElem?_of_mem hn
 have hlt := (List.getElem?_eq_some_iff.1 hi).1
 rw [List.getLast?_eq_getElem?] at hl
 have hlt2 := (List.getElem?_eq_some_iff.1 hl).1
 have hinc := List.pairwise_iff_getElem.1 h.inc
 rcases Nat.lt_or_ge i (t.nodes.length - 1) with h2 | h2
 ·have := hinc i (t.nodes.length - 1) hlt hlt2 h2
  rw [(List.getElem?_eq_some_iff.1 hi).2, (List.getElem?_eq_some_iff.1 hl).2] at this
  omega
 ·have : i = t.nodes.length - 1 := by omega
  rw [this, hl] at hi
  simp at hi
  rw [← hi]
  exact h1
theorem TreeOk.root {t : Tr} (h : TreeOk t) : ∃ r ns, t.nodes = r :: ns ∧ r.id = 1 ∧ r.parent = 0 := by
 cases hn : t.nodes with
 | nil => have := h.len.1; rw [hn] at this; simp at this
 | cons r ns =>
  have := h.nodes
  rw [hn] at this
  simp only [nodesOk, Bool.and_eq_true] at this
  have := nodeOk_nil this.1
  exact ⟨r, ns, rfl, this.1, this.2.1⟩
theorem findN_some {ns : List Nd} {id : Int} (h : (findN ns id).isSome = true) : ∃ n ∈ ns, n.id = id := by
 unfold findN at h
 rw [List.find?_isSome] at h
 obtain ⟨n, hn, h⟩ := h
 exact ⟨n, hn, by simpa using h⟩
def idxOf (ns : List Nd) (id : Int) : Int := match ns.findIdx? (fun n => decide (n.id = id)) with
 | some i => i
 | none => -1
theorem at1_eq (n : Nd) (id : Int) : V 102 [n.vv, .ptr (.arg 0 0) 0 0] [.box [.p (.int .i64 id)]] = some (.p (.bool (decide (n.id = id))), [.box [.p (.int .i64 id)]]) := by
 refine V_wp (vf := vf102) rfl ?_
 simp -implicitDefEqProofs (disch:=omega) only [vf102,vb102,go_sem,↓reduceIte,reduceAdd,reduceSub,reduceEqDiff,reduceLeDiff,reduceCtorEq]
theorem idxOf_at {ns : List Nd} {id : Int} {k : Nat} {m : Nd} (hm : ns[k]? = some m) (h : ∀ (i : Nat) (n : Nd), i < k → ns[i]? = some n → ¬ n.id = id) (he : m.id = id) : idxOf ns id = k := by
 unfold idxOf
 have : ns.findIdx? (fun n => decide (n.id = id)) = some k := by
  rw [List.findIdx?_eq_some_iff_getElem]
  refine ⟨(List.getElem?_eq_some_iff.1 hm).1, by rw [(List.getElem?_eq_some_iff.1 hm).2]; simpa using he, fun j hj => ?_⟩
  have hl : j < ns.length := Nat.lt_trans hj (List.getElem?_eq_some_iff.1 hm).1
  simpa using h j ns[j] hj (List.getElem?_eq_getElem hl)
 rw [this]
theorem idxOf_none {ns : List Nd} {id : Int} (h : ∀ n ∈ ns, ¬ n.id = id) : idxOf ns id = -1 := by
 unfold idxOf
 have : ns.findIdx? (fun n => decide (n.id = id)) = none := by
  rw [List.findIdx?_eq_none_iff]
  intro x hx
  simpa using h x hx
 rw [this]
theorem indexFunc_eq (ns : List Nd) (id : Int) (hl : ns.length < 1000000) : V 101 [.p (nodesP ns), .fn 102 [.ptr (.arg 0 0) 0 0]] [.box [.p (.int .i64 id)]] = some (.p (.int .i64 (idxOf ns id)), [.box [.p (.int .i64 id)]]) := by
 refine V_wp (vf := vf101) rfl ?_
 simp -implicitDefEqProofs (disch:=omega) only [vf101,vb101,go_sem,↓reduceIte,reduceAdd,reduceSub,reduceEqDiff,reduceLeDiff,reduceCtorEq]
 refine wp_count ns.length (fun k s => (∀ (i : Nat) (n : Nd), i < k → ns[i]? = some n → ¬ n.id = id) ∧ s.pe 0 = .p (nodesP ns) ∧ s.pe 1 = .fn 102 [.ptr (.arg 0 0) 0 0] ∧ s.pe 7 = .p (.int .i64 ns.length) ∧ s.pe 8 = .p (.int .i64 k) ∧ s.h (.arg 0 0) = some (0, .box [.p (.int .i64 id)])) ?_ ?_
 ·exact ⟨by omega, rfl, rfl, rfl, rfl, rfl⟩
 ·rintro k s hk ⟨hall, h0, h1, h7, h8, hh⟩
  simp -implicitDefEqProofs (disch:=omega) only [h0,h1,h7,h8,hh,go_sem,↓reduceIte,reduceAdd,reduceSub,reduceEqDiff,reduceLeDiff,reduceCtorEq]
  refine wp_if_d (fun hlt => ?_) (fun hge => ?_)
  ·have hm : ns[k]? = some ns[k] := List.getElem?_eq_getElem hlt
   generalize ns[k] = m at hm
   have hc := at1_eq m id
   unfold Nd.vv at hc
   simp -implicitDefEqProofs (disch:=omega) only [h0,h1,h7,h8,hh,hm,hc,go_sem,↓reduceIte,reduceAdd,reduceSub,reduceEqDiff,reduceLeDiff,reduceCtorEq]
   repeat' ((first | refine wp_grn_d (fun hb => ?_) (fun hb => ?_) | refine wp_gtn_d (fun hb => ?_) (fun hb => ?_) | refine wp_gr_d (fun hb => ?_) (fun hb => ?_) | refine wp_gt_d (fun hb => ?_) (fun hb => ?_) | refine wp_gr (fun hb => ?_) (fun hb => ?_) | refine wp_gt (fun hb => ?_) (fun hb => ?_) | refine wp_nt_d (fun hb => ?_) (fun hb => ?_) | refine wp_nt (fun hb => ?_) (fun hb => ?_) | refine wp_if_d (fun hb => ?_) (fun hb => ?_) | refine wp_if (fun hb => ?_) (fun hb => ?_)) <;> simp -implicitDefEqProofs (disch:=omega) only [hb,h0,h1,h7,h8,hh,go_sem,↓reduceIte,reduceAdd,reduceSub,reduceEqDiff,reduceLeDiff,reduceCtorEq])
   ·rw [idxOf_at hm hall hb]
   ·exact ⟨hlt, lt_succ_cases hm hall hb, by simp only [Int.natCast_add, Int.natCast_one]⟩
  ·simp -implicitDefEqProofs (disch:=omega) only [h0,h1,h7,h8,hh,hge,go_sem,↓reduceIte,reduceAdd,reduceSub,reduceEqDiff,reduceLeDiff,reduceCtorEq]
   rw [idxOf_none]
   intro n hn
   obtain ⟨i, hi⟩ := List.getElem?_of_mem hn
   exact hall i n (by have := (List.getElem?_eq_some_iff.1 hi).1; omega) hi
theorem at_eq (t : Tr) (id : Int) (hl : t.nodes.length < 1000000) : V 84 [t.vv, .p (.int .i64 id)] [] = some (.p (.int .i64 (idxOf t.nodes id)), []) := by
 refine V_wp (vf := vf84) rfl ?_
 have hc := indexFunc_eq t.nodes id hl
 simp -implicitDefEqProofs (disch:=omega) only [vf84,vb84,hc,go_sem,↓reduceIte,reduceAdd,reduceSub,reduceEqDiff,reduceLeDiff,reduceCtorEq]
theorem idxOf_lt (ns : List Nd) (id : Int) : (idxOf ns id < 0 ∧ findN ns id = none) ∨ ∃ (k : Nat) (m : Nd), idxOf ns id = k ∧ ns[k]? = some m ∧ findN ns id = some m ∧ m.id = id := by
 unfold idxOf findN
 cases h : ns.findIdx? (fun n => decide (n.id = id)) with
 | none =>
  left
  rw [List.findIdx?_eq_none_iff] at h
  exact ⟨by show (-1 : Int) < 0; omega, List.find?_eq_none.2 fun x hx => by simp [h x hx]⟩
 | some k =>
  right
  rw [List.findIdx?_eq_some_iff_getElem] at h
  obtain ⟨h1, h2, h3⟩ := h
  refine ⟨k, ns[k], rfl, List.getElem?_eq_getElem h1, find_take_none (k := k) (fun i n hi hn => ?_) (List.getElem?_eq_getElem h1) h2, by simpa using h2⟩
  have := h3 i hi
  rw [← (List.getElem?_eq_some_iff.1 hn).2]
  simpa using this
theorem ffind_eq (t : Tr) (id : Int) (hl : t.nodes.length < 1000000) : V 66 [t.vv, .p (.int .i64 id)] [] = some (.tup [((findN t.nodes id).getD zeroNd).vv, .p (.bool (findN t.nodes id).isSome)], []) := by
 refine V_wp (vf := vf66) rfl ?_
 have hc := at_eq t id hl
 rcases idxOf_lt t.nodes id with ⟨h1, h2⟩ | ⟨k, m, h1, h2, h3, h4⟩
 ·simp -implicitDefEqProofs (disch:=omega) only [vf66,vb66,hc,h1,go_sem,↓reduceIte,reduceAdd,reduceSub,reduceEqDiff,reduceLeDiff,reduceCtorEq]
  simp [h2, zeroNd, Nd.vv]
 ·rw [h1] at hc
  have hk : ¬ (k : Int) < 0 := by omega
  simp -implicitDefEqProofs (disch:=omega) only [vf66,vb66,hc,hk,h2,go_sem,↓reduceIte,reduceAdd,reduceSub,reduceEqDiff,reduceLeDiff,reduceCtorEq]
  simp [h3, Nd.vv]
def ancF (ns : List Nd) : Nat → Int → List Int
 | 0, _ => []
 | k + 1, id => match findN ns id with
  | none => []
  | some n => id :: ancF ns k n.parent
theorem ancF_length (ns : List Nd) : ∀ (k : Nat) (id : Int), (ancF ns k id).length ≤ k
 | 0, _ => Nat.le_refl _
 | k + 1, id => by
  unfold ancF
  split
  ·simp
  ·have := ancF_length ns k
   simp
   exact this _
theorem fanc_eq (t : Tr) (id : Int) (hl : t.nodes.length < 1000000) : V 85 [t.vv, .p (.int .i64 id)] [] = some (.fresh 1 ((ancF t.nodes t.nodes.length id).map (.int .i64)), []) := by
 refine V_wp (vf := vf85) rfl ?_
 simp -implicitDefEqProofs (disch:=omega) only [vf85,vb85,go_sem,↓reduceIte,reduceAdd,reduceSub,reduceEqDiff,reduceLeDiff,reduceCtorEq]
 refine wp_count t.nodes.length (fun k s => ∃ (acc : List Int) (cur : Int) (v : Nat), ancF t.nodes t.nodes.length id = acc ++ ancF t.nodes (t.nodes.length - k) cur ∧ acc.length ≤ k ∧ s.pe 1 = .p (.int .i64 cur) ∧ s.pe 2 = .ptr (.slot 2 0) 0 0 ∧ s.pe 5 = .own (.slot 5 0) v 0 acc.length ∧ s.pe 10 = .p (.int .i64 t.nodes.length) ∧ s.pe 11 = .p (.int .i64 k) ∧ s.h (.slot 2 0) = some (0, .box [.p (nodesP t.nodes), .p (.int .i64 t.next)]) ∧ s.h (.slot 5 0) = some (v, .arr 1 (acc.map (.int .i64)))) ?_ ?_
 ·exact ⟨[], id, 0, by simp, by simp, rfl, rfl, rfl, rfl, rfl, rfl, rfl⟩
 ·rintro k s hk ⟨acc, cur, v, hup, hlen, h1, h2, h5, h10, h11, hh2, hh5⟩
  simp -implicitDefEqProofs (disch:=omega) only [h1,h2,h5,h10,h11,hh2,hh5,go_sem,↓reduceIte,reduceAdd,reduceSub,reduceEqDiff,reduceLeDiff,reduceCtorEq]
  refine wp_if_d (fun hlt => ?_) (fun hge => ?_)
  ·have hc := ffind_eq t cur hl
   obtain ⟨d, hd⟩ : ∃ d, t.nodes.length - k = d + 1 := ⟨t.nodes.length - k - 1, by omega⟩
   have hd' : t.nodes.length - (k + 1) = d := by omega
   rw [hd, ancF] at hup
   cases hf : findN t.nodes cur with
   | none =>
    rw [hf] at hc hup
    simp only [Option.getD_none, Option.isSome_none, List.append_nil] at hc hup
    unfold Nd.vv zeroNd at hc
    simp -implicitDefEqProofs (disch:=omega) only [h1,h2,h5,h10,h11,hh2,hh5,hc,go_sem,↓reduceIte,reduceAdd,reduceSub,reduceEqDiff,reduceLeDiff,reduceCtorEq]
    rw [hup]
   | some m =>
    rw [hf] at hc hup
    simp only [Option.getD_some, Option.isSome_some] at hc hup
    unfold Nd.vv at hc
    simp -implicitDefEqProofs (disch:=omega) only [h1,h2,h5,h10,h11,hh2,hh5,hc,go_sem,↓reduceIte,reduceAdd,reduceSub,reduceEqDiff,reduceLeDiff,reduceCtorEq]
    exact ⟨hlt, acc ++ [cur], m.parent, v + 1, by rw [hup, hd']; simp, by simp; omega, rfl, by simp, by simp only [Int.natCast_add, Int.natCast_one], by simp⟩
  ·have hz : t.nodes.length - k = 0 := by omega
   rw [hz, ancF, List.append_nil] at hup
   simp -implicitDefEqProofs (disch:=omega) only [h1,h2,h5,h10,h11,hh2,hh5,hge,go_sem,↓reduceIte,reduceAdd,reduceSub,reduceEqDiff,reduceLeDiff,reduceCtorEq]
   rw [hup]
theorem troot_eq (n : Nd) : V 98 [n.vv] [] = some (.p (.bool (decide (n.id = 1 ∧ n.parent = 0 ∧ n.name = ⟨#[]⟩ ∧ n.kind = 0))), []) := by
 refine V_wp (vf := vf98) rfl ?_
 simp -implicitDefEqProofs (disch:=omega) only [vf98,vb98,go_sem,↓reduceIte,reduceAdd,reduceSub,reduceEqDiff,reduceLeDiff,reduceCtorEq]
 repeat' ((first | refine wp_grn_d (fun hb => ?_) (fun hb => ?_) | refine wp_gtn_d (fun hb => ?_) (fun hb => ?_) | refine wp_gr_d (fun hb => ?_) (fun hb => ?_) | refine wp_gt_d (fun hb => ?_) (fun hb => ?_) | refine wp_gr (fun hb => ?_) (fun hb => ?_) | refine wp_gt (fun hb => ?_) (fun hb => ?_) | refine wp_nt_d (fun hb => ?_) (fun hb => ?_) | refine wp_nt (fun hb => ?_) (fun hb => ?_) | refine wp_if_d (fun hb => ?_) (fun hb => ?_) | refine wp_if (fun hb => ?_) (fun hb => ?_)) <;> simp -implicitDefEqProofs (disch:=omega) only [hb,go_sem,↓reduceIte,reduceAdd,reduceSub,reduceEqDiff,reduceLeDiff,reduceCtorEq])
 all_goals
  simp only [Prod.mk.injEq, VVal.p.injEq, PV.bool.injEq, and_true]
  rw [Bool.eq_iff_iff]
  simp only [decide_eq_true_eq, Bool.false_eq_true, false_iff]
  simp [*]
def fineB (pre : List Nd) (l n : Nd) : Bool := decide (l.id < n.id) && validN n.name && decide (n.kind = 0 ∨ n.kind = 1) && !(pre.any fun x => decide (x.parent = n.parent ∧ x.name = n.name)) && pre.any fun x => decide (x.id = n.parent)
set_option maxHeartbeats 2000000 in
theorem tfine_eq (pre : List Nd) (l n : Nd) (hl : pre.getLast? = some l) (hlen : pre.length < 1000000) (hs : n.name.size < 9223372036854775808) : V 99 [.p (nodesP pre), n.vv] [] = some (.p (.bool (fineB pre l n)), []) := by
  refine V_wp (vf := vf99) rfl ?_
  have hpre : pre[((pre.length : Int) - 1).toNat]? = some l := by
    rw [List.getLast?_eq_getElem?] at hl
    rw [show ((pre.length : Int) - 1).toNat = pre.length - 1 by omega]
    exact hl
  have hpos : 0 < pre.length := by
    have := (List.getElem?_eq_some_iff.1 hpre).1
    omega
  have hp0 : 0 ≤ (pre.length : Int) - 1 := by omega
  have hv := pvalid_eq n.name hs
  simp -implicitDefEqProofs (disch:=omega) only [vf99,vb99,hpre,hp0,go_sem,↓reduceIte,reduceAdd,reduceSub,reduceEqDiff,reduceLeDiff,reduceCtorEq]
  repeat' ((first | refine wp_grn_d (fun hb => ?_) (fun hb => ?_) | refine wp_gtn_d (fun hb => ?_) (fun hb => ?_) | refine wp_gr_d (fun hb => ?_) (fun hb => ?_) | refine wp_gt_d (fun hb => ?_) (fun hb => ?_) | refine wp_gr (fun hb => ?_) (fun hb => ?_) | refine wp_gt (fun hb => ?_) (fun hb => ?_) | refine wp_nt_d (fun hb => ?_) (fun hb => ?_) | refine wp_nt (fun hb => ?_) (fun hb => ?_) | refine wp_if_d (fun hb => ?_) (fun hb => ?_) | refine wp_if (fun hb => ?_) (fun hb => ?_)) <;> simp -implicitDefEqProofs (disch:=omega) only [hb,hpre,hv,go_sem,↓reduceIte,reduceAdd,reduceSub,reduceEqDiff,reduceLeDiff,reduceCtorEq])
  all_goals first
    | (simp only [fineB, Prod.mk.injEq, VVal.p.injEq, PV.bool.injEq, and_true]
       rw [Bool.eq_iff_iff]
       simp only [Bool.and_eq_true, decide_eq_true_eq, Bool.false_eq_true, false_iff]
       try simp only [*]
       first | omega | (simp; done) | (simp; omega))
    | (have hvf : validN n.name = false := by simpa using ‹(!validN n.name) = true›
       simp only [fineB, hvf, Bool.and_false, Bool.false_and]
       done)
    | skip
  all_goals
    have hvt : validN n.name = true := by simpa using ‹(!validN n.name) = false›
    refine wp_count pre.length (fun k s => ((pre.take k).any (fun x => decide (x.parent = n.parent ∧ x.name = n.name)) = false) ∧ s.pe 3 = .ptr (.slot 3 0) 0 0 ∧ s.pe 5 = .p (.bool ((pre.take k).any fun x => decide (x.id = n.parent))) ∧ s.pe 34 = .p (nodesP pre) ∧ s.pe 35 = .p (.int .i64 pre.length) ∧ s.pe 36 = .p (.int .i64 k) ∧ s.h (.slot 3 0) = some (0, .box (n.pv.cells.map .p))) ?_ ?_
    · exact ⟨by simp, rfl, rfl, rfl, rfl, rfl, by simp -implicitDefEqProofs (disch := omega) only [go_sem, ↓reduceIte, reduceAdd, reduceSub, reduceEqDiff, reduceLeDiff, reduceCtorEq]; simp only [*]⟩
    · rintro k s hk ⟨hno, h3, h5, h34, h35, h36, hh3⟩
      simp only [Nd.pv, PV.cells, List.map_cons, List.map_nil] at hh3
      simp -implicitDefEqProofs (disch:=omega) only [h3,h5,h34,h35,h36,hh3,go_sem,↓reduceIte,reduceAdd,reduceSub,reduceEqDiff,reduceLeDiff,reduceCtorEq]
      refine wp_if_d (fun hki => ?_) (fun hge => ?_)
      · have hm : pre[k]? = some pre[k] := List.getElem?_eq_getElem (by omega)
        generalize pre[k] = m at hm
        simp -implicitDefEqProofs (disch:=omega) only [h3,h5,h34,h35,h36,hh3,hm,hki,go_sem,↓reduceIte,reduceAdd,reduceSub,reduceEqDiff,reduceLeDiff,reduceCtorEq]
        repeat' ((first | refine wp_grn_d (fun hb => ?_) (fun hb => ?_) | refine wp_gtn_d (fun hb => ?_) (fun hb => ?_) | refine wp_gr_d (fun hb => ?_) (fun hb => ?_) | refine wp_gt_d (fun hb => ?_) (fun hb => ?_) | refine wp_gr (fun hb => ?_) (fun hb => ?_) | refine wp_gt (fun hb => ?_) (fun hb => ?_) | refine wp_nt_d (fun hb => ?_) (fun hb => ?_) | refine wp_nt (fun hb => ?_) (fun hb => ?_) | refine wp_if_d (fun hb => ?_) (fun hb => ?_) | refine wp_if (fun hb => ?_) (fun hb => ?_)) <;> simp -implicitDefEqProofs (disch:=omega) only [hb,h3,h5,h34,h35,h36,hh3,hm,hki,go_sem,↓reduceIte,reduceAdd,reduceSub,reduceEqDiff,reduceLeDiff,reduceCtorEq])
        all_goals first
          | (have ha : (pre.any fun x => decide (x.parent = n.parent ∧ x.name = n.name)) = true := by
              rw [List.any_eq_true]
              exact ⟨m, List.mem_of_getElem? hm, by simp [*]⟩
             simp only [fineB, ha, Bool.not_true, Bool.and_false, Bool.false_and]
             done)
          | exact ⟨by rw [any_take hm, hno]; simp [*], by rw [any_take hm]; simp [*], by simp only [Int.natCast_add, Int.natCast_one]⟩
      · simp -implicitDefEqProofs (disch:=omega) only [h3,h5,h34,h35,h36,hh3,hge,go_sem,↓reduceIte,reduceAdd,reduceSub,reduceEqDiff,reduceLeDiff,reduceCtorEq]
        have hki : k = pre.length := by omega
        subst hki
        rw [List.take_length] at hno ⊢
        simp only [fineB, hno, Prod.mk.injEq, VVal.p.injEq, PV.bool.injEq, and_true]
        rw [Bool.eq_iff_iff]
        simp only [Bool.and_eq_true, decide_eq_true_eq, Bool.not_false, and_true, true_and]
        exact ⟨fun h => ⟨⟨⟨by omega, hvt⟩, by omega⟩, h⟩, fun h => h.2⟩
theorem fineB_nodeOk {pre : List Nd} {l n : Nd} (hl : pre.getLast? = some l) : nodeOk pre n = (decide (0 ≤ n.control ∧ n.control ≤ 31 ∧ 0 ≤ n.owner ∧ n.owner ≤ 1048576) && fineB pre l n) := by
 rw [Bool.eq_iff_iff]
 simp only [nodeOk, hl, fineB, Bool.and_eq_true, decide_eq_true_eq]
 constructor
 ·rintro ⟨⟨h1, h2⟩, ⟨⟨h3, h4⟩, h5⟩, h6⟩
  exact ⟨h2, ⟨⟨⟨h3, h4⟩, h1⟩, h5⟩, h6⟩
 ·rintro ⟨h2, ⟨⟨⟨h3, h4⟩, h1⟩, h5⟩, h6⟩
  exact ⟨⟨h1, h2⟩, ⟨⟨h3, h4⟩, h5⟩, h6⟩
theorem andNot31 {a : Int} (h0 : 0 ≤ a) (h1 : a < 9223372036854775808) : (IntKind.i64.wrap ((BitVec.ofInt IntKind.i64.bits a &&& ~~~ BitVec.ofInt IntKind.i64.bits 31).toNat : Int) = 0) = (a ≤ 31) := by
 have e64 : IntKind.i64.bits = 64 := rfl
 rw [eq_iff_iff]
 generalize hx : BitVec.ofInt IntKind.i64.bits a = x
 generalize hy : (x &&& ~~~ BitVec.ofInt IntKind.i64.bits 31) = y
 have hxn : x.toNat = a.toNat := by
  rw [← hx, BitVec.toNat_ofInt]
  rw [e64]
  omega
 have hbit : ∀ i, y.getLsbD i = (x.getLsbD i && decide (5 ≤ i)) := fun i => by
  rw [← hy, BitVec.getLsbD_and, BitVec.getLsbD_not]
  have h31 : (BitVec.ofInt IntKind.i64.bits 31).getLsbD i = decide (i < 5) := by
   rw [show BitVec.ofInt IntKind.i64.bits 31 = BitVec.ofNat IntKind.i64.bits 31 from rfl, BitVec.getLsbD_ofNat]
   rw [show (31 : Nat) = 2 ^ 5 - 1 from rfl, Nat.testBit_two_pow_sub_one, e64]
   rw [Bool.eq_iff_iff]
   simp
   omega
  rw [h31]
  by_cases hi : i < IntKind.i64.bits
  ·rw [Bool.eq_iff_iff]
   simp [hi]
  ·have : x.getLsbD i = false := BitVec.getLsbD_of_ge x i (by omega)
   simp [this]
 have hyle : y.toNat ≤ x.toNat := by
  rw [← hy, BitVec.toNat_and]
  exact Nat.and_le_left
 have hw : IntKind.i64.wrap (y.toNat : Int) = y.toNat := wrap64 (by omega) (by omega)
 rw [hw]
 constructor
 ·intro h
  have hy0 : y = 0#_ := BitVec.eq_of_toNat_eq (by simpa using h)
  have hlt : x.toNat < 2 ^ 5 := Nat.lt_pow_two_of_testBit _ fun i hi => by
   have := hbit i
   rw [hy0] at this
   simp only [BitVec.getLsbD_zero, decide_eq_true hi, Bool.and_true] at this
   exact this.symm
  omega
 ·intro h
  have hlt : x.toNat < 2 ^ 5 := by omega
  have hy0 : y = 0#_ := BitVec.eq_of_getLsbD_eq fun i hi => by
   rw [hbit i]
   by_cases h5 : 5 ≤ i
   ·have : x.getLsbD i = false := by
     rw [BitVec.getLsbD]
     exact Nat.testBit_lt_two_pow (Nat.lt_of_lt_of_le hlt (Nat.pow_le_pow_right (by omega) h5))
    simp [this]
   ·simp [h5]
  rw [hy0]
  simp
theorem upR_append_skip {id : Int} : ∀ (a b : List Nd), (∀ x ∈ a, x.id ≠ id) → upR (a ++ b) id = upR b id
 | [], _, _ => rfl
 | x :: a, b, h => by
  rw [List.cons_append, upR, if_neg (h x (List.mem_cons_self ..)), upR_append_skip a b fun y hy => h y (List.mem_cons_of_mem _ hy)]
theorem up_snoc_eq (pre : List Nd) (m : Nd) : up (pre ++ [m]) m.id = m.id :: up pre m.parent := by
 unfold up
 rw [List.reverse_append]
 simp only [List.reverse_cons, List.reverse_nil, List.nil_append, List.cons_append, upR, if_true]
theorem up_snoc_ne (pre : List Nd) (m : Nd) {id : Int} (h : m.id ≠ id) : up (pre ++ [m]) id = up pre id := by
 unfold up
 rw [List.reverse_append]
 simp only [List.reverse_cons, List.reverse_nil, List.nil_append, List.cons_append, upR]
 rw [if_neg h]
theorem up_take {ns : List Nd} (hinc : ns.Pairwise fun a b => a.id < b.id) {k : Nat} {n : Nd} (hn : n ∈ ns.take k) : up ns n.id = up (ns.take k) n.id := by
 unfold up
 conv => lhs; rw [← List.take_append_drop k ns, List.reverse_append]
 refine upR_append_skip _ _ fun x hx => ?_
 rw [List.mem_reverse] at hx
 rw [← List.take_append_drop k ns, List.pairwise_append] at hinc
 have := hinc.2.2 n hn x hx
 omega
theorem mget_mput_same : ∀ (ks : List MKey) (vs : List PV) (k : MKey) (v : PV), mget (mput ks vs k v).1 (mput ks vs k v).2 k = some v
 | [], vs, k, v => by cases vs <;> simp [mput, mget]
 | x :: ks, [], k, v => by simp [mput, mget]
 | x :: ks, y :: vs, k, v => by
  unfold mput
  split
  ·rename_i h
   simp [mget, h]
  ·rename_i h
   simp only [mget, if_neg h]
   exact mget_mput_same ks vs k v
theorem mget_mput_other : ∀ (ks : List MKey) (vs : List PV) (k k' : MKey) (v : PV), ks.length = vs.length → k' ≠ k → mget (mput ks vs k v).1 (mput ks vs k v).2 k' = mget ks vs k'
 | [], [], k, k', v, _, h => by simp [mput, mget, h]
 | [], _ :: _, k, k', v, hl, h => by simp at hl
 | x :: ks, [], k, k', v, hl, h => by simp at hl
 | x :: ks, y :: vs, k, k', v, hl, h => by
  unfold mput
  split
  ·rename_i e
   subst e
   simp [mget, h]
  ·simp only [mget]
   split
   ·rfl
   ·exact mget_mput_other ks vs k k' v (by simpa using hl) h
theorem mput_len : ∀ (ks : List MKey) (vs : List PV) (k : MKey) (v : PV), ks.length = vs.length → (mput ks vs k v).1.length = (mput ks vs k v).2.length
 | [], [], _, _, _ => rfl
 | [], _ :: _, _, _, h => by simp at h
 | _ :: _, [], _, _, h => by simp at h
 | x :: ks, y :: vs, k, v, h => by
  unfold mput
  split
  ·simpa using h
  ·simp only [List.length_cons]
   rw [mput_len ks vs k v (by simpa using h)]
structure Nd.Fits (n : Nd) : Prop where
 name : n.name.size < 9223372036854775808
 control : n.control < 9223372036854775808
def Tr.Fits (t : Tr) : Prop := ∀ n ∈ t.nodes, n.Fits
theorem treeOk_false_of_node {t : Tr} {k : Nat} {m : Nd} (hm : t.nodes[k]? = some m) (h : nodeOk (t.nodes.take k) m = false) : treeOk t = false := by
 rw [Bool.eq_false_iff]
 intro h0
 have := (nodesOk_iff _ _).1 ((treeOk_iff t).1 h0).nodes k m hm
 rw [List.nil_append, h] at this
 cases this
theorem treeOk_false_of_depth {t : Tr} {k : Nat} {m : Nd} (hm : t.nodes[k]? = some m) (h : 9 < (up (t.nodes.take (k + 1)) m.id).length) : treeOk t = false := by
 rw [Bool.eq_false_iff]
 intro h0
 have hok := (treeOk_iff t).1 h0
 have hin : m ∈ t.nodes.take (k + 1) := by
  have : (t.nodes.take (k + 1))[k]? = some m := by rw [List.getElem?_take, if_pos (by omega)]; exact hm
  exact List.mem_of_getElem? this
 have := hok.depth m (List.mem_of_getElem? hm)
 rw [up_take hok.inc hin] at this
 omega
theorem nodeOk_bad {pre : List Nd} {n : Nd} (h : ¬ (0 ≤ n.control ∧ n.control ≤ 31 ∧ 0 ≤ n.owner ∧ n.owner ≤ 1048576)) : nodeOk pre n = false := by
 simp only [nodeOk, decide_eq_false h, Bool.and_false, Bool.false_and]
theorem take_snoc {α : Type} {l : List α} {k : Nat} {x : α} (h : l[k]? = some x) : l.take (k + 1) = l.take k ++ [x] := by
 rw [List.take_add_one, h]
 rfl
set_option maxHeartbeats 4000000 in
theorem tcheck_eq (t : Tr) (hf : t.Fits) (hl : t.nodes.length < 1000000) : V 82 [t.vv] [] = some (.p (.bool (treeOk t)), []) := by
 refine V_wp (vf := vf82) rfl ?_
 by_cases h1 : (t.nodes.length : Int) < 1
 ·simp -implicitDefEqProofs (disch:=omega) only [vf82,vb82,h1,go_sem,↓reduceIte,reduceAdd,reduceSub,reduceEqDiff,reduceLeDiff,reduceCtorEq]
  simp [treeOk, show ¬ 1 ≤ t.nodes.length by omega]
 by_cases h2 : 64 < (t.nodes.length : Int)
 ·simp -implicitDefEqProofs (disch:=omega) only [vf82,vb82,h1,h2,go_sem,↓reduceIte,reduceAdd,reduceSub,reduceEqDiff,reduceLeDiff,reduceCtorEq]
  simp [treeOk, show ¬ t.nodes.length ≤ 64 by omega]
 have hz : (0 : Int).toNat = 0 := rfl
 have hr0 : t.nodes[0]? = some t.nodes[0] := List.getElem?_eq_getElem (by omega)
 generalize t.nodes[0] = r at hr0
 have hroot := troot_eq r
 by_cases hr : ¬ (r.id = 1 ∧ r.parent = 0 ∧ r.name = ⟨#[]⟩ ∧ r.kind = 0)
 ·rw [decide_eq_false hr] at hroot
  unfold Nd.vv at hroot
  simp -implicitDefEqProofs (disch:=omega) only [vf82,vb82,h1,h2,hz,hr0,hroot,go_sem,↓reduceIte,reduceAdd,reduceSub,reduceEqDiff,reduceLeDiff,reduceCtorEq]
  rw [treeOk_false_of_node hr0]
  rw [Bool.eq_false_iff]
  intro h0
  exact hr (nodeOk_nil (by simpa using h0))
 have hr := Classical.not_not.1 hr
 rw [decide_eq_true hr] at hroot
 unfold Nd.vv at hroot
 simp -implicitDefEqProofs (disch:=omega) only [vf82,vb82,h1,h2,hz,hr0,hroot,go_sem,↓reduceIte,reduceAdd,reduceSub,reduceEqDiff,reduceLeDiff,reduceCtorEq]
 refine wp_count t.nodes.length (fun k s => ∃ (ks : List MKey) (vs : List PV), ks.length = vs.length ∧ (k = 0 → ks = [] ∧ vs = []) ∧ (∀ (i : Nat) (n : Nd), i < k → t.nodes[i]? = some n → (mget ks vs (.int n.id)).getD (.int .i64 0) = .int .i64 (((up (t.nodes.take k) n.id).length : Int) - 1)) ∧
  (∀ (i : Nat) (n : Nd), i < k → t.nodes[i]? = some n → nodeOk (t.nodes.take i) n = true) ∧ (∀ (i : Nat) (n : Nd), i < k → t.nodes[i]? = some n → (up (t.nodes.take k) n.id).length ≤ 9) ∧ s.pe 1 = .ptr (.slot 1 0) 0 0 ∧ s.pe 3 = .mref (.slot 24 0) 0 ∧ s.pe 26 = .p (nodesP t.nodes) ∧ s.pe 27 = .p (.int .i64 t.nodes.length) ∧ s.pe 28 = .p (.int .i64 k) ∧
  s.h (.slot 1 0) = some (0, .box [.p (nodesP t.nodes), .p (.int .i64 t.next)]) ∧ s.h (.slot 24 0) = some (0, .map (.int .i64) ks vs)) ?_ ?_
 ·refine ⟨[], [], rfl, fun _ => ⟨rfl, rfl⟩, by omega, by omega, by omega, ?_⟩
  simp -implicitDefEqProofs (disch:=omega) only [go_sem,↓reduceIte,reduceAdd,reduceSub,reduceEqDiff,reduceLeDiff,reduceCtorEq]
  rfl
 ·rintro k s hk ⟨ks, vs, hkl, hk0, hdep, hnok, hup, p1, p3, p26, p27, p28, hh1, hh24⟩
  simp -implicitDefEqProofs (disch:=omega) only [p1,p3,p26,p27,p28,hh1,hh24,go_sem,↓reduceIte,reduceAdd,reduceSub,reduceEqDiff,reduceLeDiff,reduceCtorEq]
  refine wp_if_d (fun hlt => ?_) (fun hge => ?_)
  ·have hm : t.nodes[k]? = some t.nodes[k] := List.getElem?_eq_getElem hlt
   generalize t.nodes[k] = m at hm
   have hfit := hf m (List.mem_of_getElem? hm)
   have hctl := hfit.control
   by_cases hbad : 0 ≤ m.control ∧ m.control ≤ 31 ∧ 0 ≤ m.owner ∧ m.owner ≤ 1048576
   ·have c1 : ¬ m.control < 0 := by omega
    have c2 : m.control ≤ 31 := by omega
    have c3 : ¬ m.owner < 0 := by omega
    have c4 : ¬ 1048576 < m.owner := by omega
    have hbits := andNot31 hbad.1 hctl
    by_cases hkp : 0 < (k : Int)
    ·obtain ⟨l, hlast⟩ : ∃ l, (t.nodes.take k).getLast? = some l := by
      cases hq : (t.nodes.take k).getLast? with
      | none =>
       rw [List.getLast?_eq_none_iff] at hq
       have := congrArg List.length hq
       rw [List.length_take, List.length_nil] at this
       omega
      | some l => exact ⟨l, rfl⟩
     have hfine := tfine_eq (t.nodes.take k) l m hlast (by simp; omega) hfit.name
     unfold Nd.vv nodesP at hfine
     have hle : k ≤ t.nodes.length := hk
     cases hfb : fineB (t.nodes.take k) l m with
     | false =>
      rw [hfb] at hfine
      simp -implicitDefEqProofs (disch:=omega) only [p1,p3,p26,p27,p28,hh1,hh24,hm,hbits,c1,c2,c3,c4,hkp,hle,Nat.sub_zero,← List.map_take,hfine,go_sem,↓reduceIte,reduceAdd,reduceSub,reduceEqDiff,reduceLeDiff,reduceCtorEq]
      rw [treeOk_false_of_node hm]
      rw [fineB_nodeOk hlast, hfb, Bool.and_false]
     | true =>
      rw [hfb] at hfine
      have hno : nodeOk (t.nodes.take k) m = true := by rw [fineB_nodeOk hlast, hfb, decide_eq_true hbad]; rfl
      obtain ⟨b1, b2, b3, b4, pn, hpn, hpe⟩ := (nodeOk_some hlast).1 hno
      obtain ⟨pi, hpi⟩ := List.getElem?_of_mem hpn
      have hpik : pi < k := by
       have := (List.getElem?_eq_some_iff.1 hpi).1
       simp at this
       omega
      rw [List.getElem?_take, if_pos hpik] at hpi
      have hd := hdep pi pn hpik hpi
      rw [hpe] at hd
      have hul := hup pi pn hpik hpi
      rw [hpe] at hul
      simp -implicitDefEqProofs (disch:=omega) only [p1,p3,p26,p27,p28,hh1,hh24,hm,hbits,c1,c2,c3,c4,hkp,hle,Nat.sub_zero,← List.map_take,hfine,hd,mget_mput_same,Option.getD_some,go_sem,↓reduceIte,reduceAdd,reduceSub,reduceEqDiff,reduceLeDiff,reduceCtorEq]
      have htk : t.nodes.take (k + 1) = t.nodes.take k ++ [m] := take_snoc hm
      have hum : up (t.nodes.take (k + 1)) m.id = m.id :: up (t.nodes.take k) m.parent := by rw [htk]; exact up_snoc_eq _ _
      have hltm : ∀ (i : Nat) (n : Nd), i < k → t.nodes[i]? = some n → n.id < m.id := fun i n hi hn => by
       have hno' : nodesOk [] (t.nodes.take (k + 1)) = true := (nodesOk_iff _ _).2 fun j x hx => by
        have hjl := (List.getElem?_eq_some_iff.1 hx).1
        simp at hjl
        rw [List.getElem?_take, if_pos (by omega)] at hx
        rw [List.nil_append, List.take_take, Nat.min_eq_left (by omega)]
        rcases Nat.lt_or_ge j k with h0 | h0
        ·exact hnok j x h0 hx
        ·have : j = k := by omega
         subst this
         rw [hm] at hx
         simp at hx
         subst hx
         exact hno
       have hinc := (ids_lt _ _ hno' (fun _ h => by simp at h)).2
       rw [htk, List.pairwise_append] at hinc
       refine hinc.2.2 n ?_ m (by simp)
       have : (t.nodes.take k)[i]? = some n := by rw [List.getElem?_take, if_pos hi]; exact hn
       exact List.mem_of_getElem? this
      have hun : ∀ (i : Nat) (n : Nd), i < k → t.nodes[i]? = some n → up (t.nodes.take (k + 1)) n.id = up (t.nodes.take k) n.id := fun i n hi hn => by
       rw [htk]
       exact up_snoc_ne _ _ (by have := hltm i n hi hn; omega)
      refine wp_if_d (fun hdeep => ?_) (fun hshal => ?_)
      ·simp -implicitDefEqProofs (disch:=omega) only [p1,p3,p26,p27,p28,hh1,hh24,go_sem,↓reduceIte,reduceAdd,reduceSub,reduceEqDiff,reduceLeDiff,reduceCtorEq]
       rw [treeOk_false_of_depth hm]
       rw [hum, List.length_cons]
       omega
      ·simp -implicitDefEqProofs (disch:=omega) only [p1,p3,p26,p27,p28,hh1,hh24,go_sem,↓reduceIte,reduceAdd,reduceSub,reduceEqDiff,reduceLeDiff,reduceCtorEq]
       refine ⟨hlt, (mput ks vs (.int m.id) (.int .i64 (((up (t.nodes.take k) m.parent).length : Int) - 1 + 1))).1, (mput ks vs (.int m.id) (.int .i64 (((up (t.nodes.take k) m.parent).length : Int) - 1 + 1))).2, mput_len _ _ _ _ hkl, fun h => h.elim, lt_succ_cases hm (fun i n hi hn => ?_) ?_, lt_succ_cases hm hnok hno, lt_succ_cases hm (fun i n hi hn => ?_) ?_, ?_, rfl⟩
       ·rw [hun i n hi hn, mget_mput_other _ _ _ _ _ hkl (by have := hltm i n hi hn; simp; omega)]
        exact hdep i n hi hn
       ·rw [mget_mput_same, hum]
        simp
       ·rw [hun i n hi hn]
        exact hup i n hi hn
       ·rw [hum, List.length_cons]
        omega
       ·simp only [Int.natCast_add, Int.natCast_one]
    ·have hk0' : k = 0 := by omega
     subst hk0'
     obtain ⟨rfl, rfl⟩ := hk0 rfl
     rw [hm] at hr0
     simp only [Option.some.injEq] at hr0
     subst hr0
     have hg : (mget [] [] (.int m.id)).getD (.int .i64 0) = .int .i64 0 := rfl
     have h80 : ¬ (8 : Int) < 0 := by omega
     simp -implicitDefEqProofs (disch:=omega) only [p1,p3,p26,p27,p28,hh1,hh24,hm,hbits,c1,c2,c3,c4,hkp,hg,h80,go_sem,↓reduceIte,reduceAdd,reduceSub,reduceEqDiff,reduceLeDiff,reduceCtorEq]
     have htk : t.nodes.take (0 + 1) = [m] := take_snoc hm
     have hum : up (t.nodes.take (0 + 1)) m.id = [m.id] := by rw [htk]; simp [up, upR]
     refine ⟨hlt, [], [], rfl, fun h => h.elim, lt_succ_cases hm (fun i n hi => absurd hi (by omega)) ?_, lt_succ_cases hm (fun i n hi => absurd hi (by omega)) ?_, lt_succ_cases hm (fun i n hi => absurd hi (by omega)) ?_, rfl, rfl⟩
     ·rw [hum]
      rfl
     ·simp only [nodeOk, List.take_zero, List.getLast?_nil, decide_eq_true hr, decide_eq_true hbad, Bool.and_true, decide_eq_true_eq]
      exact .inl hr.2.2.2
     ·rw [hum]
      simp
   ·simp -implicitDefEqProofs (disch:=omega) only [p1,p3,p26,p27,p28,hh1,hh24,hm,go_sem,↓reduceIte,reduceAdd,reduceSub,reduceEqDiff,reduceLeDiff,reduceCtorEq]
    repeat' ((first | refine wp_grn_d (fun hb => ?_) (fun hb => ?_) | refine wp_gtn_d (fun hb => ?_) (fun hb => ?_) | refine wp_gr_d (fun hb => ?_) (fun hb => ?_) | refine wp_gt_d (fun hb => ?_) (fun hb => ?_) | refine wp_gr (fun hb => ?_) (fun hb => ?_) | refine wp_gt (fun hb => ?_) (fun hb => ?_) | refine wp_nt_d (fun hb => ?_) (fun hb => ?_) | refine wp_nt (fun hb => ?_) (fun hb => ?_) | refine wp_if_d (fun hb => ?_) (fun hb => ?_) | refine wp_if (fun hb => ?_) (fun hb => ?_)) <;> simp -implicitDefEqProofs (disch:=omega) only [hb,p1,p3,p26,p27,p28,hh1,hh24,hm,andNot31,go_sem,↓reduceIte,reduceAdd,reduceSub,reduceEqDiff,reduceLeDiff,reduceCtorEq])
    all_goals first
     | (exfalso; omega)
     | (rw [treeOk_false_of_node hm (nodeOk_bad hbad)])
  ·have hke : k = t.nodes.length := by omega
   subst hke
   rw [List.take_length] at hup
   have hla : t.nodes[((t.nodes.length : Int) - 1).toNat]? = some t.nodes[t.nodes.length - 1] := by
    rw [show ((t.nodes.length : Int) - 1).toNat = t.nodes.length - 1 by omega]
    exact List.getElem?_eq_getElem (by omega)
   have hlast : t.nodes.getLast? = some t.nodes[t.nodes.length - 1] := by
    rw [List.getLast?_eq_getElem?]
    exact List.getElem?_eq_getElem (by omega)
   generalize t.nodes[t.nodes.length - 1] = l at hla hlast
   have hok : nodesOk [] t.nodes = true := (nodesOk_iff _ _).2 fun i n hn => by simpa using hnok i n (List.getElem?_eq_some_iff.1 hn).1 hn
   have hk2 : t.nodes.all (fun n => decide ((up t.nodes n.id).length ≤ 9)) = true := by
    rw [List.all_eq_true]
    intro n hn
    obtain ⟨i, hi⟩ := List.getElem?_of_mem hn
    simpa using hup i n (List.getElem?_eq_some_iff.1 hi).1 hi
   have hp0 : 0 ≤ (t.nodes.length : Int) - 1 := by omega
   simp -implicitDefEqProofs (disch:=omega) only [p1,p3,p26,p27,p28,hh1,hh24,hge,hla,hp0,go_sem,↓reduceIte,reduceAdd,reduceSub,reduceEqDiff,reduceLeDiff,reduceCtorEq]
   repeat' ((first | refine wp_grn_d (fun hb => ?_) (fun hb => ?_) | refine wp_gtn_d (fun hb => ?_) (fun hb => ?_) | refine wp_gr_d (fun hb => ?_) (fun hb => ?_) | refine wp_gt_d (fun hb => ?_) (fun hb => ?_) | refine wp_gr (fun hb => ?_) (fun hb => ?_) | refine wp_gt (fun hb => ?_) (fun hb => ?_) | refine wp_nt_d (fun hb => ?_) (fun hb => ?_) | refine wp_nt (fun hb => ?_) (fun hb => ?_) | refine wp_if_d (fun hb => ?_) (fun hb => ?_) | refine wp_if (fun hb => ?_) (fun hb => ?_)) <;> simp -implicitDefEqProofs (disch:=omega) only [hb,p1,p3,p26,p27,p28,hh1,hh24,hla,go_sem,↓reduceIte,reduceAdd,reduceSub,reduceEqDiff,reduceLeDiff,reduceCtorEq])
   all_goals
    simp only [treeOk, hok, hk2, hlast, show (1 ≤ t.nodes.length ∧ t.nodes.length ≤ 64) by omega, Prod.mk.injEq, VVal.p.injEq, PV.bool.injEq, and_true, decide_true, Bool.true_and]
    rw [Bool.eq_iff_iff]
    simp only [decide_eq_true_eq, Bool.false_eq_true, false_iff]
    omega
theorem findN_unique {ns : List Nd} (hinc : ns.Pairwise fun a b => a.id < b.id) {i : Nat} {n : Nd} (hn : ns[i]? = some n) : findN ns n.id = some n := by
 unfold findN
 refine find_take_none (k := i) (fun j m hj hm => ?_) hn (by simp)
 have hl := (List.getElem?_eq_some_iff.1 hn).1
 have := List.pairwise_iff_getElem.1 hinc j i (by omega) hl hj
 rw [(List.getElem?_eq_some_iff.1 hm).2, (List.getElem?_eq_some_iff.1 hn).2] at this
 simp
 omega
theorem TreeOk.pos {t : Tr} (h : TreeOk t) : ∀ n ∈ t.nodes, 1 ≤ n.id := nodesOk_pos t.nodes [] (by simp) h.nodes
theorem TreeOk.find0 {t : Tr} (h : TreeOk t) : findN t.nodes 0 = none := by
 unfold findN
 rw [List.find?_eq_none]
 intro n hn
 have := h.pos n hn
 simp
 omega
theorem TreeOk.nodeAt {t : Tr} (h : TreeOk t) {i : Nat} {n : Nd} (hn : t.nodes[i]? = some n) : (i = 0 ∧ n.id = 1 ∧ n.parent = 0) ∨ (0 < i ∧ 1 < n.id ∧ ∃ j p, j < i ∧ t.nodes[j]? = some p ∧ p.id = n.parent) := by
 have hok := (nodesOk_iff _ _).1 h.nodes i n hn
 rw [List.nil_append] at hok
 rcases Nat.eq_zero_or_pos i with rfl | hi
 ·left
  rw [List.take_zero] at hok
  have := nodeOk_nil hok
  exact ⟨rfl, this.1, this.2.1⟩
 ·right
  have hlt := (List.getElem?_eq_some_iff.1 hn).1
  cases hl : (t.nodes.take i).getLast? with
  | none =>
   rw [List.getLast?_eq_none_iff] at hl
   have := congrArg List.length hl
   rw [List.length_take, List.length_nil] at this
   omega
  | some l =>
   obtain ⟨_, h2, _, _, p, hp, he⟩ := (nodeOk_some hl).1 hok
   have h1 := h.pos l (List.mem_of_mem_take (List.mem_of_getLast? hl))
   obtain ⟨j, hj⟩ := List.getElem?_of_mem hp
   have hjl := (List.getElem?_eq_some_iff.1 hj).1
   simp at hjl
   rw [List.getElem?_take, if_pos (by omega)] at hj
   exact ⟨hi, by omega, j, p, by omega, hj, he⟩
theorem ancF_step {t : Tr} (h : TreeOk t) : ∀ (i : Nat) (n : Nd), t.nodes[i]? = some n → ∀ k k', i < k → i < k' → ancF t.nodes k n.id = ancF t.nodes k' n.id := by
 intro i
 induction i using Nat.strongRecOn with
 | _ i ih =>
  intro n hn k k' hk hk'
  obtain ⟨k, rfl⟩ : ∃ m, k = m + 1 := ⟨k - 1, by omega⟩
  obtain ⟨k', rfl⟩ : ∃ m, k' = m + 1 := ⟨k' - 1, by omega⟩
  have hf := findN_unique h.inc hn
  simp only [ancF, hf]
  congr 1
  rcases h.nodeAt hn with ⟨rfl, _, h0⟩ | ⟨hi, _, j, p, hj, hp, he⟩
  ·rw [h0]
   have hz : ∀ m, ancF t.nodes m 0 = [] := fun m => by
    cases m with
    | zero => rfl
    | succ m => simp only [ancF, h.find0]
   rw [hz, hz]
  ·rw [← he]
   exact ih j hj p hp k k' (by omega) (by omega)
theorem ancF_cons {t : Tr} (h : TreeOk t) {i : Nat} {n : Nd} (hn : t.nodes[i]? = some n) : ancF t.nodes t.nodes.length n.id = n.id :: (if i = 0 then [] else ancF t.nodes t.nodes.length n.parent) := by
 have hlt := (List.getElem?_eq_some_iff.1 hn).1
 obtain ⟨k, hk⟩ : ∃ m, t.nodes.length = m + 1 := ⟨t.nodes.length - 1, by omega⟩
 rw [hk]
 have hf := findN_unique h.inc hn
 conv => lhs; simp only [ancF, hf]
 congr 1
 rcases h.nodeAt hn with ⟨rfl, _, h0⟩ | ⟨hi, _, j, p, hj, hp, he⟩
 ·rw [h0, if_pos rfl]
  cases k with
  | zero => rfl
  | succ m => simp only [ancF, h.find0]
 ·rw [if_neg (by omega), ← he]
  exact ancF_step h j p hp _ _ (by omega) (by omega)
theorem TreeOk.fits {t : Tr} (h : TreeOk t) : t.Fits := by
 intro n hn
 obtain ⟨i, hi⟩ := List.getElem?_of_mem hn
 have hok := (nodesOk_iff _ _).1 h.nodes i n hi
 rw [List.nil_append] at hok
 unfold nodeOk at hok
 simp only [Bool.and_eq_true, decide_eq_true_eq] at hok
 refine ⟨?_, by omega⟩
 have h2 := hok.2
 split at h2
 ·simp only [decide_eq_true_eq] at h2
  rw [h2.2.2.1]
  decide
 ·simp only [Bool.and_eq_true] at h2
  have hv := h2.1.1.2
  simp only [validN, Bool.and_eq_true, decide_eq_true_eq] at hv
  omega
theorem TreeOk.idx {t : Tr} (h : TreeOk t) {i j : Nat} {n m : Nd} (hn : t.nodes[i]? = some n) (hm : t.nodes[j]? = some m) (he : n.id = m.id) : i = j ∧ n = m := by
 obtain ⟨hi, rfl⟩ := List.getElem?_eq_some_iff.1 hn
 obtain ⟨hj, rfl⟩ := List.getElem?_eq_some_iff.1 hm
 have hp := List.pairwise_iff_getElem.1 h.inc
 rcases Nat.lt_trichotomy i j with hlt | rfl | hlt
 ·have := hp i j hi hj hlt; omega
 ·exact ⟨rfl, rfl⟩
 ·have := hp j i hj hi hlt; omega
theorem anc_iff {t : Tr} (h : TreeOk t) {i : Nat} {n : Nd} (hn : t.nodes[i]? = some n) (c : Int) : c ∈ ancF t.nodes t.nodes.length n.id ↔ c = n.id ∨ (i ≠ 0 ∧ c ∈ ancF t.nodes t.nodes.length n.parent) := by
 rw [ancF_cons h hn]
 by_cases hi : i = 0
 ·simp [hi]
 ·simp [hi]
theorem TreeOk.kid {t : Tr} (h : TreeOk t) {i j : Nat} {n m : Nd} (hn : t.nodes[i]? = some n) (hm : t.nodes[j]? = some m) (hp : m.parent = n.id) : i < j := by
 rcases h.nodeAt hm with ⟨_, _, h0⟩ | ⟨_, _, k, p, hk, hpk, hpe⟩
 ·have := h.pos n (List.mem_of_getElem? hn); omega
 ·have := (h.idx hpk hn (by omega)).1; omega
theorem anc_le {t : Tr} (h : TreeOk t) : ∀ (i : Nat) (n : Nd), t.nodes[i]? = some n → ∀ c ∈ ancF t.nodes t.nodes.length n.id, ∃ j m, j ≤ i ∧ t.nodes[j]? = some m ∧ m.id = c := by
 intro i
 induction i using Nat.strongRecOn with
 | _ i ih =>
  intro n hn c hc
  rcases (anc_iff h hn c).1 hc with rfl | ⟨h0, hc⟩
  ·exact ⟨i, n, Nat.le_refl _, hn, rfl⟩
  ·rcases h.nodeAt hn with ⟨h1, _⟩ | ⟨_, _, k, p, hk, hpk, hpe⟩
   ·contradiction
   ·rw [← hpe] at hc
    obtain ⟨j, m, hj, hm, he⟩ := ih k hk p hpk c hc
    exact ⟨j, m, by omega, hm, he⟩
theorem anc_self {t : Tr} (h : TreeOk t) {i : Nat} {n : Nd} (hn : t.nodes[i]? = some n) : n.id ∈ ancF t.nodes t.nodes.length n.id := (anc_iff h hn _).2 (Or.inl rfl)
theorem anc_parent {t : Tr} (h : TreeOk t) {k : Nat} {c : Nd} (hc : t.nodes[k]? = some c) (hk : k ≠ 0) : ∀ (i : Nat) (n : Nd), t.nodes[i]? = some n → c.id ∈ ancF t.nodes t.nodes.length n.id → c.parent ∈ ancF t.nodes t.nodes.length n.id := by
 intro i
 induction i using Nat.strongRecOn with
 | _ i ih =>
  intro n hn hm
  rcases (anc_iff h hn c.id).1 hm with he | ⟨h0, hm⟩
  ·obtain ⟨rfl, rfl⟩ := h.idx hc hn he
   rcases h.nodeAt hn with ⟨h1, _⟩ | ⟨_, _, j, p, hj, hp, hpe⟩
   ·contradiction
   ·refine (anc_iff h hn _).2 (Or.inr ⟨hk, ?_⟩)
    rw [← hpe]
    exact anc_self h hp
  ·refine (anc_iff h hn _).2 (Or.inr ⟨h0, ?_⟩)
   rcases h.nodeAt hn with ⟨h1, _⟩ | ⟨_, _, j, p, hj, hp, hpe⟩
   ·contradiction
   ·rw [← hpe] at hm ⊢
    exact ih j hj p hp hm
theorem anc_child {t : Tr} (h : TreeOk t) {c : Int} : ∀ (i : Nat) (n : Nd), t.nodes[i]? = some n → c ∈ ancF t.nodes t.nodes.length n.id → c ≠ n.id → ∃ (j : Nat) (m : Nd), t.nodes[j]? = some m ∧ m.parent = c ∧ m.id ∈ ancF t.nodes t.nodes.length n.id := by
 intro i
 induction i using Nat.strongRecOn with
 | _ i ih =>
  intro n hn hm hne
  rcases (anc_iff h hn c).1 hm with he | ⟨h0, hm⟩
  ·contradiction
  ·rcases h.nodeAt hn with ⟨h1, _⟩ | ⟨_, _, j, p, hj, hp, hpe⟩
   ·contradiction
   ·by_cases hcp : c = n.parent
    ·exact ⟨i, n, hn, hcp.symm, anc_self h hn⟩
    ·rw [← hpe] at hm
     obtain ⟨k, m, hk, hmp, hma⟩ := ih j hj p hp hm (by omega)
     rw [hpe] at hma
     exact ⟨k, m, hk, hmp, (anc_iff h hn _).2 (Or.inr ⟨h0, hma⟩)⟩
def kidsN (ns : List Nd) (id : Int) : List Int := (ns.filter fun n => decide (n.parent = id)).map (·.id)
def subF (ns : List Nd) : Nat → Int → List Int
 | 0, _ => []
 | k + 1, id => id :: (kidsN ns id).flatMap (subF ns k)
theorem mem_kidsN {ns : List Nd} {id x : Int} : x ∈ kidsN ns id ↔ ∃ (j : Nat) (m : Nd), ns[j]? = some m ∧ m.parent = id ∧ m.id = x := by
 simp only [kidsN, List.mem_map, List.mem_filter, decide_eq_true_eq]
 constructor
 ·rintro ⟨m, ⟨hm, hp⟩, he⟩
  obtain ⟨j, hj⟩ := List.getElem?_of_mem hm
  exact ⟨j, m, hj, hp, he⟩
 ·rintro ⟨j, m, hj, hp, he⟩
  exact ⟨m, ⟨List.mem_of_getElem? hj, hp⟩, he⟩
theorem mem_subF {t : Tr} (h : TreeOk t) : ∀ (k i : Nat) (n : Nd), t.nodes[i]? = some n → t.nodes.length ≤ i + k → ∀ x, x ∈ subF t.nodes k n.id ↔ ∃ (j : Nat) (m : Nd), t.nodes[j]? = some m ∧ m.id = x ∧ n.id ∈ ancF t.nodes t.nodes.length m.id := by
 intro k
 induction k with
 | zero => intro i n hn hk; have := (List.getElem?_eq_some_iff.1 hn).1; omega
 | succ k ih =>
  intro i n hn hk x
  simp only [subF, List.mem_cons, List.mem_flatMap]
  constructor
  ·rintro (rfl | ⟨c, hc, hx⟩)
   ·exact ⟨i, n, hn, rfl, anc_self h hn⟩
   ·obtain ⟨j, m, hj, hp, rfl⟩ := mem_kidsN.1 hc
    have hij := h.kid hn hj hp
    obtain ⟨q, y, hq, hy, hm⟩ := (ih j m hj (by omega) x).1 hx
    refine ⟨q, y, hq, hy, ?_⟩
    rw [← hp]
    exact anc_parent h hj (by omega) q y hq hm
  ·rintro ⟨j, m, hj, rfl, hm⟩
   by_cases he : n.id = m.id
   ·exact Or.inl he.symm
   ·obtain ⟨q, y, hq, hy, hm'⟩ := anc_child h j m hj hm he
    have hiq := h.kid hn hq hy
    exact Or.inr ⟨y.id, mem_kidsN.2 ⟨q, y, hq, hy, rfl⟩, (ih q y hq (by omega) _).2 ⟨j, m, hj, rfl, hm'⟩⟩
theorem nodup_kidsN {t : Tr} (h : TreeOk t) (id : Int) : (kidsN t.nodes id).Nodup := by
 rw [kidsN, List.Nodup, List.pairwise_map]
 exact List.Pairwise.imp_of_mem (fun _ _ hab => by omega) (h.inc.filter _)
theorem nodup_subF {t : Tr} (h : TreeOk t) : ∀ (k i : Nat) (n : Nd), t.nodes[i]? = some n → t.nodes.length ≤ i + k → (subF t.nodes k n.id).Nodup := by
 intro k
 induction k with
 | zero => intro i n hn hk; have := (List.getElem?_eq_some_iff.1 hn).1; omega
 | succ k ih =>
  intro i n hn hk
  simp only [subF, List.nodup_cons]
  constructor
  ·intro hx
   obtain ⟨c, hc, hx⟩ := List.mem_flatMap.1 hx
   obtain ⟨j, m, hj, hp, rfl⟩ := mem_kidsN.1 hc
   have hij := h.kid hn hj hp
   obtain ⟨q, y, hq, hy, hm⟩ := (mem_subF h k j m hj (by omega) n.id).1 hx
   obtain ⟨q', y', hle, hq', hy'⟩ := anc_le h q y hq m.id hm
   have h1 := (h.idx hq hn hy).1
   have h2 := (h.idx hq' hj hy').1
   omega
  ·rw [List.Nodup, List.pairwise_flatMap]
   constructor
   ·intro c hc
    obtain ⟨j, m, hj, hp, rfl⟩ := mem_kidsN.1 hc
    have hij := h.kid hn hj hp
    exact ih j m hj (by omega)
   ·have hnd := nodup_kidsN h n.id
    refine List.Pairwise.imp_of_mem ?_ hnd
    intro c1 c2 hc1 hc2 hne x hx1 y hy2 hxy
    subst hxy
    obtain ⟨j1, m1, hj1, hp1, rfl⟩ := mem_kidsN.1 hc1
    obtain ⟨j2, m2, hj2, hp2, rfl⟩ := mem_kidsN.1 hc2
    have hij1 := h.kid hn hj1 hp1
    have hij2 := h.kid hn hj2 hp2
    obtain ⟨q, z, hq, hz, hm1⟩ := (mem_subF h k j1 m1 hj1 (by omega) x).1 hx1
    obtain ⟨q', z', hq', hz', hm2⟩ := (mem_subF h k j2 m2 hj2 (by omega) x).1 hy2
    obtain ⟨rfl, rfl⟩ := h.idx hq hq' (by omega)
    exact hne (sib h hn hj1 hj2 hp1 hp2 q z hq hm1 hm2)
where
 sib {t : Tr} (h : TreeOk t) {i j1 j2 : Nat} {n m1 m2 : Nd} (hn : t.nodes[i]? = some n) (hj1 : t.nodes[j1]? = some m1) (hj2 : t.nodes[j2]? = some m2) (hp1 : m1.parent = n.id) (hp2 : m2.parent = n.id) : ∀ (q : Nat) (z : Nd), t.nodes[q]? = some z → m1.id ∈ ancF t.nodes t.nodes.length z.id → m2.id ∈ ancF t.nodes t.nodes.length z.id → m1.id = m2.id := by
  intro q
  induction q using Nat.strongRecOn with
  | _ q ih =>
   intro z hz h1 h2
   have hij1 := h.kid hn hj1 hp1
   have hij2 := h.kid hn hj2 hp2
   rcases (anc_iff h hz _).1 h1 with e1 | ⟨h0, h1'⟩
   ·rcases (anc_iff h hz _).1 h2 with e2 | ⟨_, h2'⟩
    ·omega
    ·obtain ⟨rfl, rfl⟩ := h.idx hj1 hz e1
     rw [hp1] at h2'
     obtain ⟨j, m, hle, hj, he⟩ := anc_le h i n hn _ h2'
     have := (h.idx hj hj2 he).1
     omega
   ·rcases (anc_iff h hz _).1 h2 with e2 | ⟨_, h2'⟩
    ·obtain ⟨rfl, rfl⟩ := h.idx hj2 hz e2
     rw [hp2] at h1'
     obtain ⟨j, m, hle, hj, he⟩ := anc_le h i n hn _ h1'
     have := (h.idx hj hj1 he).1
     omega
    ·rcases h.nodeAt hz with ⟨hh, _⟩ | ⟨_, _, j, p, hj, hp, hpe⟩
     ·contradiction
     ·rw [← hpe] at h1' h2'
      exact ih j hj p hp h1' h2'
theorem nodup_length_le : ∀ (l m : List Int), l.Nodup → (∀ x ∈ l, x ∈ m) → l.length ≤ m.length
 | [], _, _, _ => Nat.zero_le _
 | x :: l, m, hn, hs => by
  rw [List.nodup_cons] at hn
  have hx : x ∈ m := hs x (List.mem_cons_self ..)
  have := nodup_length_le l (m.erase x) hn.2 fun y hy => (List.mem_erase_of_ne (fun e => hn.1 (by rw [← e]; exact hy))).2 (hs y (List.mem_cons_of_mem _ hy))
  rw [List.length_erase_of_mem hx] at this
  have := List.length_pos_of_mem hx
  simp only [List.length_cons]
  omega
theorem subF_length {t : Tr} (h : TreeOk t) {k i : Nat} {n : Nd} (hn : t.nodes[i]? = some n) (hk : t.nodes.length ≤ i + k) : (subF t.nodes k n.id).length ≤ t.nodes.length := by
 have := nodup_length_le _ (t.nodes.map (·.id)) (nodup_subF h k i n hn hk) fun x hx => by
  obtain ⟨j, m, hj, rfl, _⟩ := (mem_subF h k i n hn hk x).1 hx
  exact List.mem_map.2 ⟨m, List.mem_of_getElem? hj, rfl⟩
 simpa using this
theorem flatMap_congr_mem {α β : Type} {f g : α → List β} : ∀ {l : List α}, (∀ a ∈ l, f a = g a) → l.flatMap f = l.flatMap g
 | [], _ => rfl
 | a :: l, h => by
  rw [List.flatMap_cons, List.flatMap_cons, h a (List.mem_cons_self ..), flatMap_congr_mem fun b hb => h b (List.mem_cons_of_mem _ hb)]
theorem subF_fuel {t : Tr} (h : TreeOk t) : ∀ (k k' i : Nat) (n : Nd), t.nodes[i]? = some n → t.nodes.length ≤ i + k → t.nodes.length ≤ i + k' → subF t.nodes k n.id = subF t.nodes k' n.id := by
 intro k
 induction k with
 | zero => intro k' i n hn hk; have := (List.getElem?_eq_some_iff.1 hn).1; omega
 | succ k ih =>
  intro k' i n hn hk hk'
  cases k' with
  | zero => have := (List.getElem?_eq_some_iff.1 hn).1; omega
  | succ k' =>
   simp only [subF, List.cons.injEq, true_and]
   refine flatMap_congr_mem fun c hc => ?_
   obtain ⟨j, m, hj, hp, rfl⟩ := mem_kidsN.1 hc
   have hij := h.kid hn hj hp
   exact ih k' j m hj (by omega) (by omega)
def subT (t : Tr) (id : Int) : List Int := if (findT t id).isSome then subF t.nodes t.nodes.length id else []
theorem kids_kidsN {t : Tr} {id : Int} (h : (findT t id).isSome = true) : kids t id = kidsN t.nodes id := by
 rw [kids, if_pos h]; rfl
set_option maxHeartbeats 2000000 in
theorem rsub_eq0 {t : Tr} (h : TreeOk t) : ∀ (k i : Nat) (n : Nd), t.nodes[i]? = some n → t.nodes.length ≤ i + k → V 27 [t.vv, .p (.int .i64 n.id)] [] = some (.fresh 1 ((subF t.nodes k n.id).map (.int .i64)), []) := by
 intro k
 induction k with
 | zero => intro i n hn hk; have := (List.getElem?_eq_some_iff.1 hn).1; omega
 | succ k ih =>
  intro i n hn hk
  have hlen := h.len
  have hft : (findT t n.id).isSome = true := by rw [findT, if_pos ((treeOk_iff t).2 h), findN_unique h.inc hn]; rfl
  refine V_wp (vf := vf27) rfl ?_
  have hh := rhas_eq t n.id (by omega)
  rw [hft] at hh
  have hkd := rkids_eq t n.id (by omega)
  rw [kids_kidsN hft] at hkd
  have hsl := subF_length h hn hk
  have hkl : (kidsN t.nodes n.id).length ≤ t.nodes.length := by
   have := List.length_filter_le (fun m : Nd => decide (m.parent = n.id)) t.nodes
   simpa [kidsN] using this
  have hsf : subF t.nodes (k + 1) n.id = n.id :: (kidsN t.nodes n.id).flatMap (subF t.nodes k) := rfl
  have hkm : ∀ c ∈ kidsN t.nodes n.id, V 27 [t.vv, .p (.int .i64 c)] [] = some (.fresh 1 ((subF t.nodes k c).map (.int .i64)), []) := by
   intro c hc
   obtain ⟨j, m, hj, hp, rfl⟩ := mem_kidsN.1 hc
   have hij := h.kid hn hj hp
   exact ih j m hj (by omega)
  rw [hsf] at hsl ⊢
  generalize kidsN t.nodes n.id = ks at hkd hkl hkm hsl
  simp -implicitDefEqProofs (disch:=omega) only [vf27,vb27,hh,hkd,go_sem,↓reduceIte,reduceAdd,reduceSub,reduceEqDiff,reduceLeDiff,reduceCtorEq]
  refine wp_count ks.length (fun j s => ∃ (acc : List Int) (v : Nat), acc = n.id :: (ks.take j).flatMap (subF t.nodes k) ∧ s.pe 2 = .ptr (.slot 2 0) 0 0 ∧ s.pe 5 = .own (.slot 13 0) v 0 acc.length ∧ s.pe 6 = .own (.slot 16 1) 0 0 ks.length ∧ s.pe 7 = .p (.int .i64 j) ∧ s.h (.slot 2 0) = some (0, .box [.p (nodesP t.nodes), .p (.int .i64 t.next)]) ∧ s.h (.slot 13 0) = some (v, .arr 1 (acc.map (.int .i64))) ∧ s.h (.slot 16 1) = some (0, .arr 1 (ks.map (.int .i64)))) ?_ ?_
  ·exact ⟨[n.id], 0, rfl, by simp -implicitDefEqProofs (disch := omega) only [go_sem, ↓reduceIte, reduceAdd, reduceSub, reduceEqDiff, reduceLeDiff, reduceCtorEq], by simp -implicitDefEqProofs (disch := omega) only [go_sem, ↓reduceIte, reduceAdd, reduceSub, reduceEqDiff, reduceLeDiff, reduceCtorEq], by simp -implicitDefEqProofs (disch := omega) only [go_sem, ↓reduceIte, reduceAdd, reduceSub, reduceEqDiff, reduceLeDiff, reduceCtorEq], rfl, by simp -implicitDefEqProofs (disch := omega) only [go_sem, ↓reduceIte, reduceAdd, reduceSub, reduceEqDiff, reduceLeDiff, reduceCtorEq], by simp -implicitDefEqProofs (disch := omega) only [go_sem, ↓reduceIte, reduceAdd, reduceSub, reduceEqDiff, reduceLeDiff, reduceCtorEq], by simp -implicitDefEqProofs (disch := omega) only [go_sem, ↓reduceIte, reduceAdd, reduceSub, reduceEqDiff, reduceLeDiff, reduceCtorEq]⟩
  ·rintro j s hj ⟨acc, v, hacc, h2, h5, h6, h7, hh2, hh13, hh16⟩
   have hal : acc.length + ((ks.drop j).flatMap (subF t.nodes k)).length ≤ t.nodes.length := by
    rw [hacc]
    have : ks.flatMap (subF t.nodes k) = (ks.take j).flatMap (subF t.nodes k) ++ (ks.drop j).flatMap (subF t.nodes k) := by
     rw [← List.flatMap_append, List.take_append_drop]
    rw [this] at hsl
    simp only [List.length_cons, List.length_append] at hsl ⊢
    omega
   simp -implicitDefEqProofs (disch:=omega) only [h2,h5,h6,h7,hh2,hh13,hh16,go_sem,↓reduceIte,reduceAdd,reduceSub,reduceEqDiff,reduceLeDiff,reduceCtorEq]
   refine wp_if_d (fun hlt => ?_) (fun hge => ?_)
   ·have hm : ks[j]? = some ks[j] := List.getElem?_eq_getElem hlt
    have hdr : ks.drop j = ks[j] :: ks.drop (j + 1) := List.drop_eq_getElem_cons hlt
    generalize ks[j] = c at hm hdr
    have hc := hkm c (List.mem_of_getElem? hm)
    rw [hdr, List.flatMap_cons, List.length_append] at hal
    have htk : (ks.take (j + 1)).flatMap (subF t.nodes k) = (ks.take j).flatMap (subF t.nodes k) ++ subF t.nodes k c := by
     rw [take_snoc hm, List.flatMap_append]
     simp
    generalize subF t.nodes k c = sc at hc hal htk
    simp -implicitDefEqProofs (disch:=omega) only [h2,h5,h6,h7,hh2,hh13,hh16,hm,hc,hlt,go_sem,↓reduceIte,reduceAdd,reduceSub,reduceEqDiff,reduceLeDiff,reduceCtorEq]
    refine ⟨acc ++ sc, v + 1, by rw [htk, hacc]; simp, by simp, rfl, ?_⟩
    simp
   ·rw [List.take_of_length_le (by omega)] at hacc
    simp -implicitDefEqProofs (disch:=omega) only [h2,h5,h6,h7,hh2,hh13,hh16,hge,go_sem,↓reduceIte,reduceAdd,reduceSub,reduceEqDiff,reduceLeDiff,reduceCtorEq]
    rw [hacc]
    rfl
theorem rsub_eq {t : Tr} (id : Int) (hl : t.nodes.length < 1000000) : V 27 [t.vv, .p (.int .i64 id)] [] = some (.fresh 1 ((subT t id).map (.int .i64)), []) := by
 cases hft : (findT t id).isSome with
 | false =>
  refine V_wp (vf := vf27) rfl ?_
  have hh := rhas_eq t id (by omega)
  rw [hft] at hh
  simp -implicitDefEqProofs (disch:=omega) only [vf27,vb27,hh,go_sem,↓reduceIte,reduceAdd,reduceSub,reduceEqDiff,reduceLeDiff,reduceCtorEq]
  simp [subT, hft]
 | true =>
  have hok : TreeOk t := by
   rw [findT] at hft
   split at hft
   ·rename_i h; exact (treeOk_iff t).1 h
   ·cases hft
  rw [findT, if_pos ((treeOk_iff t).2 hok)] at hft
  obtain ⟨n, hn, rfl⟩ := findN_some hft
  obtain ⟨i, hi⟩ := List.getElem?_of_mem hn
  rw [rsub_eq0 hok t.nodes.length i n hi (by omega), subT, findT, if_pos ((treeOk_iff t).2 hok), if_pos hft]
structure Ch where
 group : Int
 own : Int
 deriving DecidableEq
def Ch.pv (c : Ch) : PV := .agg [.int .i64 c.group, .int .i64 c.own]
abbrev Ch.vv (c : Ch) : VVal := .agg [.p (.int .i64 c.group), .p (.int .i64 c.own)]
abbrev chsP (l : List Ch) : PV := .slice 2 (l.map Ch.pv)
attribute [go_sem] Ch.pv
theorem chs_flat (l : List Ch) : (l.map Ch.pv).all PV.flat = true := by
 rw [List.all_eq_true]
 intro x hx
 obtain ⟨n, _, rfl⟩ := List.mem_map.1 hx
 rfl
attribute [go_sem] chs_flat
def sumI : List Int → Int
 | [] => 0
 | x :: xs => x + sumI xs
theorem sumI_append : ∀ (a b : List Int), sumI (a ++ b) = sumI a + sumI b
 | [], b => by simp [sumI]
 | x :: a, b => by have := sumI_append a b; simp only [List.cons_append, sumI]; omega
theorem sumI_nonneg : ∀ (a : List Int), (∀ x ∈ a, 0 ≤ x) → 0 ≤ sumI a
 | [], _ => Int.le_refl _
 | x :: a, h => by
  have := sumI_nonneg a (fun y hy => h y (List.mem_cons_of_mem _ hy))
  have := h x (List.mem_cons_self ..)
  simp only [sumI]; omega
theorem sumI_map_nonneg {α : Type} {f : α → Int} (a : List α) (h : ∀ x ∈ a, 0 ≤ f x) : 0 ≤ sumI (a.map f) := sumI_nonneg _ (fun x hx => by
 obtain ⟨y, hy, rfl⟩ := List.mem_map.1 hx
 exact h y hy)
theorem sumI_flatMap {α : Type} (f : Int → Int) (g : α → List Int) : ∀ (a : List α), sumI ((a.flatMap g).map f) = sumI (a.map fun x => sumI ((g x).map f))
 | [] => rfl
 | x :: a => by
  have := sumI_flatMap f g a
  simp only [List.flatMap_cons, List.map_append, sumI_append, List.map_cons, sumI, this]
theorem sumI_take_succ {α : Type} {f : α → Int} {l : List α} {k : Nat} {x : α} (h : l[k]? = some x) : sumI ((l.take (k + 1)).map f) = sumI ((l.take k).map f) + f x := by
 rw [List.take_add_one, h]
 simp [sumI_append, sumI]
theorem sumI_take_le {α : Type} {f : α → Int} (l : List α) (k : Nat) (h : ∀ x ∈ l, 0 ≤ f x) : sumI ((l.take k).map f) ≤ sumI (l.map f) := by
 have h1 : sumI (l.map f) = sumI ((l.take k).map f) + sumI ((l.drop k).map f) := by
  rw [← sumI_append, ← List.map_append, List.take_append_drop]
 have h2 := sumI_map_nonneg (l.drop k) (f := f) (fun x hx => h x (List.mem_of_mem_drop hx))
 omega
theorem sumI_congr {α : Type} {f g : α → Int} {l : List α} (h : ∀ x ∈ l, f x = g x) : sumI (l.map f) = sumI (l.map g) := by
 rw [List.map_congr_left h]
def ownC : List Ch → Int → Int
 | [], _ => 0
 | c :: l, id => if c.group = id then c.own else ownC l id
def prevOk (p : Option Int) (g : Int) : Bool := match p with | none => true | some q => decide (q < g)
def chOk (ns : List Nd) : Option Int → Int → List Ch → Bool
 | _, _, [] => true
 | p, s, c :: l => (findN ns c.group).isSome && prevOk p c.group && decide (1 ≤ c.own) && decide (c.own ≤ 16777216 - s) && chOk ns (some c.group) (s + c.own) l
theorem chOk_cons (ns : List Nd) (p : Option Int) (s : Int) (c : Ch) (l : List Ch) : chOk ns p s (c :: l) = ((findN ns c.group).isSome && prevOk p c.group && decide (1 ≤ c.own) && decide (c.own ≤ 16777216 - s) && chOk ns (some c.group) (s + c.own) l) := by simp only [chOk]
theorem chOk_nil (ns : List Nd) (p : Option Int) (s : Int) : chOk ns p s [] = true := by simp only [chOk]
structure ChOk (ns : List Nd) (l : List Ch) : Prop where
 known : ∀ c ∈ l, (findN ns c.group).isSome = true
 inc : l.Pairwise fun a b => a.group < b.group
 pos : ∀ c ∈ l, 1 ≤ c.own
 all : sumI (l.map (·.own)) ≤ 16777216
theorem chOk_iff' (ns : List Nd) : ∀ (l : List Ch) (p : Option Int) (s : Int), s ≤ 16777216 → (chOk ns p s l = true ↔
  (∀ c ∈ l, (findN ns c.group).isSome = true) ∧ (l.Pairwise fun a b => a.group < b.group) ∧ (∀ q, p = some q → ∀ c ∈ l, q < c.group) ∧ (∀ c ∈ l, 1 ≤ c.own) ∧ s + sumI (l.map (·.own)) ≤ 16777216)
 | [], p, s, hs => by simp [chOk, sumI]; omega
 | c :: l, p, s, hs => by
  have hp : prevOk p c.group = true ↔ ∀ q, p = some q → q < c.group := by
   cases p <;> simp [prevOk]
  simp only [chOk, Bool.and_eq_true, decide_eq_true_eq, hp, List.mem_cons, forall_eq_or_imp, List.pairwise_cons, List.map_cons, sumI]
  constructor
  ·rintro ⟨⟨⟨⟨h1, h2⟩, h3⟩, h4⟩, h5⟩
   obtain ⟨a1, a2, a3, a4, a5⟩ := (chOk_iff' ns l (some c.group) (s + c.own) (by omega)).1 h5
   refine ⟨⟨h1, a1⟩, ⟨a3 _ rfl, a2⟩, fun q hq => ⟨h2 q hq, fun d hd => ?_⟩, ⟨h3, a4⟩, by omega⟩
   have := h2 q hq
   have := a3 _ rfl d hd
   omega
  ·rintro ⟨⟨h1, a1⟩, ⟨a3, a2⟩, h2, ⟨h3, a4⟩, h5⟩
   have hn := sumI_map_nonneg l (f := (·.own)) (fun x hx => by have := a4 x hx; omega)
   refine ⟨⟨⟨⟨h1, fun q hq => (h2 q hq).1⟩, h3⟩, by omega⟩, (chOk_iff' ns l (some c.group) (s + c.own) (by omega)).2 ⟨a1, a2, fun q hq => ?_, a4, by omega⟩⟩
   cases hq
   exact a3
theorem chOk_iff (ns : List Nd) (l : List Ch) : chOk ns none 0 l = true ↔ ChOk ns l := by
 rw [chOk_iff' ns l none 0 (by omega)]
 constructor
 ·rintro ⟨a, b, _, d, e⟩
  exact ⟨a, b, d, by omega⟩
 ·rintro ⟨a, b, d, e⟩
  exact ⟨a, b, fun q hq => by simp at hq, d, by omega⟩
theorem ownC_nonneg {l : List Ch} (h : ∀ c ∈ l, 1 ≤ c.own) (id : Int) : 0 ≤ ownC l id := by
 induction l with
 | nil => exact Int.le_refl _
 | cons c l ih =>
  unfold ownC
  split
  ·have := h c (List.mem_cons_self ..); omega
  ·exact ih (fun d hd => h d (List.mem_cons_of_mem _ hd))
theorem ownC_zero {l : List Ch} {id : Int} (h : ∀ c ∈ l, c.group ≠ id) : ownC l id = 0 := by
 induction l with
 | nil => rfl
 | cons c l ih =>
  unfold ownC
  rw [if_neg (h c (List.mem_cons_self ..))]
  exact ih (fun d hd => h d (List.mem_cons_of_mem _ hd))
theorem sum_upd (f : Int → Int) (g v : Int) : ∀ (xs : List Int), xs.Nodup → sumI (xs.map fun x => if x = g then v else f x) = sumI (xs.map f) + if g ∈ xs then v - f g else 0
 | [], _ => by simp [sumI]
 | x :: xs, h => by
  obtain ⟨hx, hn⟩ := List.nodup_cons.1 h
  have ih := sum_upd f g v xs hn
  simp only [List.map_cons, sumI, ih, List.mem_cons]
  by_cases he : x = g
  ·subst he
   simp [hx]
   omega
  ·have he' : ¬ g = x := fun hh => he hh.symm
   simp only [he, he', if_false, false_or]
   omega
theorem ownC_cons (c : Ch) (l : List Ch) : ownC (c :: l) = fun x => if x = c.group then c.own else ownC l x := by
 funext x
 simp only [ownC, eq_comm]
theorem sum_own_nil : ∀ xs : List Int, sumI (xs.map (ownC [])) = 0
 | [] => rfl
 | x :: xs => by
  show ownC [] x + sumI (xs.map (ownC [])) = 0
  rw [sum_own_nil xs]; rfl
theorem sum_own_le {l : List Ch} (h : ∀ c ∈ l, 1 ≤ c.own) (xs : List Int) (hx : xs.Nodup) : sumI (xs.map (ownC l)) ≤ sumI (l.map (·.own)) := by
 induction l with
 | nil =>
  rw [sum_own_nil]
  exact Int.le_refl _
 | cons c l ih =>
  have h0 := h c (List.mem_cons_self ..)
  have hl := fun d hd => h d (List.mem_cons_of_mem c hd)
  have h1 := ih hl
  rw [ownC_cons, sum_upd _ _ _ _ hx]
  have h3 := ownC_nonneg hl c.group
  simp only [List.map_cons, sumI]
  split <;> omega
theorem sum_own_eq {l : List Ch} (hp : l.Pairwise fun a b => a.group < b.group) (xs : List Int) (hx : xs.Nodup) (hm : ∀ c ∈ l, c.group ∈ xs) : sumI (xs.map (ownC l)) = sumI (l.map (·.own)) := by
 induction l with
 | nil =>
  rw [sum_own_nil]
  rfl
 | cons c l ih =>
  obtain ⟨h0, h1⟩ := List.pairwise_cons.1 hp
  rw [ownC_cons, sum_upd _ _ _ _ hx, if_pos (hm c (List.mem_cons_self ..)), ih h1 (fun d hd => hm d (List.mem_cons_of_mem _ hd)), ownC_zero (fun d hd => by have := h0 d hd; omega)]
  simp only [List.map_cons, sumI]
  omega
def withGo (id v : Int) : Bool → List Ch → List Ch
 | d, [] => if d then [] else [⟨id, v⟩]
 | d, c :: l => (if !d && decide (id ≤ c.group) then [⟨id, v⟩] else []) ++ (if c.group = id then [] else [c]) ++ withGo id v (d || decide (id ≤ c.group)) l
def withC (l : List Ch) (id v : Int) : List Ch := withGo id v (decide (v = 0)) l
theorem withGo_mem (id v : Int) : ∀ (l : List Ch) (d : Bool), ∀ c ∈ withGo id v d l, (d = false ∧ c = ⟨id, v⟩) ∨ (c ∈ l ∧ c.group ≠ id)
 | [], d, c, hc => by
  cases d
  ·simp [withGo] at hc; exact Or.inl ⟨rfl, hc⟩
  ·simp [withGo] at hc
 | e :: l, d, c, hc => by
  unfold withGo at hc
  simp only [List.mem_append] at hc
  rcases hc with (hc | hc) | hc
  ·split at hc
   ·rename_i h
    simp only [Bool.and_eq_true, Bool.not_eq_true'] at h
    exact Or.inl ⟨h.1, by simpa using hc⟩
   ·simp at hc
  ·split at hc
   ·simp at hc
   ·rename_i h
    simp at hc
    subst hc
    exact Or.inr ⟨List.mem_cons_self .., h⟩
  ·rcases withGo_mem id v l _ c hc with ⟨h1, h2⟩ | ⟨h1, h2⟩
   ·simp only [Bool.or_eq_false_iff] at h1
    exact Or.inl ⟨h1.1, h2⟩
   ·exact Or.inr ⟨List.mem_cons_of_mem _ h1, h2⟩
theorem withGo_inc (id v : Int) : ∀ (l : List Ch) (d : Bool), (l.Pairwise fun a b => a.group < b.group) → (withGo id v d l).Pairwise fun a b => a.group < b.group
 | [], d, _ => by cases d <;> simp [withGo]
 | e :: l, d, h => by
  obtain ⟨h0, h1⟩ := List.pairwise_cons.1 h
  have ih := fun d => withGo_inc id v l d h1
  have hm := withGo_mem id v l
  unfold withGo
  by_cases hge : id ≤ e.group
  ·have hT : (withGo id v true l).Pairwise fun a b => a.group < b.group := ih true
   have hbig : ∀ c ∈ withGo id v true l, e.group < c.group := fun c hc => by
    rcases hm true c hc with ⟨hh, _⟩ | ⟨hh, _⟩
    ·simp at hh
    ·exact h0 c hh
   cases d
   ·by_cases he : e.group = id
    ·simp only [hge, decide_true, Bool.not_false, Bool.and_self, if_true, he, Int.le_refl, decide_true, List.append_nil, Bool.or_true, List.singleton_append, List.pairwise_cons]
     exact ⟨fun c hc => by have := hbig c hc; show id < c.group; omega, hT⟩
    ·simp only [hge, decide_true, Bool.not_false, Bool.and_self, if_true, he, if_false, Bool.or_true, List.singleton_append, List.cons_append, List.nil_append, List.pairwise_cons, List.mem_cons, forall_eq_or_imp]
     exact ⟨⟨by show id < e.group; omega, fun c hc => by have := hbig c hc; show id < c.group; omega⟩, hbig, hT⟩
   ·by_cases he : e.group = id
    ·simp only [he, Bool.not_true, Bool.false_and, Bool.false_eq_true, if_false, if_true, List.append_nil, List.nil_append, Bool.true_or]
     exact hT
    ·simp only [he, Bool.not_true, Bool.false_and, Bool.false_eq_true, if_false, List.nil_append, Bool.true_or, List.singleton_append, List.pairwise_cons]
     exact ⟨hbig, hT⟩
  ·have he : ¬ e.group = id := by omega
   simp only [hge, decide_false, Bool.and_false, Bool.false_eq_true, if_false, he, List.nil_append, Bool.or_false, List.singleton_append, List.pairwise_cons]
   refine ⟨fun c hc => ?_, ih d⟩
   rcases hm d c hc with ⟨_, hh⟩ | ⟨hh, _⟩
   ·subst hh
    show e.group < id
    omega
   ·exact h0 c hh
theorem withGo_sum (id v : Int) : ∀ (l : List Ch) (d : Bool), (l.Pairwise fun a b => a.group < b.group) → sumI ((withGo id v d l).map (·.own)) = sumI (l.map (·.own)) - ownC l id + if d then 0 else v
 | [], d, _ => by cases d <;> simp [withGo, sumI, ownC]
 | e :: l, d, h => by
  obtain ⟨h0, h1⟩ := List.pairwise_cons.1 h
  have ih := fun d => withGo_sum id v l d h1
  unfold withGo ownC
  by_cases he : e.group = id
  ·have hz : ownC l id = 0 := ownC_zero (fun c hc => by have := h0 c hc; omega)
   cases d <;> simp [he, sumI, ih, hz] <;> omega
  ·by_cases hge : id ≤ e.group
   ·cases d <;> simp [he, hge, sumI, ih] <;> omega
   ·cases d <;> simp [he, hge, sumI, ih] <;> omega
theorem ChOk.with {ns : List Nd} {l : List Ch} (h : ChOk ns l) {id v : Int} (hid : (findN ns id).isSome = true) (hv : 0 ≤ v) (hs : sumI (l.map (·.own)) - ownC l id + v ≤ 16777216) : ChOk ns (withC l id v) := by
 refine ⟨fun c hc => ?_, withGo_inc _ _ _ _ h.inc, fun c hc => ?_, ?_⟩
 ·rcases withGo_mem _ _ _ _ c hc with ⟨_, rfl⟩ | ⟨hh, _⟩
  ·exact hid
  ·exact h.known c hh
 ·rcases withGo_mem _ _ _ _ c hc with ⟨hd, rfl⟩ | ⟨hh, _⟩
  ·simp at hd
   show 1 ≤ v
   omega
  ·exact h.pos c hh
 ·unfold withC
  rw [withGo_sum _ _ _ _ h.inc]
  by_cases hz : v = 0
  ·simp [hz]; omega
  ·simp [hz]; omega
def tot (t : Tr) (f : Int → Int) (id : Int) : Int := sumI ((subF t.nodes t.nodes.length id).map f)
theorem tot_step {t : Tr} (h : TreeOk t) (f : Int → Int) {i : Nat} {n : Nd} (hn : t.nodes[i]? = some n) : tot t f n.id = f n.id + sumI ((kidsN t.nodes n.id).map (tot t f)) := by
 have hi : i < t.nodes.length := (List.getElem?_eq_some_iff.1 hn).1
 obtain ⟨k, hk⟩ : ∃ k, t.nodes.length = k + 1 := ⟨t.nodes.length - 1, by omega⟩
 unfold tot
 have hs : subF t.nodes t.nodes.length n.id = n.id :: (kidsN t.nodes n.id).flatMap (subF t.nodes k) := by rw [hk]; rfl
 rw [hs, List.map_cons, sumI, sumI_flatMap]
 congr 1
 apply sumI_congr
 intro x hx
 obtain ⟨j, m, hm, hp, rfl⟩ := mem_kidsN.1 hx
 have hij := h.kid hn hm hp
 rw [subF_fuel h k t.nodes.length j m hm (by omega) (by omega)]
def part (t : Tr) (f : Int → Int) (i : Nat) (id : Int) : Int := f id + sumI (((t.nodes.drop i).filter fun m => decide (m.parent = id)).map fun m => tot t f m.id)
theorem part_end (t : Tr) (f : Int → Int) (id : Int) : part t f t.nodes.length id = f id := by
 unfold part
 rw [List.drop_of_length_le (Nat.le_refl _)]
 simp [sumI]
theorem part_step {t : Tr} (f : Int → Int) {i : Nat} {n : Nd} (hn : t.nodes[i]? = some n) (id : Int) : part t f i id = part t f (i + 1) id + if id = n.parent then tot t f n.id else 0 := by
 obtain ⟨hi, he⟩ := List.getElem?_eq_some_iff.1 hn
 unfold part
 rw [List.drop_eq_getElem_cons hi, he]
 by_cases h : n.parent = id
 ·simp only [List.filter_cons, h, decide_true, if_true, List.map_cons, sumI]
  omega
 ·have h' : ¬ id = n.parent := fun hh => h hh.symm
  simp only [List.filter_cons, h, h', decide_false, Bool.false_eq_true, if_false]
  omega
theorem part_tot {t : Tr} (h : TreeOk t) (f : Int → Int) {i k : Nat} {n : Nd} (hn : t.nodes[i]? = some n) (hk : k ≤ i + 1) : part t f k n.id = tot t f n.id := by
 rw [tot_step h f hn]
 unfold part kidsN
 rw [List.map_map]
 congr 1
 have : t.nodes.filter (fun m => decide (m.parent = n.id)) = (t.nodes.drop k).filter (fun m => decide (m.parent = n.id)) := by
  conv => lhs; rw [← List.take_append_drop k t.nodes, List.filter_append]
  have : (t.nodes.take k).filter (fun m => decide (m.parent = n.id)) = [] := by
   rw [List.filter_eq_nil_iff]
   intro m hm
   obtain ⟨j, hj⟩ := List.getElem?_of_mem hm
   have hjk : j < k := by
    have := (List.getElem?_eq_some_iff.1 hj).1
    simp at this
    omega
   rw [List.getElem?_take_of_lt hjk] at hj
   simp only [decide_eq_true_eq]
   intro hp
   have := h.kid hn hj hp
   omega
  rw [this, List.nil_append]
 rw [this]
 rfl
theorem tot_nonneg (t : Tr) {f : Int → Int} (hf : ∀ x, 0 ≤ f x) (id : Int) : 0 ≤ tot t f id := sumI_map_nonneg _ (fun x _ => hf x)
theorem part_le {t : Tr} (h : TreeOk t) {f : Int → Int} (hf : ∀ x, 0 ≤ f x) {i : Nat} {n : Nd} (hn : t.nodes[i]? = some n) (k : Nat) : part t f k n.id ≤ tot t f n.id := by
 rw [← part_tot h f hn (Nat.zero_le _)]
 unfold part
 rw [List.drop_zero]
 have h1 : t.nodes.filter (fun m => decide (m.parent = n.id)) = (t.nodes.take k).filter (fun m => decide (m.parent = n.id)) ++ (t.nodes.drop k).filter (fun m => decide (m.parent = n.id)) := by
  rw [← List.filter_append, List.take_append_drop]
 rw [h1, List.map_append, sumI_append]
 have := sumI_map_nonneg ((t.nodes.take k).filter (fun m => decide (m.parent = n.id))) (f := fun m => tot t f m.id) (fun m _ => tot_nonneg t hf _)
 omega
theorem part_nonneg (t : Tr) {f : Int → Int} (hf : ∀ x, 0 ≤ f x) (i : Nat) (id : Int) : 0 ≤ part t f i id := by
 unfold part
 have h1 := hf id
 have := sumI_map_nonneg ((t.nodes.drop i).filter (fun m => decide (m.parent = id))) (f := fun m => tot t f m.id) (fun m _ => tot_nonneg t hf _)
 omega
theorem subF_nodup {t : Tr} (h : TreeOk t) {i : Nat} {n : Nd} (hn : t.nodes[i]? = some n) : (subF t.nodes t.nodes.length n.id).Nodup := nodup_subF h _ _ _ hn (by omega)
theorem mem_sub {t : Tr} (h : TreeOk t) {i : Nat} {n : Nd} (hn : t.nodes[i]? = some n) (x : Int) : x ∈ subF t.nodes t.nodes.length n.id ↔ ∃ (j : Nat) (m : Nd), t.nodes[j]? = some m ∧ m.id = x ∧ n.id ∈ ancF t.nodes t.nodes.length m.id := mem_subF h _ _ _ hn (by omega) x
theorem tot_le {t : Tr} (h : TreeOk t) {l : List Ch} (hl : ChOk t.nodes l) {i : Nat} {n : Nd} (hn : t.nodes[i]? = some n) : tot t (ownC l) n.id ≤ sumI (l.map (·.own)) := sum_own_le hl.pos _ (subF_nodup h hn)
abbrev ctrV (l : List Ch) : VVal := .agg [.p (chsP l)]
abbrev ctrF (l : List Ch) : VVal := .agg [.fresh 2 (l.map Ch.pv)]
theorem rown_eq (l : List Ch) (id : Int) (hl : l.length < 1000000) : V 70 [ctrV l, .p (.int .i64 id)] [] = some (.p (.int .i64 (ownC l id)), []) := by
 refine V_wp (vf := vf70) rfl ?_
 simp -implicitDefEqProofs (disch:=omega) only [vf70,vb70,go_sem,↓reduceIte,reduceAdd,reduceSub,reduceEqDiff,reduceLeDiff,reduceCtorEq]
 refine wp_count l.length (fun k s => ownC l id = ownC (l.drop k) id ∧ s.pe 1 = .p (.int .i64 id) ∧ s.pe 2 = .ptr (.slot 2 0) 0 0 ∧ s.pe 5 = .p (.int .i64 k) ∧ s.h (.slot 2 0) = some (0, .box [.p (chsP l)])) ?_ ?_
 ·exact ⟨rfl, rfl, rfl, rfl, rfl⟩
 ·rintro k s hk ⟨ho, h1, h2, h5, hh2⟩
  simp -implicitDefEqProofs (disch:=omega) only [h1,h2,h5,hh2,go_sem,↓reduceIte,reduceAdd,reduceSub,reduceEqDiff,reduceLeDiff,reduceCtorEq]
  refine wp_if_d (fun hlt => ?_) (fun hge => ?_)
  ·have hm : l[k]? = some l[k] := List.getElem?_eq_getElem hlt
   have hd : l.drop k = l[k] :: l.drop (k + 1) := List.drop_eq_getElem_cons hlt
   generalize l[k] = c at hm hd
   rw [hd, ownC] at ho
   by_cases he : c.group = id
   ·rw [if_pos he] at ho
    simp -implicitDefEqProofs (disch:=omega) only [h1,h2,h5,hh2,hlt,hm,he,ho,go_sem,↓reduceIte,reduceAdd,reduceSub,reduceEqDiff,reduceLeDiff,reduceCtorEq]
   ·rw [if_neg he] at ho
    simp -implicitDefEqProofs (disch:=omega) only [h1,h2,h5,hh2,hlt,hm,he,go_sem,↓reduceIte,reduceAdd,reduceSub,reduceEqDiff,reduceLeDiff,reduceCtorEq]
    exact ⟨ho, rfl⟩
  ·rw [List.drop_of_length_le (by omega), ownC] at ho
   simp -implicitDefEqProofs (disch:=omega) only [h1,h2,h5,hh2,hge,ho,go_sem,↓reduceIte,reduceAdd,reduceSub,reduceEqDiff,reduceLeDiff,reduceCtorEq]
def validK (t : Tr) (l : List Ch) : Bool := treeOk t && chOk t.nodes none 0 l
set_option maxHeartbeats 1000000 in
theorem kvalid_eq (t : Tr) (l : List Ch) (hf : t.Fits) (hn : t.nodes.length < 1000000) (hl : l.length < 1000000) : V 103 [t.vv, .agg [.p (chsP l)]] [] = some (.p (.bool (validK t l)), []) := by
 refine V_wp (vf := vf103) rfl ?_
 have hc := tcheck_eq t hf hn
 unfold validK
 cases ht : treeOk t with
 | false =>
  rw [ht] at hc
  simp -implicitDefEqProofs (disch:=omega) only [vf103,vb103,hc,Bool.false_and,go_sem,↓reduceIte,reduceAdd,reduceSub,reduceEqDiff,reduceLeDiff,reduceCtorEq]
 | true =>
  rw [ht] at hc
  simp -implicitDefEqProofs (disch:=omega) only [vf103,vb103,hc,go_sem,↓reduceIte,reduceAdd,reduceSub,reduceEqDiff,reduceLeDiff,reduceCtorEq]
  rw [Bool.true_and]
  refine wp_count l.length (fun k s => ∃ (p : Option Int) (q : Int), chOk t.nodes none 0 l = chOk t.nodes p q (l.drop k) ∧ (k = 0 → p = none) ∧ (∀ j, k = j + 1 → ∃ c, l[j]? = some c ∧ p = some c.group) ∧ 0 ≤ q ∧ q ≤ 16777216 ∧ s.pe 2 = .ptr (.slot 2 0) 0 0 ∧ s.pe 3 = .ptr (.slot 3 0) 0 0 ∧ s.pe 5 = .p (.int .i64 q) ∧ s.pe 14 = .p (chsP l) ∧ s.pe 15 = .p (.int .i64 l.length) ∧ s.pe 16 = .p (.int .i64 k) ∧ s.h (.slot 2 0) = some (0, .box [.p (nodesP t.nodes), .p (.int .i64 t.next)]) ∧ s.h (.slot 3 0) = some (0, .box [.p (chsP l)])) ?_ ?_
  ·exact ⟨none, 0, rfl, fun _ => rfl, fun j hj => by omega, by omega, by omega, rfl, rfl, rfl, rfl, rfl, rfl, rfl, rfl⟩
  ·rintro k s hk ⟨p, q, hq, hp0, hp1, q0, q1, h2, h3, h5, h14, h15, h16, hh2, hh3⟩
   simp -implicitDefEqProofs (disch:=omega) only [h2,h3,h5,h14,h15,h16,hh2,hh3,go_sem,↓reduceIte,reduceAdd,reduceSub,reduceEqDiff,reduceLeDiff,reduceCtorEq]
   refine wp_if_d (fun hlt => ?_) (fun hge => ?_)
   ·have hm : l[k]? = some l[k] := List.getElem?_eq_getElem hlt
    have hd : l.drop k = l[k] :: l.drop (k + 1) := List.drop_eq_getElem_cons hlt
    generalize l[k] = c at hm hd
    have hfi := ffind_eq t c.group hn
    rw [hd, chOk_cons] at hq
    cases hfs : (findN t.nodes c.group).isSome with
    | false =>
     rw [hfs] at hfi
     simp only [hfs, Bool.false_and] at hq
     generalize (findN t.nodes c.group).getD zeroNd = nd at hfi
     simp -implicitDefEqProofs (disch:=omega) only [h2,h3,h5,h14,h15,h16,hh2,hh3,hlt,hm,hfi,Nd.vv,hq,go_sem,↓reduceIte,reduceAdd,reduceSub,reduceEqDiff,reduceLeDiff,reduceCtorEq]
    | true =>
     rw [hfs] at hfi
     generalize (findN t.nodes c.group).getD zeroNd = nd at hfi
     have hfin : ∀ (hpc : prevOk p c.group = true) (ho1 : ¬ c.own < 1) (ho2 : ¬ 16777216 - q < c.own), chOk t.nodes none 0 l = chOk t.nodes (some c.group) (q + c.own) (l.drop (k + 1)) := by
      intro hpc ho1 ho2
      rw [hq, hfs, hpc, decide_eq_true (show 1 ≤ c.own by omega), decide_eq_true (show c.own ≤ 16777216 - q by omega)]
      rfl
     have hbad : ∀ (hb : prevOk p c.group = false ∨ c.own < 1 ∨ 16777216 - q < c.own), chOk t.nodes none 0 l = false := by
      rintro (hb | hb | hb)
      ·rw [hq, hb]; simp
      ·rw [hq, decide_eq_false (show ¬ 1 ≤ c.own by omega)]; simp
      ·rw [hq, decide_eq_false (show ¬ c.own ≤ 16777216 - q by omega)]; simp
     have hnx : ∀ j, k + 1 = j + 1 → ∃ c', l[j]? = some c' ∧ some c.group = some c'.group := fun j hj => ⟨c, by rw [show j = k by omega]; exact hm, rfl⟩
     by_cases ho1 : c.own < 1
     ·have hb := hbad (Or.inr (Or.inl ho1))
      by_cases hk0 : (0 : Int) < k
      ·obtain ⟨e, he, hpe⟩ := hp1 (k - 1) (by omega)
       have he' : l[((k : Int) - 1).toNat]? = some e := by rw [show ((k : Int) - 1).toNat = k - 1 by omega]; exact he
       have hk1 : (0 : Int) ≤ (k : Int) - 1 := by omega
       by_cases hle : c.group ≤ e.group
       ·simp -implicitDefEqProofs (disch:=omega) only [h2,h3,h5,h14,h15,h16,hh2,hh3,hlt,hm,hfi,Nd.vv,hk0,hk1,he',hle,hb,go_sem,↓reduceIte,reduceAdd,reduceSub,reduceEqDiff,reduceLeDiff,reduceCtorEq]
       ·simp -implicitDefEqProofs (disch:=omega) only [h2,h3,h5,h14,h15,h16,hh2,hh3,hlt,hm,hfi,Nd.vv,hk0,hk1,he',hle,ho1,hb,go_sem,↓reduceIte,reduceAdd,reduceSub,reduceEqDiff,reduceLeDiff,reduceCtorEq]
      ·simp -implicitDefEqProofs (disch:=omega) only [h2,h3,h5,h14,h15,h16,hh2,hh3,hlt,hm,hfi,Nd.vv,hk0,ho1,hb,go_sem,↓reduceIte,reduceAdd,reduceSub,reduceEqDiff,reduceLeDiff,reduceCtorEq]
     ·by_cases ho2 : 16777216 - q < c.own
      ·have hb := hbad (Or.inr (Or.inr ho2))
       by_cases hk0 : (0 : Int) < k
       ·obtain ⟨e, he, hpe⟩ := hp1 (k - 1) (by omega)
        have he' : l[((k : Int) - 1).toNat]? = some e := by rw [show ((k : Int) - 1).toNat = k - 1 by omega]; exact he
        have hk1 : (0 : Int) ≤ (k : Int) - 1 := by omega
        by_cases hle : c.group ≤ e.group
        ·simp -implicitDefEqProofs (disch:=omega) only [h2,h3,h5,h14,h15,h16,hh2,hh3,hlt,hm,hfi,Nd.vv,hk0,hk1,he',hle,hb,go_sem,↓reduceIte,reduceAdd,reduceSub,reduceEqDiff,reduceLeDiff,reduceCtorEq]
        ·simp -implicitDefEqProofs (disch:=omega) only [h2,h3,h5,h14,h15,h16,hh2,hh3,hlt,hm,hfi,Nd.vv,hk0,hk1,he',hle,ho1,ho2,hb,go_sem,↓reduceIte,reduceAdd,reduceSub,reduceEqDiff,reduceLeDiff,reduceCtorEq]
       ·simp -implicitDefEqProofs (disch:=omega) only [h2,h3,h5,h14,h15,h16,hh2,hh3,hlt,hm,hfi,Nd.vv,hk0,ho1,ho2,hb,go_sem,↓reduceIte,reduceAdd,reduceSub,reduceEqDiff,reduceLeDiff,reduceCtorEq]
      ·by_cases hk0 : (0 : Int) < k
       ·obtain ⟨e, he, hpe⟩ := hp1 (k - 1) (by omega)
        have he' : l[((k : Int) - 1).toNat]? = some e := by rw [show ((k : Int) - 1).toNat = k - 1 by omega]; exact he
        have hk1 : (0 : Int) ≤ (k : Int) - 1 := by omega
        subst hpe
        by_cases hle : c.group ≤ e.group
        ·have hb := hbad (Or.inl (decide_eq_false (by omega)))
         simp -implicitDefEqProofs (disch:=omega) only [h2,h3,h5,h14,h15,h16,hh2,hh3,hlt,hm,hfi,Nd.vv,hk0,hk1,he',hle,hb,go_sem,↓reduceIte,reduceAdd,reduceSub,reduceEqDiff,reduceLeDiff,reduceCtorEq]
        ·have hg := hfin (decide_eq_true (by omega)) ho1 ho2
         simp -implicitDefEqProofs (disch:=omega) only [h2,h3,h5,h14,h15,h16,hh2,hh3,hlt,hm,hfi,Nd.vv,hk0,hk1,he',hle,ho1,ho2,go_sem,↓reduceIte,reduceAdd,reduceSub,reduceEqDiff,reduceLeDiff,reduceCtorEq]
         exact ⟨some c.group, q + c.own, hg, by simp, fun j hj => ⟨c, hj ▸ hm, rfl⟩, by omega, by omega, rfl, rfl⟩
       ·have hpn := hp0 (by omega)
        subst hpn
        have hg := hfin rfl ho1 ho2
        simp -implicitDefEqProofs (disch:=omega) only [h2,h3,h5,h14,h15,h16,hh2,hh3,hlt,hm,hfi,Nd.vv,hk0,ho1,ho2,go_sem,↓reduceIte,reduceAdd,reduceSub,reduceEqDiff,reduceLeDiff,reduceCtorEq]
        exact ⟨some c.group, q + c.own, hg, by simp, fun j hj => ⟨c, hj ▸ hm, rfl⟩, by omega, by omega, rfl, rfl⟩
   ·rw [List.drop_of_length_le (by omega), chOk_nil] at hq
    simp -implicitDefEqProofs (disch:=omega) only [h2,h3,h5,h14,h15,h16,hh2,hh3,hge,hq,go_sem,↓reduceIte,reduceAdd,reduceSub,reduceEqDiff,reduceLeDiff,reduceCtorEq]
def Rep (ks : List MKey) (vs : List PV) (f : Int → Int) : Prop := ∀ id, (mget ks vs (.int id)).getD (.int .i64 0) = .int .i64 (f id)
theorem mget_mput (x k' : MKey) (v' : PV) : ∀ (ks : List MKey) (vs : List PV), mget (mput ks vs k' v').1 (mput ks vs k' v').2 x = if x = k' then some v' else mget ks vs x
 | [], [] => by simp [mput, mget]
 | [], _ :: _ => by simp [mput, mget]
 | _ :: _, [] => by simp [mput, mget]
 | k :: ks, v :: vs => by
  have ih := mget_mput x k' v' ks vs
  by_cases h : k' = k
  ·subst h
   simp only [mput, if_true, mget]
   by_cases hx : x = k' <;> simp [hx]
  ·simp only [mput, h, if_false, mget, ih]
   by_cases hx : x = k
   ·have : ¬ x = k' := fun hh => h (hh ▸ hx)
    simp [hx, this]
    intro hh
    exact absurd hh.symm h
   ·simp [hx]
theorem Rep.put {ks : List MKey} {vs : List PV} {f : Int → Int} (h : Rep ks vs f) (g v : Int) : Rep (mput ks vs (.int g) (.int .i64 v)).1 (mput ks vs (.int g) (.int .i64 v)).2 (fun x => if x = g then v else f x) := by
 intro id
 rw [mget_mput]
 by_cases hg : id = g
 ·subst hg
  simp
 ·simp [hg]
  exact h id
theorem ownC_snoc (c : Ch) (x : Int) : ∀ (a : List Ch), (∀ d ∈ a, d.group ≠ c.group) → ownC (a ++ [c]) x = if x = c.group then c.own else ownC a x
 | [], _ => by simp only [List.nil_append, ownC, eq_comm]
 | d :: a, h => by
  have ih := ownC_snoc c x a (fun e he => h e (List.mem_cons_of_mem _ he))
  have hd := h d (List.mem_cons_self ..)
  simp only [List.cons_append, ownC, ih]
  by_cases h1 : d.group = x
  ·have h2 : ¬ x = c.group := by omega
   simp [h1, h2]
  ·simp [h1]
set_option maxHeartbeats 1000000 in
theorem sums_eq {t : Tr} (h : TreeOk t) {l : List Ch} (hl : ChOk t.nodes l) (hn : t.nodes.length < 1000000) (hll : l.length < 1000000) : ∃ ks vs, V 87 [t.vv, .agg [.p (chsP l)]] [] = some (.p (.map (.int .i64) ks vs), []) ∧ ∀ (i : Nat) (n : Nd), t.nodes[i]? = some n → (mget ks vs (.int n.id)).getD (.int .i64 0) = .int .i64 (tot t (ownC l) n.id) := by
 suffices hw : wp (callF V vf87 [t.vv, .agg [.p (chsP l)]] []) (fun r => ∃ ks vs, r = (.p (.map (.int .i64) ks vs), []) ∧ Rep ks vs (part t (ownC l) 1)) by
  obtain ⟨r, hr, ks, vs, rfl, hrep⟩ := hw
  refine ⟨ks, vs, V_fix (vf := vf87) rfl hr, fun i n hi => ?_⟩
  rw [hrep n.id, part_tot h _ hi (by omega)]
 obtain ⟨r0, ns0, hns, _, _⟩ := h.root
 have hpos : 1 ≤ t.nodes.length := by rw [hns]; simp
 have hf0 : ∀ x, 0 ≤ ownC l x := ownC_nonneg hl.pos
 simp -implicitDefEqProofs (disch:=omega) only [vf87,vb87,go_sem,↓reduceIte,reduceAdd,reduceSub,reduceEqDiff,reduceLeDiff,reduceCtorEq]
 refine wp_count l.length (fun k s => ∃ ks vs, Rep ks vs (ownC (l.take k)) ∧ s.pe 2 = .ptr (.slot 2 0) 0 0 ∧ s.pe 5 = .mref (.slot 9 0) 0 ∧ s.pe 11 = .p (chsP l) ∧ s.pe 12 = .p (.int .i64 l.length) ∧ s.pe 13 = .p (.int .i64 k) ∧ s.h (.slot 2 0) = some (0, .box [.p (nodesP t.nodes), .p (.int .i64 t.next)]) ∧ s.h (.slot 9 0) = some (0, .map (.int .i64) ks vs)) ?_ ?_
 ·exact ⟨[], [], fun id => rfl, rfl, rfl, rfl, rfl, rfl, rfl, rfl⟩
 ·rintro k s hk ⟨ks, vs, hrep, h2, h5, h11, h12, h13, hh2, hh9⟩
  simp -implicitDefEqProofs (disch:=omega) only [h2,h5,h11,h12,h13,hh2,hh9,go_sem,↓reduceIte,reduceAdd,reduceSub,reduceEqDiff,reduceLeDiff,reduceCtorEq]
  refine wp_if_d (fun hlt => ?_) (fun hge => ?_)
  ·have hm : l[k]? = some l[k] := List.getElem?_eq_getElem hlt
   have hfresh : ∀ d ∈ l.take k, d.group ≠ l[k].group := by
    intro d hd
    obtain ⟨j, hj⟩ := List.getElem?_of_mem hd
    have hjk : j < k := by
     have := (List.getElem?_eq_some_iff.1 hj).1
     simp at this
     omega
    rw [List.getElem?_take_of_lt hjk] at hj
    obtain ⟨hjl, he⟩ := List.getElem?_eq_some_iff.1 hj
    have := List.pairwise_iff_getElem.1 hl.inc j k hjl hlt hjk
    rw [he] at this
    omega
   have htk : l.take (k + 1) = l.take k ++ [l[k]] := by rw [List.take_add_one, hm]; rfl
   generalize l[k] = c at hm hfresh htk
   have hnext := hrep.put c.group c.own
   rw [show (fun x => if x = c.group then c.own else ownC (l.take k) x) = ownC (l.take (k + 1)) from by
    funext x
    rw [htk, ownC_snoc c x _ hfresh]] at hnext
   simp -implicitDefEqProofs (disch:=omega) only [h2,h5,h11,h12,h13,hh2,hh9,hlt,hm,go_sem,↓reduceIte,reduceAdd,reduceSub,reduceEqDiff,reduceLeDiff,reduceCtorEq]
   exact ⟨_, _, hnext, rfl, rfl⟩
  ·rw [List.take_of_length_le (by omega)] at hrep
   simp -implicitDefEqProofs (disch:=omega) only [h2,h5,h11,h12,h13,hh2,hh9,hge,go_sem,↓reduceIte,reduceAdd,reduceSub,reduceEqDiff,reduceLeDiff,reduceCtorEq]
   refine wp_count (t.nodes.length - 1) (fun k s => ∃ ks vs, Rep ks vs (part t (ownC l) (t.nodes.length - k)) ∧ s.pe 2 = .ptr (.slot 2 0) 0 0 ∧ s.pe 5 = .mref (.slot 9 0) 0 ∧ s.pe 8 = .p (.int .i64 ((t.nodes.length : Int) - 1 - k)) ∧ s.h (.slot 2 0) = some (0, .box [.p (nodesP t.nodes), .p (.int .i64 t.next)]) ∧ s.h (.slot 9 0) = some (0, .map (.int .i64) ks vs)) ?_ ?_
   ·refine ⟨ks, vs, ?_, by simp -implicitDefEqProofs (disch := omega) only [h2, go_sem, ↓reduceIte, reduceAdd, reduceSub, reduceEqDiff, reduceLeDiff, reduceCtorEq], by simp -implicitDefEqProofs (disch := omega) only [h5, go_sem, ↓reduceIte, reduceAdd, reduceSub, reduceEqDiff, reduceLeDiff, reduceCtorEq], by simp -implicitDefEqProofs (disch := omega) only [go_sem, ↓reduceIte, reduceAdd, reduceSub, reduceEqDiff, reduceLeDiff, reduceCtorEq]; simp, by simp -implicitDefEqProofs (disch := omega) only [hh2, go_sem, ↓reduceIte, reduceAdd, reduceSub, reduceEqDiff, reduceLeDiff, reduceCtorEq], by simp -implicitDefEqProofs (disch := omega) only [hh9, go_sem, ↓reduceIte, reduceAdd, reduceSub, reduceEqDiff, reduceLeDiff, reduceCtorEq]⟩
    rw [Nat.sub_zero, show part t (ownC l) t.nodes.length = ownC l from funext (part_end t _)]
    exact hrep
   ·rintro k s hk ⟨ks, vs, hrep, h2, h5, h8, hh2, hh9⟩
    simp -implicitDefEqProofs (disch:=omega) only [h2,h5,h8,hh2,hh9,go_sem,↓reduceIte,reduceAdd,reduceSub,reduceEqDiff,reduceLeDiff,reduceCtorEq]
    refine wp_if_d (fun hlt => ?_) (fun hge => ?_)
    ·have hi : t.nodes.length - 1 - k < t.nodes.length := by omega
     have hm : t.nodes[t.nodes.length - 1 - k]? = some t.nodes[t.nodes.length - 1 - k] := List.getElem?_eq_getElem hi
     have hm' : t.nodes[((t.nodes.length : Int) - 1 - k).toNat]? = some t.nodes[t.nodes.length - 1 - k] := by
      rw [show ((t.nodes.length : Int) - 1 - k).toNat = t.nodes.length - 1 - k by omega]
      exact hm
     generalize t.nodes[t.nodes.length - 1 - k] = n at hm hm'
     obtain ⟨_, hn1, j, p, hj, hp, hpe⟩ := (h.nodeAt hm).resolve_left (by omega)
     have e1 := hrep n.parent
     have e2 := hrep n.id
     rw [show t.nodes.length - k = (t.nodes.length - 1 - k) + 1 by omega] at e1 e2 hrep
     rw [part_tot h _ hm (Nat.le_refl _)] at e2
     have hst := part_step (ownC l) hm n.parent
     rw [if_pos rfl] at hst
     have b1 := part_le h hf0 hp (t.nodes.length - 1 - k)
     have b2 := tot_le h hl hp
     have b3 := hl.all
     have b4 := part_nonneg t hf0 (t.nodes.length - 1 - k + 1) n.parent
     have b5 := tot_nonneg t hf0 n.id
     rw [hpe] at b1 b2
     have hnext := hrep.put n.parent (part t (ownC l) (t.nodes.length - 1 - k + 1) n.parent + tot t (ownC l) n.id)
     rw [show (fun x => if x = n.parent then part t (ownC l) (t.nodes.length - 1 - k + 1) n.parent + tot t (ownC l) n.id else part t (ownC l) (t.nodes.length - 1 - k + 1) x) = part t (ownC l) (t.nodes.length - (k + 1)) from by
      funext x
      rw [show t.nodes.length - (k + 1) = t.nodes.length - 1 - k by omega, part_step (ownC l) hm x]
      by_cases hx : x = n.parent
      ·simp [hx]
      ·simp [hx]] at hnext
     generalize part t (ownC l) (t.nodes.length - 1 - k + 1) n.parent = A at e1 hst b4 hnext
     generalize tot t (ownC l) n.id = B at e2 hst b5 hnext
     have hwr : IntKind.i64.wrap (A + B) = A + B := wrap64 (by omega) (by omega)
     simp -implicitDefEqProofs (disch:=omega) only [h2,h5,h8,hh2,hh9,hlt,hm',e1,e2,hwr,go_sem,↓reduceIte,reduceAdd,reduceSub,reduceEqDiff,reduceLeDiff,reduceCtorEq]
     exact ⟨by omega, _, _, hnext, by congr 2; omega, rfl⟩
    ·rw [show t.nodes.length - k = 1 by omega] at hrep
     simp -implicitDefEqProofs (disch:=omega) only [h2,h5,h8,hh2,hh9,hge,go_sem,↓reduceIte,reduceAdd,reduceSub,reduceEqDiff,reduceLeDiff,reduceCtorEq]
     exact ⟨_, _, rfl, hrep⟩
def checkK (t : Tr) (l : List Ch) (id : Int) : Int := if validK t l = true then (if (findN t.nodes id).isSome = true then 0 else 4) else 1
theorem kcheck_eq (t : Tr) (l : List Ch) (id : Int) (hf : t.Fits) (hn : t.nodes.length < 1000000) (hl : l.length < 1000000) : V 86 [t.vv, ctrV l, .p (.int .i64 id)] [] = some (.p (.int .i64 (checkK t l id)), []) := by
 refine V_wp (vf := vf86) rfl ?_
 have hv := kvalid_eq t l hf hn hl
 have hfi := ffind_eq t id hn
 unfold checkK
 cases hvv : validK t l with
 | false =>
  rw [hvv] at hv
  simp -implicitDefEqProofs (disch:=omega) only [vf86,vb86,hv,go_sem,↓reduceIte,reduceAdd,reduceSub,reduceEqDiff,reduceLeDiff,reduceCtorEq]
  try rfl
 | true =>
  rw [hvv] at hv
  generalize (findN t.nodes id).getD zeroNd = nd at hfi
  cases hfs : (findN t.nodes id).isSome with
  | false =>
   rw [hfs] at hfi
   simp -implicitDefEqProofs (disch:=omega) only [vf86,vb86,hv,hfi,Nd.vv,go_sem,↓reduceIte,reduceAdd,reduceSub,reduceEqDiff,reduceLeDiff,reduceCtorEq]
   try rfl
  | true =>
   rw [hfs] at hfi
   simp -implicitDefEqProofs (disch:=omega) only [vf86,vb86,hv,hfi,Nd.vv,go_sem,↓reduceIte,reduceAdd,reduceSub,reduceEqDiff,reduceLeDiff,reduceCtorEq]
   try rfl
theorem validK_iff (t : Tr) (l : List Ch) : validK t l = true ↔ TreeOk t ∧ ChOk t.nodes l := by
 unfold validK
 rw [Bool.and_eq_true, treeOk_iff, chOk_iff]
theorem checkK_zero {t : Tr} {l : List Ch} {id : Int} : checkK t l id = 0 ↔ TreeOk t ∧ ChOk t.nodes l ∧ ∃ (i : Nat) (n : Nd), t.nodes[i]? = some n ∧ n.id = id := by
 unfold checkK
 by_cases hv : validK t l = true
 ·rw [if_pos hv]
  obtain ⟨h1, h2⟩ := (validK_iff t l).1 hv
  by_cases hs : (findN t.nodes id).isSome = true
  ·rw [if_pos hs]
   obtain ⟨n, hn, he⟩ := findN_some hs
   obtain ⟨i, hi⟩ := List.getElem?_of_mem hn
   exact ⟨fun _ => ⟨h1, h2, i, n, hi, he⟩, fun _ => rfl⟩
  ·rw [if_neg hs]
   constructor
   ·intro h; omega
   ·rintro ⟨_, _, i, n, hi, rfl⟩
    rw [findN_unique h1.inc hi] at hs
    simp at hs
 ·rw [if_neg hv]
  constructor
  ·intro h; omega
  ·rintro ⟨h1, h2, _⟩
   exact absurd ((validK_iff t l).2 ⟨h1, h2⟩) hv
def totK (t : Tr) (l : List Ch) (id : Int) : Int := if checkK t l id = 0 then tot t (ownC l) id else 0
theorem total_eq (t : Tr) (l : List Ch) (id : Int) (hf : t.Fits) (hn : t.nodes.length < 1000000) (hl : l.length < 1000000) : V 76 [t.vv, ctrV l, .p (.int .i64 id)] [] = some (.tup [.p (.int .i64 (totK t l id)), .p (.int .i64 (checkK t l id))], []) := by
 refine V_wp (vf := vf76) rfl ?_
 have hc := kcheck_eq t l id hf hn hl
 unfold totK
 by_cases h0 : checkK t l id = 0
 ·obtain ⟨h1, h2, i, n, hi, rfl⟩ := checkK_zero.1 h0
  obtain ⟨ks, vs, hs, hg⟩ := sums_eq h1 h2 hn hl
  have hgi := hg i n hi
  rw [h0] at hc
  rw [if_pos h0]
  generalize tot t (ownC l) n.id = T at hgi
  simp -implicitDefEqProofs (disch:=omega) only [vf76,vb76,hc,hs,hgi,go_sem,↓reduceIte,reduceAdd,reduceSub,reduceEqDiff,reduceLeDiff,reduceCtorEq]
  rw [h0]
 ·rw [if_neg h0]
  generalize checkK t l id = e at hc h0
  simp -implicitDefEqProofs (disch:=omega) only [vf76,vb76,hc,h0,go_sem,↓reduceIte,reduceAdd,reduceSub,reduceEqDiff,reduceLeDiff,reduceCtorEq]
theorem root_at {t : Tr} (h : TreeOk t) : ∃ r, t.nodes[0]? = some r ∧ r.id = 1 := by
 obtain ⟨r, ns, hr, h1, _⟩ := h.root
 exact ⟨r, by rw [hr]; rfl, h1⟩
def ascOk (kn : Int → Bool) (lo hi : Int) : Option Int → List Ch → Bool
 | _, [] => true
 | p, c :: l => kn c.group && prevOk p c.group && decide (lo ≤ c.own ∧ c.own ≤ hi) && ascOk kn lo hi (some c.group) l
def prevG (l : List Ch) (k : Nat) : Option Int := if k = 0 then none else (l[k - 1]?).map (·.group)
structure AscOk (kn : Int → Bool) (lo hi : Int) (l : List Ch) : Prop where
 known : ∀ c ∈ l, kn c.group = true
 inc : l.Pairwise fun a b => a.group < b.group
 range : ∀ c ∈ l, lo ≤ c.own ∧ c.own ≤ hi
theorem ascOk_iff' (kn : Int → Bool) (lo hi : Int) : ∀ (l : List Ch) (p : Option Int), ascOk kn lo hi p l = true ↔ (∀ c ∈ l, kn c.group = true) ∧ (l.Pairwise fun a b => a.group < b.group) ∧ (∀ q, p = some q → ∀ c ∈ l, q < c.group) ∧ ∀ c ∈ l, lo ≤ c.own ∧ c.own ≤ hi
 | [], p => by simp [ascOk]
 | c :: l, p => by
  have hp : prevOk p c.group = true ↔ ∀ q, p = some q → q < c.group := by
   cases p <;> simp [prevOk]
  simp only [ascOk, Bool.and_eq_true, decide_eq_true_eq, hp, List.mem_cons, forall_eq_or_imp, List.pairwise_cons, ascOk_iff' kn lo hi l (some c.group)]
  constructor
  ·rintro ⟨⟨⟨h1, h2⟩, h3⟩, a1, a2, a3, a4⟩
   refine ⟨⟨h1, a1⟩, ⟨a3 _ rfl, a2⟩, fun q hq => ⟨h2 q hq, fun d hd => ?_⟩, h3, a4⟩
   have := h2 q hq
   have := a3 _ rfl d hd
   omega
  ·rintro ⟨⟨h1, a1⟩, ⟨a3, a2⟩, h2, h3, a4⟩
   refine ⟨⟨⟨h1, fun q hq => (h2 q hq).1⟩, h3⟩, a1, a2, fun q hq => ?_, a4⟩
   cases hq
   exact a3
theorem ascOk_iff (kn : Int → Bool) (lo hi : Int) (l : List Ch) : ascOk kn lo hi none l = true ↔ AscOk kn lo hi l := by
 rw [ascOk_iff' kn lo hi l none]
 constructor
 ·rintro ⟨a, b, _, d⟩
  exact ⟨a, b, d⟩
 ·rintro ⟨a, b, d⟩
  exact ⟨a, b, fun q hq => by simp at hq, d⟩
def ascAt (kn : Int → Bool) (lo hi : Int) (l : List Ch) (k : Nat) (c : Ch) : Prop := kn c.group = true ∧ (k = 0 ∨ ∃ e, l[k - 1]? = some e ∧ e.group < c.group) ∧ lo ≤ c.own ∧ c.own ≤ hi
theorem prevG_ok {l : List Ch} {k : Nat} {c : Ch} (hm : l[k]? = some c) : prevOk (prevG l k) c.group = true ↔ (k = 0 ∨ ∃ e, l[k - 1]? = some e ∧ e.group < c.group) := by
 unfold prevG
 by_cases hk : k = 0
 ·simp [hk, prevOk]
 ·have hl := (List.getElem?_eq_some_iff.1 hm).1
  have he : l[k - 1]? = some l[k - 1] := List.getElem?_eq_getElem (by omega)
  rw [if_neg hk, he]
  simp [prevOk, hk]
theorem asc_good {kn : Int → Bool} {lo hi : Int} {l : List Ch} {k : Nat} {c : Ch} (hq : ascOk kn lo hi none l = ascOk kn lo hi (prevG l k) (l.drop k)) (hm : l[k]? = some c) (h : ascAt kn lo hi l k c) : ascOk kn lo hi none l = ascOk kn lo hi (prevG l (k + 1)) (l.drop (k + 1)) := by
 have hl := (List.getElem?_eq_some_iff.1 hm).1
 have hd : l.drop k = c :: l.drop (k + 1) := by
  rw [List.drop_eq_getElem_cons hl]
  rw [List.getElem?_eq_getElem hl] at hm
  cases hm
  rfl
 obtain ⟨h1, h2, h3, h4⟩ := h
 rw [hq, hd, ascOk, h1, (prevG_ok hm).2 h2, decide_eq_true ⟨h3, h4⟩]
 simp [prevG, hm]
theorem asc_bad {kn : Int → Bool} {lo hi : Int} {l : List Ch} {k : Nat} {c : Ch} (hq : ascOk kn lo hi none l = ascOk kn lo hi (prevG l k) (l.drop k)) (hm : l[k]? = some c) (h : ¬ ascAt kn lo hi l k c) : ascOk kn lo hi none l = false := by
 have hl := (List.getElem?_eq_some_iff.1 hm).1
 have hd : l.drop k = c :: l.drop (k + 1) := by
  rw [List.drop_eq_getElem_cons hl]
  rw [List.getElem?_eq_getElem hl] at hm
  cases hm
  rfl
 rw [Bool.eq_false_iff]
 intro ht
 apply h
 rw [hq, hd, ascOk] at ht
 simp only [Bool.and_eq_true, decide_eq_true_eq] at ht
 exact ⟨ht.1.1.1, (prevG_ok hm).1 ht.1.1.2, ht.1.2⟩
theorem asc_end {kn : Int → Bool} {lo hi : Int} {l : List Ch} {k : Nat} (hq : ascOk kn lo hi none l = ascOk kn lo hi (prevG l k) (l.drop k)) (hk : l.length ≤ k) : ascOk kn lo hi none l = true := by
 rw [hq, List.drop_of_length_le hk]
 simp [ascOk]
theorem prev_at {l : List Ch} {k : Nat} {c : Ch} (hm : l[k]? = some c) (hk : (0 : Int) < k) : ∃ e, l[k - 1]? = some e ∧ l[((k : Int) - 1).toNat]? = some e := by
 have hl := (List.getElem?_eq_some_iff.1 hm).1
 have he : l[k - 1]? = some l[k - 1] := List.getElem?_eq_getElem (by omega)
 exact ⟨_, he, by rw [show ((k : Int) - 1).toNat = k - 1 by omega]; exact he⟩
theorem ascAt_zero {kn : Int → Bool} {lo hi : Int} {l : List Ch} {k : Nat} {c : Ch} (hk : ¬ (0 : Int) < k) : ascAt kn lo hi l k c ↔ kn c.group = true ∧ lo ≤ c.own ∧ c.own ≤ hi := by
 have : k = 0 := by omega
 subst this
 simp [ascAt]
theorem ascAt_succ {kn : Int → Bool} {lo hi : Int} {l : List Ch} {k : Nat} {c e : Ch} (hk : (0 : Int) < k) (he : l[k - 1]? = some e) : ascAt kn lo hi l k c ↔ kn c.group = true ∧ e.group < c.group ∧ lo ≤ c.own ∧ c.own ≤ hi := by
 have : ¬ k = 0 := by omega
 simp [ascAt, this, he]
theorem fkids_eq (t : Tr) (id : Int) (hl : t.nodes.length < 1000000) : V 115 [t.vv, .p (.int .i64 id)] [] = some (.fresh 1 ((kidsN t.nodes id).map (.int .i64)), []) := by
 refine V_wp (vf := vf115) rfl ?_
 simp -implicitDefEqProofs (disch:=omega) only [vf115,vb115,go_sem,↓reduceIte,reduceAdd,reduceSub,reduceEqDiff,reduceLeDiff,reduceCtorEq]
 obtain ⟨I, hI⟩ : ∃ I : Nat → St → Prop, ∀ k s, I k s ↔ ∃ (acc : List Int) (w : Nat), acc = kidsN (t.nodes.take k) id ∧ acc.length ≤ k ∧ s.pe 1 = .p (.int .i64 id) ∧ s.pe 5 = .own (.slot 5 0) w 0 acc.length ∧ s.pe 9 = .p (nodesP t.nodes) ∧ s.pe 10 = .p (.int .i64 t.nodes.length) ∧ s.pe 11 = .p (.int .i64 k) ∧ s.h (.slot 5 0) = some (w, .arr 1 (acc.map (.int .i64))) := ⟨_, fun _ _ => Iff.rfl⟩
 refine wp_count (t.nodes.length) I ?_ ?_
 ·refine (hI _ _).2 ⟨[], 0, ?_, ?_, ?_, ?_, ?_, ?_, ?_, ?_⟩
  ·exact cl3
  ·exact cl3
  all_goals exact cl0
 intro k s hk hIk
 obtain ⟨acc, w, hacc, hal, h1, h5, h9, h10, h11, hh5_0⟩ := (hI _ _).1 hIk
 clear hIk
 simp -implicitDefEqProofs (disch:=omega) only [h1,h5,h9,h10,h11,hh5_0,go_sem,↓reduceIte,reduceAdd,reduceSub,reduceEqDiff,reduceLeDiff,reduceCtorEq]
 refine wp_if_d (fun hlt => ?_) (fun hge => ?_)
 ·have hm : t.nodes[k]? = some t.nodes[k] := List.getElem?_eq_getElem hlt
  generalize t.nodes[k] = m at hm
  have hst := filter_take (p := fun n : Nd => decide (n.parent = id)) hm
  by_cases hp : m.parent = id
  ·simp only [hp, decide_true, if_true] at hst
   simp -implicitDefEqProofs (disch:=omega) only [h1,h5,h9,h10,h11,hh5_0,hlt,hm,hp,go_sem,↓reduceIte,reduceAdd,reduceSub,reduceEqDiff,reduceLeDiff,reduceCtorEq]
   try refine And.intro (by omega) ?_
   refine (hI _ _).2 ⟨acc ++ [m.id], w + 1, ?_, ?_, ?_, ?_, ?_, ?_, ?_, ?_⟩
   ·exact by rw [kidsN, hst, List.map_append, hacc]; rfl
   ·exact by simp; omega
   all_goals exact cl0
  ·simp only [hp, decide_false, Bool.false_eq_true, if_false] at hst
   simp -implicitDefEqProofs (disch:=omega) only [h1,h5,h9,h10,h11,hh5_0,hlt,hm,hp,go_sem,↓reduceIte,reduceAdd,reduceSub,reduceEqDiff,reduceLeDiff,reduceCtorEq]
   try refine And.intro (by omega) ?_
   refine (hI _ _).2 ⟨acc, w, ?_, ?_, ?_, ?_, ?_, ?_, ?_, ?_⟩
   ·exact by rw [kidsN, hst, hacc]; rfl
   ·omega
   all_goals exact cl0
 ·rw [List.take_of_length_le (by omega)] at hacc
  simp -implicitDefEqProofs (disch:=omega) only [h1,h5,h9,h10,h11,hh5_0,hge,hacc,go_sem,↓reduceIte,reduceAdd,reduceSub,reduceEqDiff,reduceLeDiff,reduceCtorEq]
theorem zero_lt_zero : ¬ ((0 : Int) < ((0 : Nat) : Int)) := by omega
def knownN (ns : List Nd) (g : Int) : Bool := (findN ns g).isSome
def validLK (t : Tr) (l : List Ch) : Bool := treeOk t && ascOk (knownN t.nodes) 0 4611686018427387904 none l
set_option maxHeartbeats 1000000 in
theorem klimits_eq (t : Tr) (l : List Ch) (hf : t.Fits) (hn : t.nodes.length < 1000000) (hl : l.length < 1000000) : V 89 [t.vv, .p (chsP l)] [] = some (.p (.bool (validLK t l)), []) := by
 refine V_wp (vf := vf89) rfl ?_
 have hc := tcheck_eq t hf hn
 unfold validLK
 cases ht : treeOk t with
 | false =>
  rw [ht] at hc
  simp -implicitDefEqProofs (disch:=omega) only [vf89,vb89,hc,Bool.false_and,go_sem,↓reduceIte,reduceAdd,reduceSub,reduceEqDiff,reduceLeDiff,reduceCtorEq]
 | true =>
  rw [ht] at hc
  rw [Bool.true_and]
  simp -implicitDefEqProofs (disch:=omega) only [vf89,vb89,hc,go_sem,↓reduceIte,reduceAdd,reduceSub,reduceEqDiff,reduceLeDiff,reduceCtorEq]
  obtain ⟨I, hI⟩ : ∃ I : Nat → St → Prop, ∀ k s, I k s ↔ ascOk (knownN t.nodes) 0 4611686018427387904 none l = ascOk (knownN t.nodes) 0 4611686018427387904 (prevG l k) (l.drop k) ∧ s.pe 1 = .p (chsP l) ∧ s.pe 2 = .ptr (.slot 2 0) 0 0 ∧ s.pe 12 = .p (chsP l) ∧ s.pe 13 = .p (.int .i64 l.length) ∧ s.pe 14 = .p (.int .i64 k) ∧ s.h (.slot 2 0) = some (0, .box [.p (nodesP t.nodes), .p (.int .i64 t.next)]) := ⟨_, fun _ _ => Iff.rfl⟩
  refine wp_count (l.length) I ?_ ?_
  ·refine (hI _ _).2 ⟨?_, ?_, ?_, ?_, ?_, ?_, ?_⟩
   ·exact cl3
   all_goals exact cl0
  intro k s hk hIk
  obtain ⟨hq, h1, h2, h12, h13, h14, hh2_0⟩ := (hI _ _).1 hIk
  clear hIk
  simp -implicitDefEqProofs (disch:=omega) only [h1,h2,h12,h13,h14,hh2_0,go_sem,↓reduceIte,reduceAdd,reduceSub,reduceEqDiff,reduceLeDiff,reduceCtorEq]
  refine wp_if_d (fun hlt => ?_) (fun hge => ?_)
  ·have hm : l[k]? = some l[k] := List.getElem?_eq_getElem hlt
   generalize l[k] = c at hm
   have hg := asc_good hq hm
   have hb' := asc_bad hq hm
   have hfi := ffind_eq t c.group hn
   have hkn : knownN t.nodes c.group = (findN t.nodes c.group).isSome := rfl
   generalize (findN t.nodes c.group).getD zeroNd = nd at hfi
   generalize (findN t.nodes c.group).isSome = kn at hfi hkn
   by_cases hk0 : (0 : Int) < k
   ·obtain ⟨e, he, he'⟩ := prev_at hm hk0
    have hk1 : (0 : Int) ≤ (k : Int) - 1 := by omega
    rw [ascAt_succ hk0 he, hkn] at hg hb'
    simp -implicitDefEqProofs (disch:=omega) only [h1,h2,h12,h13,h14,hh2_0,hlt,hm,hfi,Nd.vv,hk0,hk1,he',go_sem,↓reduceIte,reduceAdd,reduceSub,reduceEqDiff,reduceLeDiff,reduceCtorEq]
    repeat' ((first | refine wp_grn_d (fun hb => ?_) (fun hb => ?_) | refine wp_gtn_d (fun hb => ?_) (fun hb => ?_) | refine wp_gr_d (fun hb => ?_) (fun hb => ?_) | refine wp_gt_d (fun hb => ?_) (fun hb => ?_) | refine wp_gr (fun hb => ?_) (fun hb => ?_) | refine wp_gt (fun hb => ?_) (fun hb => ?_) | refine wp_nt_d (fun hb => ?_) (fun hb => ?_) | refine wp_nt (fun hb => ?_) (fun hb => ?_) | refine wp_if_d (fun hb => ?_) (fun hb => ?_) | refine wp_if (fun hb => ?_) (fun hb => ?_)) <;> simp -implicitDefEqProofs (disch:=omega) only [hb,h1,h2,h12,h13,h14,hh2_0,hlt,hm,hfi,Nd.vv,hk0,hk1,he',go_sem,↓reduceIte,reduceAdd,reduceSub,reduceEqDiff,reduceLeDiff,reduceCtorEq])
    all_goals first
     | (rw [hb' (by first | (rintro ⟨h1, h2, h3, h4⟩; omega) | simp_all)]; done)
     | skip
    try refine And.intro (by omega) ?_
    refine (hI _ _).2 ⟨?_, ?_, ?_, ?_, ?_, ?_, ?_⟩
    ·exact hg ⟨by first | assumption | (cases kn <;> simp_all), by omega, by omega, by omega⟩
    all_goals exact cl0
   ·rw [ascAt_zero hk0, hkn] at hg hb'
    simp -implicitDefEqProofs (disch:=omega) only [h1,h2,h12,h13,h14,hh2_0,hlt,hm,hfi,Nd.vv,hk0,go_sem,↓reduceIte,reduceAdd,reduceSub,reduceEqDiff,reduceLeDiff,reduceCtorEq]
    repeat' ((first | refine wp_grn_d (fun hb => ?_) (fun hb => ?_) | refine wp_gtn_d (fun hb => ?_) (fun hb => ?_) | refine wp_gr_d (fun hb => ?_) (fun hb => ?_) | refine wp_gt_d (fun hb => ?_) (fun hb => ?_) | refine wp_gr (fun hb => ?_) (fun hb => ?_) | refine wp_gt (fun hb => ?_) (fun hb => ?_) | refine wp_nt_d (fun hb => ?_) (fun hb => ?_) | refine wp_nt (fun hb => ?_) (fun hb => ?_) | refine wp_if_d (fun hb => ?_) (fun hb => ?_) | refine wp_if (fun hb => ?_) (fun hb => ?_)) <;> simp -implicitDefEqProofs (disch:=omega) only [hb,h1,h2,h12,h13,h14,hh2_0,hlt,hm,hfi,Nd.vv,hk0,go_sem,↓reduceIte,reduceAdd,reduceSub,reduceEqDiff,reduceLeDiff,reduceCtorEq])
    all_goals first
     | (rw [hb' (by first | (rintro ⟨h1, h2, h3⟩; omega) | simp_all)]; done)
     | skip
    try refine And.intro (by omega) ?_
    refine (hI _ _).2 ⟨?_, ?_, ?_, ?_, ?_, ?_, ?_⟩
    ·exact hg ⟨by first | assumption | (cases kn <;> simp_all), by omega, by omega⟩
    all_goals exact cl0
  ·have hT := asc_end hq (by omega)
   simp -implicitDefEqProofs (disch:=omega) only [h1,h2,h12,h13,h14,hh2_0,hge,hT,go_sem,↓reduceIte,reduceAdd,reduceSub,reduceEqDiff,reduceLeDiff,reduceCtorEq]
def lookC : List Ch → Int → Option Int
 | [], _ => none
 | c :: l, id => if c.group = id then some c.own else lookC l id
theorem lookC_snoc (c : Ch) (x : Int) : ∀ (a : List Ch), (∀ d ∈ a, d.group ≠ c.group) → lookC (a ++ [c]) x = if x = c.group then some c.own else lookC a x
 | [], _ => by simp only [List.nil_append, lookC, eq_comm]
 | d :: a, h => by
  have ih := lookC_snoc c x a (fun e he => h e (List.mem_cons_of_mem _ he))
  have hd := h d (List.mem_cons_self ..)
  simp only [List.cons_append, lookC, ih]
  by_cases h1 : d.group = x
  ·have h2 : ¬ x = c.group := by omega
   simp [h1, h2]
  ·simp [h1]
theorem lookC_mem {l : List Ch} {x m : Int} (h : lookC l x = some m) : ∃ c ∈ l, c.group = x ∧ c.own = m := by
 induction l with
 | nil => cases h
 | cons c l ih =>
  unfold lookC at h
  split at h
  ·rename_i hg
   cases h
   exact ⟨c, List.mem_cons_self .., hg, rfl⟩
  ·obtain ⟨d, hd, h1⟩ := ih h
   exact ⟨d, List.mem_cons_of_mem _ hd, h1⟩
def Rep2 (ks : List MKey) (vs : List PV) (f : Int → Option Int) : Prop := ∀ id, mget ks vs (.int id) = (f id).map (.int .i64)
theorem Rep2.put {ks : List MKey} {vs : List PV} {f : Int → Option Int} (h : Rep2 ks vs f) (g v : Int) : Rep2 (mput ks vs (.int g) (.int .i64 v)).1 (mput ks vs (.int g) (.int .i64 v)).2 (fun x => if x = g then some v else f x) := by
 intro id
 rw [mget_mput]
 by_cases hg : id = g
 ·subst hg
  simp
 ·simp [hg]
  exact h id
theorem findT_ok {t : Tr} (h : treeOk t = true) (id : Int) : findT t id = findN t.nodes id := by simp [findT, h]
theorem nodup_groups {l : List Ch} (h : l.Pairwise fun a b => a.group < b.group) : (l.map (·.group)).Nodup := by
 rw [List.Nodup, List.pairwise_map]
 exact h.imp fun hab => by omega
theorem subT_len {t : Tr} (h : TreeOk t) (id : Int) : (subT t id).length ≤ t.nodes.length := by
 unfold subT
 split
 ·rename_i hs
  rw [findT_ok ((treeOk_iff t).2 h)] at hs
  obtain ⟨n, hn, rfl⟩ := findN_some hs
  obtain ⟨i, hi⟩ := List.getElem?_of_mem hn
  exact subF_length h hi (by omega)
 ·exact Nat.zero_le _
set_option maxHeartbeats 1000000 in
theorem rsum_eq {t : Tr} (h : TreeOk t) {l : List Ch} (hl : ChOk t.nodes l) (hll : l.length < 1000000) {i : Nat} {n : Nd} (hi : t.nodes[i]? = some n) : V 46 [t.vv, ctrV l, .p (.int .i64 n.id)] [] = some (.p (.int .i64 (tot t (ownC l) n.id)), []) := by
 refine V_wp (vf := vf46) rfl ?_
 have hlen := h.len
 have hs := rsub_eq (t := t) n.id (by omega)
 have hsl := subT_len h n.id
 have hst : subT t n.id = subF t.nodes t.nodes.length n.id := by
  rw [subT, findT_ok ((treeOk_iff t).2 h), findN_unique h.inc hi]; rfl
 have htot : tot t (ownC l) n.id = sumI ((subT t n.id).map (ownC l)) := by rw [hst]; rfl
 have hle := tot_le h hl hi
 have hall := hl.all
 rw [htot] at hle ⊢
 generalize subT t n.id = A at hs hsl hle
 simp -implicitDefEqProofs (disch:=omega) only [vf46,vb46,hs,go_sem,↓reduceIte,reduceAdd,reduceSub,reduceEqDiff,reduceLeDiff,reduceCtorEq]
 obtain ⟨I, hI⟩ : ∃ I : Nat → St → Prop, ∀ k s, I k s ↔ s.pe 4 = .ptr (.slot 4 0) 0 0 ∧ s.pe 7 = .p (.int .i64 (sumI ((A.take k).map (ownC l)))) ∧ s.pe 8 = .own (.slot 12 1) 0 0 A.length ∧ s.pe 9 = .p (.int .i64 k) ∧ s.h (.slot 4 0) = some (0, Ob.box [.p (chsP l)]) ∧ s.h (.slot 12 1) = some (0, Ob.arr 1 (List.map (.int .i64) A)) := ⟨_, fun _ _ => Iff.rfl⟩
 refine wp_count (A.length) I ?_ ?_
 ·refine (hI _ _).2 ⟨?_, ?_, ?_, ?_, ?_, ?_⟩
  all_goals exact cl0
 intro k s hk hIk
 obtain ⟨h4, h7, h8, h9, hh4_0, hh12_1⟩ := (hI _ _).1 hIk
 clear hIk
 simp -implicitDefEqProofs (disch:=omega) only [h4,h7,h8,h9,hh4_0,hh12_1,go_sem,↓reduceIte,reduceAdd,reduceSub,reduceEqDiff,reduceLeDiff,reduceCtorEq]
 refine wp_if_d (fun hlt => ?_) (fun hge => ?_)
 ·have hm : A[k]? = some A[k] := List.getElem?_eq_getElem hlt
  generalize A[k] = g at hm
  have hst := sumI_take_succ (f := ownC l) hm
  have ho := rown_eq l g hll
  have o0 := ownC_nonneg hl.pos g
  have p0 := sumI_map_nonneg (A.take k) (f := ownC l) fun x _ => ownC_nonneg hl.pos x
  have p1 := sumI_take_le A (k + 1) (f := ownC l) fun x _ => ownC_nonneg hl.pos x
  rw [hst] at p1
  generalize sumI ((A.take k).map (ownC l)) = S at h7 hst p0 p1
  generalize ownC l g = o at ho o0 hst p1
  simp -implicitDefEqProofs (disch:=omega) only [h4,h7,h8,h9,hh4_0,hh12_1,hlt,hm,ho,go_sem,↓reduceIte,reduceAdd,reduceSub,reduceEqDiff,reduceLeDiff,reduceCtorEq]
  try refine And.intro (by omega) ?_
  refine (hI _ _).2 ⟨?_, ?_, ?_, ?_, ?_, ?_⟩
  all_goals exact cl0
 ·rw [List.take_of_length_le (by omega)] at h7
  simp -implicitDefEqProofs (disch:=omega) only [h4,h7,h8,h9,hh4_0,hh12_1,hge,go_sem,↓reduceIte,reduceAdd,reduceSub,reduceEqDiff,reduceLeDiff,reduceCtorEq]
structure Hg where
 group : Int
 file : Int
 anon : Int
 swap : Int
 deriving DecidableEq
def Hg.pv (h : Hg) : PV := .agg [.int .i64 h.group, .int .i64 h.file, .int .i64 h.anon, .int .i64 h.swap]
abbrev Hg.vv (h : Hg) : VVal := .agg [.p (.int .i64 h.group), .p (.int .i64 h.file), .p (.int .i64 h.anon), .p (.int .i64 h.swap)]
abbrev hgsP (l : List Hg) : PV := .slice 4 (l.map Hg.pv)
attribute [go_sem] Hg.pv
theorem hgs_flat (l : List Hg) : (l.map Hg.pv).all PV.flat = true := by
 rw [List.all_eq_true]
 intro x hx
 obtain ⟨n, _, rfl⟩ := List.mem_map.1 hx
 rfl
attribute [go_sem] hgs_flat
structure Stk where
 hs : List Hg
 size : Int
abbrev Stk.vv (s : Stk) : VVal := .agg [.p (hgsP s.hs), .p (.int .i64 s.size)]
abbrev Stk.fv (s : Stk) : VVal := .agg [.fresh 4 (s.hs.map Hg.pv), .p (.int .i64 s.size)]
abbrev noH (id : Int) : Hg := ⟨id, 0, 0, 0⟩
def getS : List Hg → Int → Hg
 | [], id => noH id
 | h :: l, id => if h.group = id then h else getS l id
theorem getS_group : ∀ (l : List Hg) (id : Int), (getS l id).group = id
 | [], _ => rfl
 | h :: l, id => by
  unfold getS
  split
  ·assumption
  ·exact getS_group l id
theorem getS_none {l : List Hg} {id : Int} (h : ∀ x ∈ l, x.group ≠ id) : getS l id = noH id := by
 induction l with
 | nil => rfl
 | cons x l ih =>
  unfold getS
  rw [if_neg (h x (by simp))]
  exact ih fun y hy => h y (by simp [hy])
theorem getS_mem {l : List Hg} {id : Int} : getS l id = noH id ∨ getS l id ∈ l := by
 induction l with
 | nil => exact Or.inl rfl
 | cons x l ih =>
  unfold getS
  split
  ·exact Or.inr (by simp)
  ·rcases ih with h | h
   ·exact Or.inl h
   ·exact Or.inr (by simp [h])
def zeroH (h : Hg) : Bool := decide (h.file = 0) && decide (h.anon = 0) && decide (h.swap = 0)
theorem zeroH_iff {h : Hg} : zeroH h = true ↔ h = noH h.group := by
 obtain ⟨g, a, b, c⟩ := h
 simp only [zeroH, Bool.and_eq_true, decide_eq_true_eq, noH, Hg.mk.injEq, true_and, and_assoc]
def putGo (h : Hg) : Bool → List Hg → List Hg
 | d, [] => if d then [] else [h]
 | d, x :: l => (if !d && decide (h.group ≤ x.group) then [h] else []) ++ (if x.group = h.group then [] else [x]) ++ putGo h (d || decide (h.group ≤ x.group)) l
def putS (l : List Hg) (h : Hg) : List Hg := putGo h (zeroH h) l
theorem putGo_get (h : Hg) (x : Int) : ∀ (l : List Hg) (d : Bool), getS (putGo h d l) x = if x = h.group then (if d then noH x else h) else getS l x
 | [], d => by
  cases d
  ·by_cases hx : h.group = x
   ·simp [putGo, getS, hx]
   ·have hx' : ¬ x = h.group := fun e => hx e.symm
    simp [putGo, getS, hx, hx']
  ·by_cases hx : x = h.group <;> simp [putGo, getS, hx]
 | c :: l, d => by
  have ih := putGo_get h x l
  unfold putGo
  cases d
  ·by_cases h1 : h.group ≤ c.group
   ·by_cases h2 : c.group = h.group
    ·by_cases h3 : x = h.group
     ·simp [h2, h3, getS]
     ·have h3' : ¬ h.group = x := fun e => h3 e.symm
      simp [h2, h3, h3', getS, ih]
    ·by_cases h3 : x = h.group
     ·simp [h1, h2, h3, getS]
     ·have h3' : ¬ h.group = x := fun e => h3 e.symm
      simp [h1, h2, h3, h3', getS, ih]
   ·have h2 : ¬ c.group = h.group := by omega
    by_cases h3 : x = h.group
    ·subst h3
     simp [h1, h2, getS, ih]
    ·simp [h1, h2, h3, getS, ih]
  ·by_cases h2 : c.group = h.group
   ·by_cases h3 : x = h.group
    ·subst h3
     simp [h2, getS, ih]
    ·have h3' : ¬ h.group = x := fun e => h3 e.symm
     simp [h2, h3, h3', getS, ih]
   ·by_cases h3 : x = h.group
    ·subst h3
     simp [h2, getS, ih]
    ·simp [h2, h3, getS, ih]
theorem putS_get (l : List Hg) (h : Hg) (x : Int) : getS (putS l h) x = if x = h.group then h else getS l x := by
 unfold putS
 rw [putGo_get]
 by_cases hx : x = h.group
 ·rw [if_pos hx, if_pos hx]
  by_cases hz : zeroH h = true
  ·rw [if_pos hz, hx]
   exact (zeroH_iff.1 hz).symm
  ·rw [if_neg hz]
 ·rw [if_neg hx, if_neg hx]
theorem putGo_mem (h : Hg) : ∀ (l : List Hg) (d : Bool), ∀ c ∈ putGo h d l, (d = false ∧ c = h) ∨ (c ∈ l ∧ c.group ≠ h.group)
 | [], d, c, hc => by
  cases d
  ·simp [putGo] at hc; exact Or.inl ⟨rfl, hc⟩
  ·simp [putGo] at hc
 | e :: l, d, c, hc => by
  unfold putGo at hc
  simp only [List.mem_append] at hc
  rcases hc with (hc | hc) | hc
  ·split at hc
   ·rename_i h
    simp only [Bool.and_eq_true, Bool.not_eq_true'] at h
    exact Or.inl ⟨h.1, by simpa using hc⟩
   ·simp at hc
  ·split at hc
   ·simp at hc
   ·rename_i h
    simp at hc
    subst hc
    exact Or.inr ⟨List.mem_cons_self .., h⟩
  ·rcases putGo_mem h l _ c hc with ⟨h1, h2⟩ | ⟨h1, h2⟩
   ·simp only [Bool.or_eq_false_iff] at h1
    exact Or.inl ⟨h1.1, h2⟩
   ·exact Or.inr ⟨List.mem_cons_of_mem _ h1, h2⟩
theorem putS_mem {l : List Hg} {h c : Hg} (hc : c ∈ putS l h) : (zeroH h = false ∧ c = h) ∨ (c ∈ l ∧ c.group ≠ h.group) := putGo_mem h l _ c hc
theorem putGo_inc (h : Hg) : ∀ (l : List Hg) (d : Bool), (l.Pairwise fun a b => a.group < b.group) → (putGo h d l).Pairwise fun a b => a.group < b.group
 | [], d, _ => by cases d <;> simp [putGo]
 | e :: l, d, hi => by
  obtain ⟨h0, h1⟩ := List.pairwise_cons.1 hi
  have ih := fun d => putGo_inc h l d h1
  have hm := putGo_mem h l
  unfold putGo
  by_cases hge : h.group ≤ e.group
  ·have hT : (putGo h true l).Pairwise fun a b => a.group < b.group := ih true
   have hbig : ∀ c ∈ putGo h true l, e.group < c.group := fun c hc => by
    rcases hm true c hc with ⟨hh, _⟩ | ⟨hh, _⟩
    ·simp at hh
    ·exact h0 c hh
   cases d
   ·by_cases he : e.group = h.group
    ·simp only [hge, decide_true, Bool.not_false, Bool.and_self, if_true, he, Int.le_refl, decide_true, List.append_nil, Bool.or_true, List.singleton_append, List.pairwise_cons]
     exact ⟨fun c hc => by have := hbig c hc; omega, hT⟩
    ·simp only [hge, decide_true, Bool.not_false, Bool.and_self, if_true, he, if_false, Bool.or_true, List.singleton_append, List.cons_append, List.nil_append, List.pairwise_cons, List.mem_cons, forall_eq_or_imp]
     exact ⟨⟨by omega, fun c hc => by have := hbig c hc; omega⟩, hbig, hT⟩
   ·by_cases he : e.group = h.group
    ·simp only [he, Bool.not_true, Bool.false_and, Bool.false_eq_true, if_false, if_true, List.append_nil, List.nil_append, Bool.true_or]
     exact hT
    ·simp only [he, Bool.not_true, Bool.false_and, Bool.false_eq_true, if_false, List.nil_append, Bool.true_or, List.singleton_append, List.pairwise_cons]
     exact ⟨hbig, hT⟩
  ·have he : ¬ e.group = h.group := by omega
   simp only [hge, decide_false, Bool.and_false, Bool.false_eq_true, if_false, he, List.nil_append, Bool.or_false, List.singleton_append, List.pairwise_cons]
   refine ⟨fun c hc => ?_, ih d⟩
   rcases hm d c hc with ⟨_, hh⟩ | ⟨hh, _⟩
   ·subst hh
    omega
   ·exact h0 c hh
theorem putGo_sum {f : Hg → Int} (hf : ∀ id, f (noH id) = 0) (h : Hg) : ∀ (l : List Hg) (d : Bool), (l.Pairwise fun a b => a.group < b.group) → sumI ((putGo h d l).map f) = sumI (l.map f) - f (getS l h.group) + if d then 0 else f h
 | [], d, _ => by cases d <;> simp [putGo, sumI, getS, hf]
 | e :: l, d, hi => by
  obtain ⟨h0, h1⟩ := List.pairwise_cons.1 hi
  have ih := fun d => putGo_sum hf h l d h1
  unfold putGo getS
  by_cases he : e.group = h.group
  ·have hz : f (getS l h.group) = 0 := by rw [getS_none (fun c hc => by have := h0 c hc; omega), hf]
   cases d <;> simp [he, sumI, ih, hz] <;> omega
  ·by_cases hge : h.group ≤ e.group
   ·cases d <;> simp [he, hge, sumI, ih] <;> omega
   ·cases d <;> simp [he, hge, sumI, ih] <;> omega
theorem putS_sum {f : Hg → Int} (hf : ∀ id, f (noH id) = 0) {l : List Hg} (hi : l.Pairwise fun a b => a.group < b.group) (h : Hg) : sumI ((putS l h).map f) = sumI (l.map f) - f (getS l h.group) + f h := by
 unfold putS
 rw [putGo_sum hf h l _ hi]
 by_cases hz : zeroH h = true
 ·have : f h = 0 := by rw [zeroH_iff.1 hz]; exact hf _
  simp [hz, this]
 ·simp [hz]
def inPg (n : Int) : Prop := 0 ≤ n ∧ n ≤ 16777216
structure HgOk (ns : List Nd) (size : Int) (l : List Hg) : Prop where
 known : ∀ h ∈ l, (findN ns h.group).isSome = true
 inc : l.Pairwise fun a b => a.group < b.group
 file : ∀ h ∈ l, inPg h.file
 anon : ∀ h ∈ l, inPg h.anon
 swap : ∀ h ∈ l, inPg h.swap
 some : ∀ h ∈ l, h.file + h.anon + h.swap ≠ 0
 mem : sumI (l.map fun h => h.file + h.anon) ≤ 16777216
 out : sumI (l.map (·.swap)) ≤ size
def hgOk (ns : List Nd) (z : Int) : Option Int → Int → Int → List Hg → Bool
 | _, _, _, [] => true
 | p, m, s, h :: l => (findN ns h.group).isSome && prevOk p h.group && (decide (0 ≤ h.file) && decide (h.file ≤ 16777216)) && (decide (0 ≤ h.anon) && decide (h.anon ≤ 16777216)) && (decide (0 ≤ h.swap) && decide (h.swap ≤ 16777216)) && decide (h.file + h.anon + h.swap ≠ 0) && decide (m + (h.file + h.anon) ≤ 16777216) && decide (s + h.swap ≤ z) && hgOk ns z (some h.group) (m + (h.file + h.anon)) (s + h.swap) l
theorem hgOk_cons (ns : List Nd) (z : Int) (p : Option Int) (m s : Int) (h : Hg) (l : List Hg) : hgOk ns z p m s (h :: l) = ((findN ns h.group).isSome && prevOk p h.group && (decide (0 ≤ h.file) && decide (h.file ≤ 16777216)) && (decide (0 ≤ h.anon) && decide (h.anon ≤ 16777216)) && (decide (0 ≤ h.swap) && decide (h.swap ≤ 16777216)) && decide (h.file + h.anon + h.swap ≠ 0) && decide (m + (h.file + h.anon) ≤ 16777216) && decide (s + h.swap ≤ z) && hgOk ns z (some h.group) (m + (h.file + h.anon)) (s + h.swap) l) := by simp only [hgOk]
theorem hgOk_iff' (ns : List Nd) (z : Int) : ∀ (l : List Hg) (p : Option Int) (m s : Int), m ≤ 16777216 → s ≤ z → (hgOk ns z p m s l = true ↔
  (∀ h ∈ l, (findN ns h.group).isSome = true) ∧ (l.Pairwise fun a b => a.group < b.group) ∧ (∀ q, p = some q → ∀ h ∈ l, q < h.group) ∧ (∀ h ∈ l, inPg h.file) ∧ (∀ h ∈ l, inPg h.anon) ∧ (∀ h ∈ l, inPg h.swap) ∧ (∀ h ∈ l, h.file + h.anon + h.swap ≠ 0) ∧ m + sumI (l.map fun h => h.file + h.anon) ≤ 16777216 ∧ s + sumI (l.map (·.swap)) ≤ z)
 | [], p, m, s, hm, hs => by simp [hgOk, sumI]; omega
 | h :: l, p, m, s, hm, hs => by
  have hp : prevOk p h.group = true ↔ ∀ q, p = some q → q < h.group := by
   cases p <;> simp [prevOk]
  simp only [hgOk, Bool.and_eq_true, decide_eq_true_eq, hp, List.mem_cons, forall_eq_or_imp, List.pairwise_cons, List.map_cons, sumI]
  constructor
  ·rintro ⟨⟨⟨⟨⟨⟨⟨⟨h1, h2⟩, h3⟩, h4⟩, h5⟩, h6⟩, h7⟩, h8⟩, h9⟩
   obtain ⟨a1, a2, a3, a4, a5, a6, a7, a8, a9⟩ := (hgOk_iff' ns z l (some h.group) _ _ h7 h8).1 h9
   refine ⟨⟨h1, a1⟩, ⟨a3 _ rfl, a2⟩, fun q hq => ⟨h2 q hq, fun d hd => ?_⟩, ⟨h3, a4⟩, ⟨h4, a5⟩, ⟨h5, a6⟩, ⟨h6, a7⟩, by omega, by omega⟩
   have := h2 q hq
   have := a3 _ rfl d hd
   omega
  ·rintro ⟨⟨h1, a1⟩, ⟨a3, a2⟩, h2, ⟨h3, a4⟩, ⟨h4, a5⟩, ⟨h5, a6⟩, ⟨h6, a7⟩, a8, a9⟩
   have hn := sumI_map_nonneg l (f := fun h : Hg => h.file + h.anon) (fun x hx => by have := (a4 x hx).1; have := (a5 x hx).1; omega)
   have hn2 := sumI_map_nonneg l (f := fun h : Hg => h.swap) (fun x hx => (a6 x hx).1)
   refine ⟨⟨⟨⟨⟨⟨⟨⟨h1, fun q hq => (h2 q hq).1⟩, h3⟩, h4⟩, h5⟩, h6⟩, by omega⟩, by omega⟩, (hgOk_iff' ns z l (some h.group) _ _ (by omega) (by omega)).2 ⟨a1, a2, fun q hq => ?_, a4, a5, a6, a7, by omega, by omega⟩⟩
   cases hq
   exact a3
def validS (t : Tr) (s : Stk) : Bool := treeOk t && (decide (0 ≤ s.size) && decide (s.size ≤ 16777216)) && hgOk t.nodes s.size none 0 0 s.hs
structure StkOk (t : Tr) (s : Stk) : Prop where
 tree : TreeOk t
 z0 : 0 ≤ s.size
 z1 : s.size ≤ 16777216
 hs : HgOk t.nodes s.size s.hs
theorem validS_iff (t : Tr) (s : Stk) : validS t s = true ↔ StkOk t s := by
 simp only [validS, Bool.and_eq_true, decide_eq_true_eq, treeOk_iff]
 constructor
 ·rintro ⟨⟨h1, h2, h3⟩, h4⟩
  obtain ⟨a1, a2, _, a4, a5, a6, a7, a8, a9⟩ := (hgOk_iff' t.nodes s.size s.hs none 0 0 (by omega) h2).1 h4
  exact ⟨h1, h2, h3, ⟨a1, a2, a4, a5, a6, a7, by omega, by omega⟩⟩
 ·rintro ⟨h1, h2, h3, h4⟩
  exact ⟨⟨h1, h2, h3⟩, (hgOk_iff' t.nodes s.size s.hs none 0 0 (by omega) h2).2 ⟨h4.known, h4.inc, fun q hq => by simp at hq, h4.file, h4.anon, h4.swap, h4.some, by have := h4.mem; omega, by have := h4.out; omega⟩⟩
theorem HgOk.get {ns : List Nd} {z : Int} {l : List Hg} (h : HgOk ns z l) (id : Int) : inPg (getS l id).file ∧ inPg (getS l id).anon ∧ inPg (getS l id).swap := by
 rcases getS_mem (l := l) (id := id) with he | he
 ·rw [he]
  simp [inPg]
 ·exact ⟨h.file _ he, h.anon _ he, h.swap _ he⟩
theorem HgOk.put {ns : List Nd} {z : Int} {l : List Hg} (h : HgOk ns z l) {x : Hg} (hk : (findN ns x.group).isSome = true) (h1 : inPg x.file) (h2 : inPg x.anon) (h3 : inPg x.swap) (hm : sumI (l.map fun h => h.file + h.anon) - ((getS l x.group).file + (getS l x.group).anon) + (x.file + x.anon) ≤ 16777216) (hs : sumI (l.map (·.swap)) - (getS l x.group).swap + x.swap ≤ z) : HgOk ns z (putS l x) := by
 have hmem := fun c (hc : c ∈ putS l x) => putS_mem hc
 refine ⟨fun c hc => ?_, putGo_inc _ _ _ h.inc, fun c hc => ?_, fun c hc => ?_, fun c hc => ?_, fun c hc => ?_, ?_, ?_⟩
 ·rcases hmem c hc with ⟨_, rfl⟩ | ⟨hh, _⟩
  ·exact hk
  ·exact h.known c hh
 ·rcases hmem c hc with ⟨_, rfl⟩ | ⟨hh, _⟩
  ·exact h1
  ·exact h.file c hh
 ·rcases hmem c hc with ⟨_, rfl⟩ | ⟨hh, _⟩
  ·exact h2
  ·exact h.anon c hh
 ·rcases hmem c hc with ⟨_, rfl⟩ | ⟨hh, _⟩
  ·exact h3
  ·exact h.swap c hh
 ·rcases hmem c hc with ⟨hz, rfl⟩ | ⟨hh, _⟩
  ·intro h0
   have := h1.1
   have := h2.1
   have := h3.1
   have : zeroH c = true := by simp only [zeroH, Bool.and_eq_true, decide_eq_true_eq]; omega
   rw [this] at hz
   cases hz
  ·exact h.some c hh
 ·rw [putS_sum (f := fun h => h.file + h.anon) (fun _ => rfl) h.inc]
  exact hm
 ·rw [putS_sum (f := fun h => h.swap) (fun _ => rfl) h.inc]
  exact hs
structure Pt where
 group : Int
 usage : Int
 protect : Int
 own : Int
 room : Int
 deriving DecidableEq
def Pt.pv (c : Pt) : PV := .agg [.int .i64 c.group, .int .i64 c.usage, .int .i64 c.protect, .int .i64 c.own, .int .i64 c.room]
abbrev Pt.vv (c : Pt) : VVal := .agg [.p (.int .i64 c.group), .p (.int .i64 c.usage), .p (.int .i64 c.protect), .p (.int .i64 c.own), .p (.int .i64 c.room)]
abbrev ptsP (l : List Pt) : PV := .slice 5 (l.map Pt.pv)
attribute [go_sem] Pt.pv
theorem pts_flat (l : List Pt) : (l.map Pt.pv).all PV.flat = true := by
 rw [List.all_eq_true]
 intro x hx
 obtain ⟨n, _, rfl⟩ := List.mem_map.1 hx
 rfl
attribute [go_sem] pts_flat
def InN (ns : List Nd) (x : Int) : Prop := ∃ (i : Nat) (n : Nd), ns[i]? = some n ∧ n.id = x
theorem subF_step {t : Tr} (h : TreeOk t) {x : Int} (hx : InN t.nodes x) : subF t.nodes t.nodes.length x = x :: (kidsN t.nodes x).flatMap (subF t.nodes t.nodes.length) := by
 obtain ⟨i, n, hn, rfl⟩ := hx
 have hi := (List.getElem?_eq_some_iff.1 hn).1
 obtain ⟨N, hN⟩ : ∃ N, t.nodes.length = N + 1 := ⟨t.nodes.length - 1, by omega⟩
 have e1 : subF t.nodes t.nodes.length n.id = subF t.nodes (N + 1) n.id := by rw [hN]
 rw [e1, subF]
 congr 1
 refine flatMap_congr_mem fun y hy => ?_
 obtain ⟨j, m, hm, hp, rfl⟩ := mem_kidsN.1 hy
 have := h.kid hn hm hp
 exact subF_fuel h _ _ j m hm (by omega) (by omega)
theorem subF_mem {t : Tr} (h : TreeOk t) {x : Int} (hx : InN t.nodes x) : subF t.nodes t.nodes.length x ≠ [] := by
 rw [subF_step h hx]
 simp
theorem flat_len {t : Tr} (h : TreeOk t) : ∀ (l : List Int), (∀ x ∈ l, InN t.nodes x) → l.length ≤ (l.flatMap (subF t.nodes t.nodes.length)).length
 | [], _ => by simp
 | x :: l, hl => by
  have h1 := flat_len h l (fun y hy => hl y (by simp [hy]))
  have h2 := List.length_pos_iff.2 (subF_mem h (hl x (by simp)))
  rw [List.flatMap_cons, List.length_append, List.length_cons]
  omega
theorem kidsN_len (ns : List Nd) (x : Int) : (kidsN ns x).length ≤ ns.length := by
 rw [kidsN, List.length_map]
 exact List.length_filter_le _ _
set_option maxHeartbeats 2000000 in
theorem fsub_eq {t : Tr} (id : Int) (h : TreeOk t) : V 109 [t.vv, .p (.int .i64 id)] [] = some (.fresh 1 ((subT t id).map (.int .i64)), []) := by
 refine V_wp (vf := vf109) rfl ?_
 have hlen := h.len
 have hat := at_eq t id (by omega)
 by_cases hneg : idxOf t.nodes id < 0
 ·have hfn := (idxOf_lt t.nodes id)
  have hemp : subT t id = [] := by
   rcases hfn with ⟨_, h2⟩ | ⟨k, _, h2, _⟩
   ·simp [subT, findT, h2]
   ·omega
  simp -implicitDefEqProofs (disch:=omega) only [vf109,vb109,hat,hneg,hemp,go_sem,↓reduceIte,reduceAdd,reduceSub,reduceEqDiff,reduceLeDiff,reduceCtorEq]
 ·have hin : InN t.nodes id := by
   obtain ⟨k, m, _, hkm, hfm, hme⟩ := (idxOf_lt t.nodes id).resolve_left (fun h => hneg h.1)
   exact ⟨k, m, hkm, hme⟩
  have hsub : subT t id = subF t.nodes t.nodes.length id := by
   obtain ⟨k, m, _, hkm, hfm, hme⟩ := (idxOf_lt t.nodes id).resolve_left (fun h => hneg h.1)
   simp [subT, findT, (treeOk_iff t).2 h, hfm]
  have hsl := subT_len h id
  rw [hsub] at hsl
  rw [hsub]
  simp -implicitDefEqProofs (disch:=omega) only [vf109,vb109,hat,hneg,go_sem,↓reduceIte,reduceAdd,reduceSub,reduceEqDiff,reduceLeDiff,reduceCtorEq]
  obtain ⟨I, hI⟩ : ∃ I : Nat → St → Prop, ∀ k s, I k s ↔ ∃ (out : List Int) (nx : List Int) (ww : Nat) (d : Nat) (e : Nat), out.length = k ∧ (∀ x ∈ nx, InN t.nodes x) ∧ out ++ nx.flatMap (subF t.nodes t.nodes.length) = subF t.nodes t.nodes.length id ∧ ((d = 12 ∧ e = 0) ∨ (d = 34 ∧ e = 1)) ∧ s.pe 2 = .ptr (.slot 2 0) 0 0 ∧ s.pe 5 = .own (.slot 5 0) ww 0 out.length ∧ (∃ v, s.pe 6 = .own (.slot d e) v 0 (nx.length) ∧ s.h (.slot d e) = some (v, Ob.arr 1 (nx.map (.int .i64)))) ∧ s.h (.slot 2 0) = some (0, Ob.box [.p (nodesP t.nodes), .p (.int .i64 t.next)]) ∧ s.h (.slot 5 0) = some (ww, Ob.arr 1 (out.map (.int .i64))) := ⟨_, fun _ _ => Iff.rfl⟩
  refine wp_count (t.nodes.length) I ?_ ?_
  ·refine (hI _ _).2 ⟨[], [id], 0, 12, 0, ?_, ?_, ?_, ?_, ?_, ?_, ?_, ?_, ?_⟩
   ·rfl
   ·exact by simpa using hin
   ·exact by simp
   ·exact Or.inl ⟨rfl, rfl⟩
   all_goals first | exact cl0 | (simp -implicitDefEqProofs (disch := omega) only [List.map_append, go_sem, ↓reduceIte, reduceAdd, reduceSub, reduceEqDiff, reduceLeDiff, reduceCtorEq] <;> (refine ⟨_, rfl, ?_⟩; first | rfl | (simp -implicitDefEqProofs (disch := omega) only [List.map_append, go_sem, ↓reduceIte, reduceAdd, reduceSub, reduceEqDiff, reduceLeDiff, reduceCtorEq]; done)))
  intro k s hk hIk
  obtain ⟨out, nx, ww, d, e, hol, hall, hall', hde, h2, h5, ⟨v6, h6, hhd_e⟩, hh2_0, hh5_0⟩ := (hI _ _).1 hIk
  clear hIk
  rcases hde with ⟨rfl, rfl⟩ | ⟨rfl, rfl⟩
  ·rcases nx with - | ⟨x, rest⟩
   ·rw [List.flatMap_nil, List.append_nil] at hall'
    simp -implicitDefEqProofs (disch:=omega) only [h2,h5,h6,hhd_e,hh2_0,hh5_0,zero_lt_zero,go_sem,↓reduceIte,reduceAdd,reduceSub,reduceEqDiff,reduceLeDiff,reduceCtorEq]
    rw [hall']
   have hpos : (0 : Int) < ((rest.length + 1 : Nat) : Int) := by omega
   by_cases hlt : out.length < t.nodes.length
   ·have hx := hall x (by simp)
    have hkids := fkids_eq t x (by omega)
    have hkl := kidsN_len t.nodes x
    have hrl : rest.length ≤ 64 := by
     have h1 := congrArg List.length hall'
     have h2 := flat_len h (x :: rest) hall
     rw [List.length_append] at h1
     rw [List.length_cons] at h2
     omega
    simp -implicitDefEqProofs (disch:=omega) only [h2,h5,h6,hhd_e,hh2_0,hh5_0,hlt,hkids,hpos,Int.toNat_zero,List.getElem?_cons_zero,Int.toNat_one,List.drop_succ_cons,List.drop_zero,List.length_map,Nat.add_sub_cancel,Nat.min_self,go_sem,↓reduceIte,reduceAdd,reduceSub,reduceEqDiff,reduceLeDiff,reduceCtorEq]
    have hnx : ∀ y ∈ kidsN t.nodes x ++ rest, InN t.nodes y := by
     intro y hy
     rcases List.mem_append.1 hy with hy | hy
     ·obtain ⟨j, m, hm, _, hme⟩ := mem_kidsN.1 hy
      exact ⟨j, m, hm, hme⟩
     ·exact hall y (by simp [hy])
    have hnx' : (out ++ [x]) ++ (kidsN t.nodes x ++ rest).flatMap (subF t.nodes t.nodes.length) = subF t.nodes t.nodes.length id := by
     rw [← hall', List.flatMap_cons, subF_step h hx, List.flatMap_append]
     simp
    try refine And.intro (by omega) ?_
    refine (hI _ _).2 ⟨out ++ [x], kidsN t.nodes x ++ rest, ww + 1, 34, 1, ?_, ?_, ?_, ?_, ?_, ?_, ?_, ?_, ?_⟩
    ·exact by simp [hol]
    ·exact hnx
    ·exact hnx'
    ·exact Or.inr ⟨rfl, rfl⟩
    all_goals first | exact cl0 | (simp -implicitDefEqProofs (disch := omega) only [h2, h5, h6, hhd_e, hh2_0, hh5_0, List.map_append, go_sem, ↓reduceIte, reduceAdd, reduceSub, reduceEqDiff, reduceLeDiff, reduceCtorEq] <;> (refine ⟨_, rfl, ?_⟩; first | rfl | (simp -implicitDefEqProofs (disch := omega) only [h2, h5, h6, hhd_e, hh2_0, hh5_0, List.map_append, go_sem, ↓reduceIte, reduceAdd, reduceSub, reduceEqDiff, reduceLeDiff, reduceCtorEq]; done)))
   ·have hz : (x :: rest).flatMap (subF t.nodes t.nodes.length) = [] := by
     have h1 := congrArg List.length hall'
     rw [List.length_append] at h1
     exact List.eq_nil_of_length_eq_zero (by omega)
    rw [hz, List.append_nil] at hall'
    simp -implicitDefEqProofs (disch:=omega) only [h2,h5,h6,hhd_e,hh2_0,hh5_0,hlt,hpos,go_sem,↓reduceIte,reduceAdd,reduceSub,reduceEqDiff,reduceLeDiff,reduceCtorEq]
    rw [hall']
  ·rcases nx with - | ⟨x, rest⟩
   ·rw [List.flatMap_nil, List.append_nil] at hall'
    simp -implicitDefEqProofs (disch:=omega) only [h2,h5,h6,hhd_e,hh2_0,hh5_0,zero_lt_zero,go_sem,↓reduceIte,reduceAdd,reduceSub,reduceEqDiff,reduceLeDiff,reduceCtorEq]
    rw [hall']
   have hpos : (0 : Int) < ((rest.length + 1 : Nat) : Int) := by omega
   by_cases hlt : out.length < t.nodes.length
   ·have hx := hall x (by simp)
    have hkids := fkids_eq t x (by omega)
    have hkl := kidsN_len t.nodes x
    have hrl : rest.length ≤ 64 := by
     have h1 := congrArg List.length hall'
     have h2 := flat_len h (x :: rest) hall
     rw [List.length_append] at h1
     rw [List.length_cons] at h2
     omega
    simp -implicitDefEqProofs (disch:=omega) only [h2,h5,h6,hhd_e,hh2_0,hh5_0,hlt,hkids,hpos,Int.toNat_zero,List.getElem?_cons_zero,Int.toNat_one,List.drop_succ_cons,List.drop_zero,List.length_map,Nat.add_sub_cancel,Nat.min_self,go_sem,↓reduceIte,reduceAdd,reduceSub,reduceEqDiff,reduceLeDiff,reduceCtorEq]
    have hnx : ∀ y ∈ kidsN t.nodes x ++ rest, InN t.nodes y := by
     intro y hy
     rcases List.mem_append.1 hy with hy | hy
     ·obtain ⟨j, m, hm, _, hme⟩ := mem_kidsN.1 hy
      exact ⟨j, m, hm, hme⟩
     ·exact hall y (by simp [hy])
    have hnx' : (out ++ [x]) ++ (kidsN t.nodes x ++ rest).flatMap (subF t.nodes t.nodes.length) = subF t.nodes t.nodes.length id := by
     rw [← hall', List.flatMap_cons, subF_step h hx, List.flatMap_append]
     simp
    try refine And.intro (by omega) ?_
    refine (hI _ _).2 ⟨out ++ [x], kidsN t.nodes x ++ rest, ww + 1, 34, 1, ?_, ?_, ?_, ?_, ?_, ?_, ?_, ?_, ?_⟩
    ·exact by simp [hol]
    ·exact hnx
    ·exact hnx'
    ·exact Or.inr ⟨rfl, rfl⟩
    all_goals first | exact cl0 | (simp -implicitDefEqProofs (disch := omega) only [h2, h5, h6, hhd_e, hh2_0, hh5_0, List.map_append, go_sem, ↓reduceIte, reduceAdd, reduceSub, reduceEqDiff, reduceLeDiff, reduceCtorEq] <;> (refine ⟨_, rfl, ?_⟩; first | rfl | (simp -implicitDefEqProofs (disch := omega) only [h2, h5, h6, hhd_e, hh2_0, hh5_0, List.map_append, go_sem, ↓reduceIte, reduceAdd, reduceSub, reduceEqDiff, reduceLeDiff, reduceCtorEq]; done)))
   ·have hz : (x :: rest).flatMap (subF t.nodes t.nodes.length) = [] := by
     have h1 := congrArg List.length hall'
     rw [List.length_append] at h1
     exact List.eq_nil_of_length_eq_zero (by omega)
    rw [hz, List.append_nil] at hall'
    simp -implicitDefEqProofs (disch:=omega) only [h2,h5,h6,hhd_e,hh2_0,hh5_0,hlt,hpos,go_sem,↓reduceIte,reduceAdd,reduceSub,reduceEqDiff,reduceLeDiff,reduceCtorEq]
    rw [hall']
def pagesB (n : Int) : Bool := decide (0 ≤ n) && decide (n ≤ 16777216)
theorem pages_eq (n : Int) : V 112 [.p (.int .i64 n)] [] = some (.p (.bool (pagesB n)), []) := by
 refine V_wp (vf := vf112) rfl ?_
 by_cases h0 : 0 ≤ n
 ·by_cases h1 : n ≤ 16777216
  ·simp -implicitDefEqProofs (disch:=omega) only [vf112,vb112,h0,h1,pagesB,decide_true,Bool.and_self,ge_iff_le,go_sem,↓reduceIte,reduceAdd,reduceSub,reduceEqDiff,reduceLeDiff,reduceCtorEq]
  ·simp -implicitDefEqProofs (disch:=omega) only [vf112,vb112,h0,h1,pagesB,decide_true,decide_false,Bool.and_false,ge_iff_le,go_sem,↓reduceIte,reduceAdd,reduceSub,reduceEqDiff,reduceLeDiff,reduceCtorEq]
 ·simp -implicitDefEqProofs (disch:=omega) only [vf112,vb112,h0,pagesB,decide_false,Bool.false_and,ge_iff_le,go_sem,↓reduceIte,reduceAdd,reduceSub,reduceEqDiff,reduceLeDiff,reduceCtorEq]
def msort (l : List Int) : List Int := l.mergeSort fun x y => decide (x ≤ y)
theorem mapO_unI : ∀ (l : List Int), mapO unI (l.map (.int .i64)) = some l
 | [] => rfl
 | x :: l => by
  have := mapO_unI l
  rw [List.map_cons]
  show ob (some x) (fun y => ob (mapO unI (List.map (PV.int .i64) l)) fun ys => some (y :: ys)) = _
  rw [this, ob_some, ob_some]
theorem sort_eq (l : List Int) (hl : l.length < 1000000) : V 110 [.own (.arg 0 0) 0 0 l.length] [.arr 1 (l.map (.int .i64))] = some (.tup [], [.arr 1 ((msort l).map (.int .i64))]) := by
 refine V_x ?_
 have h1 : l.length = (l.map (PV.int .i64)).length := by simp
 have h2 : l.length < 4611686018427387904 := by omega
 simp only [XS, if_pos, XI, gd, if_pos h1, if_pos h2, mapO_unI, ob_some, msort]
theorem msort_length (l : List Int) : (msort l).length = l.length := List.length_mergeSort l
def partOk (x : Pt) (g : Int) : Bool := decide (x.group = g) && pagesB x.usage && pagesB x.protect && pagesB x.own && (decide (0 ≤ x.room) && decide (x.room ≤ 4611686018427387904))
def partsOk : List Pt → List Int → Bool
 | [], [] => true
 | x :: l, g :: gs => partOk x g && partsOk l gs
 | _, _ => false
def validP (t : Tr) (l : List Pt) (root : Int) : Bool := treeOk t && (!(subT t root).isEmpty && partsOk l (msort (subT t root)))
theorem partsOk_length : ∀ (l : List Pt) (g : List Int), partsOk l g = true → l.length = g.length
 | [], [], _ => rfl
 | x :: l, y :: g, h => by
  simp only [partsOk, Bool.and_eq_true] at h
  simp [partsOk_length l g h.2]
 | [], _ :: _, h => by simp [partsOk] at h
 | _ :: _, [], h => by simp [partsOk] at h
set_option maxHeartbeats 2000000 in
theorem pvalid_parts (t : Tr) (l : List Pt) (root : Int) (hf : t.Fits) (hn : t.nodes.length < 1000000) (hl : l.length < 1000000) : V 111 [t.vv, .p (ptsP l), .p (.int .i64 root)] [] = some (.p (.bool (validP t l root)), []) := by
 refine V_wp (vf := vf111) rfl ?_
 have htc := tcheck_eq t hf hn
 unfold validP
 by_cases ht : treeOk t = true
 ·have hT := (treeOk_iff t).1 ht
  have hsub := fsub_eq root hT
  have hsl := subT_len hT root
  have hlen := hT.len
  generalize subT t root = S at hsub hsl
  have hsort := sort_eq S (by omega)
  have hml := msort_length S
  rw [ht] at htc ⊢
  generalize hG : msort S = G at hsort hml
  rw [Bool.true_and]
  rcases S with - | ⟨s0, S'⟩
  ·simp only [List.map_nil, List.length_nil] at hsub hsort hml
   have hGn : G = [] := List.eq_nil_of_length_eq_zero hml
   subst hGn
   have hz : ((0 : Nat) : Int) = 0 := rfl
   simp -implicitDefEqProofs (disch:=omega) only [vf111,vb111,htc,hsub,hsort,List.isEmpty_nil,Bool.not_true,Bool.false_and,hz,go_sem,↓reduceIte,reduceAdd,reduceSub,reduceEqDiff,reduceLeDiff,reduceCtorEq]
  ·have hne : (!(s0 :: S').isEmpty) = true := rfl
   rw [hne, Bool.true_and]
   generalize s0 :: S' = S at hsub hsl hsort hml hne
   have hnz : ¬ ((S.length : Nat) : Int) = 0 := by
    intro h
    have : S = [] := List.eq_nil_of_length_eq_zero (by omega)
    subst this
    simp at hne
   by_cases hlg : l.length = S.length
   ·simp -implicitDefEqProofs (disch:=omega) only [vf111,vb111,htc,hsub,hsort,hnz,hlg,go_sem,↓reduceIte,reduceAdd,reduceSub,reduceEqDiff,reduceLeDiff,reduceCtorEq]
    obtain ⟨I, hI⟩ : ∃ I : Nat → St → Prop, ∀ k s, I k s ↔ partsOk l G = partsOk (l.drop k) (G.drop k) ∧ s.pe 7 = .own (.slot 15 1) 0 0 S.length ∧ s.pe 28 = .p (ptsP l) ∧ s.pe 29 = .p (.int .i64 ↑S.length) ∧ s.pe 30 = .p (.int .i64 k) ∧ s.h (.slot 15 1) = some (0, Ob.arr 1 (List.map (.int .i64) G)) := ⟨_, fun _ _ => Iff.rfl⟩
    refine wp_count (S.length) I ?_ ?_
    ·refine (hI _ _).2 ⟨?_, ?_, ?_, ?_, ?_, ?_⟩
     ·rfl
     all_goals exact cl0
    intro k s hk hIk
    obtain ⟨hp, h7, h28, h29, h30, hh15_1⟩ := (hI _ _).1 hIk
    clear hIk
    simp -implicitDefEqProofs (disch:=omega) only [h7,h28,h29,h30,hh15_1,go_sem,↓reduceIte,reduceAdd,reduceSub,reduceEqDiff,reduceLeDiff,reduceCtorEq]
    refine wp_if_d (fun hlt => ?_) (fun hge => ?_)
    ·have hlt' : k < l.length := by omega
     have hm : l[k]? = some l[k] := List.getElem?_eq_getElem hlt'
     have hg : G[k]? = some G[k] := List.getElem?_eq_getElem (by omega)
     have hdr : l.drop k = l[k] :: l.drop (k + 1) := List.drop_eq_getElem_cons hlt'
     have hdg : G.drop k = G[k] :: G.drop (k + 1) := List.drop_eq_getElem_cons (by omega)
     generalize l[k] = x at hm hdr
     generalize G[k] = y at hg hdg
     rw [hdr, hdg, partsOk] at hp
     by_cases hc1 : x.group = y
     ·have hq1 := pages_eq x.usage
      by_cases hc2 : pagesB x.usage = true
      ·rw [hc2] at hq1
       have hq2 := pages_eq x.protect
       by_cases hc3 : pagesB x.protect = true
       ·rw [hc3] at hq2
        have hq3 := pages_eq x.own
        by_cases hc4 : pagesB x.own = true
        ·rw [hc4] at hq3
         by_cases hc5 : 0 ≤ x.room
         ·have hc5' : ¬ x.room < 0 := by omega
          by_cases hc6 : x.room ≤ 4611686018427387904
          ·have hc6' : ¬ 4611686018427387904 < x.room := by omega
           have hp' : partsOk l G = partsOk (l.drop (k + 1)) (G.drop (k + 1)) := by
            rw [hp]
            simp [partOk, hc1, hc2, hc3, hc4, hc5, hc6]
           simp -implicitDefEqProofs (disch:=omega) only [h7,h28,h29,h30,hh15_1,hlt',hlt,hm,hg,hc1,hq1,hq2,hq3,hc5,hc6,Bool.not_true,Bool.not_false,hc5',hc6',go_sem,↓reduceIte,reduceAdd,reduceSub,reduceEqDiff,reduceLeDiff,reduceCtorEq]
           try refine And.intro (by omega) ?_
           refine (hI _ _).2 ⟨?_, ?_, ?_, ?_, ?_, ?_⟩
           ·exact hp'
           all_goals exact cl0
          ·have hc6' : 4611686018427387904 < x.room := by omega
           have hpf : partsOk l G = false := by
            rw [hp]
            simp [partOk, hc6]
           simp -implicitDefEqProofs (disch:=omega) only [h7,h28,h29,h30,hh15_1,hlt',hlt,hm,hg,hc1,hq1,hq2,hq3,hc5,hc5',hc6',Bool.not_true,Bool.not_false,go_sem,↓reduceIte,reduceAdd,reduceSub,reduceEqDiff,reduceLeDiff,reduceCtorEq]
           rw [hpf]
         ·have hc5' : x.room < 0 := by omega
          have hpf : partsOk l G = false := by
           rw [hp]
           simp [partOk, hc5]
          simp -implicitDefEqProofs (disch:=omega) only [h7,h28,h29,h30,hh15_1,hlt',hlt,hm,hg,hc1,hq1,hq2,hq3,hc5',Bool.not_true,Bool.not_false,go_sem,↓reduceIte,reduceAdd,reduceSub,reduceEqDiff,reduceLeDiff,reduceCtorEq]
          rw [hpf]
        ·have hc4' : pagesB x.own = false := by simpa using hc4
         rw [hc4'] at hq3
         have hpf : partsOk l G = false := by
          rw [hp]
          simp [partOk, hc4']
         simp -implicitDefEqProofs (disch:=omega) only [h7,h28,h29,h30,hh15_1,hlt',hlt,hm,hg,hc1,hq1,hq2,hq3,Bool.not_true,Bool.not_false,go_sem,↓reduceIte,reduceAdd,reduceSub,reduceEqDiff,reduceLeDiff,reduceCtorEq]
         rw [hpf]
       ·have hc3' : pagesB x.protect = false := by simpa using hc3
        rw [hc3'] at hq2
        have hpf : partsOk l G = false := by
         rw [hp]
         simp [partOk, hc3']
        simp -implicitDefEqProofs (disch:=omega) only [h7,h28,h29,h30,hh15_1,hlt',hlt,hm,hg,hc1,hq1,hq2,Bool.not_true,Bool.not_false,go_sem,↓reduceIte,reduceAdd,reduceSub,reduceEqDiff,reduceLeDiff,reduceCtorEq]
        rw [hpf]
      ·have hc2' : pagesB x.usage = false := by simpa using hc2
       rw [hc2'] at hq1
       have hpf : partsOk l G = false := by
        rw [hp]
        simp [partOk, hc2']
       simp -implicitDefEqProofs (disch:=omega) only [h7,h28,h29,h30,hh15_1,hlt',hlt,hm,hg,hc1,hq1,Bool.not_true,Bool.not_false,go_sem,↓reduceIte,reduceAdd,reduceSub,reduceEqDiff,reduceLeDiff,reduceCtorEq]
       rw [hpf]
     ·have hpf : partsOk l G = false := by
       rw [hp]
       simp [partOk, hc1]
      simp -implicitDefEqProofs (disch:=omega) only [h7,h28,h29,h30,hh15_1,hlt',hlt,hm,hg,hc1,Bool.not_true,Bool.not_false,go_sem,↓reduceIte,reduceAdd,reduceSub,reduceEqDiff,reduceLeDiff,reduceCtorEq]
      rw [hpf]
    ·rw [List.drop_of_length_le (by omega), List.drop_of_length_le (by omega)] at hp
     rw [hp, partsOk]
     simp -implicitDefEqProofs (disch:=omega) only [h7,h28,h29,h30,hh15_1,hge,go_sem,↓reduceIte,reduceAdd,reduceSub,reduceEqDiff,reduceLeDiff,reduceCtorEq]
   ·have hpf : partsOk l G = false := by
     cases h : partsOk l G
     ·rfl
     ·exact absurd (partsOk_length _ _ h) (by omega)
    have hlg' : ¬ ((l.length : Nat) : Int) = ((S.length : Nat) : Int) := by omega
    simp -implicitDefEqProofs (disch:=omega) only [vf111,vb111,htc,hsub,hsort,hnz,hlg',hpf,go_sem,↓reduceIte,reduceAdd,reduceSub,reduceEqDiff,reduceLeDiff,reduceCtorEq]
 ·have ht' : treeOk t = false := by simpa using ht
  rw [ht'] at htc ⊢
  rw [Bool.false_and]
  simp -implicitDefEqProofs (disch:=omega) only [vf111,vb111,htc,go_sem,↓reduceIte,reduceAdd,reduceSub,reduceEqDiff,reduceLeDiff,reduceCtorEq]
abbrev keysP (l : List Pt) : List MKey := l.map fun x => MKey.int x.group
abbrev mapP (l : List Pt) : PV := .map (.int .i64) (keysP l) (l.map Pt.pv)
theorem mput_new (k : MKey) (v : PV) : ∀ (ks : List MKey) (vs : List PV), ks.length = vs.length → k ∉ ks → mput ks vs k v = (ks ++ [k], vs ++ [v])
 | [], [], _, _ => rfl
 | a :: ks, b :: vs, hl, hk => by
  have := mput_new k v ks vs (by simpa using hl) (fun h => hk (by simp [h]))
  have hne : ¬ k = a := fun h => hk (by simp [h])
  simp [mput, hne, this]
 | [], _ :: _, h, _ => by simp at h
 | _ :: _, [], h, _ => by simp at h
set_option maxHeartbeats 2000000 in
theorem mparts_eq (l : List Pt) (hl : l.length < 1000000) (hnd : (l.map (·.group)).Nodup) : V 113 [.p (ptsP l)] [] = some (.p (mapP l), []) := by
 refine V_wp (vf := vf113) rfl ?_
 simp -implicitDefEqProofs (disch:=omega) only [vf113,vb113,go_sem,↓reduceIte,reduceAdd,reduceSub,reduceEqDiff,reduceLeDiff,reduceCtorEq]
 obtain ⟨I, hI⟩ : ∃ I : Nat → St → Prop, ∀ k s, I k s ↔ s.pe 3 = .mref (.slot 6 0) 0 ∧ s.pe 7 = .p (ptsP l) ∧ s.pe 8 = .p (.int .i64 ↑l.length) ∧ s.pe 9 = .p (.int .i64 k) ∧ s.h (.slot 6 0) = some (0, Ob.map (KT.int IntKind.i64) (keysP (l.take k)) ((l.take k).map Pt.pv)) := ⟨_, fun _ _ => Iff.rfl⟩
 refine wp_count (l.length) I ?_ ?_
 ·refine (hI _ _).2 ⟨?_, ?_, ?_, ?_, ?_⟩
  all_goals exact cl0
 intro k s hk hIk
 obtain ⟨h3, h7, h8, h9, hh6_0⟩ := (hI _ _).1 hIk
 clear hIk
 simp -implicitDefEqProofs (disch:=omega) only [h3,h7,h8,h9,hh6_0,go_sem,↓reduceIte,reduceAdd,reduceSub,reduceEqDiff,reduceLeDiff,reduceCtorEq]
 refine wp_if_d (fun hlt => ?_) (fun hge => ?_)
 ·have hm : l[k]? = some l[k] := List.getElem?_eq_getElem hlt
  have htk := take_snoc hm
  have hnew : MKey.int l[k].group ∉ keysP (l.take k) := by
   intro h
   obtain ⟨y, hy, he⟩ := List.mem_map.1 h
   have he' : y.group = l[k].group := by simpa using he
   obtain ⟨i, hi, rfl⟩ := List.mem_take_iff_getElem.1 hy
   have h1 : i < k := by
    have := (Nat.lt_min.1 hi).1
    exact this
   have hnd' := List.pairwise_iff_getElem.1 hnd i k (by simp; omega) (by simpa using hlt) h1
   simp only [List.getElem_map] at hnd'
   exact hnd' he'
  generalize l[k] = x at hm htk hnew
  have hput := mput_new (MKey.int x.group) x.pv (keysP (l.take k)) ((l.take k).map Pt.pv) (by simp) hnew
  have e1 : keysP (l.take (k + 1)) = keysP (l.take k) ++ [MKey.int x.group] := by rw [htk]; simp
  have e2 : (l.take (k + 1)).map Pt.pv = (l.take k).map Pt.pv ++ [x.pv] := by rw [htk]; simp
  simp only [Pt.pv] at hput e2
  simp -implicitDefEqProofs (disch:=omega) only [h3,h7,h8,h9,hh6_0,hlt,hm,hput,go_sem,↓reduceIte,reduceAdd,reduceSub,reduceEqDiff,reduceLeDiff,reduceCtorEq]
  try refine And.intro (by omega) ?_
  refine (hI _ _).2 ⟨?_, ?_, ?_, ?_, ?_⟩
  all_goals exact cl0
 ·simp -implicitDefEqProofs (disch:=omega) only [h3,h7,h8,h9,hh6_0,hge,go_sem,↓reduceIte,reduceAdd,reduceSub,reduceEqDiff,reduceLeDiff,reduceCtorEq]
  rw [List.take_of_length_le (by omega)]
def zeroPt : Pt := ⟨0, 0, 0, 0, 0⟩
def partOf (l : List Pt) (g : Int) : Pt := (l.find? fun x => decide (x.group = g)).getD zeroPt
structure PtOk (x : Pt) : Prop where
 u0 : 0 ≤ x.usage
 u1 : x.usage ≤ 16777216
 p0 : 0 ≤ x.protect
 p1 : x.protect ≤ 16777216
 o0 : 0 ≤ x.own
 o1 : x.own ≤ 16777216
 r0 : 0 ≤ x.room
 r1 : x.room ≤ 4611686018427387904
theorem zeroPt_ok : PtOk zeroPt := ⟨by decide, by decide, by decide, by decide, by decide, by decide, by decide, by decide⟩
theorem partOf_ok {l : List Pt} (h : ∀ x ∈ l, PtOk x) (g : Int) : PtOk (partOf l g) := by
 unfold partOf
 cases he : l.find? fun x => decide (x.group = g) with
 | none => exact zeroPt_ok
 | some x => exact h x (List.mem_of_find?_eq_some he)
theorem mget_parts (g : Int) : ∀ (l : List Pt), mget (keysP l) (l.map Pt.pv) (.int g) = (l.find? fun x => decide (x.group = g)).map Pt.pv
 | [] => rfl
 | x :: l => by
  have := mget_parts g l
  by_cases he : x.group = g
  ·simp [mget, List.find?_cons, he]
  ·have he' : ¬ g = x.group := fun h => he h.symm
   simp only [List.map_cons, mget, List.find?_cons, he, decide_false, MKey.int.injEq, he', if_false]
   exact this
theorem getD_parts (g : Int) (l : List Pt) : ((l.find? fun x => decide (x.group = g)).map Pt.pv).getD (.agg [.int .i64 0, .int .i64 0, .int .i64 0, .int .i64 0, .int .i64 0]) = (partOf l g).pv := by
 unfold partOf
 cases l.find? fun x => decide (x.group = g) <;> rfl
def capN (ns : List Nd) (l : List Pt) : Nat → Int → Int
 | 0, _ => 0
 | k + 1, g => min (min (max 0 ((partOf l g).usage - (partOf l g).protect)) (partOf l g).room) ((partOf l g).own + sumI ((kidsN ns g).map (capN ns l k)))
theorem capN_bound {ns : List Nd} {l : List Pt} (h : ∀ x ∈ l, PtOk x) : ∀ (k : Nat) (g : Int), 0 ≤ capN ns l k g ∧ capN ns l k g ≤ 16777216
 | 0, _ => by simp [capN]
 | k + 1, g => by
  have h1 := partOf_ok h g
  have h2 := sumI_nonneg ((kidsN ns g).map (capN ns l k)) (by
   intro x hx
   obtain ⟨y, _, rfl⟩ := List.mem_map.1 hx
   exact (capN_bound h k y).1)
  have := h1.u0; have := h1.u1; have := h1.p0; have := h1.o0; have := h1.r0
  simp only [capN]
  omega
set_option maxHeartbeats 2000000 in
theorem mcap_eq0 {t : Tr} (h : TreeOk t) {l : List Pt} (hp : ∀ x ∈ l, PtOk x) : ∀ (k i : Nat) (n : Nd), t.nodes[i]? = some n → t.nodes.length ≤ i + k → V 116 [t.vv, .p (mapP l), .p (.int .i64 n.id)] [] = some (.p (.int .i64 (capN t.nodes l k n.id)), []) := by
 intro k
 induction k with
 | zero => intro i n hn hk; have := (List.getElem?_eq_some_iff.1 hn).1; omega
 | succ k ih =>
  intro i n hn hk
  have hlen := h.len
  refine V_wp (vf := vf116) rfl ?_
  have hkd := fkids_eq t n.id (by omega)
  have hkl := kidsN_len t.nodes n.id
  have hkm : ∀ c ∈ kidsN t.nodes n.id, V 116 [t.vv, .p (mapP l), .p (.int .i64 c)] [] = some (.p (.int .i64 (capN t.nodes l k c)), []) := by
   intro c hc
   obtain ⟨j, m, hj, hp, rfl⟩ := mem_kidsN.1 hc
   have hij := h.kid hn hj hp
   exact ih j m hj (by omega)
  rw [show capN t.nodes l (k + 1) n.id = min (min (max 0 ((partOf l n.id).usage - (partOf l n.id).protect)) (partOf l n.id).room) ((partOf l n.id).own + sumI ((kidsN t.nodes n.id).map (capN t.nodes l k))) from rfl]
  have hx := partOf_ok hp n.id
  have hu0 := hx.u0; have hu1 := hx.u1; have hp0 := hx.p0; have hp1 := hx.p1; have ho0 := hx.o0; have ho1 := hx.o1; have hr0 := hx.r0; have hr1 := hx.r1
  clear hx
  have hget := mget_parts n.id l
  have hgd := getD_parts n.id l
  generalize partOf l n.id = x at hgd hu0 hu1 hp0 hp1 ho0 ho1 hr0 hr1
  generalize kidsN t.nodes n.id = ks at hkd hkl hkm
  simp -implicitDefEqProofs (disch:=omega) only [vf116,vb116,hkd,hget,hgd,go_sem,↓reduceIte,reduceAdd,reduceSub,reduceEqDiff,reduceLeDiff,reduceCtorEq]
  obtain ⟨J, hJ⟩ : ∃ I : Nat → St → Prop, ∀ j s, I j s ↔ ∃ (s0 : Int), s0 = x.own + sumI ((ks.take j).map (capN t.nodes l k)) ∧ 0 ≤ s0 ∧ s0 ≤ 16777216 * (j + 1) ∧ s.pe 1 = .p (mapP l) ∧ s.pe 3 = .ptr (.slot 3 0) 0 0 ∧ s.pe 7 = .ptr (.slot 7 0) 0 0 ∧ s.pe 8 = .p (.int .i64 s0) ∧ s.pe 18 = .own (.slot 18 1) 0 0 ks.length ∧ s.pe 19 = .p (.int .i64 ↑ks.length) ∧ s.pe 20 = .p (.int .i64 j) ∧ s.h (.slot 3 0) = some (0, Ob.box [.p (nodesP t.nodes), .p (.int .i64 t.next)]) ∧ s.h (.slot 7 0) = some (0, Ob.box [.p (.int .i64 x.group), .p (.int .i64 x.usage), .p (.int .i64 x.protect), .p (.int .i64 x.own), .p (.int .i64 x.room)]) ∧ s.h (.slot 18 1) = some (0, Ob.arr 1 (List.map (.int .i64) ks)) := ⟨_, fun _ _ => Iff.rfl⟩
  refine wp_count (ks.length) J ?_ ?_
  ·refine (hJ _ _).2 ⟨x.own, ?_, ?_, ?_, ?_, ?_, ?_, ?_, ?_, ?_, ?_, ?_, ?_, ?_⟩
   ·exact by simp [sumI]
   ·exact cl3
   ·exact cl3
   all_goals exact cl0
  intro j s hj hJk
  obtain ⟨s0, hs0, hs1, hs2, h1, h3, h7, h8, h18, h19, h20, hh3_0, hh7_0, hh18_1⟩ := (hJ _ _).1 hJk
  clear hJk
  simp -implicitDefEqProofs (disch:=omega) only [h1,h3,h7,h8,h18,h19,h20,hh3_0,hh7_0,hh18_1,go_sem,↓reduceIte,reduceAdd,reduceSub,reduceEqDiff,reduceLeDiff,reduceCtorEq]
  refine wp_if_d (fun hlt => ?_) (fun hge => ?_)
  ·have hm : ks[j]? = some ks[j] := List.getElem?_eq_getElem hlt
   have htk := sumI_take_succ (f := capN t.nodes l k) hm
   generalize ks[j] = c at hm htk
   have hc := hkm c (List.mem_of_getElem? hm)
   have hb := capN_bound (ns := t.nodes) hp k c
   generalize capN t.nodes l k c = v at hc hb htk
   have hb0 := hb.1
   have hb1 := hb.2
   simp -implicitDefEqProofs (disch:=omega) only [h1,h3,h7,h8,h18,h19,h20,hh3_0,hh7_0,hh18_1,hlt,hm,hc,go_sem,↓reduceIte,reduceAdd,reduceSub,reduceEqDiff,reduceLeDiff,reduceCtorEq]
   try refine And.intro (by omega) ?_
   refine (hJ _ _).2 ⟨s0 + v, ?_, ?_, ?_, ?_, ?_, ?_, ?_, ?_, ?_, ?_, ?_, ?_, ?_⟩
   ·exact by rw [htk, hs0]; omega
   ·omega
   ·omega
   all_goals exact cl0
  ·rw [List.take_of_length_le (by omega)] at hs0
   simp -implicitDefEqProofs (disch:=omega) only [h1,h3,h7,h8,h18,h19,h20,hh3_0,hh7_0,hh18_1,hge,go_sem,↓reduceIte,reduceAdd,reduceSub,reduceEqDiff,reduceLeDiff,reduceCtorEq]
   rw [hs0]
def baseD (k y : Int) (w : List Int) : List Int := w.map fun x => k * x / y
def bumpD : Int → List Int → List Int → List Int
 | left, o :: os, w :: ws => if 0 < left ∧ o < w then (o + 1) :: bumpD (left - 1) os ws else o :: bumpD left os ws
 | _, os, _ => os
def splitP (k : Int) (w : List Int) : List Int := if sumI w = 0 then w.map (fun _ => 0) else bumpD (k - sumI (baseD k (sumI w) w)) (baseD k (sumI w) w) w
theorem bumpD_length : ∀ (left : Int) (o w : List Int), (bumpD left o w).length = o.length
 | left, o :: os, w :: ws => by
  have h1 := bumpD_length (left - 1) os ws
  have h2 := bumpD_length left os ws
  unfold bumpD
  split <;> simp [h1, h2]
 | _, [], _ => by unfold bumpD; rfl
 | _, _ :: _, [] => by unfold bumpD; rfl
theorem splitP_length (k : Int) (w : List Int) : (splitP k w).length = w.length := by
 unfold splitP
 split
 ·simp
 ·simp [bumpD_length, baseD]
theorem map_set_int (l : List Int) (i : Nat) (v : Int) : (List.map (PV.int .i64) l).set i (.int .i64 v) = List.map (PV.int .i64) (l.set i v) := List.map_set.symm
theorem map_get_int {l : List Int} {i : Nat} {v : Int} (h : l[i]? = some v) : (List.map (PV.int .i64) l)[i]? = some (.int .i64 v) := by rw [List.getElem?_map, h]; rfl
theorem zeros_map : ∀ (w : List Int), List.replicate w.length (PV.int .i64 0) = List.map (PV.int .i64) (w.map fun _ => 0)
 | [] => rfl
 | x :: w => by
  have := zeros_map w
  simp only [List.length_cons, List.replicate_succ, List.map_cons, this]
theorem take_set_succ {l : List Int} {i : Nat} {v : Int} (h : i < l.length) : (l.set i v).take (i + 1) = l.take i ++ [v] := by
 rw [List.take_succ_eq_append_getElem (by simpa using h), List.take_set_of_le (Nat.le_refl _)]
 simp
theorem sumI_snoc (l : List Int) (x : Int) : sumI (l ++ [x]) = sumI l + x := by
 rw [sumI_append]
 simp [sumI]
set_option maxHeartbeats 4000000 in
theorem split_eq (K : Int) (w : List Int) (hk0 : 0 ≤ K) (hk1 : K ≤ 16777216) (hl : w.length < 1000) (hw : ∀ x ∈ w, 0 ≤ x ∧ x ≤ 16777216) : V 117 [.p (.int .i64 K), .p (intsP w)] [] = some (.fresh 1 ((splitP K w).map (.int .i64)), []) := by
 refine V_wp (vf := vf117) rfl ?_
 simp -implicitDefEqProofs (disch:=omega) only [vf117,vb117,go_sem,↓reduceIte,reduceAdd,reduceSub,reduceEqDiff,reduceLeDiff,reduceCtorEq]
 obtain ⟨I, hI⟩ : ∃ I : Nat → St → Prop, ∀ k s, I k s ↔ ∃ (y : Int), y = sumI (w.take k) ∧ 0 ≤ y ∧ y ≤ 16777216 * k ∧ s.pe 0 = .p (.int .i64 K) ∧ s.pe 1 = .p (intsP w) ∧ s.pe 5 = .p (.int .i64 y) ∧ s.pe 14 = .p (intsP w) ∧ s.pe 15 = .p (.int .i64 ↑w.length) ∧ s.pe 16 = .p (.int .i64 k) := ⟨_, fun _ _ => Iff.rfl⟩
 refine wp_count (w.length) I ?_ ?_
 ·refine (hI _ _).2 ⟨0, ?_, ?_, ?_, ?_, ?_, ?_, ?_, ?_, ?_⟩
  ·exact by simp [sumI]
  ·exact cl3
  ·exact cl3
  all_goals exact cl0
 intro k s hk hIk
 obtain ⟨y, hy, hy0, hy1, h0, h1, h5, h14, h15, h16⟩ := (hI _ _).1 hIk
 clear hIk
 simp -implicitDefEqProofs (disch:=omega) only [h0,h1,h5,h14,h15,h16,go_sem,↓reduceIte,reduceAdd,reduceSub,reduceEqDiff,reduceLeDiff,reduceCtorEq]
 refine wp_if_d (fun hlt => ?_) (fun hge => ?_)
 ·have hm : w[k]? = some w[k] := List.getElem?_eq_getElem hlt
  have htk := sumI_take_succ (f := fun x => x) hm
  rw [List.map_id', List.map_id'] at htk
  have hb := hw _ (List.mem_of_getElem? hm)
  generalize w[k] = x at hm htk hb
  have hb0 := hb.1
  have hb1 := hb.2
  simp -implicitDefEqProofs (disch:=omega) only [h0,h1,h5,h14,h15,h16,hlt,hm,go_sem,↓reduceIte,reduceAdd,reduceSub,reduceEqDiff,reduceLeDiff,reduceCtorEq]
  try refine And.intro (by omega) ?_
  refine (hI _ _).2 ⟨y + x, ?_, ?_, ?_, ?_, ?_, ?_, ?_, ?_, ?_⟩
  ·exact by rw [htk, hy]
  ·omega
  ·omega
  all_goals exact cl0
 ·rw [List.take_of_length_le (by omega)] at hy
  unfold splitP
  rw [← hy]
  by_cases hyz : y = 0
  ·rw [if_pos hyz]
   simp -implicitDefEqProofs (disch:=omega) only [h0,h1,h5,h14,h15,h16,hge,hyz,go_sem,↓reduceIte,reduceAdd,reduceSub,reduceEqDiff,reduceLeDiff,reduceCtorEq]
   rw [List.take_of_length_le (by simp)]
   congr 2
   exact zeros_map w
  ·rw [if_neg hyz]
   simp -implicitDefEqProofs (disch:=omega) only [h0,h1,h5,h14,h15,h16,hge,hyz,zeros_map,go_sem,↓reduceIte,reduceAdd,reduceSub,reduceEqDiff,reduceLeDiff,reduceCtorEq]
   obtain ⟨J, hJ⟩ : ∃ I : Nat → St → Prop, ∀ j s, I j s ↔ ∃ (v26_0 : Nat) (arr : List Int) (left : Int), arr.length = w.length ∧ arr.take j = baseD K y (w.take j) ∧ left = K - sumI (arr.take j) ∧ -(281474976710656 * j : Int) ≤ left ∧ left ≤ 16777216 ∧ s.pe 0 = .p (.int .i64 K) ∧ s.pe 1 = .p (intsP w) ∧ s.pe 5 = .p (.int .i64 y) ∧ s.pe 8 = .own (.slot 26 0) v26_0 0 w.length ∧ s.pe 9 = .p (.int .i64 left) ∧ s.pe 31 = .p (intsP w) ∧ s.pe 32 = .p (.int .i64 ↑w.length) ∧ s.pe 33 = .p (.int .i64 j) ∧ s.h (.slot 26 0) = some (v26_0, Ob.arr 1 (arr.map (.int .i64))) := ⟨_, fun _ _ => Iff.rfl⟩
   refine wp_count (w.length) J ?_ ?_
   ·refine (hJ _ _).2 ⟨nv (s.h (.slot 26 0)), w.map fun _ => 0, K, ?_, ?_, ?_, ?_, ?_, ?_, ?_, ?_, ?_, ?_, ?_, ?_, ?_, ?_⟩
    ·exact by simp
    ·rfl
    ·exact by simp [sumI]
    ·exact cl3
    ·exact cl3
    all_goals exact cl0
   intro j s hj hJk
   obtain ⟨v26_0, arr, left, harl, hpre, hlf, hl0, hl1, h0, h1, h5, h8, h9, h31, h32, h33, hh26_0⟩ := (hJ _ _).1 hJk
   clear hJk
   simp -implicitDefEqProofs (disch:=omega) only [h0,h1,h5,h8,h9,h31,h32,h33,hh26_0,go_sem,↓reduceIte,reduceAdd,reduceSub,reduceEqDiff,reduceLeDiff,reduceCtorEq]
   refine wp_if_d (fun hlt => ?_) (fun hge => ?_)
   ·have hm : w[j]? = some w[j] := List.getElem?_eq_getElem hlt
    have htk := take_snoc hm
    have hb := hw _ (List.mem_of_getElem? hm)
    generalize w[j] = x at hm htk hb
    have hb0 := hb.1
    have hb1 := hb.2
    have hm0 : 0 ≤ K * x := Int.mul_nonneg hk0 hb0
    have hm1 : K * x ≤ 281474976710656 := by
     have := Int.mul_le_mul hk1 hb1 hb0 (by omega)
     omega
    have hq : (K * x).tdiv y = K * x / y := Int.tdiv_eq_ediv_of_nonneg hm0
    have hq0 : 0 ≤ K * x / y := Int.ediv_nonneg hm0 hy0
    have hq1 : K * x / y ≤ K * x := Int.ediv_le_self _ hm0
    have hbd : baseD K y (w.take (j + 1)) = baseD K y (w.take j) ++ [K * x / y] := by rw [htk]; simp [baseD]
    generalize K * x / y = q at hq hq0 hq1 hbd
    obtain ⟨p, hp⟩ : ∃ p, K * x = p := ⟨_, rfl⟩
    rw [hp] at hm0 hm1 hq hq1
    have hset := map_set_int arr j q
    have hget : (List.map (PV.int .i64) (arr.set j q))[j]? = some (.int .i64 q) := map_get_int (by rw [List.getElem?_set_self (by omega)])
    have hga : arr[j]? = some arr[j] := List.getElem?_eq_getElem (by omega)
    generalize arr[j] = z at hga
    simp -implicitDefEqProofs (disch:=omega) only [h0,h1,h5,h8,h9,h31,h32,h33,hh26_0,hlt,hm,hyz,hp,hq,hset,hget,hga,List.headD_cons,go_sem,↓reduceIte,reduceAdd,reduceSub,reduceEqDiff,reduceLeDiff,reduceCtorEq]
    try refine And.intro (by omega) ?_
    refine (hJ _ _).2 ⟨v26_0, arr.set j q, left - q, ?_, ?_, ?_, ?_, ?_, ?_, ?_, ?_, ?_, ?_, ?_, ?_, ?_, ?_⟩
    ·exact by rw [List.length_set, harl]
    ·exact by rw [take_set_succ (by omega), hpre, hbd]
    ·exact by rw [take_set_succ (by omega), sumI_snoc, hlf]; omega
    ·omega
    ·omega
    all_goals exact cl0
   ·have hjw : j = w.length := by omega
    subst hjw
    rw [List.take_length] at hpre
    rw [List.take_of_length_le (by omega)] at hpre hlf
    rw [← hpre, ← hlf]
    have hl0' : -(281474976710656000 : Int) ≤ left := by omega
    clear hl0
    have hnn : ∀ o ∈ arr, 0 ≤ o := by
     rw [hpre]
     intro o ho
     obtain ⟨x, hx, rfl⟩ := List.mem_map.1 ho
     exact Int.ediv_nonneg (Int.mul_nonneg hk0 (hw x hx).1) hy0
    simp -implicitDefEqProofs (disch:=omega) only [h0,h1,h5,h8,h9,h31,h32,h33,hh26_0,hge,go_sem,↓reduceIte,reduceAdd,reduceSub,reduceEqDiff,reduceLeDiff,reduceCtorEq]
    obtain ⟨M, hM⟩ : ∃ I : Nat → St → Prop, ∀ m s, I m s ↔ ∃ (a2 : List Int) (lf : Int), a2.length = w.length ∧ a2.take m ++ bumpD lf (arr.drop m) (w.drop m) = bumpD left arr w ∧ a2.drop m = arr.drop m ∧ -(281474976710656000 : Int) - m ≤ lf ∧ lf ≤ 16777216 ∧ s.pe 8 = .own (.slot 26 0) v26_0 0 w.length ∧ s.pe 9 = .p (.int .i64 lf) ∧ s.pe 53 = .p (intsP w) ∧ s.pe 54 = .p (.int .i64 ↑w.length) ∧ s.pe 55 = .p (.int .i64 m) ∧ s.h (.slot 26 0) = some (v26_0, Ob.arr 1 (a2.map (.int .i64))) := ⟨_, fun _ _ => Iff.rfl⟩
    refine wp_count (w.length) M ?_ ?_
    ·refine (hM _ _).2 ⟨arr, left, ?_, ?_, ?_, ?_, ?_, ?_, ?_, ?_, ?_, ?_, ?_⟩
     ·exact cl3
     ·exact by simp
     ·rfl
     ·exact cl3
     ·exact cl3
     all_goals exact cl0
    intro m s hm hMk
    obtain ⟨a2, lf, hal, hbp, hdd, hm0, hm1, h8, h9, h53, h54, h55, hh26_0⟩ := (hM _ _).1 hMk
    clear hMk
    simp -implicitDefEqProofs (disch:=omega) only [h8,h9,h53,h54,h55,hh26_0,go_sem,↓reduceIte,reduceAdd,reduceSub,reduceEqDiff,reduceLeDiff,reduceCtorEq]
    refine wp_if_d (fun hlt => ?_) (fun hge => ?_)
    ·have hm : w[m]? = some w[m] := List.getElem?_eq_getElem hlt
     have hga : arr[m]? = some arr[m] := List.getElem?_eq_getElem (by omega)
     have hdw : w.drop m = w[m] :: w.drop (m + 1) := List.drop_eq_getElem_cons hlt
     have hda : arr.drop m = arr[m] :: arr.drop (m + 1) := List.drop_eq_getElem_cons (by omega)
     have hb := hw _ (List.mem_of_getElem? hm)
     generalize w[m] = x at hm hdw hb
     generalize arr[m] = o at hga hda
     have hb1 := hb.2
     have hga2 : a2[m]? = some o := by
      have : (a2.drop m)[0]? = (arr.drop m)[0]? := by rw [hdd]
      rw [List.getElem?_drop, List.getElem?_drop] at this
      simpa [hga] using this
     have htk2 := take_snoc hga2
     have hdd' : a2.drop (m + 1) = arr.drop (m + 1) := by
      have := congrArg (List.drop 1) hdd
      simpa [List.drop_drop, Nat.add_comm] using this
     rw [hdw, hda, bumpD] at hbp
     by_cases hlf0 : 0 < lf
     ·by_cases hox : o < x
      ·rw [if_pos ⟨hlf0, hox⟩] at hbp
       have ho0 := hnn o (List.mem_of_getElem? hga)
       have hset := map_set_int a2 m (o + 1)
       simp -implicitDefEqProofs (disch:=omega) only [h8,h9,h53,h54,h55,hh26_0,hlt,hm,hga2,hlf0,hox,hset,List.headD_cons,go_sem,↓reduceIte,reduceAdd,reduceSub,reduceEqDiff,reduceLeDiff,reduceCtorEq]
       try refine And.intro (by omega) ?_
       refine (hM _ _).2 ⟨a2.set m (o + 1), lf - 1, ?_, ?_, ?_, ?_, ?_, ?_, ?_, ?_, ?_, ?_, ?_⟩
       ·exact by rw [List.length_set, hal]
       ·exact by rw [take_set_succ (by omega), List.append_assoc]; exact hbp
       ·exact by rw [List.drop_set_of_lt (by omega), hdd']
       ·omega
       ·omega
       all_goals exact cl0
      ·rw [if_neg (fun h => hox h.2)] at hbp
       simp -implicitDefEqProofs (disch:=omega) only [h8,h9,h53,h54,h55,hh26_0,hlt,hm,hga2,hlf0,hox,go_sem,↓reduceIte,reduceAdd,reduceSub,reduceEqDiff,reduceLeDiff,reduceCtorEq]
       try refine And.intro (by omega) ?_
       refine (hM _ _).2 ⟨a2, lf, ?_, ?_, ?_, ?_, ?_, ?_, ?_, ?_, ?_, ?_, ?_⟩
       ·exact hal
       ·exact by rw [htk2, List.append_assoc]; exact hbp
       ·exact hdd'
       ·omega
       ·omega
       all_goals exact cl0
     ·rw [if_neg (fun h => hlf0 h.1)] at hbp
      simp -implicitDefEqProofs (disch:=omega) only [h8,h9,h53,h54,h55,hh26_0,hlt,hm,hga2,hlf0,go_sem,↓reduceIte,reduceAdd,reduceSub,reduceEqDiff,reduceLeDiff,reduceCtorEq]
      try refine And.intro (by omega) ?_
      refine (hM _ _).2 ⟨a2, lf, ?_, ?_, ?_, ?_, ?_, ?_, ?_, ?_, ?_, ?_, ?_⟩
      ·exact hal
      ·exact by rw [htk2, List.append_assoc]; exact hbp
      ·exact hdd'
      ·omega
      ·omega
      all_goals exact cl0
    ·rw [List.drop_of_length_le (by omega), List.drop_of_length_le (by omega), List.take_of_length_le (by omega)] at hbp
     have hbn : bumpD lf [] [] = [] := by unfold bumpD; rfl
     rw [hbn, List.append_nil] at hbp
     simp -implicitDefEqProofs (disch:=omega) only [h8,h9,h53,h54,h55,hh26_0,hge,go_sem,↓reduceIte,reduceAdd,reduceSub,reduceEqDiff,reduceLeDiff,reduceCtorEq]
     rw [List.take_of_length_le (by rw [List.length_map]; omega), hbp]
theorem partOk_iff (x : Pt) (g : Int) : partOk x g = true ↔ x.group = g ∧ PtOk x := by
 simp only [partOk, pagesB, Bool.and_eq_true, decide_eq_true_eq]
 constructor
 ·rintro ⟨⟨⟨⟨h1, h2⟩, h3⟩, h4⟩, h5⟩
  exact ⟨h1, h2.1, h2.2, h3.1, h3.2, h4.1, h4.2, h5.1, h5.2⟩
 ·rintro ⟨h1, h⟩
  exact ⟨⟨⟨⟨h1, h.u0, h.u1⟩, h.p0, h.p1⟩, h.o0, h.o1⟩, h.r0, h.r1⟩
theorem partsOk_iff : ∀ (l : List Pt) (g : List Int), partsOk l g = true ↔ l.map (·.group) = g ∧ ∀ x ∈ l, PtOk x
 | [], [] => by simp [partsOk]
 | x :: l, y :: g => by
  simp only [partsOk, Bool.and_eq_true, partOk_iff, partsOk_iff l g, List.map_cons, List.cons.injEq, List.mem_cons, forall_eq_or_imp]
  constructor
  ·rintro ⟨⟨a, b⟩, c, d⟩; exact ⟨⟨a, c⟩, b, d⟩
  ·rintro ⟨⟨a, c⟩, b, d⟩; exact ⟨⟨a, b⟩, c, d⟩
 | [], _ :: _ => by simp [partsOk]
 | _ :: _, [] => by simp [partsOk]
structure PartsOk (t : Tr) (l : List Pt) (root : Int) : Prop where
 tree : TreeOk t
 top : InN t.nodes root
 groups : l.map (·.group) = msort (subT t root)
 ok : ∀ x ∈ l, PtOk x
theorem subT_some {t : Tr} (h : TreeOk t) {i : Nat} {n : Nd} (hn : t.nodes[i]? = some n) : subT t n.id = subF t.nodes t.nodes.length n.id := by
 rw [subT, if_pos]
 rw [findT_ok ((treeOk_iff t).2 h), findN_unique h.inc hn]
 rfl
theorem subT_ne {t : Tr} (h : TreeOk t) {root : Int} : subT t root ≠ [] ↔ InN t.nodes root := by
 constructor
 ·intro hne
  unfold subT at hne
  by_cases hf : (findT t root).isSome = true
  ·rw [findT_ok ((treeOk_iff t).2 h)] at hf
   obtain ⟨n, hn, he⟩ := findN_some hf
   obtain ⟨i, hi⟩ := List.getElem?_of_mem hn
   exact ⟨i, n, hi, he⟩
  ·rw [if_neg hf] at hne
   exact absurd rfl hne
 ·rintro ⟨i, n, hn, rfl⟩
  rw [subT_some h hn]
  exact subF_mem h ⟨i, n, hn, rfl⟩
theorem validP_iff (t : Tr) (l : List Pt) (root : Int) : validP t l root = true ↔ PartsOk t l root := by
 simp only [validP, Bool.and_eq_true, treeOk_iff, partsOk_iff, Bool.not_eq_true', List.isEmpty_eq_false_iff]
 constructor
 ·rintro ⟨h, h2, h3, h4⟩
  exact ⟨h, (subT_ne h).1 h2, h3, h4⟩
 ·rintro ⟨h1, h2, h3, h4⟩
  exact ⟨h1, (subT_ne h1).2 h2, h3, h4⟩
theorem msort_perm (l : List Int) : (msort l).Perm l := List.mergeSort_perm _ _
theorem nodup_subT {t : Tr} (h : TreeOk t) (root : Int) : (subT t root).Nodup := by
 by_cases hr : InN t.nodes root
 ·obtain ⟨i, n, hn, rfl⟩ := hr
  rw [subT_some h hn]
  exact nodup_subF h _ i n hn (by omega)
 ·have : subT t root = [] := by
   cases hs : subT t root with
   | nil => rfl
   | cons a b => exact absurd ((subT_ne h).1 (by rw [hs]; simp)) hr
  rw [this]
  exact List.nodup_nil
theorem PartsOk.nodup {t : Tr} {l : List Pt} {root : Int} (h : PartsOk t l root) : (l.map (·.group)).Nodup := by
 rw [h.groups]
 exact (msort_perm _).nodup_iff.2 (nodup_subT h.tree root)
theorem PartsOk.length {t : Tr} {l : List Pt} {root : Int} (h : PartsOk t l root) : l.length ≤ 64 := by
 have h1 := congrArg List.length h.groups
 have h2 := subT_len h.tree root
 have h3 := h.tree.len
 rw [List.length_map, msort_length] at h1
 omega
abbrev capR (t : Tr) (l : List Pt) (g : Int) : Int := capN t.nodes l t.nodes.length g
theorem mcap_eq {t : Tr} (h : TreeOk t) {l : List Pt} (hp : ∀ x ∈ l, PtOk x) {g : Int} (hg : InN t.nodes g) : V 116 [t.vv, .p (mapP l), .p (.int .i64 g)] [] = some (.p (.int .i64 (capR t l g)), []) := by
 obtain ⟨i, n, hn, rfl⟩ := hg
 exact mcap_eq0 h hp _ i n hn (by omega)
theorem bumpD_bound {B : Int} : ∀ (left : Int) (o w : List Int), (∀ z ∈ o, 0 ≤ z ∧ z ≤ B) → (∀ x ∈ w, x ≤ B) → ∀ z ∈ bumpD left o w, 0 ≤ z ∧ z ≤ B
 | left, o :: os, w :: ws, ho, hw, z, hz => by
  have h1 := bumpD_bound (B := B) (left - 1) os ws (fun z hz => ho z (by simp [hz])) (fun z hz => hw z (by simp [hz]))
  have h2 := bumpD_bound (B := B) left os ws (fun z hz => ho z (by simp [hz])) (fun z hz => hw z (by simp [hz]))
  have h3 := ho o (by simp)
  have h4 := hw w (by simp)
  unfold bumpD at hz
  split at hz
  ·rename_i hc
   rcases List.mem_cons.1 hz with rfl | hz
   ·omega
   ·exact h1 z hz
  ·rcases List.mem_cons.1 hz with rfl | hz
   ·exact h3
   ·exact h2 z hz
 | left, [], w, ho, _, z, hz => by unfold bumpD at hz; exact ho z hz
 | left, o :: os, [], ho, _, z, hz => by unfold bumpD at hz; exact ho z hz
theorem mem_le_sumI {x : Int} : ∀ (l : List Int), (∀ y ∈ l, 0 ≤ y) → x ∈ l → x ≤ sumI l
 | [], _, h => by simp at h
 | y :: l, h, hx => by
  have h1 := sumI_nonneg l (fun z hz => h z (by simp [hz]))
  have h2 := h y (by simp)
  simp only [sumI]
  rcases List.mem_cons.1 hx with rfl | hx
  ·omega
  ·have := mem_le_sumI l (fun z hz => h z (by simp [hz])) hx
   omega
theorem splitP_bound {K : Int} {w : List Int} (h0 : 0 ≤ K) (h1 : K ≤ 16777216) (hw : ∀ x ∈ w, 0 ≤ x ∧ x ≤ 16777216) : ∀ z ∈ splitP K w, 0 ≤ z ∧ z ≤ 16777216 := by
 unfold splitP
 split
 ·intro z hz
  obtain ⟨_, _, rfl⟩ := List.mem_map.1 hz
  omega
 ·rename_i hy
  have hs := sumI_nonneg w (fun x hx => (hw x hx).1)
  refine bumpD_bound _ _ _ (fun z hz => ?_) (fun x hx => (hw x hx).2)
  obtain ⟨x, hx, rfl⟩ := List.mem_map.1 hz
  have hxy := mem_le_sumI w (fun x hx => (hw x hx).1) hx
  refine ⟨Int.ediv_nonneg (Int.mul_nonneg h0 (hw x hx).1) hs, ?_⟩
  have : K * x / sumI w ≤ K := Int.ediv_le_of_le_mul (by omega) (Int.mul_le_mul_of_nonneg_left hxy h0)
  omega
def takeN (ns : List Nd) (l : List Pt) (cap : Int → Int) : Nat → Int → Int → List (Int × Int)
 | 0, _, _ => []
 | k + 1, g, K => (if 0 < (splitP K ((partOf l g).own :: (kidsN ns g).map cap)).headD 0 then [(g, (splitP K ((partOf l g).own :: (kidsN ns g).map cap)).headD 0)] else []) ++ ((kidsN ns g).zip (splitP K ((partOf l g).own :: (kidsN ns g).map cap)).tail).flatMap fun p => if 0 < p.2 then takeN ns l cap k p.1 p.2 else []
theorem zip_flat_le {f : Int → Int → List (Int × Int)} {g : Int → List Int} (h : ∀ a b, (f a b).length ≤ (g a).length) : ∀ (xs ys : List Int), ((xs.zip ys).flatMap fun p => if 0 < p.2 then f p.1 p.2 else []).length ≤ (xs.flatMap g).length
 | [], _ => by simp
 | _ :: _, [] => by simp
 | x :: xs, y :: ys => by
  have h1 := zip_flat_le h xs ys
  have h2 := h x y
  rw [List.zip_cons_cons, List.flatMap_cons, List.flatMap_cons, List.length_append, List.length_append]
  show (if 0 < y then f x y else []).length + _ ≤ _
  split
  ·omega
  ·simp only [List.length_nil]
   omega
theorem take_zip' : ∀ (m : Nat) (xs ys : List Int), (xs.zip ys).take m = (xs.take m).zip (ys.take m)
 | 0, _, _ => by simp
 | _ + 1, [], _ => by simp
 | _ + 1, _ :: _, [] => by simp
 | m + 1, x :: xs, y :: ys => by simp [take_zip' m xs ys]
theorem flat_take {f : Int → List Int} {ks : List Int} {m : Nat} {c : Int} (h : ks[m]? = some c) : ((ks.take m).flatMap f).length + (f c).length ≤ (ks.flatMap f).length := by
 have h1 : ks = ks.take (m + 1) ++ ks.drop (m + 1) := (List.take_append_drop _ _).symm
 have h2 : (ks.flatMap f).length = ((ks.take (m + 1)).flatMap f).length + ((ks.drop (m + 1)).flatMap f).length := by
  rw [← List.length_append, ← List.flatMap_append, ← h1]
 rw [h2, take_snoc h, List.flatMap_append, List.length_append, List.flatMap_singleton]
 omega
theorem takeN_length (ns : List Nd) (l : List Pt) (cap : Int → Int) : ∀ (k : Nat) (g K : Int), (takeN ns l cap k g K).length ≤ (subF ns k g).length
 | 0, _, _ => by simp [takeN]
 | k + 1, g, K => by
  have h1 := zip_flat_le (f := takeN ns l cap k) (g := subF ns k) (takeN_length ns l cap k) (kidsN ns g) (splitP K ((partOf l g).own :: (kidsN ns g).map cap)).tail
  rw [takeN, subF, List.length_append, List.length_cons]
  split
  ·simp only [List.length_singleton]
   omega
  ·simp only [List.length_nil]
   omega
abbrev tkP (p : Int × Int) : PV := .agg [.int .i64 p.1, .int .i64 p.2]
abbrev capsR : List VVal := [.ptr (.arg 0 0) 0 0, .ptr (.arg 1 0) 0 0, .ptr (.arg 2 0) 0 0, .ptr (.arg 3 0) 0 0]
abbrev HR (t : Tr) (l : List Pt) (out : List (Int × Int)) : List Ob := [.box [.p (nodesP t.nodes), .p (.int .i64 t.next)], .box [.p (mapP l)], .box [.own (.arg 4 0) 0 0 out.length], .box [.fn 114 capsR], .arr 2 (out.map tkP)]
def HR' (t : Tr) (l : List Pt) (out more : List (Int × Int)) : List Ob := if more = [] then HR t l out else [.box [.p (nodesP t.nodes), .p (.int .i64 t.next)], .box [.p (mapP l)], .box [.own (.arg 4 0) 1 0 (out ++ more).length], .box [.fn 114 capsR], .box [.undef, .fresh 2 ((out ++ more).map tkP)]]
set_option maxHeartbeats 4000000 in
theorem take_eq0 {t : Tr} (h : TreeOk t) {l : List Pt} (hp : ∀ x ∈ l, PtOk x) : ∀ (k i : Nat) (n : Nd) (K : Int) (out : List (Int × Int)), t.nodes[i]? = some n → t.nodes.length ≤ i + k → 0 ≤ K → K ≤ 16777216 → out.length + (subF t.nodes k n.id).length ≤ 1000 →
  V 114 ([.p (.int .i64 n.id), .p (.int .i64 K)] ++ capsR) (HR t l out) = some (.tup [], HR' t l out (takeN t.nodes l (capR t l) k n.id K)) := by
 intro k
 induction k with
 | zero => intro i n K out hn hk; have := (List.getElem?_eq_some_iff.1 hn).1; omega
 | succ k ih =>
  intro i n K out hn hk hK0 hK1 hol
  have hlen := h.len
  refine V_wp (vf := vf114) rfl ?_
  have hkd := fkids_eq t n.id (by omega)
  have hkl := kidsN_len t.nodes n.id
  have hkm : ∀ c ∈ kidsN t.nodes n.id, V 116 [t.vv, .p (mapP l), .p (.int .i64 c)] [] = some (.p (.int .i64 (capR t l c)), []) := by
   intro c hc
   obtain ⟨j, m, hj, hp', rfl⟩ := mem_kidsN.1 hc
   exact mcap_eq h hp ⟨j, m, hj, rfl⟩
  have hcb : ∀ c, 0 ≤ capR t l c ∧ capR t l c ≤ 16777216 := fun c => capN_bound hp _ c
  have hsl : (subF t.nodes (k + 1) n.id).length = 1 + ((kidsN t.nodes n.id).flatMap (subF t.nodes k)).length := by rw [subF, List.length_cons]; omega
  rw [hsl] at hol
  have hrec : ∀ c ∈ kidsN t.nodes n.id, ∀ (K' : Int) (out' : List (Int × Int)), 0 ≤ K' → K' ≤ 16777216 → out'.length + (subF t.nodes k c).length ≤ 1000 → V 114 ([.p (.int .i64 c), .p (.int .i64 K')] ++ capsR) (HR t l out') = some (.tup [], HR' t l out' (takeN t.nodes l (capR t l) k c K')) := by
   intro c hc K' out' h0 h1 h2
   obtain ⟨j, m, hj, hp', rfl⟩ := mem_kidsN.1 hc
   have hij := h.kid hn hj hp'
   exact ih j m K' out' hj (by omega) h0 h1 h2
  rw [takeN]
  have hx := partOf_ok hp n.id
  have hget := mget_parts n.id l
  have hgd := getD_parts n.id l
  generalize partOf l n.id = x at hgd hx
  generalize kidsN t.nodes n.id = ks at hkd hkl hkm hrec hol
  simp -implicitDefEqProofs (disch:=omega) only [vf114,vb114,hkd,hget,hgd,HR,capsR,List.cons_append,List.nil_append,go_sem,↓reduceIte,reduceAdd,reduceSub,reduceEqDiff,reduceLeDiff,reduceCtorEq]
  obtain ⟨J, hJ⟩ : ∃ I : Nat → St → Prop, ∀ j s, I j s ↔ ∃ (w : List Int) (ww : Nat), w = x.own :: (ks.take j).map (capR t l) ∧ w.length = j + 1 ∧ s.pe 0 = .p (.int .i64 n.id) ∧ s.pe 1 = .p (.int .i64 K) ∧ s.pe 2 = .ptr (Id.arg 0 0) 0 0 ∧ s.pe 3 = .ptr (Id.arg 1 0) 0 0 ∧ s.pe 4 = .ptr (Id.arg 2 0) 0 0 ∧ s.pe 5 = .ptr (Id.arg 3 0) 0 0 ∧ s.pe 8 = .own (.slot 17 1) 0 0 ks.length ∧ s.pe 9 = .own (.slot 22 0) ww 0 w.length ∧ s.pe 23 = .own (.slot 17 1) 0 0 ks.length ∧ s.pe 24 = .p (.int .i64 ↑ks.length) ∧ s.pe 25 = .p (.int .i64 j) ∧ s.h (.arg 0 0) = some (0, Ob.box [.p (nodesP t.nodes), .p (.int .i64 t.next)]) ∧ s.h (.arg 1 0) = some (0, Ob.box [.p (mapP l)]) ∧ s.h (.arg 2 0) = some (0, Ob.box [VVal.own (Id.arg 4 0) 0 0 out.length]) ∧ s.h (.arg 3 0) = some (0, Ob.box [VVal.fn 114 [.ptr (Id.arg 0 0) 0 0, .ptr (Id.arg 1 0) 0 0, .ptr (Id.arg 2 0) 0 0, .ptr (Id.arg 3 0) 0 0]]) ∧ s.h (.arg 4 0) = some (0, Ob.arr 2 (List.map tkP out)) ∧ s.h (.slot 17 1) = some (0, Ob.arr 1 (List.map (.int .i64) ks)) ∧ s.h (.slot 22 0) = some (ww, Ob.arr 1 (w.map (.int .i64))) := ⟨_, fun _ _ => Iff.rfl⟩
  refine wp_count (ks.length) J ?_ ?_
  ·refine (hJ _ _).2 ⟨[x.own], 0, ?_, ?_, ?_, ?_, ?_, ?_, ?_, ?_, ?_, ?_, ?_, ?_, ?_, ?_, ?_, ?_, ?_, ?_, ?_, ?_⟩
   ·exact by simp
   ·rfl
   all_goals exact cl0
  intro j s hj hJk
  obtain ⟨w, ww, hw, hwl, h0, h1, h2, h3, h4, h5, h8, h9, h23, h24, h25, ha0, ha1, ha2, ha3, ha4, hh17_1, hh22_0⟩ := (hJ _ _).1 hJk
  clear hJk
  simp -implicitDefEqProofs (disch:=omega) only [h0,h1,h2,h3,h4,h5,h8,h9,h23,h24,h25,ha0,ha1,ha2,ha3,ha4,hh17_1,hh22_0,go_sem,↓reduceIte,reduceAdd,reduceSub,reduceEqDiff,reduceLeDiff,reduceCtorEq]
  refine wp_if_d (fun hlt => ?_) (fun hge => ?_)
  ·have hm : ks[j]? = some ks[j] := List.getElem?_eq_getElem hlt
   have htk := take_snoc hm
   generalize ks[j] = c at hm htk
   have hc := hkm c (List.mem_of_getElem? hm)
   simp -implicitDefEqProofs (disch:=omega) only [h0,h1,h2,h3,h4,h5,h8,h9,h23,h24,h25,ha0,ha1,ha2,ha3,ha4,hh17_1,hh22_0,hlt,hm,hc,go_sem,↓reduceIte,reduceAdd,reduceSub,reduceEqDiff,reduceLeDiff,reduceCtorEq]
   try refine And.intro (by omega) ?_
   refine (hJ _ _).2 ⟨w ++ [capR t l c], ww + 1, ?_, ?_, ?_, ?_, ?_, ?_, ?_, ?_, ?_, ?_, ?_, ?_, ?_, ?_, ?_, ?_, ?_, ?_, ?_, ?_⟩
   ·exact by rw [hw, htk]; simp
   ·exact by simp [hwl]
   all_goals exact cl0
  ·have hjl : j = ks.length := by omega
   subst hjl
   rw [List.take_length] at hw
   have hwb : ∀ x ∈ w, 0 ≤ x ∧ x ≤ 16777216 := by
    rw [hw]
    intro y hy
    rcases List.mem_cons.1 hy with rfl | hy
    ·exact ⟨hx.o0, hx.o1⟩
    ·obtain ⟨c, _, rfl⟩ := List.mem_map.1 hy
     exact hcb c
   rw [← hw]
   have hsp := split_eq K w hK0 hK1 (by omega) hwb
   have hgl := splitP_length K w
   have hgb := splitP_bound hK0 hK1 hwb
   generalize splitP K w = got at hsp hgl hgb
   rcases got with - | ⟨g0, gs⟩
   ·simp only [List.length_nil] at hgl
    omega
   have hgs : gs.length = ks.length := by
    rw [List.length_cons] at hgl
    omega
   have hg00 := (hgb g0 (by simp)).1
   have hg01 := (hgb g0 (by simp)).2
   have hgb' : ∀ z ∈ gs, 0 ≤ z ∧ z ≤ 16777216 := fun z hz => hgb z (by simp [hz])
   rw [List.headD_cons, List.tail_cons]
   obtain ⟨F, hFd⟩ : ∃ F : Int × Int → List (Int × Int), F = fun p => if 0 < p.2 then takeN t.nodes l (capR t l) k p.1 p.2 else [] := ⟨_, rfl⟩
   have hF0 : ∀ a b, 0 < b → F (a, b) = takeN t.nodes l (capR t l) k a b := fun a b hb => by rw [hFd]; exact if_pos hb
   have hF1 : ∀ a b, ¬ 0 < b → F (a, b) = [] := fun a b hb => by rw [hFd]; exact if_neg hb
   have hFl : ∀ (xs ys : List Int), ((xs.zip ys).flatMap F).length ≤ (xs.flatMap (subF t.nodes k)).length := by
    rw [hFd]
    exact zip_flat_le (f := takeN t.nodes l (capR t l) k) (g := subF t.nodes k) (takeN_length t.nodes l (capR t l) k)
   rw [← hFd]
   clear hFd
   by_cases hpos : 0 < g0
   ·rw [if_pos hpos]
    obtain ⟨res, hres⟩ : ∃ res, [(n.id, g0)] ++ (ks.zip gs).flatMap F = res := ⟨_, rfl⟩
    rw [hres]
    simp -implicitDefEqProofs (disch:=omega) only [h0,h1,h2,h3,h4,h5,h8,h9,h23,h24,h25,ha0,ha1,ha2,ha3,ha4,hh17_1,hh22_0,hge,hsp,hpos,Int.toNat_zero,List.getElem?_cons_zero,go_sem,↓reduceIte,reduceAdd,reduceSub,reduceEqDiff,reduceLeDiff,reduceCtorEq]
    obtain ⟨M, hM⟩ : ∃ I : Nat → St → Prop, ∀ m s, I m s ↔ ∃ (v39_1 : Nat) (acc : List (Int × Int)) (v : Nat) (cur : List (Int × Int)), cur = out ++ acc ∧ acc = [(n.id, g0)] ++ ((ks.zip gs).take m).flatMap F ∧ (v = 0 ↔ acc = []) ∧ s.pe 5 = .ptr (Id.arg 3 0) 0 0 ∧ s.pe 12 = .own (.slot 39 1) v39_1 0 (gs.length + 1) ∧ s.pe 52 = .own (.slot 17 1) 0 0 ks.length ∧ s.pe 53 = .p (.int .i64 ↑ks.length) ∧ s.pe 54 = .p (.int .i64 m) ∧ s.h (.arg 0 0) = some (0, Ob.box [.p (nodesP t.nodes), .p (.int .i64 t.next)]) ∧ s.h (.arg 1 0) = some (0, Ob.box [.p (mapP l)]) ∧ s.h (.arg 2 0) = some (0, Ob.box [VVal.own (Id.arg 4 0) v 0 cur.length]) ∧ s.h (.arg 3 0) = some (0, Ob.box [VVal.fn 114 [.ptr (Id.arg 0 0) 0 0, .ptr (Id.arg 1 0) 0 0, .ptr (Id.arg 2 0) 0 0, .ptr (Id.arg 3 0) 0 0]]) ∧ s.h (.arg 4 0) = some (v, Ob.arr 2 (List.map tkP cur)) ∧ s.h (.slot 17 1) = some (0, Ob.arr 1 (List.map (.int .i64) ks)) ∧ s.h (.slot 39 1) = some (v39_1, Ob.arr 1 (PV.int IntKind.i64 g0 :: List.map (.int .i64) gs)) := ⟨_, fun _ _ => Iff.rfl⟩
    refine wp_count (ks.length) M ?_ ?_
    ·refine (hM _ _).2 ⟨nv (s.h (.slot 39 1)), [(n.id, g0)], 1, out ++ [(n.id, g0)], ?_, ?_, ?_, ?_, ?_, ?_, ?_, ?_, ?_, ?_, ?_, ?_, ?_, ?_, ?_⟩
     ·exact by simp
     ·exact by simp
     ·exact by simp
     all_goals exact cl0
    intro m s hm hMk
    obtain ⟨v39_1, acc, v, cur, hcur, hacc, hav, h5, h12, h52, h53, h54, ha0, ha1, ha2, ha3, ha4, hh17_1, hh39_1⟩ := (hM _ _).1 hMk
    clear hMk
    subst hcur
    simp -implicitDefEqProofs (disch:=omega) only [h5,h12,h52,h53,h54,ha0,ha1,ha2,ha3,ha4,hh17_1,hh39_1,go_sem,↓reduceIte,reduceAdd,reduceSub,reduceEqDiff,reduceLeDiff,reduceCtorEq]
    refine wp_if_d (fun hlt => ?_) (fun hge => ?_)
    ·have hm : ks[m]? = some ks[m] := List.getElem?_eq_getElem hlt
     have hgm : gs[m]? = some gs[m] := List.getElem?_eq_getElem (by omega)
     have hzm : (ks.zip gs)[m]? = some (ks[m], gs[m]) := by rw [List.getElem?_zip_eq_some]; exact ⟨hm, hgm⟩
     have htz := take_snoc hzm
     generalize ks[m] = c at hm htz hzm
     generalize gs[m] = gk at hgm htz hzm
     have hgk := hgb' gk (List.mem_of_getElem? hgm)
     have hidx : (PV.int IntKind.i64 g0 :: List.map (PV.int .i64) gs)[(↑m + 1 : Int).toNat]? = some (.int .i64 gk) := by
      rw [show (↑m + 1 : Int).toNat = m + 1 by omega, List.getElem?_cons_succ]
      exact map_get_int hgm
     by_cases hk0 : 0 < gk
     ·have hlen' : (out ++ acc).length + (subF t.nodes k c).length ≤ 1000 := by
       have e1 := congrArg List.length hacc
       have e2 := hFl (ks.take m) (gs.take m)
       have e3 := flat_take (f := subF t.nodes k) hm
       rw [← take_zip'] at e2
       rw [List.length_append] at e1 ⊢
       simp only [List.length_singleton] at e1
       omega
      have hr := hrec c (List.mem_of_getElem? hm) gk (out ++ acc) hgk.1 hgk.2 hlen'
      have hF : F (c, gk) = takeN t.nodes l (capR t l) k c gk := hF0 _ _ hk0
      generalize takeN t.nodes l (capR t l) k c gk = more at hr hF
      unfold HR' at hr
      by_cases hmore : more = []
      ·rw [if_pos hmore] at hr
       simp only [HR, capsR, List.cons_append, List.nil_append, List.length_append] at hr
       have hacc' : acc = [(n.id, g0)] ++ ((ks.zip gs).take (m + 1)).flatMap F := by
        rw [htz, List.flatMap_append, List.flatMap_singleton, hF, hmore, List.append_nil]
        exact hacc
       simp -implicitDefEqProofs (disch:=omega) only [h5,h12,h52,h53,h54,ha0,ha1,ha2,ha3,ha4,hh17_1,hh39_1,hlt,hm,hidx,hk0,hr,go_sem,↓reduceIte,reduceAdd,reduceSub,reduceEqDiff,reduceLeDiff,reduceCtorEq]
       try refine And.intro (by omega) ?_
       refine (hM _ _).2 ⟨v39_1, acc, v, out ++ acc, ?_, ?_, ?_, ?_, ?_, ?_, ?_, ?_, ?_, ?_, ?_, ?_, ?_, ?_, ?_⟩
       ·rfl
       ·exact hacc'
       ·exact hav
       all_goals exact cl0
      ·rw [if_neg hmore] at hr
       simp only [HR, capsR, List.cons_append, List.nil_append, List.length_append] at hr
       have hacc' : acc ++ more = [(n.id, g0)] ++ ((ks.zip gs).take (m + 1)).flatMap F := by
        rw [htz, List.flatMap_append, List.flatMap_singleton, hF, ← List.append_assoc, ← hacc]
       have hass : out ++ acc ++ more = out ++ (acc ++ more) := List.append_assoc _ _ _
       rw [hass] at hr
       simp -implicitDefEqProofs (disch:=omega) only [h5,h12,h52,h53,h54,ha0,ha1,ha2,ha3,ha4,hh17_1,hh39_1,hlt,hm,hidx,hk0,hr,go_sem,↓reduceIte,reduceAdd,reduceSub,reduceEqDiff,reduceLeDiff,reduceCtorEq]
       try refine And.intro (by omega) ?_
       refine (hM _ _).2 ⟨v39_1, acc ++ more, v + 1, out ++ (acc ++ more), ?_, ?_, ?_, ?_, ?_, ?_, ?_, ?_, ?_, ?_, ?_, ?_, ?_, ?_, ?_⟩
       ·rfl
       ·exact hacc'
       ·exact by simp [hmore]
       all_goals exact cl0
     ·have hF : F (c, gk) = [] := hF1 _ _ hk0
      have hacc' : acc = [(n.id, g0)] ++ ((ks.zip gs).take (m + 1)).flatMap F := by
       rw [htz, List.flatMap_append, List.flatMap_singleton, hF, List.append_nil]
       exact hacc
      simp -implicitDefEqProofs (disch:=omega) only [h5,h12,h52,h53,h54,ha0,ha1,ha2,ha3,ha4,hh17_1,hh39_1,hlt,hm,hidx,hk0,go_sem,↓reduceIte,reduceAdd,reduceSub,reduceEqDiff,reduceLeDiff,reduceCtorEq]
      try refine And.intro (by omega) ?_
      refine (hM _ _).2 ⟨v39_1, acc, v, out ++ acc, ?_, ?_, ?_, ?_, ?_, ?_, ?_, ?_, ?_, ?_, ?_, ?_, ?_, ?_, ?_⟩
      ·rfl
      ·exact hacc'
      ·exact hav
      all_goals exact cl0
    ·rw [List.take_of_length_le (by rw [List.length_zip]; omega)] at hacc
     rw [hres] at hacc
     subst hacc
     by_cases hvz : v = 0
     ·have hn := hav.1 hvz
      subst hvz
      subst hn
      simp -implicitDefEqProofs (disch:=omega) only [h5,h12,h52,h53,h54,ha0,ha1,ha2,ha3,ha4,hh17_1,hh39_1,hge,go_sem,↓reduceIte,reduceAdd,reduceSub,reduceEqDiff,reduceLeDiff,reduceCtorEq]
      rw [HR', if_pos rfl]
     ·have hn : ¬ acc = [] := fun h => hvz (hav.2 h)
      simp -implicitDefEqProofs (disch:=omega) only [h5,h12,h52,h53,h54,ha0,ha1,ha2,ha3,ha4,hh17_1,hh39_1,hge,hvz,go_sem,↓reduceIte,reduceAdd,reduceSub,reduceEqDiff,reduceLeDiff,reduceCtorEq]
      rw [HR', if_neg hn, List.length_append]
   ·rw [if_neg hpos]
    obtain ⟨res, hres⟩ : ∃ res, [] ++ (ks.zip gs).flatMap F = res := ⟨_, rfl⟩
    rw [hres]
    simp -implicitDefEqProofs (disch:=omega) only [h0,h1,h2,h3,h4,h5,h8,h9,h23,h24,h25,ha0,ha1,ha2,ha3,ha4,hh17_1,hh22_0,hge,hsp,hpos,Int.toNat_zero,List.getElem?_cons_zero,go_sem,↓reduceIte,reduceAdd,reduceSub,reduceEqDiff,reduceLeDiff,reduceCtorEq]
    obtain ⟨M, hM⟩ : ∃ I : Nat → St → Prop, ∀ m s, I m s ↔ ∃ (v39_1 : Nat) (acc : List (Int × Int)) (v : Nat) (cur : List (Int × Int)), cur = out ++ acc ∧ acc = [] ++ ((ks.zip gs).take m).flatMap F ∧ (v = 0 ↔ acc = []) ∧ s.pe 5 = .ptr (Id.arg 3 0) 0 0 ∧ s.pe 12 = .own (.slot 39 1) v39_1 0 (gs.length + 1) ∧ s.pe 52 = .own (.slot 17 1) 0 0 ks.length ∧ s.pe 53 = .p (.int .i64 ↑ks.length) ∧ s.pe 54 = .p (.int .i64 m) ∧ s.h (.arg 0 0) = some (0, Ob.box [.p (nodesP t.nodes), .p (.int .i64 t.next)]) ∧ s.h (.arg 1 0) = some (0, Ob.box [.p (mapP l)]) ∧ s.h (.arg 2 0) = some (0, Ob.box [VVal.own (Id.arg 4 0) v 0 cur.length]) ∧ s.h (.arg 3 0) = some (0, Ob.box [VVal.fn 114 [.ptr (Id.arg 0 0) 0 0, .ptr (Id.arg 1 0) 0 0, .ptr (Id.arg 2 0) 0 0, .ptr (Id.arg 3 0) 0 0]]) ∧ s.h (.arg 4 0) = some (v, Ob.arr 2 (List.map tkP cur)) ∧ s.h (.slot 17 1) = some (0, Ob.arr 1 (List.map (.int .i64) ks)) ∧ s.h (.slot 39 1) = some (v39_1, Ob.arr 1 (PV.int IntKind.i64 g0 :: List.map (.int .i64) gs)) := ⟨_, fun _ _ => Iff.rfl⟩
    refine wp_count (ks.length) M ?_ ?_
    ·refine (hM _ _).2 ⟨nv (s.h (.slot 39 1)), [], 0, out, ?_, ?_, ?_, ?_, ?_, ?_, ?_, ?_, ?_, ?_, ?_, ?_, ?_, ?_, ?_⟩
     ·exact by simp
     ·exact by simp
     ·exact by simp
     all_goals exact cl0
    intro m s hm hMk
    obtain ⟨v39_1, acc, v, cur, hcur, hacc, hav, h5, h12, h52, h53, h54, ha0, ha1, ha2, ha3, ha4, hh17_1, hh39_1⟩ := (hM _ _).1 hMk
    clear hMk
    subst hcur
    simp -implicitDefEqProofs (disch:=omega) only [h5,h12,h52,h53,h54,ha0,ha1,ha2,ha3,ha4,hh17_1,hh39_1,go_sem,↓reduceIte,reduceAdd,reduceSub,reduceEqDiff,reduceLeDiff,reduceCtorEq]
    refine wp_if_d (fun hlt => ?_) (fun hge => ?_)
    ·have hm : ks[m]? = some ks[m] := List.getElem?_eq_getElem hlt
     have hgm : gs[m]? = some gs[m] := List.getElem?_eq_getElem (by omega)
     have hzm : (ks.zip gs)[m]? = some (ks[m], gs[m]) := by rw [List.getElem?_zip_eq_some]; exact ⟨hm, hgm⟩
     have htz := take_snoc hzm
     generalize ks[m] = c at hm htz hzm
     generalize gs[m] = gk at hgm htz hzm
     have hgk := hgb' gk (List.mem_of_getElem? hgm)
     have hidx : (PV.int IntKind.i64 g0 :: List.map (PV.int .i64) gs)[(↑m + 1 : Int).toNat]? = some (.int .i64 gk) := by
      rw [show (↑m + 1 : Int).toNat = m + 1 by omega, List.getElem?_cons_succ]
      exact map_get_int hgm
     by_cases hk0 : 0 < gk
     ·have hlen' : (out ++ acc).length + (subF t.nodes k c).length ≤ 1000 := by
       have e1 := congrArg List.length hacc
       have e2 := hFl (ks.take m) (gs.take m)
       have e3 := flat_take (f := subF t.nodes k) hm
       rw [← take_zip'] at e2
       rw [List.length_append] at e1 ⊢
       simp only [List.length_nil] at e1
       omega
      have hr := hrec c (List.mem_of_getElem? hm) gk (out ++ acc) hgk.1 hgk.2 hlen'
      have hF : F (c, gk) = takeN t.nodes l (capR t l) k c gk := hF0 _ _ hk0
      generalize takeN t.nodes l (capR t l) k c gk = more at hr hF
      unfold HR' at hr
      by_cases hmore : more = []
      ·rw [if_pos hmore] at hr
       simp only [HR, capsR, List.cons_append, List.nil_append, List.length_append] at hr
       have hacc' : acc = [] ++ ((ks.zip gs).take (m + 1)).flatMap F := by
        rw [htz, List.flatMap_append, List.flatMap_singleton, hF, hmore, List.append_nil]
        exact hacc
       simp -implicitDefEqProofs (disch:=omega) only [h5,h12,h52,h53,h54,ha0,ha1,ha2,ha3,ha4,hh17_1,hh39_1,hlt,hm,hidx,hk0,hr,go_sem,↓reduceIte,reduceAdd,reduceSub,reduceEqDiff,reduceLeDiff,reduceCtorEq]
       try refine And.intro (by omega) ?_
       refine (hM _ _).2 ⟨v39_1, acc, v, out ++ acc, ?_, ?_, ?_, ?_, ?_, ?_, ?_, ?_, ?_, ?_, ?_, ?_, ?_, ?_, ?_⟩
       ·rfl
       ·exact hacc'
       ·exact hav
       all_goals exact cl0
      ·rw [if_neg hmore] at hr
       simp only [HR, capsR, List.cons_append, List.nil_append, List.length_append] at hr
       have hacc' : acc ++ more = [] ++ ((ks.zip gs).take (m + 1)).flatMap F := by
        rw [htz, List.flatMap_append, List.flatMap_singleton, hF, ← List.append_assoc, ← hacc]
       have hass : out ++ acc ++ more = out ++ (acc ++ more) := List.append_assoc _ _ _
       rw [hass] at hr
       simp -implicitDefEqProofs (disch:=omega) only [h5,h12,h52,h53,h54,ha0,ha1,ha2,ha3,ha4,hh17_1,hh39_1,hlt,hm,hidx,hk0,hr,go_sem,↓reduceIte,reduceAdd,reduceSub,reduceEqDiff,reduceLeDiff,reduceCtorEq]
       try refine And.intro (by omega) ?_
       refine (hM _ _).2 ⟨v39_1, acc ++ more, v + 1, out ++ (acc ++ more), ?_, ?_, ?_, ?_, ?_, ?_, ?_, ?_, ?_, ?_, ?_, ?_, ?_, ?_, ?_⟩
       ·rfl
       ·exact hacc'
       ·exact by simp [hmore]
       all_goals exact cl0
     ·have hF : F (c, gk) = [] := hF1 _ _ hk0
      have hacc' : acc = [] ++ ((ks.zip gs).take (m + 1)).flatMap F := by
       rw [htz, List.flatMap_append, List.flatMap_singleton, hF, List.append_nil]
       exact hacc
      simp -implicitDefEqProofs (disch:=omega) only [h5,h12,h52,h53,h54,ha0,ha1,ha2,ha3,ha4,hh17_1,hh39_1,hlt,hm,hidx,hk0,go_sem,↓reduceIte,reduceAdd,reduceSub,reduceEqDiff,reduceLeDiff,reduceCtorEq]
      try refine And.intro (by omega) ?_
      refine (hM _ _).2 ⟨v39_1, acc, v, out ++ acc, ?_, ?_, ?_, ?_, ?_, ?_, ?_, ?_, ?_, ?_, ?_, ?_, ?_, ?_, ?_⟩
      ·rfl
      ·exact hacc'
      ·exact hav
      all_goals exact cl0
    ·rw [List.take_of_length_le (by rw [List.length_zip]; omega)] at hacc
     rw [hres] at hacc
     subst hacc
     by_cases hvz : v = 0
     ·have hn := hav.1 hvz
      subst hvz
      subst hn
      simp -implicitDefEqProofs (disch:=omega) only [h5,h12,h52,h53,h54,ha0,ha1,ha2,ha3,ha4,hh17_1,hh39_1,hge,go_sem,↓reduceIte,reduceAdd,reduceSub,reduceEqDiff,reduceLeDiff,reduceCtorEq]
      rw [HR', if_pos rfl]
     ·have hn : ¬ acc = [] := fun h => hvz (hav.2 h)
      simp -implicitDefEqProofs (disch:=omega) only [h5,h12,h52,h53,h54,ha0,ha1,ha2,ha3,ha4,hh17_1,hh39_1,hge,hvz,go_sem,↓reduceIte,reduceAdd,reduceSub,reduceEqDiff,reduceLeDiff,reduceCtorEq]
      rw [HR', if_neg hn, List.length_append]
theorem zip_sub {f : Int → Int → List (Int × Int)} {g : Int → List Int} (h : ∀ a b, List.Sublist ((f a b).map Prod.fst) (g a)) : ∀ (xs ys : List Int), List.Sublist (((xs.zip ys).flatMap fun p => if 0 < p.2 then f p.1 p.2 else []).map Prod.fst) (xs.flatMap g)
 | [], _ => by simp
 | _ :: _, [] => by simp
 | x :: xs, y :: ys => by
  have h1 := zip_sub h xs ys
  rw [List.zip_cons_cons, List.flatMap_cons, List.flatMap_cons, List.map_append]
  refine List.Sublist.append ?_ h1
  show List.Sublist ((if 0 < y then f x y else []).map Prod.fst) (g x)
  split
  ·exact h x y
  ·simp
theorem takeN_sub (ns : List Nd) (l : List Pt) (cap : Int → Int) : ∀ (k : Nat) (g K : Int), List.Sublist ((takeN ns l cap k g K).map Prod.fst) (subF ns k g)
 | 0, _, _ => by simp [takeN]
 | k + 1, g, K => by
  have h1 := zip_sub (f := takeN ns l cap k) (g := subF ns k) (takeN_sub ns l cap k) (kidsN ns g) (splitP K ((partOf l g).own :: (kidsN ns g).map cap)).tail
  rw [takeN, subF, List.map_append]
  split
  ·exact List.Sublist.cons_cons _ h1
  ·exact List.Sublist.cons _ h1
def tsort (ps : List (Int × Int)) : List (Int × Int) := ps.mergeSort fun x y => decide (x.1 ≤ y.1)
theorem mapO_unPair : ∀ (l : List (Int × Int)), mapO unPair (l.map tkP) = some l
 | [] => rfl
 | x :: l => by
  rw [List.map_cons]
  show ob (some (x.1, x.2)) (fun y => ob (mapO unPair (List.map tkP l)) fun ys => some (y :: ys)) = _
  rw [mapO_unPair l, ob_some, ob_some]
theorem sortF_eq (l : List (Int × Int)) (hl : l.length < 1000000) (hb : ∀ p ∈ l, 0 ≤ p.1 ∧ p.1 < 4611686018427387904) (hn : (l.map Prod.fst).Nodup) : V 118 [.own (.arg 0 0) 0 0 l.length, .p (.fn 119)] [.arr 2 (l.map tkP)] = some (.tup [], [.arr 2 ((tsort l).map tkP)]) := by
 refine V_x ?_
 have h1 : l.length = (l.map tkP).length := by simp
 have h2 : l.length < 4611686018427387904 := by omega
 have hne : ¬ 118 = 110 := by decide
 simp only [XS, if_neg hne, if_pos, XP, gd, if_pos h1, if_pos h2, mapO_unPair, ob_some, if_pos hb, if_pos hn, tsort]
abbrev takeR (t : Tr) (l : List Pt) (g K : Int) : List (Int × Int) := takeN t.nodes l (capR t l) t.nodes.length g K
def RoundP (t : Tr) (l : List Pt) (root n : Int) : List (Int × Int) × Int := if validP t l root = true then (if pagesB n = true then (tsort (takeR t l root (min n (capR t l root))), 0) else ([], 3)) else ([], 1)
theorem takeR_ok {t : Tr} (h : TreeOk t) {l : List Pt} {g : Int} (hg : InN t.nodes g) (K : Int) : (takeR t l g K).length ≤ 64 ∧ (∀ p ∈ takeR t l g K, 0 ≤ p.1 ∧ p.1 < 4611686018427387904) ∧ ((takeR t l g K).map Prod.fst).Nodup := by
 obtain ⟨i, n, hn, rfl⟩ := hg
 have hs := takeN_sub t.nodes l (capR t l) t.nodes.length n.id K
 have hl : (takeR t l n.id K).length ≤ _ := takeN_length t.nodes l (capR t l) t.nodes.length n.id K
 have hl2 := subF_length h hn (k := t.nodes.length) (by omega)
 have hlen := h.len
 refine ⟨by omega, fun p hp => ?_, hs.nodup (nodup_subF h _ i n hn (by omega))⟩
 have h1 := hs.subset (List.mem_map.2 ⟨p, hp, rfl⟩)
 obtain ⟨j, m, hm, he, _⟩ := (mem_subF h _ i n hn (by omega) _).1 h1
 have hmm := List.mem_of_getElem? hm
 have h2 := h.lt_next m hmm
 obtain ⟨_, _, _, h3⟩ := h.next
 have h4 := h.pos m hmm
 omega
set_option maxHeartbeats 4000000 in
theorem round_eq (t : Tr) (l : List Pt) (root n : Int) (hf : t.Fits) (hn : t.nodes.length < 1000000) (hl : l.length < 1000000) : V 95 [t.vv, .p (ptsP l), .p (.int .i64 root), .p (.int .i64 n)] [] = some (.tup [.fresh 2 ((RoundP t l root n).1.map tkP), .p (.int .i64 (RoundP t l root n).2)], []) := by
 refine V_wp (vf := vf95) rfl ?_
 have hv := pvalid_parts t l root hf hn hl
 have hpg := pages_eq n
 unfold RoundP
 by_cases h : validP t l root = true
 ·have hP := (validP_iff t l root).1 h
  have hm := mparts_eq l hl hP.nodup
  have hc := mcap_eq hP.tree hP.ok hP.top
  rw [h] at hv
  rw [if_pos h]
  by_cases hpn : pagesB n = true
  ·rw [if_pos hpn]
   rw [hpn] at hpg
   have hnb : 0 ≤ n ∧ n ≤ 16777216 := by simpa [pagesB] using hpn
   have hcb : 0 ≤ capR t l root ∧ capR t l root ≤ 16777216 := capN_bound (ns := t.nodes) hP.ok t.nodes.length root
   have htk : V 114 ([.p (.int .i64 root), .p (.int .i64 (min n (capR t l root)))] ++ capsR) (HR t l []) = some (.tup [], HR' t l [] (takeR t l root (min n (capR t l root)))) := by
    obtain ⟨i, r, hr, he⟩ := hP.top
    subst he
    have hl2 := subF_length hP.tree hr (k := t.nodes.length) (by omega)
    have hlen := hP.tree.len
    exact take_eq0 hP.tree hP.ok _ i r _ [] hr (by omega) (by omega) (by omega) (by simp only [List.length_nil]; omega)
   obtain ⟨hr1, hr2, hr3⟩ := takeR_ok (l := l) hP.tree hP.top (min n (capR t l root))
   generalize takeR t l root (min n (capR t l root)) = res at htk hr1 hr2 hr3
   have hso := sortF_eq res (by omega) hr2 hr3
   unfold HR' at htk
   by_cases hre : res = []
   ·rw [if_pos hre] at htk
    simp only [HR, capsR, List.cons_append, List.nil_append, List.length_nil, List.map_nil] at htk
    subst hre
    simp only [List.length_nil, List.map_nil] at hso
    simp -implicitDefEqProofs (disch:=omega) only [vf95,vb95,hv,hpg,hm,hc,htk,hso,go_sem,↓reduceIte,reduceAdd,reduceSub,reduceEqDiff,reduceLeDiff,reduceCtorEq]
    simp [tsort]
   ·rw [if_neg hre] at htk
    simp only [HR, capsR, List.cons_append, List.nil_append, List.length_nil, List.map_nil] at htk
    simp -implicitDefEqProofs (disch:=omega) only [vf95,vb95,hv,hpg,hm,hc,htk,hso,go_sem,↓reduceIte,reduceAdd,reduceSub,reduceEqDiff,reduceLeDiff,reduceCtorEq]
    rw [List.take_of_length_le (by simp [tsort])]
  ·have hpn' : pagesB n = false := by simpa using hpn
   rw [if_neg hpn]
   rw [hpn'] at hpg
   simp -implicitDefEqProofs (disch:=omega) only [vf95,vb95,hv,hpg,go_sem,↓reduceIte,reduceAdd,reduceSub,reduceEqDiff,reduceLeDiff,reduceCtorEq]
 ·have h' : validP t l root = false := by simpa using h
  rw [h'] at hv
  rw [if_neg h]
  simp -implicitDefEqProofs (disch:=omega) only [vf95,vb95,hv,go_sem,↓reduceIte,reduceAdd,reduceSub,reduceEqDiff,reduceLeDiff,reduceCtorEq]
def takenP (t : Tr) (l : List (Int × Int)) (id : Int) : Int := sumI (l.map fun p => if id ∈ ancR t p.1 then p.2 else 0)
theorem ancR_len (t : Tr) (id : Int) : (ancR t id).length ≤ t.nodes.length := by
 unfold ancR
 split
 ·unfold up
  have := upR_length t.nodes.reverse id
  simpa using this
 ·simp
def capF (x : Pt) (s : Int) : Int := min (min (max 0 (x.usage - x.protect)) x.room) (x.own + s)
theorem capN_succ (ns : List Nd) (l : List Pt) (k : Nat) (g : Int) : capN ns l (k + 1) g = capF (partOf l g) (sumI ((kidsN ns g).map (capN ns l k))) := rfl
theorem msort_of {l : List Int} (h : l.Pairwise fun a b => a ≤ b) : msort l = l := List.mergeSort_of_pairwise (h.imp fun h => decide_eq_true h)
theorem tsort_of {l : List (Int × Int)} (h : l.Pairwise fun a b => a.1 ≤ b.1) : tsort l = l := List.mergeSort_of_pairwise (h.imp fun h => decide_eq_true h)
theorem PartsOk.set {t : Tr} {p : List Pt} {root : Int} (h : PartsOk t p root) {j : Nat} {x x' : Pt} (hj : p[j]? = some x) (hx : PtOk x') (hg : x'.group = x.group) : PartsOk t (p.set j x') root := by
 refine ⟨h.tree, h.top, ?_, fun y hy => ?_⟩
 ·rw [← h.groups, List.map_set]
  apply List.ext_getElem?
  intro i
  rw [List.getElem?_set]
  split
  ·rename_i e
   subst e
   rw [List.length_map, List.getElem?_map, hj]
   simp [hg, (List.getElem?_eq_some_iff.1 hj).1]
  ·rfl
 ·rcases List.mem_or_eq_of_mem_set hy with h1 | h1
  ·exact h.ok y h1
  ·rw [h1]; exact hx
def cntB : List Int → List Int → Int
 | o :: os, w :: ws => (if o < w then 1 else 0) + cntB os ws
 | _, _ => 0
theorem cntB_nonneg : ∀ (o w : List Int), 0 ≤ cntB o w
 | o :: os, w :: ws => by
  have := cntB_nonneg os ws
  unfold cntB
  split <;> omega
 | [], _ => by unfold cntB; omega
 | _ :: _, [] => by unfold cntB; omega
theorem bumpD_sum : ∀ (left : Int) (o w : List Int), 0 ≤ left → left ≤ cntB o w → sumI (bumpD left o w) = sumI o + left
 | left, o :: os, w :: ws, h0, h1 => by
  have hc := cntB_nonneg os ws
  unfold cntB at h1
  unfold bumpD
  by_cases h : 0 < left ∧ o < w
  ·rw [if_pos h]
   rw [if_pos h.2] at h1
   have := bumpD_sum (left - 1) os ws (by omega) (by omega)
   simp only [sumI, this]
   omega
  ·rw [if_neg h]
   have : left ≤ cntB os ws := by
    by_cases h2 : o < w
    ·omega
    ·rw [if_neg h2] at h1
     omega
   have := bumpD_sum left os ws h0 this
   simp only [sumI, this]
   omega
 | left, [], w, h0, h1 => by
  unfold cntB at h1
  unfold bumpD
  omega
 | left, o :: os, [], h0, h1 => by
  unfold cntB at h1
  unfold bumpD
  omega
theorem bumpD_at : ∀ (left : Int) (o w : List Int) (i : Nat) (a b : Int), o[i]? = some a → w[i]? = some b → ∃ z, (bumpD left o w)[i]? = some z ∧ (z = a ∨ (z = a + 1 ∧ a < b))
 | left, o :: os, w :: ws, 0, a, b, ha, hb => by
  simp only [List.getElem?_cons_zero, Option.some.injEq] at ha hb
  subst ha
  subst hb
  unfold bumpD
  by_cases h : 0 < left ∧ o < w
  ·rw [if_pos h]
   exact ⟨o + 1, rfl, Or.inr ⟨rfl, h.2⟩⟩
  ·rw [if_neg h]
   exact ⟨o, rfl, Or.inl rfl⟩
 | left, o :: os, w :: ws, i + 1, a, b, ha, hb => by
  simp only [List.getElem?_cons_succ] at ha hb
  have h1 := bumpD_at (left - 1) os ws i a b ha hb
  have h2 := bumpD_at left os ws i a b ha hb
  unfold bumpD
  split
  ·simpa using h1
  ·simpa using h2
 | _, [], _, _, _, _, ha, _ => by simp at ha
 | _, _ :: _, [], _, _, _, _, hb => by simp at hb
theorem base_sum (K y : Int) : ∀ (w : List Int), sumI (baseD K y w) * y + sumI (w.map fun x => K * x % y) = K * sumI w
 | [] => by simp [baseD, sumI]
 | x :: w => by
  have ih := base_sum K y w
  have h := Int.mul_ediv_add_emod (K * x) y
  have hc : y * (K * x / y) = K * x / y * y := Int.mul_comm _ _
  simp only [baseD, List.map_cons, sumI, Int.add_mul, Int.mul_add] at ih ⊢
  omega
theorem mod_sum {K y : Int} (hK : 0 ≤ K) (hy : K < y) : ∀ (w : List Int), (∀ x ∈ w, 0 ≤ x) → 0 ≤ sumI (w.map fun x => K * x % y) ∧ sumI (w.map fun x => K * x % y) ≤ (y - 1) * cntB (baseD K y w) w
 | [], _ => by simp [sumI, baseD, cntB]
 | x :: w, hw => by
  have ih := mod_sum hK hy w (fun z hz => hw z (by simp [hz]))
  have hx := hw x (by simp)
  have h0 := Int.emod_nonneg (K * x) (show y ≠ 0 by omega)
  have h1 := Int.emod_lt_of_pos (K * x) (show 0 < y by omega)
  simp only [List.map_cons, sumI, baseD, cntB] at ih ⊢
  refine ⟨by omega, ?_⟩
  by_cases hx0 : x = 0
  ·subst hx0
   rw [Int.mul_zero, Int.zero_emod, Int.zero_ediv, if_neg (by omega), Int.zero_add, Int.zero_add]
   exact ih.2
  ·have hlt : K * x / y < x := by
    refine Int.ediv_lt_of_lt_mul (by omega) ?_
    rw [Int.mul_comm K x]
    exact Int.mul_lt_mul_of_pos_left hy (by omega)
   rw [if_pos hlt, Int.mul_add, Int.mul_one]
   omega
theorem base_full {y : Int} (hy : 0 < y) (w : List Int) : baseD y y w = w := by
 unfold baseD
 conv => rhs; rw [← List.map_id w]
 exact List.map_congr_left fun x _ => Int.mul_ediv_cancel_left x (by omega)
theorem sumI_zeros : ∀ (w : List Int), sumI (w.map fun _ => 0) = 0
 | [] => rfl
 | x :: w => by
  have := sumI_zeros w
  simp only [List.map_cons, sumI, this]
  omega
theorem split_sum {K : Int} {w : List Int} (hw : ∀ x ∈ w, 0 ≤ x) (h0 : 0 ≤ K) (h1 : K ≤ sumI w) : sumI (splitP K w) = K := by
 unfold splitP
 by_cases hz : sumI w = 0
 ·rw [if_pos hz, sumI_zeros]
  omega
 ·rw [if_neg hz]
  have hy : 0 < sumI w := by
   have := sumI_nonneg w hw
   omega
  have hb := base_sum K (sumI w) w
  rw [bumpD_sum]
  ·omega
  ·by_cases hK : K < sumI w
   ·have hm := (mod_sum h0 hK w hw).1
    have : sumI (baseD K (sumI w) w) * sumI w ≤ K * sumI w := by omega
    have := Int.le_of_mul_le_mul_right this hy
    omega
   ·have : K = sumI w := by omega
    subst this
    rw [base_full hy]
    omega
  ·by_cases hK : K < sumI w
   ·have hm := (mod_sum h0 hK w hw).2
    have hc := cntB_nonneg (baseD K (sumI w) w) w
    generalize cntB (baseD K (sumI w) w) w = c at hm hc
    generalize sumI (baseD K (sumI w) w) = b at hb
    generalize sumI (w.map fun x => K * x % sumI w) = m at hb hm
    generalize sumI w = y at hb hm hy
    refine Int.not_lt.1 fun hlt => ?_
    have h2 : y * (c + 1) ≤ y * (K - b) := Int.mul_le_mul_of_nonneg_left (by omega) (by omega)
    rw [Int.mul_add, Int.mul_one, Int.mul_sub, Int.mul_comm y b, Int.mul_comm y K] at h2
    rw [Int.sub_mul, Int.one_mul] at hm
    omega
   ·have : K = sumI w := by omega
    subst this
    rw [base_full hy]
    have := cntB_nonneg w w
    omega
theorem split_at {K : Int} {w : List Int} (hw : ∀ x ∈ w, 0 ≤ x) (h0 : 0 ≤ K) (h1 : K ≤ sumI w) {i : Nat} {x : Int} (hi : w[i]? = some x) : ∃ z, (splitP K w)[i]? = some z ∧ 0 ≤ z ∧ z ≤ x ∧ (0 < sumI w → z * sumI w ≤ K * x + sumI w ∧ K * x - sumI w + 1 ≤ z * sumI w) := by
 have hx := hw x (List.mem_of_getElem? hi)
 unfold splitP
 by_cases hz : sumI w = 0
 ·rw [if_pos hz]
  refine ⟨0, by rw [List.getElem?_map, hi]; rfl, by omega, hx, fun h => by omega⟩
 ·rw [if_neg hz]
  have hy : 0 < sumI w := by
   have := sumI_nonneg w hw
   omega
  obtain ⟨z, hz1, hz2⟩ := bumpD_at (K - sumI (baseD K (sumI w) w)) (baseD K (sumI w) w) w i (K * x / sumI w) x (by rw [baseD, List.getElem?_map, hi]; rfl) hi
  refine ⟨z, hz1, ?_⟩
  generalize sumI w = y at hy h1 hz2
  have hKx : 0 ≤ K * x := Int.mul_nonneg h0 hx
  have hq0 : 0 ≤ K * x / y := Int.ediv_nonneg hKx (by omega)
  have hqx : K * x / y ≤ x := by
   refine Int.ediv_le_of_le_mul hy ?_
   rw [Int.mul_comm K x]
   exact Int.mul_le_mul_of_nonneg_left h1 hx
  have hd := Int.mul_ediv_add_emod (K * x) y
  have hm0 := Int.emod_nonneg (K * x) (show y ≠ 0 by omega)
  have hm1 := Int.emod_lt_of_pos (K * x) hy
  rw [Int.mul_comm] at hd
  generalize K * x / y = q at hz2 hq0 hqx hd
  generalize K * x % y = m at hd hm0 hm1
  rcases hz2 with rfl | ⟨rfl, hlt⟩
  ·refine ⟨hq0, hqx, fun _ => ⟨by omega, by omega⟩⟩
  ·refine ⟨by omega, by omega, fun _ => ?_⟩
   rw [Int.add_mul, Int.one_mul]
   omega
theorem up_anc' {t : Tr} (h : TreeOk t) : ∀ (i : Nat) (n : Nd), t.nodes[i]? = some n → ∀ m, i < m → m ≤ t.nodes.length → upR ((t.nodes.take m).reverse) n.id = ancF t.nodes t.nodes.length n.id := by
 intro i
 induction i using Nat.strongRecOn with
 | _ i ih =>
  intro n hn m
  induction m with
  | zero => intro hi; omega
  | succ m ihm =>
   intro hi hm
   have hx : t.nodes[m]? = some t.nodes[m] := List.getElem?_eq_getElem (by omega)
   have htk : t.nodes.take (m + 1) = t.nodes.take m ++ [t.nodes[m]] := by rw [List.take_add_one, hx]; rfl
   generalize t.nodes[m] = x at hx htk
   rw [htk, List.reverse_append]
   simp only [List.reverse_cons, List.reverse_nil, List.nil_append, List.cons_append, upR]
   by_cases he : x.id = n.id
   ·obtain ⟨rfl, rfl⟩ := h.idx hx hn he
    rw [if_pos rfl, ancF_cons h hn]
    congr 1
    rcases h.nodeAt hn with ⟨h0, _⟩ | ⟨h0, _, j, p, hj, hp, hpe⟩
    ·subst h0
     simp [upR]
    ·rw [if_neg (by omega), ← hpe]
     exact ih j hj p hp m hj (by omega)
   ·rw [if_neg he]
    have : i ≠ m := by
     rintro rfl
     rw [hx] at hn
     cases hn
     exact he rfl
    exact ihm (by omega) (by omega)
theorem ancR_anc {t : Tr} (h : TreeOk t) {i : Nat} {n : Nd} (hn : t.nodes[i]? = some n) : ancR t n.id = ancF t.nodes t.nodes.length n.id := by
 rw [ancR, show findT t n.id = findN t.nodes n.id by simp [findT, (treeOk_iff t).2 h], findN_unique h.inc hn]
 simp only [Option.isSome_some, if_true]
 unfold up
 have := up_anc' h i n hn t.nodes.length (List.getElem?_eq_some_iff.1 hn).1 (Nat.le_refl _)
 rwa [List.take_length] at this
theorem root_anc {t : Tr} (h : TreeOk t) : ∀ (j : Nat) (m : Nd), t.nodes[j]? = some m → (1 : Int) ∈ ancF t.nodes t.nodes.length m.id := by
 intro j
 induction j using Nat.strongRecOn with
 | _ j ih =>
  intro m hm
  rcases h.nodeAt hm with ⟨_, h1, _⟩ | ⟨_, _, i, p, hi, hp, hpe⟩
  ·rw [← h1]; exact anc_self h hm
  ·exact (anc_iff h hm _).2 (Or.inr ⟨by omega, by rw [← hpe]; exact ih i hi p hp⟩)
theorem capN_fuel {t : Tr} (h : TreeOk t) (l : List Pt) : ∀ (k k' i : Nat) (n : Nd), t.nodes[i]? = some n → t.nodes.length ≤ i + k → t.nodes.length ≤ i + k' → capN t.nodes l k n.id = capN t.nodes l k' n.id := by
 intro k
 induction k with
 | zero => intro k' i n hn hk; have := (List.getElem?_eq_some_iff.1 hn).1; omega
 | succ k ih =>
  intro k' i n hn hk hk'
  cases k' with
  | zero => have := (List.getElem?_eq_some_iff.1 hn).1; omega
  | succ k' =>
   rw [capN_succ, capN_succ]
   congr 1
   refine sumI_congr fun c hc => ?_
   obtain ⟨j, m, hj, hp, rfl⟩ := mem_kidsN.1 hc
   have hij := h.kid hn hj hp
   exact ih k' j m hj (by omega) (by omega)
theorem anc_trans {t : Tr} (h : TreeOk t) : ∀ (i : Nat) (n : Nd), t.nodes[i]? = some n → ∀ (j : Nat) (m : Nd), t.nodes[j]? = some m → m.id ∈ ancF t.nodes t.nodes.length n.id → ∀ c ∈ ancF t.nodes t.nodes.length m.id, c ∈ ancF t.nodes t.nodes.length n.id := by
 intro i
 induction i using Nat.strongRecOn with
 | _ i ih =>
  intro n hn j m hm ha c hc
  rcases (anc_iff h hn m.id).1 ha with he | ⟨hi, ha⟩
  ·rw [he] at hc
   exact hc
  ·refine (anc_iff h hn c).2 (Or.inr ⟨hi, ?_⟩)
   rcases h.nodeAt hn with ⟨h0, _⟩ | ⟨_, _, j', p, hj', hp, he⟩
   ·exact absurd h0 hi
   ·rw [← he] at ha ⊢
    exact ih j' hj' p hp j m hm ha c hc
abbrev subA (t : Tr) (id : Int) : List Int := subF t.nodes t.nodes.length id
theorem subA_in {t : Tr} (h : TreeOk t) {g x : Int} (hg : InN t.nodes g) (hx : x ∈ subA t g) : InN t.nodes x := by
 obtain ⟨i, n, hn, rfl⟩ := hg
 obtain ⟨j, m, hj, he, _⟩ := (mem_subF h _ i n hn (by omega) x).1 hx
 exact ⟨j, m, hj, he⟩
theorem subA_self {t : Tr} (h : TreeOk t) {g : Int} (hg : InN t.nodes g) : g ∈ subA t g := by
 rw [subA, subF_step h hg]
 simp
theorem subA_sub {t : Tr} (h : TreeOk t) {g c x : Int} (hg : InN t.nodes g) (hc : c ∈ subA t g) (hx : x ∈ subA t c) : x ∈ subA t g := by
 obtain ⟨i, n, hn, rfl⟩ := hg
 obtain ⟨j, m, hj, rfl, ha⟩ := (mem_subF h _ i n hn (by omega) c).1 hc
 obtain ⟨j', m', hj', rfl, ha'⟩ := (mem_subF h _ j m hj (by omega) x).1 hx
 exact (mem_subF h _ i n hn (by omega) _).2 ⟨j', m', hj', rfl, anc_trans h j' m' hj' j m hj ha' _ ha⟩
theorem mem_anc {t : Tr} (h : TreeOk t) {g x : Int} (hg : InN t.nodes g) (hx : InN t.nodes x) : g ∈ ancR t x ↔ x ∈ subA t g := by
 obtain ⟨i, n, hn, rfl⟩ := hg
 obtain ⟨j, m, hj, rfl⟩ := hx
 rw [ancR_anc h hj, mem_subF h _ i n hn (by omega)]
 constructor
 ·exact fun ha => ⟨j, m, hj, rfl, ha⟩
 ·rintro ⟨j', m', hj', he, ha⟩
  rw [← he]
  exact ha
theorem kid_in {t : Tr} {g c : Int} (hc : c ∈ kidsN t.nodes g) : InN t.nodes c := by
 obtain ⟨j, m, hj, _, rfl⟩ := mem_kidsN.1 hc
 exact ⟨j, m, hj, rfl⟩
theorem subA_cons {t : Tr} (h : TreeOk t) {g : Int} (hg : InN t.nodes g) : subA t g = g :: (kidsN t.nodes g).flatMap (subA t) := subF_step h hg
theorem subA_nodup {t : Tr} (h : TreeOk t) {g : Int} (hg : InN t.nodes g) : (subA t g).Nodup := by
 obtain ⟨i, n, hn, rfl⟩ := hg
 exact nodup_subF h _ i n hn (by omega)
theorem capR_step {t : Tr} (h : TreeOk t) (l : List Pt) {g : Int} (hg : InN t.nodes g) : capR t l g = capF (partOf l g) (sumI ((kidsN t.nodes g).map (capR t l))) := by
 obtain ⟨i, n, hn, rfl⟩ := hg
 have hl := (List.getElem?_eq_some_iff.1 hn).1
 rw [capR, capN_fuel h l t.nodes.length (t.nodes.length + 1) i n hn (by omega) (by omega), capN_succ]
def sumOn (S : List Int) (l : List (Int × Int)) : Int := sumI (l.map fun p => if p.1 ∈ S then p.2 else 0)
theorem sumOn_append (S : List Int) (a b : List (Int × Int)) : sumOn S (a ++ b) = sumOn S a + sumOn S b := by
 rw [sumOn, List.map_append, sumI_append]
 rfl
theorem sumOn_zero {S : List Int} : ∀ {l : List (Int × Int)}, (∀ q ∈ l, q.1 ∉ S) → sumOn S l = 0
 | [], _ => rfl
 | q :: l, h => by
  have ih := sumOn_zero (l := l) fun q hq => h q (by simp [hq])
  have h1 := h q (by simp)
  rw [sumOn] at ih ⊢
  rw [List.map_cons, if_neg h1, sumI, ih]
  rfl
theorem sumOn_all {S : List Int} : ∀ {l : List (Int × Int)}, (∀ q ∈ l, q.1 ∈ S) → sumOn S l = sumI (l.map Prod.snd)
 | [], _ => rfl
 | q :: l, h => by
  have ih := sumOn_all (l := l) fun q hq => h q (by simp [hq])
  have h1 := h q (by simp)
  rw [sumOn] at ih ⊢
  rw [List.map_cons, if_pos h1, sumI, ih, List.map_cons, sumI]
theorem sumI_perm {a b : List Int} (h : a.Perm b) : sumI a = sumI b := by
 induction h with
 | nil => rfl
 | cons x _ ih => simp only [sumI, ih]
 | swap x y l => simp only [sumI]; omega
 | trans _ _ ih1 ih2 => rw [ih1, ih2]
theorem sumOn_perm {S : List Int} {a b : List (Int × Int)} (h : a.Perm b) : sumOn S a = sumOn S b := sumI_perm (h.map _)
theorem sumOn_nonneg {S : List Int} {l : List (Int × Int)} (h : ∀ q ∈ l, 0 ≤ q.2) : 0 ≤ sumOn S l := by
 refine sumI_map_nonneg _ fun q hq => ?_
 have := h q hq
 split <;> omega
theorem sumOn_cons {x : Int} {S : List Int} (hx : x ∉ S) : ∀ (l : List (Int × Int)), sumOn (x :: S) l = sumOn [x] l + sumOn S l
 | [] => rfl
 | q :: l => by
  have ih := sumOn_cons hx l
  simp only [sumOn, List.map_cons, sumI, List.mem_cons, List.not_mem_nil, or_false] at ih ⊢
  by_cases h1 : q.1 = x
  ·simp only [h1, true_or, if_true, if_neg hx] at ih ⊢
   omega
  ·simp only [h1, false_or, if_false] at ih ⊢
   omega
theorem zip_groups {F : Int × Int → List (Int × Int)} {G : Int → List Int} (hF : ∀ p, ∀ q ∈ F p, q.1 ∈ G p.1) : ∀ (ks gs : List Int), ∀ q ∈ (ks.zip gs).flatMap F, q.1 ∈ ks.flatMap G := by
 intro ks gs q hq
 obtain ⟨p, hp, hq⟩ := List.mem_flatMap.1 hq
 exact List.mem_flatMap.2 ⟨p.1, (List.of_mem_zip hp).1, hF p q hq⟩
theorem sumOn_zip {S : List Int} {F : Int × Int → List (Int × Int)} {G : Int → List Int} (hF : ∀ p, ∀ q ∈ F p, q.1 ∈ G p.1) : ∀ (ks gs : List Int) (j : Nat) (c gk : Int), (ks.flatMap G).Nodup → ks[j]? = some c → gs[j]? = some gk → (∀ x ∈ S, x ∈ G c) → sumOn S ((ks.zip gs).flatMap F) = sumOn S (F (c, gk))
 | [], _, _, _, _, _, h, _, _ => by simp at h
 | _ :: _, [], _, _, _, _, _, h, _ => by simp at h
 | k0 :: ks, g0 :: gs, 0, c, gk, hn, hk, hg, hS => by
  simp only [List.getElem?_cons_zero, Option.some.injEq] at hk hg
  subst hk
  subst hg
  rw [List.flatMap_cons] at hn
  obtain ⟨_, _, h3⟩ := List.nodup_append.1 hn
  rw [List.zip_cons_cons, List.flatMap_cons, sumOn_append, sumOn_zero (l := (ks.zip gs).flatMap F), Int.add_zero]
  intro q hq hqS
  exact h3 q.1 (hS _ hqS) q.1 (zip_groups hF ks gs q hq) rfl
 | k0 :: ks, g0 :: gs, j + 1, c, gk, hn, hk, hg, hS => by
  simp only [List.getElem?_cons_succ] at hk hg
  rw [List.flatMap_cons] at hn
  obtain ⟨_, h2, h3⟩ := List.nodup_append.1 hn
  rw [List.zip_cons_cons, List.flatMap_cons, sumOn_append, sumOn_zero (l := F (k0, g0)), Int.zero_add]
  ·exact sumOn_zip hF ks gs j c gk h2 hk hg hS
  ·intro q hq hqS
   exact h3 q.1 (hF _ q hq) q.1 (List.mem_flatMap.2 ⟨c, List.mem_of_getElem? hk, hS _ hqS⟩) rfl
theorem zip_sum {F : Int × Int → List (Int × Int)} : ∀ (ks gs : List Int), gs.length = ks.length → (∀ (j : Nat) (c gk : Int), ks[j]? = some c → gs[j]? = some gk → sumI ((F (c, gk)).map Prod.snd) = gk) → sumI (((ks.zip gs).flatMap F).map Prod.snd) = sumI gs
 | [], [], _, _ => rfl
 | [], _ :: _, h, _ => by simp at h
 | _ :: _, [], h, _ => by simp at h
 | k :: ks, g :: gs, hl, h => by
  have ih := zip_sum (F := F) ks gs (by simpa using hl) fun j c gk hc hg => h (j + 1) c gk (by simpa using hc) (by simpa using hg)
  have h0 := h 0 k g rfl rfl
  rw [List.zip_cons_cons, List.flatMap_cons, List.map_append, sumI_append, ih, h0]
  rfl
structure TakeOk (t : Tr) (l : List Pt) (k : Nat) (g K : Int) : Prop where
 all : sumI ((takeN t.nodes l (capR t l) k g K).map Prod.snd) = K
 own : ∀ q ∈ takeN t.nodes l (capR t l) k g K, 0 < q.2 ∧ q.2 ≤ (partOf l q.1).own
 sub : ∀ c ∈ subF t.nodes k g, sumOn (subA t c) (takeN t.nodes l (capR t l) k g K) ≤ capR t l c
theorem cap_le_sum {t : Tr} (h : TreeOk t) {l : List Pt} {g : Int} (hg : InN t.nodes g) : capR t l g ≤ sumI ((partOf l g).own :: (kidsN t.nodes g).map (capR t l)) := by
 rw [capR_step h l hg, capF, sumI]
 omega
theorem shares_nonneg {t : Tr} {l : List Pt} (hp : ∀ x ∈ l, PtOk x) (g : Int) (ks : List Int) : ∀ x ∈ (partOf l g).own :: ks.map (capR t l), 0 ≤ x := by
 intro x hx
 rcases List.mem_cons.1 hx with rfl | hx
 ·exact (partOf_ok hp g).o0
 ·obtain ⟨c, _, rfl⟩ := List.mem_map.1 hx
  exact (capN_bound (ns := t.nodes) hp t.nodes.length c).1
theorem takeN_groups (ns : List Nd) (l : List Pt) (cap : Int → Int) (k : Nat) (g K : Int) : ∀ q ∈ takeN ns l cap k g K, q.1 ∈ subF ns k g := fun _ hq => (takeN_sub ns l cap k g K).subset (List.mem_map.2 ⟨_, hq, rfl⟩)
theorem take_main {t : Tr} (h : TreeOk t) {l : List Pt} (hp : ∀ x ∈ l, PtOk x) : ∀ (k i : Nat) (n : Nd) (K : Int), t.nodes[i]? = some n → t.nodes.length ≤ i + k → 0 ≤ K → K ≤ capR t l n.id →
  TakeOk t l k n.id K ∧ ∀ (m k' : Nat) (c : Int), k = k' + 1 → (kidsN t.nodes n.id)[m]? = some c → ∃ z, (splitP K ((partOf l n.id).own :: (kidsN t.nodes n.id).map (capR t l)))[m + 1]? = some z ∧ sumOn (subA t c) (takeN t.nodes l (capR t l) k n.id K) = z := by
 intro k
 induction k with
 | zero => intro i n K hn hk; have := (List.getElem?_eq_some_iff.1 hn).1; omega
 | succ k ih =>
  intro i n K hn hk h0 h1
  have hin : InN t.nodes n.id := ⟨i, n, hn, rfl⟩
  have hnn := shares_nonneg (t := t) hp n.id (kidsN t.nodes n.id)
  have hle := Int.le_trans h1 (cap_le_sum h (l := l) hin)
  have hsum := split_sum hnn h0 hle
  have hat := fun (j : Nat) (x : Int) hj => split_at hnn h0 hle (i := j) (x := x) hj
  have hsl := splitP_length K ((partOf l n.id).own :: (kidsN t.nodes n.id).map (capR t l))
  have hnd := subA_nodup h hin
  rw [subA_cons h hin, List.nodup_cons] at hnd
  have hkf : ∀ c ∈ kidsN t.nodes n.id, subF t.nodes k c = subA t c := by
   intro c hc
   obtain ⟨j, m, hj, hpar, rfl⟩ := mem_kidsN.1 hc
   have hij := h.kid hn hj hpar
   exact subF_fuel h k t.nodes.length j m hj (by omega) (by omega)
  have hfl : (kidsN t.nodes n.id).flatMap (subF t.nodes k) = (kidsN t.nodes n.id).flatMap (subA t) := flatMap_congr_mem hkf
  have hrec : ∀ c ∈ kidsN t.nodes n.id, ∀ K', 0 ≤ K' → K' ≤ capR t l c → TakeOk t l k c K' := by
   intro c hc K' h0' h1'
   obtain ⟨j, m, hj, hpar, rfl⟩ := mem_kidsN.1 hc
   have hij := h.kid hn hj hpar
   exact (ih j m K' hj (by omega) h0' h1').1
  generalize hsp : splitP K ((partOf l n.id).own :: (kidsN t.nodes n.id).map (capR t l)) = sp at hsum hat hsl
  rcases sp with - | ⟨g0, gs⟩
  ·simp at hsl
  have hgl : gs.length = (kidsN t.nodes n.id).length := by simpa using hsl
  have hg0 : 0 ≤ g0 ∧ g0 ≤ (partOf l n.id).own := by
   obtain ⟨z, hz, a, b, _⟩ := hat 0 _ rfl
   have : g0 = z := by simpa using hz
   subst this
   exact ⟨a, b⟩
  have hgs : ∀ (j : Nat) (c gk : Int), (kidsN t.nodes n.id)[j]? = some c → gs[j]? = some gk → 0 ≤ gk ∧ gk ≤ capR t l c := by
   intro j c gk hc hg
   obtain ⟨z, hz, a, b, _⟩ := hat (j + 1) (capR t l c) (by rw [List.getElem?_cons_succ, List.getElem?_map, hc]; rfl)
   rw [List.getElem?_cons_succ, hg] at hz
   simp only [Option.some.injEq] at hz
   subst hz
   exact ⟨a, b⟩
  have htk : takeN t.nodes l (capR t l) (k + 1) n.id K = (if 0 < g0 then [(n.id, g0)] else []) ++ ((kidsN t.nodes n.id).zip gs).flatMap fun p => if 0 < p.2 then takeN t.nodes l (capR t l) k p.1 p.2 else [] := by
   rw [takeN, hsp]
   rfl
  obtain ⟨F, hF⟩ : ∃ F : Int × Int → List (Int × Int), F = fun p => if 0 < p.2 then takeN t.nodes l (capR t l) k p.1 p.2 else [] := ⟨_, rfl⟩
  rw [← hF] at htk
  have hFp : ∀ a b, 0 < b → F (a, b) = takeN t.nodes l (capR t l) k a b := fun a b hb => by rw [hF]; exact if_pos hb
  have hFn : ∀ a b, ¬ 0 < b → F (a, b) = [] := fun a b hb => by rw [hF]; exact if_neg hb
  have hFg : ∀ p, ∀ q ∈ F p, q.1 ∈ subF t.nodes k p.1 := by
   intro p q hq
   by_cases hb : 0 < p.2
   ·rw [hFp _ _ hb] at hq
    exact takeN_groups _ _ _ _ _ _ q hq
   ·rw [hFn _ _ hb] at hq
    simp at hq
  have hFs : ∀ (j : Nat) (c gk : Int), (kidsN t.nodes n.id)[j]? = some c → gs[j]? = some gk → sumI ((F (c, gk)).map Prod.snd) = gk := by
   intro j c gk hc hg
   have hb := hgs j c gk hc hg
   by_cases hpos : 0 < gk
   ·rw [hFp _ _ hpos]
    exact (hrec c (List.mem_of_getElem? hc) gk hb.1 hb.2).all
   ·rw [hFn _ _ hpos]
    simp only [List.map_nil, sumI]
    omega
  have hgrp : ∀ q ∈ ((kidsN t.nodes n.id).zip gs).flatMap F, q.1 ∈ (kidsN t.nodes n.id).flatMap (subA t) := fun q hq => hfl ▸ zip_groups hFg _ _ q hq
  have hz := zip_sum (F := F) _ _ hgl hFs
  have hhead : ∀ S : List Int, n.id ∉ S → sumOn S (if 0 < g0 then [(n.id, g0)] else []) = 0 := fun S hS => sumOn_zero fun q hq => by
   split at hq
   ·have : q = (n.id, g0) := by simpa using hq
    rw [this]
    exact hS
   ·simp at hq
  have hone : ∀ (j : Nat) (c gk : Int), (kidsN t.nodes n.id)[j]? = some c → gs[j]? = some gk → ∀ S : List Int, (∀ x ∈ S, x ∈ subA t c) → sumOn S (takeN t.nodes l (capR t l) (k + 1) n.id K) = sumOn S (F (c, gk)) := by
   intro j c gk hc hg S hS
   have hcm := List.mem_of_getElem? hc
   rw [htk, sumOn_append, hhead S (fun hx => hnd.1 (List.mem_flatMap.2 ⟨c, hcm, hS _ hx⟩)), Int.zero_add]
   exact sumOn_zip hFg _ _ j c gk (hfl ▸ hnd.2) hc hg (fun x hx => by rw [hkf c hcm]; exact hS x hx)
  have hall : sumI ((takeN t.nodes l (capR t l) (k + 1) n.id K).map Prod.snd) = K := by
   rw [htk, List.map_append, sumI_append, hz]
   simp only [sumI] at hsum
   split
   ·simp only [List.map_cons, List.map_nil, sumI]
    omega
   ·simp only [List.map_nil, sumI]
    omega
  refine ⟨⟨hall, fun q hq => ?_, fun c hc => ?_⟩, fun m k' c _ hc => ?_⟩
  ·rw [htk] at hq
   rcases List.mem_append.1 hq with hq | hq
   ·split at hq
    ·have : q = (n.id, g0) := by simpa using hq
     subst this
     exact ⟨by assumption, hg0.2⟩
    ·simp at hq
   ·obtain ⟨p, hpz, hq⟩ := List.mem_flatMap.1 hq
    by_cases hb : 0 < p.2
    ·rw [hFp _ _ hb] at hq
     obtain ⟨j, hj⟩ := List.getElem?_of_mem hpz
     have hzz : (kidsN t.nodes n.id)[j]? = some p.1 ∧ gs[j]? = some p.2 := by
      rw [List.getElem?_zip_eq_some] at hj
      exact hj
     have hb2 := hgs j _ _ hzz.1 hzz.2
     exact (hrec p.1 (List.mem_of_getElem? hzz.1) p.2 hb2.1 hb2.2).own q hq
    ·rw [hFn _ _ hb] at hq
     simp at hq
  ·rw [subF, List.mem_cons] at hc
   rcases hc with rfl | hc
   ·rw [sumOn_all (fun q hq => ?_), hall]
    ·exact h1
    ·rw [subA_cons h hin]
     have := takeN_groups _ _ _ _ _ _ q hq
     rw [subF, hfl] at this
     exact this
   ·obtain ⟨d, hd, hc⟩ := List.mem_flatMap.1 hc
    obtain ⟨j, hj⟩ := List.getElem?_of_mem hd
    have hjl := (List.getElem?_eq_some_iff.1 hj).1
    have hg : gs[j]? = some gs[j] := List.getElem?_eq_getElem (by omega)
    generalize gs[j] = gk at hg
    have hb := hgs j d gk hj hg
    rw [hone j d gk hj hg _ (fun x hx => subA_sub h (kid_in hd) (by rw [← hkf d hd]; exact hc) hx)]
    by_cases hpos : 0 < gk
    ·rw [hFp _ _ hpos]
     exact (hrec d hd gk hb.1 hb.2).sub c hc
    ·rw [hFn _ _ hpos]
     exact (capN_bound (ns := t.nodes) hp t.nodes.length c).1
  ·have hjl := (List.getElem?_eq_some_iff.1 hc).1
   have hg : gs[m]? = some gs[m] := List.getElem?_eq_getElem (by omega)
   generalize gs[m] = gk at hg
   refine ⟨gk, by rw [List.getElem?_cons_succ, hg], ?_⟩
   have hb := hgs m c gk hc hg
   have hcm := List.mem_of_getElem? hc
   rw [hone m c gk hc hg _ (fun x hx => hx)]
   refine (sumOn_all fun q hq => ?_).trans (hFs m c gk hc hg)
   have := hFg (c, gk) q hq
   rw [hkf c hcm] at this
   exact this
end Go.V
