/- The law CounterFull in the value machine. -/
import Derived.Test.YtcljahgcdbohaaaVM1
set_option linter.unusedSimpArgs false
set_option linter.unusedVariables false
namespace Go.V

def fullT : Tr := ⟨[⟨1, 0, ⟨#[]⟩, 0, 0, 0⟩, ⟨2, 1, ⟨#[97]⟩, 0, 0, 0⟩], 3⟩
theorem fullT_ok : TreeOk fullT := (treeOk_iff _).1 (by rfl)
theorem fullT_tot1 (f : Int → Int) : tot fullT f 1 = f 1 + f 2 := by
  have : subF fullT.nodes fullT.nodes.length 1 = [1, 2] := by rfl
  simp [tot, this, sumI]
theorem fullT_tot2 (f : Int → Int) : tot fullT f 2 = f 2 := by
  have : subF fullT.nodes fullT.nodes.length 2 = [2] := by rfl
  simp [tot, this, sumI]
theorem fullT_anc : ancF fullT.nodes fullT.nodes.length 2 = [2, 1] := by rfl
theorem fullT_k1 : knownN fullT.nodes 1 = true := by rfl
theorem fullT_k2 : knownN fullT.nodes 2 = true := by rfl

theorem AddK_eq {t : Tr} (h : TreeOk t) {c : List Ch} (hc : ChOk t.nodes c) {id : Int} (hk : knownN t.nodes id = true) (m : Int) : AddK t c id m = addK t c id m := by
  obtain ⟨n, hn, rfl⟩ := findN_some hk
  obtain ⟨i, hi⟩ := List.getElem?_of_mem hn
  rw [AddK, if_pos (checkK_zero.2 ⟨h, hc, i, n, hi, rfl⟩)]
theorem ChargeK_eq {t : Tr} (h : TreeOk t) {c : List Ch} (hc : ChOk t.nodes c) {l : List Ch} (hl : ascOk (knownN t.nodes) 0 4611686018427387904 none l = true) {id : Int} (hk : knownN t.nodes id = true) {n : Int} (hn : 0 ≤ n) : ChargeK t c l id n =
    if (addK t c id n).2 ≠ 0 ∨ n = 0 then ((addK t c id n).1, 0, (addK t c id n).2)
       else match (ancF t.nodes t.nodes.length id).find? (refuses t c l n) with
        | some g => ([], g, 11)
        | none => ((addK t c id n).1, 0, 0) := by
  obtain ⟨m, hm, rfl⟩ := findN_some hk
  obtain ⟨i, hi⟩ := List.getElem?_of_mem hm
  unfold ChargeK
  rw [if_pos ⟨(validK_iff t c).2 ⟨h, hc⟩, by rw [validLK, (treeOk_iff t).2 h, hl]; rfl⟩, if_pos (checkK_zero.2 ⟨h, hc, i, m, hi, rfl⟩), if_neg (by omega)]
  rfl

structure FullC (n : Int) (c : List Ch) : Prop where
  ok : ChOk fullT.nodes c
  o1 : ownC c 1 = 0
  o2 : ownC c 2 = n

theorem full1 {n : Int} (h0 : 0 ≤ n) (h1 : n < 16777212) : ∃ c, AddK fullT [] 2 n = (c, 0) ∧ FullC n c := by
  refine ⟨withC [] 2 n, ?_, ?_, ?_, ?_⟩
  · rw [AddK_eq fullT_ok (ChOk.nil _) fullT_k2, addK, fullT_tot1]
    simp only [ownC, Int.zero_add]
    rw [if_neg (by omega), if_neg (by omega)]
  · exact (ChOk.nil _).with (by rfl) h0 (by simp [sumI, ownC]; omega)
  · rw [withC_own]; rfl
  · rw [withC_own]; rfl

theorem full2 {n : Int} (h0 : 0 ≤ n) (h1 : n < 16777212) {c : List Ch} (hc : FullC n c) : ∃ x, AddK fullT c 1 (16777216 - n) = (x, 0) ∧ ChOk fullT.nodes x ∧ ownC x 1 = 16777216 - n ∧ AddK fullT x 1 1 = ([], 7) := by
  have e1 : AddK fullT c 1 (16777216 - n) = (withC c 1 (16777216 - n), 0) := by
    rw [AddK_eq fullT_ok hc.ok fullT_k1, addK, fullT_tot1, hc.o1, hc.o2, if_neg (by omega), if_neg (by omega)]
    simp
  have hx : ChOk fullT.nodes (withC c 1 (16777216 - n)) := by
    have := AddK_ok (t := fullT) (c := c) (id := 1) (n := 16777216 - n) (by rw [e1])
    rw [e1] at this
    exact this
  refine ⟨_, e1, hx, by rw [withC_own]; rfl, ?_⟩
  have a1 : ownC (withC c 1 (16777216 - n)) 1 = 16777216 - n := by rw [withC_own]; rfl
  have a2 : ownC (withC c 1 (16777216 - n)) 2 = n := by rw [withC_own, if_neg (by decide)]; exact hc.o2
  rw [AddK_eq fullT_ok hx fullT_k1, addK, fullT_tot1, a1, a2, if_neg (by omega), if_pos (by omega)]

theorem full_add {n m : Int} (h0 : 0 ≤ n) (h1 : n < 16777212) {c : List Ch} (hc : FullC n c) (hm : 0 ≤ m) (hm4 : m ≤ 4) : addK fullT c 2 m = (withC c 2 (n + m), 0) := by
  rw [addK, fullT_tot1, hc.o1, hc.o2, if_neg (by omega), if_neg (by omega)]
theorem full4 {n : Int} (h0 : 0 ≤ n) (h1 : n < 16777212) {c : List Ch} (hc : FullC n c) : ∃ x, ChargeK fullT c [⟨1, n + 3⟩] 2 3 = (x, 0, 0) := by
  rw [ChargeK_eq fullT_ok hc.ok (by simp only [ascOk, fullT_k1, prevOk, Bool.true_and, Bool.and_true]; exact decide_eq_true (by omega)) fullT_k2 (by omega), full_add h0 h1 hc (by omega) (by omega), fullT_anc]
  refine ⟨withC c 2 (n + 3), ?_⟩
  simp only [List.find?_cons, List.find?_nil, refuses, lookC, fullT_tot1, fullT_tot2, hc.o1, hc.o2]
  rw [if_neg (by omega)]
  simp
theorem full5 {n : Int} (h0 : 0 ≤ n) (h1 : n < 16777212) {c : List Ch} (hc : FullC n c) : ChargeK fullT c [⟨1, n + 3⟩, ⟨2, 4611686018427387904⟩] 2 4 = ([], 1, 11) := by
  rw [ChargeK_eq fullT_ok hc.ok (by simp only [ascOk, fullT_k1, fullT_k2, prevOk, Bool.true_and, Bool.and_true]; simp; omega) fullT_k2 (by omega), full_add h0 h1 hc (by omega) (by omega), fullT_anc]
  simp only [List.find?_cons, List.find?_nil, refuses, lookC, fullT_tot1, fullT_tot2, hc.o1, hc.o2]
  rw [if_neg (by omega)]
  have e1 : ¬ (4611686018427387904 : Int) < n + 4 := by omega
  have e2 : n + 3 < 0 + n + 4 := by omega
  simp [e1, e2]
theorem full6 {n : Int} (h0 : 0 ≤ n) (h1 : n < 16777212) {c : List Ch} (hc : FullC n c) : ChargeK fullT c [⟨1, 0⟩] 2 0 = (c, 0, 0) := by
  rw [ChargeK_eq fullT_ok hc.ok (by simp only [ascOk, fullT_k1, prevOk, Bool.true_and, Bool.and_true]; rfl) fullT_k2 (by omega), full_add h0 h1 hc (by omega) (by omega)]
  rw [if_pos (Or.inr rfl)]
  have : withC c 2 (n + 0) = c := by
    have hw : ChOk fullT.nodes (withC c 2 (n + 0)) := hc.ok.with (by rfl) (by omega) (by rw [hc.o2]; have := hc.ok.all; omega)
    refine ch_ext _ _ hw.inc hc.ok.inc hw.pos hc.ok.pos fun x => ?_
    rw [withC_own]
    by_cases hx : x = 2
    · subst hx; simp [hc.o2]
    · simp [hx]
  rw [this]
theorem full7 {n : Int} (h0 : 0 ≤ n) (h1 : n < 16777212) {c : List Ch} (hc : FullC n c) : AddK fullT c 2 (0 - n - 1) = ([], 3) := by
  rw [AddK_eq fullT_ok hc.ok fullT_k2, addK, hc.o2, if_pos (by omega)]

set_option maxHeartbeats 4000000 in
theorem counterFull_eq (n : Int) : V 14 [.p (.int .i64 n)] [] = some (.p (.bool true), []) := by
  refine V_wp (vf := vf14) rfl ?_
  have r1 := roll_eq [n]
  have r2 : V 27 [.ptr (.arg 0 0) 0 0, .p (.int .i64 16777212)] [.box [.p (intsP [n]), .p (.int .i64 0)]] = some (.p (.int .i64 (nextV [n] 0 16777212)), [diceB [n] (nextA [n] 0 16777212)]) := next_eq [n] 0 16777212 (by simp) (by omega)
  have n0 := nextV_nonneg [n] 0 16777212
  have n1 := nextV_lt [n] 0 (n := 16777212) (by omega)
  generalize nextV [n] 0 16777212 = m at r2 n0 n1
  generalize nextA [n] 0 16777212 = a at r2
  obtain ⟨c, e1, hc⟩ := full1 n0 n1
  obtain ⟨x, e2, hx, o1, e3⟩ := full2 n0 n1 hc
  obtain ⟨y, e4⟩ := full4 n0 n1 hc
  have e5 := full5 n0 n1 hc
  have e6 := full6 n0 n1 hc
  have e7 := full7 n0 n1 hc
  have hcl := hc.ok.length
  have hxl := hx.length
  have hfl : fullT.nodes.length = 2 := rfl
  have c1 := Add_eq fullT [] 2 m fullT_ok.fits (by decide) (by decide)
  have c2 := Add_eq fullT c 1 (16777216 - m) fullT_ok.fits (by decide) (by omega)
  have c3 := Add_eq fullT x 1 1 fullT_ok.fits (by decide) (by omega)
  have c4 := charge_eq fullT c [⟨1, m + 3⟩] 2 3 fullT_ok.fits (by decide) (by omega) (by simp)
  have c5 := charge_eq fullT c [⟨1, m + 3⟩, ⟨2, 4611686018427387904⟩] 2 4 fullT_ok.fits (by decide) (by omega) (by simp)
  have c6 := charge_eq fullT c [⟨1, 0⟩] 2 0 fullT_ok.fits (by decide) (by omega) (by decide)
  have c7 := Add_eq fullT c 2 (0 - m - 1) fullT_ok.fits (by decide) (by omega)
  have c8 := own_eq x 1 (by omega)
  have c9 := same_eq c c (by omega)
  rw [e1] at c1
  rw [e2] at c2
  rw [e3] at c3
  rw [e4] at c4
  rw [e5] at c5
  rw [e6] at c6
  rw [e7] at c7
  rw [o1] at c8
  simp only [fullT, Tr.vv, nodesP, intsP, diceB, chsP, ctrV, ctrF, List.map_cons, List.map_nil, Nd.pv, Ch.pv, decide_true] at r1 r2 c1 c2 c3 c4 c5 c6 c7 c8 c9
  have z1 : IntKind.i64.wrap (16777216 - m) = 16777216 - m := wrap64 (by omega) (by omega)
  simp -implicitDefEqProofs (disch := omega) only [vf14, vb14, r1, r2, c1, c2, c3, c4, c5, c6, c7, c8, c9, sane22_eq, go_sem, ↓reduceIte, Nat.reduceAdd, Nat.reduceSub, Nat.reduceEqDiff, Nat.reduceLeDiff, reduceCtorEq]
end Go.V

