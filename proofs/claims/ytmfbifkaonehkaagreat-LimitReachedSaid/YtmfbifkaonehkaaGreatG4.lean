/- Part 4 of the proof. -/
import Derived.Test.YtmfbifkaonehkaaGreatG3
set_option linter.unusedSimpArgs false
set_option linter.unusedVariables false
open Nat (reduceAdd reduceSub reduceEqDiff reduceLeDiff)
namespace Go.V
theorem tks_flat (l : List (Int × Int)) : (l.map tkP).all PV.flat = true := by
 rw [List.all_eq_true]
 intro x hx
 obtain ⟨n, _, rfl⟩ := List.mem_map.1 hx
 rfl
attribute [go_sem] tks_flat
structure RoundOk (t : Tr) (l : List Pt) (root K : Int) (a : List (Int × Int)) : Prop where
 groups : ∀ q ∈ a, q.1 ∈ subA t root
 pos : ∀ q ∈ a, 0 < q.2 ∧ q.2 ≤ (partOf l q.1).own
 inc : a.Pairwise fun x y => x.1 < y.1
 len : a.length ≤ 64
 on : ∀ c, InN t.nodes c → takenP t a c = sumOn (subA t c) a
 top : takenP t a root = K
 sub : ∀ c ∈ subA t root, takenP t a c ≤ capR t l c
 kid : ∀ (m : Nat) (c : Int), (kidsN t.nodes root)[m]? = some c → ∃ z, (splitP K ((partOf l root).own :: (kidsN t.nodes root).map (capR t l)))[m + 1]? = some z ∧ takenP t a c = z
theorem taken_on {t : Tr} (h : TreeOk t) {c : Int} (hc : InN t.nodes c) : ∀ {a : List (Int × Int)}, (∀ q ∈ a, InN t.nodes q.1) → takenP t a c = sumOn (subA t c) a := by
 intro a ha
 refine sumI_congr fun q hq => ?_
 have := mem_anc h hc (ha q hq)
 by_cases hh : c ∈ ancR t q.1
 ·rw [if_pos hh, if_pos (this.1 hh)]
 ·rw [if_neg hh, if_neg (fun x => hh (this.2 x))]
theorem tsort_perm (l : List (Int × Int)) : (tsort l).Perm l := List.mergeSort_perm _ _
theorem tsort_inc {l : List (Int × Int)} (h : (l.map Prod.fst).Nodup) : (tsort l).Pairwise fun x y => x.1 < y.1 := by
 have h1 : (tsort l).Pairwise fun a b => decide (a.1 ≤ b.1) = true := List.pairwise_mergeSort (fun a b c h1 h2 => by simp only [decide_eq_true_eq] at *; omega) (fun a b => by simp only [Bool.or_eq_true, decide_eq_true_eq]; omega) l
 have h2 : ((tsort l).map Prod.fst).Nodup := ((tsort_perm l).map _).nodup_iff.2 h
 have h3 : (tsort l).Pairwise fun a b => a.1 ≠ b.1 := by
  rw [List.Nodup, List.pairwise_map] at h2
  exact h2
 refine (h1.and h3).imp ?_
 rintro a b ⟨h1, h2⟩
 simp only [decide_eq_true_eq] at h1
 omega
theorem round_ok {t : Tr} {l : List Pt} {root n : Int} (hP : PartsOk t l root) (h0 : 0 ≤ n) (h1 : n ≤ 16777216) : ∃ a, RoundP t l root n = (a, 0) ∧ RoundOk t l root (min n (capR t l root)) a := by
 have hT := hP.tree
 have hcb : 0 ≤ capR t l root ∧ capR t l root ≤ 16777216 := capN_bound (ns := t.nodes) hP.ok t.nodes.length root
 refine ⟨tsort (takeR t l root (min n (capR t l root))), by rw [RoundP, if_pos ((validP_iff t l root).2 hP), if_pos (by simp [pagesB, h0, h1])], ?_⟩
 obtain ⟨hr1, hr2, hr3⟩ := takeR_ok (l := l) hT hP.top (min n (capR t l root))
 obtain ⟨i, m, hm, he⟩ := hP.top
 have hin := hP.top
 have hml := (List.getElem?_eq_some_iff.1 hm).1
 have hmain := take_main hT hP.ok t.nodes.length i m (min n (capR t l root)) hm (by omega) (by have := hcb.1; omega) (by rw [he]; omega)
 rw [he] at hmain
 obtain ⟨hM, hK⟩ := hmain
 have hg : ∀ q ∈ takeR t l root (min n (capR t l root)), q.1 ∈ subA t root := takeN_groups _ _ _ _ _ _
 have hp := tsort_perm (takeR t l root (min n (capR t l root)))
 have hg' : ∀ q ∈ tsort (takeR t l root (min n (capR t l root))), q.1 ∈ subA t root := fun q hq => hg q (hp.mem_iff.1 hq)
 have hon : ∀ c, InN t.nodes c → takenP t (tsort (takeR t l root (min n (capR t l root)))) c = sumOn (subA t c) (tsort (takeR t l root (min n (capR t l root)))) := fun c hc => taken_on hT hc fun q hq => subA_in hT hin (hg' q hq)
 refine ⟨hg', fun q hq => hM.own q (hp.mem_iff.1 hq), tsort_inc hr3, by rw [hp.length_eq]; exact hr1, hon, ?_, fun c hc => ?_, fun j c hj => ?_⟩
 ·rw [hon root hin, sumOn_perm hp, sumOn_all hg]
  exact hM.all
 ·rw [hon c (subA_in hT hin hc), sumOn_perm hp]
  exact hM.sub c hc
 ·have hl : t.nodes.length = (t.nodes.length - 1) + 1 := by omega
  obtain ⟨z, hz1, hz2⟩ := hK j (t.nodes.length - 1) c hl hj
  exact ⟨z, hz1, by rw [hon c (kid_in (List.mem_of_getElem? hj)), sumOn_perm hp]; exact hz2⟩
theorem cap_le {t : Tr} (h : TreeOk t) {l : List Pt} {g : Int} (hg : InN t.nodes g) : capR t l g ≤ (partOf l g).room ∧ capR t l g ≤ max 0 ((partOf l g).usage - (partOf l g).protect) := by
 rw [capR_step h l hg, capF]
 omega
theorem kid_sub {t : Tr} (h : TreeOk t) {g c : Int} (hg : InN t.nodes g) (hc : c ∈ kidsN t.nodes g) : c ∈ subA t g := by
 rw [subA_cons h hg]
 exact List.mem_cons_of_mem _ (List.mem_flatMap.2 ⟨c, hc, subA_self h (kid_in hc)⟩)
theorem sumOn_one {g : Int} : ∀ {a : List (Int × Int)}, (a.Pairwise fun x y => x.1 < y.1) → sumOn [g] a = 0 ∨ ∃ q ∈ a, q.1 = g ∧ sumOn [g] a = q.2
 | [], _ => Or.inl rfl
 | p :: a, h => by
  obtain ⟨h1, h2⟩ := List.pairwise_cons.1 h
  have hs : sumOn [g] (p :: a) = (if p.1 ∈ [g] then p.2 else 0) + sumOn [g] a := rfl
  by_cases hp : p.1 = g
  ·have hz : sumOn [g] a = 0 := sumOn_zero fun q hq => by
    have := h1 q hq
    simp only [List.mem_singleton]
    omega
   rw [hs, hz, if_pos (by simp [hp])]
   exact Or.inr ⟨p, by simp, hp, by omega⟩
  ·rw [hs, if_neg (by simpa using hp), Int.zero_add]
   rcases sumOn_one (g := g) h2 with h3 | ⟨q, hq, h3, h4⟩
   ·exact Or.inl h3
   ·exact Or.inr ⟨q, by simp [hq], h3, h4⟩
theorem own_taken {t : Tr} {l : List Pt} {root K : Int} {a : List (Int × Int)} (hl : ∀ x ∈ l, PtOk x) (h : RoundOk t l root K a) (g : Int) : 0 ≤ sumOn [g] a ∧ sumOn [g] a ≤ (partOf l g).own := by
 have h0 := (partOf_ok hl g).o0
 rcases sumOn_one (g := g) h.inc with h1 | ⟨q, hq, h1, h2⟩
 ·omega
 ·have := h.pos q hq
  rw [h1] at this
  omega
theorem sumOn_take {S : List Int} {a : List (Int × Int)} (h : ∀ q ∈ a, 0 ≤ q.2) (j : Nat) : sumOn S (a.take j) ≤ sumOn S a := by
 refine sumI_take_le a j fun q hq => ?_
 have := h q hq
 split <;> omega
theorem taken_nonneg {t : Tr} {l : List Pt} {root K : Int} {a : List (Int × Int)} (h : RoundOk t l root K a) (g : Int) : 0 ≤ takenP t a g := sumI_map_nonneg _ fun q hq => by
 have := (h.pos q hq).1
 split <;> omega
theorem sumI_sub (f g : Int → Int) : ∀ (ks : List Int), sumI (ks.map fun c => f c - g c) = sumI (ks.map f) - sumI (ks.map g)
 | [] => rfl
 | c :: ks => by
  have := sumI_sub f g ks
  simp only [List.map_cons, sumI, this]
  omega
def memF (l : List Hg) (g : Int) : Int := (getS l g).file + (getS l g).anon
def swpF (l : List Hg) (g : Int) : Int := (getS l g).swap
def cntS (l : List Hg) : List Ch := (l.filter fun h => decide (h.file + h.anon ≠ 0)).map fun h => ⟨h.group, h.file + h.anon⟩
theorem cntS_cons (h : Hg) (l : List Hg) : cntS (h :: l) = (if h.file + h.anon = 0 then [] else [⟨h.group, h.file + h.anon⟩]) ++ cntS l := by
 unfold cntS
 by_cases hn : h.file + h.anon = 0
 ·rw [List.filter_cons_of_neg (by simpa using hn), if_pos hn]
  rfl
 ·rw [List.filter_cons_of_pos (by simpa using hn), if_neg hn]
  rfl
theorem cntS_own : ∀ {l : List Hg}, (l.Pairwise fun a b => a.group < b.group) → ∀ g, ownC (cntS l) g = memF l g
 | [], _, g => rfl
 | h :: l, hi, g => by
  obtain ⟨h0, h1⟩ := List.pairwise_cons.1 hi
  have ih := cntS_own h1 g
  have hz : h.group = g → ownC (cntS l) g = 0 := fun e => ownC_zero fun c hc => by
   obtain ⟨x, hx, rfl⟩ := List.mem_map.1 hc
   have := h0 x (List.mem_filter.1 hx).1
   show x.group ≠ g
   omega
  have hm : memF (h :: l) g = if h.group = g then h.file + h.anon else memF l g := by
   unfold memF
   rw [show getS (h :: l) g = if h.group = g then h else getS l g from rfl]
   split <;> rfl
  rw [cntS_cons, hm]
  by_cases hg : h.group = g
  ·rw [if_pos hg]
   by_cases hn : h.file + h.anon = 0
   ·rw [if_pos hn, List.nil_append, hz hg, hn]
   ·rw [if_neg hn, List.singleton_append, ownC, if_pos hg]
  ·rw [if_neg hg]
   by_cases hn : h.file + h.anon = 0
   ·rw [if_pos hn, List.nil_append, ih]
   ·rw [if_neg hn, List.singleton_append, ownC, if_neg hg, ih]
theorem cntS_sum : ∀ (l : List Hg), sumI ((cntS l).map (·.own)) = sumI (l.map fun h => h.file + h.anon)
 | [] => rfl
 | h :: l => by
  have ih := cntS_sum l
  rw [cntS_cons, List.map_append, sumI_append, ih, List.map_cons, sumI]
  by_cases hn : h.file + h.anon = 0
  ·rw [if_pos hn]
   simp only [List.map_nil, sumI]
   omega
  ·rw [if_neg hn]
   simp only [List.map_cons, List.map_nil, sumI]
   omega
theorem cntS_ok {ns : List Nd} {z : Int} {l : List Hg} (h : HgOk ns z l) : ChOk ns (cntS l) := by
 refine ⟨fun c hc => ?_, ?_, fun c hc => ?_, by rw [cntS_sum]; exact h.mem⟩
 ·obtain ⟨x, hx, rfl⟩ := List.mem_map.1 hc
  exact h.known x (List.mem_filter.1 hx).1
 ·unfold cntS
  rw [List.pairwise_map]
  exact h.inc.sublist List.filter_sublist
 ·obtain ⟨x, hx, rfl⟩ := List.mem_map.1 hc
  obtain ⟨h1, h2⟩ := List.mem_filter.1 hx
  have := (h.file x h1).1
  have := (h.anon x h1).1
  simp only [decide_eq_true_eq] at h2
  show 1 ≤ x.file + x.anon
  omega
theorem cntS_len (l : List Hg) : (cntS l).length ≤ l.length := by
 unfold cntS
 rw [List.length_map]
 exact List.length_filter_le _ _
structure Sh where
 group : Int
 file : Int
 anon : Int
 low : Int
 deriving DecidableEq
def Sh.pv (h : Sh) : PV := .agg [.int .i64 h.group, .int .i64 h.file, .int .i64 h.anon, .int .i64 h.low]
abbrev Sh.vv (h : Sh) : VVal := .agg [.p (.int .i64 h.group), .p (.int .i64 h.file), .p (.int .i64 h.anon), .p (.int .i64 h.low)]
abbrev shsP (l : List Sh) : PV := .slice 4 (l.map Sh.pv)
attribute [go_sem] Sh.pv
theorem shs_flat (l : List Sh) : (l.map Sh.pv).all PV.flat = true := by
 rw [List.all_eq_true]
 intro x hx
 obtain ⟨n, _, rfl⟩ := List.mem_map.1 hx
 rfl
attribute [go_sem] shs_flat
abbrev zeroSh : Sh := ⟨0, 0, 0, 0⟩
def takeH (out : Bool) (h : Hg) (n : Int) : Hg := if out then ⟨h.group, h.file, h.anon - n, h.swap + n⟩ else ⟨h.group, h.file - n, h.anon, h.swap⟩
def takeK (out low : Bool) (id : Int) (k : Sh) (n : Int) : Sh := ⟨id, if out then k.file else k.file + n, if out then k.anon + n else k.anon, if low then k.low + n else k.low⟩
def takeOne (out low : Bool) (s : List Hg × (Int → Sh)) (q : Int × Int) : List Hg × (Int → Sh) := (putS s.1 (takeH out (getS s.1 q.1) q.2), fun x => if x = q.1 then takeK out low q.1 (s.2 q.1) q.2 else s.2 x)
def takeAll (out low : Bool) (s : List Hg × (Int → Sh)) (a : List (Int × Int)) : List Hg × (Int → Sh) := a.foldl (takeOne out low) s
theorem sumOn_cons1 (x : Int) (q : Int × Int) (a : List (Int × Int)) : sumOn [x] (q :: a) = (if q.1 = x then q.2 else 0) + sumOn [x] a := by
 simp [sumOn, sumI]
theorem takeH_group (out : Bool) (h : Hg) (n : Int) : (takeH out h n).group = h.group := by
 unfold takeH
 split <;> rfl
theorem takeH_add (out : Bool) (h : Hg) (m n : Int) : takeH out (takeH out h m) n = takeH out h (m + n) := by
 unfold takeH
 cases out <;> simp <;> omega
theorem takeH_zero (out : Bool) (h : Hg) : takeH out h 0 = h := by
 unfold takeH
 cases out <;> simp
theorem takeAll_get (out low : Bool) (x : Int) : ∀ (a : List (Int × Int)) (s : List Hg × (Int → Sh)), getS (takeAll out low s a).1 x = takeH out (getS s.1 x) (sumOn [x] a)
 | [], s => by
  show getS s.1 x = takeH out (getS s.1 x) 0
  rw [takeH_zero]
 | q :: a, s => by
  have ih := takeAll_get out low x a (takeOne out low s q)
  show getS (takeAll out low (takeOne out low s q) a).1 x = _
  rw [ih, sumOn_cons1]
  show takeH out (getS (putS s.1 (takeH out (getS s.1 q.1) q.2)) x) _ = _
  rw [putS_get, takeH_group, getS_group]
  by_cases hx : q.1 = x
  ·subst hx
   rw [if_pos rfl, if_pos rfl, takeH_add]
  ·rw [if_neg (fun e => hx e.symm), if_neg hx, Int.zero_add]
theorem takeAll_note (out low : Bool) (x : Int) : ∀ (a : List (Int × Int)) (s : List Hg × (Int → Sh)), (takeAll out low s a).2 x = if x ∈ a.map Prod.fst then takeK out low x (s.2 x) (sumOn [x] a) else s.2 x
 | [], s => by
  show s.2 x = _
  simp
 | q :: a, s => by
  have ih := takeAll_note out low x a (takeOne out low s q)
  show (takeAll out low (takeOne out low s q) a).2 x = _
  rw [ih, sumOn_cons1]
  simp only [List.map_cons, List.mem_cons]
  show (if x ∈ a.map Prod.fst then takeK out low x (if x = q.1 then takeK out low q.1 (s.2 q.1) q.2 else s.2 x) (sumOn [x] a) else (if x = q.1 then takeK out low q.1 (s.2 q.1) q.2 else s.2 x)) = _
  by_cases hx : x = q.1
  ·subst hx
   rw [if_pos rfl, if_pos (Or.inl rfl), if_pos rfl]
   by_cases hm : q.1 ∈ a.map Prod.fst
   ·rw [if_pos hm]
    unfold takeK
    cases out <;> cases low <;> simp <;> omega
   ·have hz : sumOn [q.1] a = 0 := sumOn_zero fun r hr hrq => hm (by
     have : r.1 = q.1 := by simpa using hrq
     rw [← this]
     exact List.mem_map.2 ⟨r, hr, rfl⟩)
    rw [if_neg hm, hz, Int.add_zero]
  ·have hx' : ¬ q.1 = x := fun e => hx e.symm
   rw [if_neg hx, if_neg hx', Int.zero_add]
   by_cases hm : x ∈ a.map Prod.fst
   ·rw [if_pos hm, if_pos (Or.inr hm)]
   ·rw [if_neg hm, if_neg (fun h => h.elim hx hm)]
theorem takeAll_ok {ns : List Nd} {z : Int} (hzb : z ≤ 16777216) (out low : Bool) : ∀ (a : List (Int × Int)) (s : List Hg × (Int → Sh)), HgOk ns z s.1 → (∀ q ∈ a, 0 < q.2 ∧ (findN ns q.1).isSome = true) → (∀ x, sumOn [x] a ≤ if out then (getS s.1 x).anon else (getS s.1 x).file) → (out = true → sumI (s.1.map (·.swap)) + sumI (a.map Prod.snd) ≤ z) →
  HgOk ns z (takeAll out low s a).1 ∧ sumI ((takeAll out low s a).1.map fun h => h.file + h.anon) = sumI (s.1.map fun h => h.file + h.anon) - sumI (a.map Prod.snd) ∧ sumI ((takeAll out low s a).1.map (·.swap)) = sumI (s.1.map (·.swap)) + if out then sumI (a.map Prod.snd) else 0
 | [], s, h, _, _, _ => by
  refine ⟨h, ?_, ?_⟩
  ·show sumI (s.1.map _) = _ - 0
   omega
  ·show sumI (s.1.map _) = _ + (if out then 0 else 0)
   cases out <;> simp
 | q :: a, s, h, hq, hs, hz => by
  obtain ⟨hq0, hqk⟩ := hq q (by simp)
  have hn : ∀ x, 0 ≤ sumOn [x] a := fun x => sumOn_nonneg fun r hr => by have := (hq r (by simp [hr])).1; omega
  have hsa : 0 ≤ sumI (a.map Prod.snd) := sumI_map_nonneg _ fun r hr => by have := (hq r (by simp [hr])).1; omega
  obtain ⟨g1, g2, g3⟩ := h.get q.1
  have hsq := hs q.1
  rw [sumOn_cons1, if_pos rfl] at hsq
  have hnq := hn q.1
  simp only [List.map_cons, sumI] at hz ⊢
  have hgg : (takeH out (getS s.1 q.1) q.2).group = q.1 := by rw [takeH_group, getS_group]
  have hsw := h.out
  have hsn : (getS s.1 q.1).swap ≤ sumI (s.1.map (·.swap)) := by
   rcases getS_mem (l := s.1) (id := q.1) with he | he
   ·rw [he]
    exact sumI_map_nonneg _ fun x hx => (h.swap x hx).1
   ·have h1 : ∀ y ∈ s.1.map (·.swap), 0 ≤ y := fun y hy => by
     obtain ⟨x, hx, rfl⟩ := List.mem_map.1 hy
     exact (h.swap x hx).1
    exact mem_le_sumI _ h1 (List.mem_map.2 ⟨_, he, rfl⟩)
  have hmm := h.mem
  unfold inPg at g1 g2 g3
  have h1 : HgOk ns z (putS s.1 (takeH out (getS s.1 q.1) q.2)) ∧ sumI ((putS s.1 (takeH out (getS s.1 q.1) q.2)).map fun h => h.file + h.anon) = sumI (s.1.map fun h => h.file + h.anon) - q.2 ∧ sumI ((putS s.1 (takeH out (getS s.1 q.1) q.2)).map (·.swap)) = sumI (s.1.map (·.swap)) + if out then q.2 else 0 := by
   have e1 := putS_sum (f := fun h => h.file + h.anon) (fun _ => rfl) h.inc (takeH out (getS s.1 q.1) q.2)
   have e2 := putS_sum (f := fun h => h.swap) (fun _ => rfl) h.inc (takeH out (getS s.1 q.1) q.2)
   rw [hgg] at e1 e2
   refine ⟨?_, ?_, ?_⟩
   ·refine h.put (by rw [hgg]; exact hqk) ?_ ?_ ?_ ?_ ?_
    ·cases out <;> simp [takeH, inPg] at hsq ⊢ <;> omega
    ·cases out <;> simp [takeH, inPg] at hsq ⊢ <;> omega
    ·cases out
     ·simp [takeH, inPg]
      omega
     ·have := hz rfl
      simp [takeH, inPg] at hsq ⊢
      omega
    ·rw [hgg]
     cases out <;> simp [takeH] <;> omega
    ·rw [hgg]
     cases out
     ·simp [takeH]
      omega
     ·have := hz rfl
      simp [takeH]
      omega
   ·rw [e1]
    cases out <;> simp [takeH] <;> omega
   ·rw [e2]
    cases out <;> simp [takeH] <;> omega
  obtain ⟨h1, h2, h3⟩ := h1
  have ih := takeAll_ok hzb out low a (takeOne out low s q) h1 (fun r hr => hq r (by simp [hr])) (fun x => by
   have hsx := hs x
   rw [sumOn_cons1] at hsx
   show sumOn [x] a ≤ if out then (getS (putS s.1 (takeH out (getS s.1 q.1) q.2)) x).anon else (getS (putS s.1 (takeH out (getS s.1 q.1) q.2)) x).file
   rw [putS_get, hgg]
   by_cases hx : x = q.1
   ·subst hx
    rw [if_pos rfl] at hsx ⊢
    cases out <;> simp [takeH] at hsx ⊢ <;> omega
   ·rw [if_neg (fun e => hx e.symm)] at hsx
    rw [if_neg hx]
    omega) (fun ho => by
   have := hz ho
   show sumI ((putS s.1 (takeH out (getS s.1 q.1) q.2)).map (·.swap)) + _ ≤ z
   rw [h3, if_pos ho]
   omega)
  obtain ⟨i1, i2, i3⟩ := ih
  refine ⟨i1, ?_, ?_⟩
  ·show sumI ((takeAll out low (takeOne out low s q) a).1.map _) = _
   rw [i2]
   show sumI ((putS s.1 (takeH out (getS s.1 q.1) q.2)).map _) - _ = _
   rw [h2]
   omega
  ·show sumI ((takeAll out low (takeOne out low s q) a).1.map _) = _
   rw [i3]
   show sumI ((putS s.1 (takeH out (getS s.1 q.1) q.2)).map _) + _ = _
   rw [h3]
   cases out <;> simp <;> omega
theorem spages_eq (n : Int) : V 74 [.p (.int .i64 n)] [] = some (.p (.bool (pagesB n)), []) := by
 refine V_wp (vf := vf74) rfl ?_
 by_cases h0 : 0 ≤ n
 ·by_cases h1 : n ≤ 16777216
  ·simp -implicitDefEqProofs (disch:=omega) only [vf74,vb74,h0,h1,pagesB,decide_true,Bool.and_self,ge_iff_le,go_sem,↓reduceIte,reduceAdd,reduceSub,reduceEqDiff,reduceLeDiff,reduceCtorEq]
  ·simp -implicitDefEqProofs (disch:=omega) only [vf74,vb74,h0,h1,pagesB,decide_true,decide_false,Bool.and_false,ge_iff_le,go_sem,↓reduceIte,reduceAdd,reduceSub,reduceEqDiff,reduceLeDiff,reduceCtorEq]
 ·simp -implicitDefEqProofs (disch:=omega) only [vf74,vb74,h0,pagesB,decide_false,Bool.false_and,ge_iff_le,go_sem,↓reduceIte,reduceAdd,reduceSub,reduceEqDiff,reduceLeDiff,reduceCtorEq]
theorem sget_eq (sw : Stk) (id : Int) (hl : sw.hs.length < 1000000) : V 53 [sw.vv, .p (.int .i64 id)] [] = some ((getS sw.hs id).vv, []) := by
 refine V_wp (vf := vf53) rfl ?_
 simp -implicitDefEqProofs (disch:=omega) only [vf53,vb53,go_sem,↓reduceIte,reduceAdd,reduceSub,reduceEqDiff,reduceLeDiff,reduceCtorEq]
 obtain ⟨I, hI⟩ : ∃ I : Nat → St → Prop, ∀ k s, I k s ↔ getS sw.hs id = getS (sw.hs.drop k) id ∧ s.pe 1 = .p (.int .i64 id) ∧ s.pe 4 = .ptr (.slot 4 0) 0 0 ∧ s.pe 8 = .p (hgsP sw.hs) ∧ s.pe 9 = .p (.int .i64 ↑sw.hs.length) ∧ s.pe 10 = .p (.int .i64 k) ∧ s.h (.slot 4 0) = some (0, Ob.box [.p (.int .i64 0), .p (.int .i64 0), .p (.int .i64 0), .p (.int .i64 0)]) := ⟨_, fun _ _ => Iff.rfl⟩
 refine wp_count (sw.hs.length) I ?_ ?_
 ·refine (hI _ _).2 ⟨?_, ?_, ?_, ?_, ?_, ?_, ?_⟩
  ·rfl
  all_goals exact cl0
 intro k s hk hIk
 obtain ⟨ho, h1, h4, h8, h9, h10, hh4_0⟩ := (hI _ _).1 hIk
 clear hIk
 simp -implicitDefEqProofs (disch:=omega) only [h1,h4,h8,h9,h10,hh4_0,go_sem,↓reduceIte,reduceAdd,reduceSub,reduceEqDiff,reduceLeDiff,reduceCtorEq]
 refine wp_if_d (fun hlt => ?_) (fun hge => ?_)
 ·have hm : sw.hs[k]? = some sw.hs[k] := List.getElem?_eq_getElem hlt
  have hd : sw.hs.drop k = sw.hs[k] :: sw.hs.drop (k + 1) := List.drop_eq_getElem_cons hlt
  generalize sw.hs[k] = c at hm hd
  rw [hd, getS] at ho
  by_cases he : c.group = id
  ·subst he
   rw [if_pos rfl] at ho
   simp -implicitDefEqProofs (disch:=omega) only [h1,h4,h8,h9,h10,hh4_0,hlt,hm,ho,go_sem,↓reduceIte,reduceAdd,reduceSub,reduceEqDiff,reduceLeDiff,reduceCtorEq]
  ·rw [if_neg he] at ho
   simp -implicitDefEqProofs (disch:=omega) only [h1,h4,h8,h9,h10,hh4_0,hlt,hm,he,go_sem,↓reduceIte,reduceAdd,reduceSub,reduceEqDiff,reduceLeDiff,reduceCtorEq]
   try refine And.intro (by omega) ?_
   refine (hI _ _).2 ⟨?_, ?_, ?_, ?_, ?_, ?_, ?_⟩
   ·exact ho
   all_goals exact cl0
 ·rw [List.drop_of_length_le (by omega), getS] at ho
  simp -implicitDefEqProofs (disch:=omega) only [h1,h4,h8,h9,h10,hh4_0,hge,ho,go_sem,↓reduceIte,reduceAdd,reduceSub,reduceEqDiff,reduceLeDiff,reduceCtorEq]
theorem scounter_eq (sw : Stk) (hl : sw.hs.length < 1000000) (hb : ∀ h ∈ sw.hs, inPg h.file ∧ inPg h.anon) : V 77 [sw.vv] [] = some (ctrF (cntS sw.hs), []) := by
 refine V_wp (vf := vf77) rfl ?_
 simp -implicitDefEqProofs (disch:=omega) only [vf77,vb77,go_sem,↓reduceIte,reduceAdd,reduceSub,reduceEqDiff,reduceLeDiff,reduceCtorEq]
 obtain ⟨I, hI⟩ : ∃ I : Nat → St → Prop, ∀ k s, I k s ↔ ∃ (acc : List Ch) (w : Nat), cntS sw.hs = acc ++ cntS (sw.hs.drop k) ∧ acc.length ≤ k ∧ s.pe 2 = .ptr (.slot 2 0) 0 0 ∧ s.pe 3 = .ptr (.slot 3 0) 0 0 ∧ s.pe 8 = .p (hgsP sw.hs) ∧ s.pe 9 = .p (.int .i64 ↑sw.hs.length) ∧ s.pe 10 = .p (.int .i64 k) ∧ s.h (.slot 2 0) = some (0, Ob.box [.own (.slot 2 1) 0 0 0]) ∧ s.h (.slot 2 1) = some (0, Ob.arr 2 []) ∧ s.h (.slot 3 0) = some (0, Ob.box [.own (.slot 3 1) w 0 acc.length]) ∧ s.h (.slot 3 1) = some (w, Ob.arr 2 (acc.map Ch.pv)) := ⟨_, fun _ _ => Iff.rfl⟩
 refine wp_count (sw.hs.length) I ?_ ?_
 ·refine (hI _ _).2 ⟨[], 0, ?_, ?_, ?_, ?_, ?_, ?_, ?_, ?_, ?_, ?_, ?_⟩
  ·rfl
  ·exact Nat.le_refl _
  all_goals exact cl0
 intro k s hk hIk
 obtain ⟨acc, w, ho, hal, h2, h3, h8, h9, h10, hh2_0, hh2_1, hh3_0, hh3_1⟩ := (hI _ _).1 hIk
 clear hIk
 simp -implicitDefEqProofs (disch:=omega) only [h2,h3,h8,h9,h10,hh2_0,hh2_1,hh3_0,hh3_1,go_sem,↓reduceIte,reduceAdd,reduceSub,reduceEqDiff,reduceLeDiff,reduceCtorEq]
 refine wp_if_d (fun hlt => ?_) (fun hge => ?_)
 ·have hm : sw.hs[k]? = some sw.hs[k] := List.getElem?_eq_getElem hlt
  have hd : sw.hs.drop k = sw.hs[k] :: sw.hs.drop (k + 1) := List.drop_eq_getElem_cons hlt
  obtain ⟨⟨b1, b2⟩, b3, b4⟩ := hb _ (List.mem_of_getElem? hm)
  generalize sw.hs[k] = c at hm hd b1 b2 b3 b4
  rw [hd, cntS_cons] at ho
  by_cases he : c.file + c.anon = 0
  ·rw [if_pos he, List.nil_append] at ho
   simp -implicitDefEqProofs (disch:=omega) only [h2,h3,h8,h9,h10,hh2_0,hh2_1,hh3_0,hh3_1,hlt,hm,he,go_sem,↓reduceIte,reduceAdd,reduceSub,reduceEqDiff,reduceLeDiff,reduceCtorEq]
   try refine And.intro (by omega) ?_
   refine (hI _ _).2 ⟨acc, w, ?_, ?_, ?_, ?_, ?_, ?_, ?_, ?_, ?_, ?_, ?_⟩
   ·exact ho
   ·omega
   all_goals exact cl0
  ·rw [if_neg he, ← List.append_assoc] at ho
   simp -implicitDefEqProofs (disch:=omega) only [h2,h3,h8,h9,h10,hh2_0,hh2_1,hh3_0,hh3_1,hlt,hm,he,go_sem,↓reduceIte,reduceAdd,reduceSub,reduceEqDiff,reduceLeDiff,reduceCtorEq]
   try refine And.intro (by omega) ?_
   refine (hI _ _).2 ⟨acc ++ [⟨c.group, c.file + c.anon⟩], w + 1, ?_, ?_, ?_, ?_, ?_, ?_, ?_, ?_, ?_, ?_, ?_⟩
   ·exact ho
   ·exact by simp; omega
   all_goals exact cl0
 ·rw [List.drop_of_length_le (by omega)] at ho
  rw [show cntS [] = [] from rfl, List.append_nil] at ho
  simp -implicitDefEqProofs (disch:=omega) only [h2,h3,h8,h9,h10,hh2_0,hh2_1,hh3_0,hh3_1,hge,go_sem,↓reduceIte,reduceAdd,reduceSub,reduceEqDiff,reduceLeDiff,reduceCtorEq]
  rw [ho]
set_option maxHeartbeats 1000000 in
theorem sput_eq (sw : Stk) (h : Hg) (hl : sw.hs.length < 1000000) : V 75 [sw.vv, h.vv] [] = some (Stk.fv ⟨putS sw.hs h, sw.size⟩, []) := by
 refine V_wp (vf := vf75) rfl ?_
 have hps : putS sw.hs h = putGo h (zeroH h) sw.hs := rfl
 generalize putS sw.hs h = R at hps
 by_cases z1 : h.file = 0
 ·by_cases z2 : h.anon = 0
  ·by_cases z3 : h.swap = 0
   ·simp -implicitDefEqProofs (disch:=omega) only [vf75,vb75,z1,z2,z3,go_sem,↓reduceIte,reduceAdd,reduceSub,reduceEqDiff,reduceLeDiff,reduceCtorEq]
    obtain ⟨I, hI⟩ : ∃ I : Nat → St → Prop, ∀ k s, I k s ↔ ∃ (acc : List Hg) (d : Bool) (w : Nat), R = acc ++ putGo h d (sw.hs.drop k) ∧ acc.length ≤ 2 * k ∧ s.pe 3 = .ptr (.slot 3 0) 0 0 ∧ s.pe 4 = .ptr (.slot 4 0) 0 0 ∧ s.pe 5 = .ptr (.slot 5 0) 0 0 ∧ s.pe 6 = .p (.bool d) ∧ s.pe 26 = .p (hgsP sw.hs) ∧ s.pe 27 = .p (.int .i64 ↑sw.hs.length) ∧ s.pe 28 = .p (.int .i64 k) ∧ s.h (.slot 3 0) = some (0, Ob.box [.p (.int .i64 h.group), .p (.int .i64 0), .p (.int .i64 0), .p (.int .i64 0)]) ∧ s.h (.slot 4 0) = some (0, Ob.box [.own (.slot 4 1) 0 0 0, .p (.int .i64 0)]) ∧ s.h (.slot 4 1) = some (0, Ob.arr 4 []) ∧ s.h (.slot 5 0) = some (0, Ob.box [.own (.slot 11 1) w 0 acc.length, .p (.int .i64 sw.size)]) ∧ s.h (.slot 11 1) = some (w, Ob.arr 4 (acc.map Hg.pv)) := ⟨_, fun _ _ => Iff.rfl⟩
    refine wp_count (sw.hs.length) I ?_ ?_
    ·refine (hI _ _).2 ⟨[], true, 0, ?_, ?_, ?_, ?_, ?_, ?_, ?_, ?_, ?_, ?_, ?_, ?_, ?_, ?_⟩
     ·exact by rw [hps]; simp [zeroH, z1, z2, z3]
     ·exact Nat.le_refl _
     all_goals exact cl0
    intro k s hk hIk
    obtain ⟨acc, d, w, hw, hal, h3, h4, h5, h6, h26, h27, h28, hh3_0, hh4_0, hh4_1, hh5_0, hh11_1⟩ := (hI _ _).1 hIk
    clear hIk
    simp -implicitDefEqProofs (disch:=omega) only [h3,h4,h5,h6,h26,h27,h28,hh3_0,hh4_0,hh4_1,hh5_0,hh11_1,go_sem,↓reduceIte,reduceAdd,reduceSub,reduceEqDiff,reduceLeDiff,reduceCtorEq]
    refine wp_if_d (fun hlt => ?_) (fun hge => ?_)
    ·have hm : sw.hs[k]? = some sw.hs[k] := List.getElem?_eq_getElem hlt
     have hd : sw.hs.drop k = sw.hs[k] :: sw.hs.drop (k + 1) := List.drop_eq_getElem_cons hlt
     generalize sw.hs[k] = c at hm hd
     rw [hd, putGo] at hw
     cases d with
     | true =>
      by_cases he : c.group = h.group
      ·simp only [he, Bool.not_true, Bool.false_and, Bool.false_eq_true, if_false, if_true, List.nil_append, List.append_nil, Bool.true_or] at hw
       simp -implicitDefEqProofs (disch:=omega) only [h3,h4,h5,h6,h26,h27,h28,hh3_0,hh4_0,hh4_1,hh5_0,hh11_1,hlt,hm,he,go_sem,↓reduceIte,reduceAdd,reduceSub,reduceEqDiff,reduceLeDiff,reduceCtorEq]
       try refine And.intro (by omega) ?_
       refine (hI _ _).2 ⟨acc, true, w, ?_, ?_, ?_, ?_, ?_, ?_, ?_, ?_, ?_, ?_, ?_, ?_, ?_, ?_⟩
       ·exact hw
       ·omega
       all_goals exact cl0
      ·simp only [he, Bool.not_true, Bool.false_and, Bool.false_eq_true, if_false, List.nil_append, Bool.true_or, ← List.append_assoc] at hw
       simp -implicitDefEqProofs (disch:=omega) only [h3,h4,h5,h6,h26,h27,h28,hh3_0,hh4_0,hh4_1,hh5_0,hh11_1,hlt,hm,he,go_sem,↓reduceIte,reduceAdd,reduceSub,reduceEqDiff,reduceLeDiff,reduceCtorEq]
       try refine And.intro (by omega) ?_
       refine (hI _ _).2 ⟨acc ++ [c], true, w + 1, ?_, ?_, ?_, ?_, ?_, ?_, ?_, ?_, ?_, ?_, ?_, ?_, ?_, ?_⟩
       ·exact hw
       ·exact by simp; omega
       all_goals exact cl0
     | false =>
      by_cases hge : h.group ≤ c.group
      ·by_cases he : c.group = h.group
       ·simp only [he, Int.le_refl, decide_true, Bool.not_false, Bool.and_self, if_true, List.append_nil, Bool.or_true, ← List.append_assoc] at hw
        simp -implicitDefEqProofs (disch:=omega) only [h3,h4,h5,h6,h26,h27,h28,hh3_0,hh4_0,hh4_1,hh5_0,hh11_1,hlt,hm,hge,he,Int.le_refl,decide_true,go_sem,↓reduceIte,reduceAdd,reduceSub,reduceEqDiff,reduceLeDiff,reduceCtorEq]
        try refine And.intro (by omega) ?_
        refine (hI _ _).2 ⟨acc ++ [h], true, w + 1, ?_, ?_, ?_, ?_, ?_, ?_, ?_, ?_, ?_, ?_, ?_, ?_, ?_, ?_⟩
        ·exact hw
        ·exact by simp; omega
        all_goals exact cl0
       ·simp only [he, hge, decide_true, Bool.not_false, Bool.and_self, if_true, if_false, Bool.or_true, ← List.append_assoc] at hw
        simp -implicitDefEqProofs (disch:=omega) only [h3,h4,h5,h6,h26,h27,h28,hh3_0,hh4_0,hh4_1,hh5_0,hh11_1,hlt,hm,hge,he,go_sem,↓reduceIte,reduceAdd,reduceSub,reduceEqDiff,reduceLeDiff,reduceCtorEq]
        try refine And.intro (by omega) ?_
        refine (hI _ _).2 ⟨acc ++ [h] ++ [c], true, w + 1 + 1, ?_, ?_, ?_, ?_, ?_, ?_, ?_, ?_, ?_, ?_, ?_, ?_, ?_, ?_⟩
        ·exact hw
        ·exact by simp; omega
        all_goals exact cl0
      ·have he : ¬ c.group = h.group := by omega
       simp only [he, hge, decide_false, Bool.not_false, Bool.and_false, Bool.false_eq_true, if_false, List.nil_append, Bool.or_false, ← List.append_assoc] at hw
       simp -implicitDefEqProofs (disch:=omega) only [h3,h4,h5,h6,h26,h27,h28,hh3_0,hh4_0,hh4_1,hh5_0,hh11_1,hlt,hm,hge,he,go_sem,↓reduceIte,reduceAdd,reduceSub,reduceEqDiff,reduceLeDiff,reduceCtorEq]
       try refine And.intro (by omega) ?_
       refine (hI _ _).2 ⟨acc ++ [c], false, w + 1, ?_, ?_, ?_, ?_, ?_, ?_, ?_, ?_, ?_, ?_, ?_, ?_, ?_, ?_⟩
       ·exact hw
       ·exact by simp; omega
       all_goals exact cl0
    ·rw [List.drop_of_length_le (by omega), putGo] at hw
     cases d with
     | true =>
      simp only [if_true, List.append_nil] at hw
      simp -implicitDefEqProofs (disch:=omega) only [h3,h4,h5,h6,h26,h27,h28,hh3_0,hh4_0,hh4_1,hh5_0,hh11_1,hge,go_sem,↓reduceIte,reduceAdd,reduceSub,reduceEqDiff,reduceLeDiff,reduceCtorEq]
      rw [hw]
     | false =>
      simp only [Bool.false_eq_true, if_false] at hw
      simp -implicitDefEqProofs (disch:=omega) only [h3,h4,h5,h6,h26,h27,h28,hh3_0,hh4_0,hh4_1,hh5_0,hh11_1,hge,go_sem,↓reduceIte,reduceAdd,reduceSub,reduceEqDiff,reduceLeDiff,reduceCtorEq]
      rw [hw]
      simp [Hg.pv, z1, z2, z3]
   ·simp -implicitDefEqProofs (disch:=omega) only [vf75,vb75,z1,z2,z3,go_sem,↓reduceIte,reduceAdd,reduceSub,reduceEqDiff,reduceLeDiff,reduceCtorEq]
    obtain ⟨I, hI⟩ : ∃ I : Nat → St → Prop, ∀ k s, I k s ↔ ∃ (acc : List Hg) (d : Bool) (w : Nat), R = acc ++ putGo h d (sw.hs.drop k) ∧ acc.length ≤ 2 * k ∧ s.pe 3 = .ptr (.slot 3 0) 0 0 ∧ s.pe 4 = .ptr (.slot 4 0) 0 0 ∧ s.pe 5 = .ptr (.slot 5 0) 0 0 ∧ s.pe 6 = .p (.bool d) ∧ s.pe 26 = .p (hgsP sw.hs) ∧ s.pe 27 = .p (.int .i64 ↑sw.hs.length) ∧ s.pe 28 = .p (.int .i64 k) ∧ s.h (.slot 3 0) = some (0, Ob.box [.p (.int .i64 h.group), .p (.int .i64 0), .p (.int .i64 0), .p (.int .i64 h.swap)]) ∧ s.h (.slot 4 0) = some (0, Ob.box [.own (.slot 4 1) 0 0 0, .p (.int .i64 0)]) ∧ s.h (.slot 4 1) = some (0, Ob.arr 4 []) ∧ s.h (.slot 5 0) = some (0, Ob.box [.own (.slot 11 1) w 0 acc.length, .p (.int .i64 sw.size)]) ∧ s.h (.slot 11 1) = some (w, Ob.arr 4 (acc.map Hg.pv)) := ⟨_, fun _ _ => Iff.rfl⟩
    refine wp_count (sw.hs.length) I ?_ ?_
    ·refine (hI _ _).2 ⟨[], false, 0, ?_, ?_, ?_, ?_, ?_, ?_, ?_, ?_, ?_, ?_, ?_, ?_, ?_, ?_⟩
     ·exact by rw [hps]; simp [zeroH, z1, z2, z3]
     ·exact Nat.le_refl _
     all_goals exact cl0
    intro k s hk hIk
    obtain ⟨acc, d, w, hw, hal, h3, h4, h5, h6, h26, h27, h28, hh3_0, hh4_0, hh4_1, hh5_0, hh11_1⟩ := (hI _ _).1 hIk
    clear hIk
    simp -implicitDefEqProofs (disch:=omega) only [h3,h4,h5,h6,h26,h27,h28,hh3_0,hh4_0,hh4_1,hh5_0,hh11_1,go_sem,↓reduceIte,reduceAdd,reduceSub,reduceEqDiff,reduceLeDiff,reduceCtorEq]
    refine wp_if_d (fun hlt => ?_) (fun hge => ?_)
    ·have hm : sw.hs[k]? = some sw.hs[k] := List.getElem?_eq_getElem hlt
     have hd : sw.hs.drop k = sw.hs[k] :: sw.hs.drop (k + 1) := List.drop_eq_getElem_cons hlt
     generalize sw.hs[k] = c at hm hd
     rw [hd, putGo] at hw
     cases d with
     | true =>
      by_cases he : c.group = h.group
      ·simp only [he, Bool.not_true, Bool.false_and, Bool.false_eq_true, if_false, if_true, List.nil_append, List.append_nil, Bool.true_or] at hw
       simp -implicitDefEqProofs (disch:=omega) only [h3,h4,h5,h6,h26,h27,h28,hh3_0,hh4_0,hh4_1,hh5_0,hh11_1,hlt,hm,he,go_sem,↓reduceIte,reduceAdd,reduceSub,reduceEqDiff,reduceLeDiff,reduceCtorEq]
       try refine And.intro (by omega) ?_
       refine (hI _ _).2 ⟨acc, true, w, ?_, ?_, ?_, ?_, ?_, ?_, ?_, ?_, ?_, ?_, ?_, ?_, ?_, ?_⟩
       ·exact hw
       ·omega
       all_goals exact cl0
      ·simp only [he, Bool.not_true, Bool.false_and, Bool.false_eq_true, if_false, List.nil_append, Bool.true_or, ← List.append_assoc] at hw
       simp -implicitDefEqProofs (disch:=omega) only [h3,h4,h5,h6,h26,h27,h28,hh3_0,hh4_0,hh4_1,hh5_0,hh11_1,hlt,hm,he,go_sem,↓reduceIte,reduceAdd,reduceSub,reduceEqDiff,reduceLeDiff,reduceCtorEq]
       try refine And.intro (by omega) ?_
       refine (hI _ _).2 ⟨acc ++ [c], true, w + 1, ?_, ?_, ?_, ?_, ?_, ?_, ?_, ?_, ?_, ?_, ?_, ?_, ?_, ?_⟩
       ·exact hw
       ·exact by simp; omega
       all_goals exact cl0
     | false =>
      by_cases hge : h.group ≤ c.group
      ·by_cases he : c.group = h.group
       ·simp only [he, Int.le_refl, decide_true, Bool.not_false, Bool.and_self, if_true, List.append_nil, Bool.or_true, ← List.append_assoc] at hw
        simp -implicitDefEqProofs (disch:=omega) only [h3,h4,h5,h6,h26,h27,h28,hh3_0,hh4_0,hh4_1,hh5_0,hh11_1,hlt,hm,hge,he,Int.le_refl,decide_true,go_sem,↓reduceIte,reduceAdd,reduceSub,reduceEqDiff,reduceLeDiff,reduceCtorEq]
        try refine And.intro (by omega) ?_
        refine (hI _ _).2 ⟨acc ++ [h], true, w + 1, ?_, ?_, ?_, ?_, ?_, ?_, ?_, ?_, ?_, ?_, ?_, ?_, ?_, ?_⟩
        ·exact hw
        ·exact by simp; omega
        all_goals exact cl0
       ·simp only [he, hge, decide_true, Bool.not_false, Bool.and_self, if_true, if_false, Bool.or_true, ← List.append_assoc] at hw
        simp -implicitDefEqProofs (disch:=omega) only [h3,h4,h5,h6,h26,h27,h28,hh3_0,hh4_0,hh4_1,hh5_0,hh11_1,hlt,hm,hge,he,go_sem,↓reduceIte,reduceAdd,reduceSub,reduceEqDiff,reduceLeDiff,reduceCtorEq]
        try refine And.intro (by omega) ?_
        refine (hI _ _).2 ⟨acc ++ [h] ++ [c], true, w + 1 + 1, ?_, ?_, ?_, ?_, ?_, ?_, ?_, ?_, ?_, ?_, ?_, ?_, ?_, ?_⟩
        ·exact hw
        ·exact by simp; omega
        all_goals exact cl0
      ·have he : ¬ c.group = h.group := by omega
       simp only [he, hge, decide_false, Bool.not_false, Bool.and_false, Bool.false_eq_true, if_false, List.nil_append, Bool.or_false, ← List.append_assoc] at hw
       simp -implicitDefEqProofs (disch:=omega) only [h3,h4,h5,h6,h26,h27,h28,hh3_0,hh4_0,hh4_1,hh5_0,hh11_1,hlt,hm,hge,he,go_sem,↓reduceIte,reduceAdd,reduceSub,reduceEqDiff,reduceLeDiff,reduceCtorEq]
       try refine And.intro (by omega) ?_
       refine (hI _ _).2 ⟨acc ++ [c], false, w + 1, ?_, ?_, ?_, ?_, ?_, ?_, ?_, ?_, ?_, ?_, ?_, ?_, ?_, ?_⟩
       ·exact hw
       ·exact by simp; omega
       all_goals exact cl0
    ·rw [List.drop_of_length_le (by omega), putGo] at hw
     cases d with
     | true =>
      simp only [if_true, List.append_nil] at hw
      simp -implicitDefEqProofs (disch:=omega) only [h3,h4,h5,h6,h26,h27,h28,hh3_0,hh4_0,hh4_1,hh5_0,hh11_1,hge,go_sem,↓reduceIte,reduceAdd,reduceSub,reduceEqDiff,reduceLeDiff,reduceCtorEq]
      rw [hw]
     | false =>
      simp only [Bool.false_eq_true, if_false] at hw
      simp -implicitDefEqProofs (disch:=omega) only [h3,h4,h5,h6,h26,h27,h28,hh3_0,hh4_0,hh4_1,hh5_0,hh11_1,hge,go_sem,↓reduceIte,reduceAdd,reduceSub,reduceEqDiff,reduceLeDiff,reduceCtorEq]
      rw [hw]
      simp [Hg.pv, z1, z2, z3]
  ·simp -implicitDefEqProofs (disch:=omega) only [vf75,vb75,z1,z2,go_sem,↓reduceIte,reduceAdd,reduceSub,reduceEqDiff,reduceLeDiff,reduceCtorEq]
   obtain ⟨I, hI⟩ : ∃ I : Nat → St → Prop, ∀ k s, I k s ↔ ∃ (acc : List Hg) (d : Bool) (w : Nat), R = acc ++ putGo h d (sw.hs.drop k) ∧ acc.length ≤ 2 * k ∧ s.pe 3 = .ptr (.slot 3 0) 0 0 ∧ s.pe 4 = .ptr (.slot 4 0) 0 0 ∧ s.pe 5 = .ptr (.slot 5 0) 0 0 ∧ s.pe 6 = .p (.bool d) ∧ s.pe 26 = .p (hgsP sw.hs) ∧ s.pe 27 = .p (.int .i64 ↑sw.hs.length) ∧ s.pe 28 = .p (.int .i64 k) ∧ s.h (.slot 3 0) = some (0, Ob.box [.p (.int .i64 h.group), .p (.int .i64 0), .p (.int .i64 h.anon), .p (.int .i64 h.swap)]) ∧ s.h (.slot 4 0) = some (0, Ob.box [.own (.slot 4 1) 0 0 0, .p (.int .i64 0)]) ∧ s.h (.slot 4 1) = some (0, Ob.arr 4 []) ∧ s.h (.slot 5 0) = some (0, Ob.box [.own (.slot 11 1) w 0 acc.length, .p (.int .i64 sw.size)]) ∧ s.h (.slot 11 1) = some (w, Ob.arr 4 (acc.map Hg.pv)) := ⟨_, fun _ _ => Iff.rfl⟩
   refine wp_count (sw.hs.length) I ?_ ?_
   ·refine (hI _ _).2 ⟨[], false, 0, ?_, ?_, ?_, ?_, ?_, ?_, ?_, ?_, ?_, ?_, ?_, ?_, ?_, ?_⟩
    ·exact by rw [hps]; simp [zeroH, z1, z2]
    ·exact Nat.le_refl _
    all_goals exact cl0
   intro k s hk hIk
   obtain ⟨acc, d, w, hw, hal, h3, h4, h5, h6, h26, h27, h28, hh3_0, hh4_0, hh4_1, hh5_0, hh11_1⟩ := (hI _ _).1 hIk
   clear hIk
   simp -implicitDefEqProofs (disch:=omega) only [h3,h4,h5,h6,h26,h27,h28,hh3_0,hh4_0,hh4_1,hh5_0,hh11_1,go_sem,↓reduceIte,reduceAdd,reduceSub,reduceEqDiff,reduceLeDiff,reduceCtorEq]
   refine wp_if_d (fun hlt => ?_) (fun hge => ?_)
   ·have hm : sw.hs[k]? = some sw.hs[k] := List.getElem?_eq_getElem hlt
    have hd : sw.hs.drop k = sw.hs[k] :: sw.hs.drop (k + 1) := List.drop_eq_getElem_cons hlt
    generalize sw.hs[k] = c at hm hd
    rw [hd, putGo] at hw
    cases d with
    | true =>
     by_cases he : c.group = h.group
     ·simp only [he, Bool.not_true, Bool.false_and, Bool.false_eq_true, if_false, if_true, List.nil_append, List.append_nil, Bool.true_or] at hw
      simp -implicitDefEqProofs (disch:=omega) only [h3,h4,h5,h6,h26,h27,h28,hh3_0,hh4_0,hh4_1,hh5_0,hh11_1,hlt,hm,he,go_sem,↓reduceIte,reduceAdd,reduceSub,reduceEqDiff,reduceLeDiff,reduceCtorEq]
      try refine And.intro (by omega) ?_
      refine (hI _ _).2 ⟨acc, true, w, ?_, ?_, ?_, ?_, ?_, ?_, ?_, ?_, ?_, ?_, ?_, ?_, ?_, ?_⟩
      ·exact hw
      ·omega
      all_goals exact cl0
     ·simp only [he, Bool.not_true, Bool.false_and, Bool.false_eq_true, if_false, List.nil_append, Bool.true_or, ← List.append_assoc] at hw
      simp -implicitDefEqProofs (disch:=omega) only [h3,h4,h5,h6,h26,h27,h28,hh3_0,hh4_0,hh4_1,hh5_0,hh11_1,hlt,hm,he,go_sem,↓reduceIte,reduceAdd,reduceSub,reduceEqDiff,reduceLeDiff,reduceCtorEq]
      try refine And.intro (by omega) ?_
      refine (hI _ _).2 ⟨acc ++ [c], true, w + 1, ?_, ?_, ?_, ?_, ?_, ?_, ?_, ?_, ?_, ?_, ?_, ?_, ?_, ?_⟩
      ·exact hw
      ·exact by simp; omega
      all_goals exact cl0
    | false =>
     by_cases hge : h.group ≤ c.group
     ·by_cases he : c.group = h.group
      ·simp only [he, Int.le_refl, decide_true, Bool.not_false, Bool.and_self, if_true, List.append_nil, Bool.or_true, ← List.append_assoc] at hw
       simp -implicitDefEqProofs (disch:=omega) only [h3,h4,h5,h6,h26,h27,h28,hh3_0,hh4_0,hh4_1,hh5_0,hh11_1,hlt,hm,hge,he,Int.le_refl,decide_true,go_sem,↓reduceIte,reduceAdd,reduceSub,reduceEqDiff,reduceLeDiff,reduceCtorEq]
       try refine And.intro (by omega) ?_
       refine (hI _ _).2 ⟨acc ++ [h], true, w + 1, ?_, ?_, ?_, ?_, ?_, ?_, ?_, ?_, ?_, ?_, ?_, ?_, ?_, ?_⟩
       ·exact hw
       ·exact by simp; omega
       all_goals exact cl0
      ·simp only [he, hge, decide_true, Bool.not_false, Bool.and_self, if_true, if_false, Bool.or_true, ← List.append_assoc] at hw
       simp -implicitDefEqProofs (disch:=omega) only [h3,h4,h5,h6,h26,h27,h28,hh3_0,hh4_0,hh4_1,hh5_0,hh11_1,hlt,hm,hge,he,go_sem,↓reduceIte,reduceAdd,reduceSub,reduceEqDiff,reduceLeDiff,reduceCtorEq]
       try refine And.intro (by omega) ?_
       refine (hI _ _).2 ⟨acc ++ [h] ++ [c], true, w + 1 + 1, ?_, ?_, ?_, ?_, ?_, ?_, ?_, ?_, ?_, ?_, ?_, ?_, ?_, ?_⟩
       ·exact hw
       ·exact by simp; omega
       all_goals exact cl0
     ·have he : ¬ c.group = h.group := by omega
      simp only [he, hge, decide_false, Bool.not_false, Bool.and_false, Bool.false_eq_true, if_false, List.nil_append, Bool.or_false, ← List.append_assoc] at hw
      simp -implicitDefEqProofs (disch:=omega) only [h3,h4,h5,h6,h26,h27,h28,hh3_0,hh4_0,hh4_1,hh5_0,hh11_1,hlt,hm,hge,he,go_sem,↓reduceIte,reduceAdd,reduceSub,reduceEqDiff,reduceLeDiff,reduceCtorEq]
      try refine And.intro (by omega) ?_
      refine (hI _ _).2 ⟨acc ++ [c], false, w + 1, ?_, ?_, ?_, ?_, ?_, ?_, ?_, ?_, ?_, ?_, ?_, ?_, ?_, ?_⟩
      ·exact hw
      ·exact by simp; omega
      all_goals exact cl0
   ·rw [List.drop_of_length_le (by omega), putGo] at hw
    cases d with
    | true =>
     simp only [if_true, List.append_nil] at hw
     simp -implicitDefEqProofs (disch:=omega) only [h3,h4,h5,h6,h26,h27,h28,hh3_0,hh4_0,hh4_1,hh5_0,hh11_1,hge,go_sem,↓reduceIte,reduceAdd,reduceSub,reduceEqDiff,reduceLeDiff,reduceCtorEq]
     rw [hw]
    | false =>
     simp only [Bool.false_eq_true, if_false] at hw
     simp -implicitDefEqProofs (disch:=omega) only [h3,h4,h5,h6,h26,h27,h28,hh3_0,hh4_0,hh4_1,hh5_0,hh11_1,hge,go_sem,↓reduceIte,reduceAdd,reduceSub,reduceEqDiff,reduceLeDiff,reduceCtorEq]
     rw [hw]
     simp [Hg.pv, z1, z2]
 ·simp -implicitDefEqProofs (disch:=omega) only [vf75,vb75,z1,go_sem,↓reduceIte,reduceAdd,reduceSub,reduceEqDiff,reduceLeDiff,reduceCtorEq]
  obtain ⟨I, hI⟩ : ∃ I : Nat → St → Prop, ∀ k s, I k s ↔ ∃ (acc : List Hg) (d : Bool) (w : Nat), R = acc ++ putGo h d (sw.hs.drop k) ∧ acc.length ≤ 2 * k ∧ s.pe 3 = .ptr (.slot 3 0) 0 0 ∧ s.pe 4 = .ptr (.slot 4 0) 0 0 ∧ s.pe 5 = .ptr (.slot 5 0) 0 0 ∧ s.pe 6 = .p (.bool d) ∧ s.pe 26 = .p (hgsP sw.hs) ∧ s.pe 27 = .p (.int .i64 ↑sw.hs.length) ∧ s.pe 28 = .p (.int .i64 k) ∧ s.h (.slot 3 0) = some (0, Ob.box [.p (.int .i64 h.group), .p (.int .i64 h.file), .p (.int .i64 h.anon), .p (.int .i64 h.swap)]) ∧ s.h (.slot 4 0) = some (0, Ob.box [.own (.slot 4 1) 0 0 0, .p (.int .i64 0)]) ∧ s.h (.slot 4 1) = some (0, Ob.arr 4 []) ∧ s.h (.slot 5 0) = some (0, Ob.box [.own (.slot 11 1) w 0 acc.length, .p (.int .i64 sw.size)]) ∧ s.h (.slot 11 1) = some (w, Ob.arr 4 (acc.map Hg.pv)) := ⟨_, fun _ _ => Iff.rfl⟩
  refine wp_count (sw.hs.length) I ?_ ?_
  ·refine (hI _ _).2 ⟨[], false, 0, ?_, ?_, ?_, ?_, ?_, ?_, ?_, ?_, ?_, ?_, ?_, ?_, ?_, ?_⟩
   ·exact by rw [hps]; simp [zeroH, z1]
   ·exact Nat.le_refl _
   all_goals exact cl0
  intro k s hk hIk
  obtain ⟨acc, d, w, hw, hal, h3, h4, h5, h6, h26, h27, h28, hh3_0, hh4_0, hh4_1, hh5_0, hh11_1⟩ := (hI _ _).1 hIk
  clear hIk
  simp -implicitDefEqProofs (disch:=omega) only [h3,h4,h5,h6,h26,h27,h28,hh3_0,hh4_0,hh4_1,hh5_0,hh11_1,go_sem,↓reduceIte,reduceAdd,reduceSub,reduceEqDiff,reduceLeDiff,reduceCtorEq]
  refine wp_if_d (fun hlt => ?_) (fun hge => ?_)
  ·have hm : sw.hs[k]? = some sw.hs[k] := List.getElem?_eq_getElem hlt
   have hd : sw.hs.drop k = sw.hs[k] :: sw.hs.drop (k + 1) := List.drop_eq_getElem_cons hlt
   generalize sw.hs[k] = c at hm hd
   rw [hd, putGo] at hw
   cases d with
   | true =>
    by_cases he : c.group = h.group
    ·simp only [he, Bool.not_true, Bool.false_and, Bool.false_eq_true, if_false, if_true, List.nil_append, List.append_nil, Bool.true_or] at hw
     simp -implicitDefEqProofs (disch:=omega) only [h3,h4,h5,h6,h26,h27,h28,hh3_0,hh4_0,hh4_1,hh5_0,hh11_1,hlt,hm,he,go_sem,↓reduceIte,reduceAdd,reduceSub,reduceEqDiff,reduceLeDiff,reduceCtorEq]
     try refine And.intro (by omega) ?_
     refine (hI _ _).2 ⟨acc, true, w, ?_, ?_, ?_, ?_, ?_, ?_, ?_, ?_, ?_, ?_, ?_, ?_, ?_, ?_⟩
     ·exact hw
     ·omega
     all_goals exact cl0
    ·simp only [he, Bool.not_true, Bool.false_and, Bool.false_eq_true, if_false, List.nil_append, Bool.true_or, ← List.append_assoc] at hw
     simp -implicitDefEqProofs (disch:=omega) only [h3,h4,h5,h6,h26,h27,h28,hh3_0,hh4_0,hh4_1,hh5_0,hh11_1,hlt,hm,he,go_sem,↓reduceIte,reduceAdd,reduceSub,reduceEqDiff,reduceLeDiff,reduceCtorEq]
     try refine And.intro (by omega) ?_
     refine (hI _ _).2 ⟨acc ++ [c], true, w + 1, ?_, ?_, ?_, ?_, ?_, ?_, ?_, ?_, ?_, ?_, ?_, ?_, ?_, ?_⟩
     ·exact hw
     ·exact by simp; omega
     all_goals exact cl0
   | false =>
    by_cases hge : h.group ≤ c.group
    ·by_cases he : c.group = h.group
     ·simp only [he, Int.le_refl, decide_true, Bool.not_false, Bool.and_self, if_true, List.append_nil, Bool.or_true, ← List.append_assoc] at hw
      simp -implicitDefEqProofs (disch:=omega) only [h3,h4,h5,h6,h26,h27,h28,hh3_0,hh4_0,hh4_1,hh5_0,hh11_1,hlt,hm,hge,he,Int.le_refl,decide_true,go_sem,↓reduceIte,reduceAdd,reduceSub,reduceEqDiff,reduceLeDiff,reduceCtorEq]
      try refine And.intro (by omega) ?_
      refine (hI _ _).2 ⟨acc ++ [h], true, w + 1, ?_, ?_, ?_, ?_, ?_, ?_, ?_, ?_, ?_, ?_, ?_, ?_, ?_, ?_⟩
      ·exact hw
      ·exact by simp; omega
      all_goals exact cl0
     ·simp only [he, hge, decide_true, Bool.not_false, Bool.and_self, if_true, if_false, Bool.or_true, ← List.append_assoc] at hw
      simp -implicitDefEqProofs (disch:=omega) only [h3,h4,h5,h6,h26,h27,h28,hh3_0,hh4_0,hh4_1,hh5_0,hh11_1,hlt,hm,hge,he,go_sem,↓reduceIte,reduceAdd,reduceSub,reduceEqDiff,reduceLeDiff,reduceCtorEq]
      try refine And.intro (by omega) ?_
      refine (hI _ _).2 ⟨acc ++ [h] ++ [c], true, w + 1 + 1, ?_, ?_, ?_, ?_, ?_, ?_, ?_, ?_, ?_, ?_, ?_, ?_, ?_, ?_⟩
      ·exact hw
      ·exact by simp; omega
      all_goals exact cl0
    ·have he : ¬ c.group = h.group := by omega
     simp only [he, hge, decide_false, Bool.not_false, Bool.and_false, Bool.false_eq_true, if_false, List.nil_append, Bool.or_false, ← List.append_assoc] at hw
     simp -implicitDefEqProofs (disch:=omega) only [h3,h4,h5,h6,h26,h27,h28,hh3_0,hh4_0,hh4_1,hh5_0,hh11_1,hlt,hm,hge,he,go_sem,↓reduceIte,reduceAdd,reduceSub,reduceEqDiff,reduceLeDiff,reduceCtorEq]
     try refine And.intro (by omega) ?_
     refine (hI _ _).2 ⟨acc ++ [c], false, w + 1, ?_, ?_, ?_, ?_, ?_, ?_, ?_, ?_, ?_, ?_, ?_, ?_, ?_, ?_⟩
     ·exact hw
     ·exact by simp; omega
     all_goals exact cl0
  ·rw [List.drop_of_length_le (by omega), putGo] at hw
   cases d with
   | true =>
    simp only [if_true, List.append_nil] at hw
    simp -implicitDefEqProofs (disch:=omega) only [h3,h4,h5,h6,h26,h27,h28,hh3_0,hh4_0,hh4_1,hh5_0,hh11_1,hge,go_sem,↓reduceIte,reduceAdd,reduceSub,reduceEqDiff,reduceLeDiff,reduceCtorEq]
    rw [hw]
   | false =>
    simp only [Bool.false_eq_true, if_false] at hw
    simp -implicitDefEqProofs (disch:=omega) only [h3,h4,h5,h6,h26,h27,h28,hh3_0,hh4_0,hh4_1,hh5_0,hh11_1,hge,go_sem,↓reduceIte,reduceAdd,reduceSub,reduceEqDiff,reduceLeDiff,reduceCtorEq]
    rw [hw]
    simp [Hg.pv, z1]
theorem sameH_ne {c d : Hg} (h : ¬ c = d) : (decide (c.group = d.group) && (decide (c.file = d.file) && (decide (c.anon = d.anon) && decide (c.swap = d.swap)))) = false := by
 cases c; cases d
 simp only [Hg.mk.injEq] at h
 simp only [Bool.and_eq_false_iff, decide_eq_false_iff_not]
 omega
theorem sameH_eq (a b : List Hg) (hl : a.length < 1000000) : V 32 [.p (hgsP a), .p (hgsP b)] [] = some (.p (.bool (decide (a = b))), []) := by
 refine V_wp (vf := vf32) rfl ?_
 by_cases he : a.length = b.length
 ·have he' : ((a.length : Int) = b.length) := by omega
  simp -implicitDefEqProofs (disch:=omega) only [vf32,vb32,he',go_sem,↓reduceIte,reduceAdd,reduceSub,reduceEqDiff,reduceLeDiff,reduceCtorEq]
  obtain ⟨I, hI⟩ : ∃ I : Nat → St → Prop, ∀ k s, I k s ↔ a.take k = b.take k ∧ s.pe 0 = .p (hgsP a) ∧ s.pe 1 = .p (hgsP b) ∧ s.pe 5 = .p (.int .i64 k) := ⟨_, fun _ _ => Iff.rfl⟩
  refine wp_count (a.length) I ?_ ?_
  ·refine (hI _ _).2 ⟨?_, ?_, ?_, ?_⟩
   ·exact cl3
   all_goals exact cl0
  intro k s hk hIk
  obtain ⟨ht, h0, h1, h5⟩ := (hI _ _).1 hIk
  clear hIk
  simp -implicitDefEqProofs (disch:=omega) only [h0,h1,h5,go_sem,↓reduceIte,reduceAdd,reduceSub,reduceEqDiff,reduceLeDiff,reduceCtorEq]
  refine wp_if_d (fun hlt => ?_) (fun hge => ?_)
  ·have ha : a[k]? = some a[k] := List.getElem?_eq_getElem hlt
   have hb : b[k]? = some b[k] := List.getElem?_eq_getElem (by omega)
   generalize a[k] = c at ha
   generalize b[k] = d at hb
   by_cases hcd : c = d
   ·subst hcd
    simp -implicitDefEqProofs (disch:=omega) only [h0,h1,h5,hlt,ha,hb,Hg.pv,go_sem,↓reduceIte,reduceAdd,reduceSub,reduceEqDiff,reduceLeDiff,reduceCtorEq]
    try refine And.intro (by omega) ?_
    refine (hI _ _).2 ⟨?_, ?_, ?_, ?_⟩
    ·exact by rw [List.take_add_one, List.take_add_one, ha, hb, ht]
    all_goals exact cl0
   ·have hne : ¬ a = b := by
     intro hab
     subst hab
     rw [ha] at hb
     cases hb
     exact hcd rfl
    have hx := sameH_ne hcd
    simp -implicitDefEqProofs (disch:=omega) only [h0,h1,h5,hlt,ha,hb,hx,hne,decide_false,Hg.pv,go_sem,↓reduceIte,reduceAdd,reduceSub,reduceEqDiff,reduceLeDiff,reduceCtorEq]
  ·have hab : a = b := by
    rw [List.take_of_length_le (by omega), List.take_of_length_le (by omega)] at ht
    exact ht
   simp -implicitDefEqProofs (disch:=omega) only [h0,h1,h5,hge,hab,decide_true,go_sem,↓reduceIte,reduceAdd,reduceSub,reduceEqDiff,reduceLeDiff,reduceCtorEq]
 ·have he' : ¬ ((a.length : Int) = b.length) := by omega
  have hne : ¬ a = b := fun h => he (by rw [h])
  simp -implicitDefEqProofs (disch:=omega) only [vf32,vb32,he',hne,decide_false,go_sem,↓reduceIte,reduceAdd,reduceSub,reduceEqDiff,reduceLeDiff,reduceCtorEq]
theorem sameK_ne {c d : Sh} (h : ¬ c = d) : (decide (c.group = d.group) && (decide (c.file = d.file) && (decide (c.anon = d.anon) && decide (c.low = d.low)))) = false := by
 cases c; cases d
 simp only [Sh.mk.injEq] at h
 simp only [Bool.and_eq_false_iff, decide_eq_false_iff_not]
 omega
theorem sameK_eq (a b : List Sh) (hl : a.length < 1000000) : V 24 [.p (shsP a), .p (shsP b)] [] = some (.p (.bool (decide (a = b))), []) := by
 refine V_wp (vf := vf24) rfl ?_
 by_cases he : a.length = b.length
 ·have he' : ((a.length : Int) = b.length) := by omega
  simp -implicitDefEqProofs (disch:=omega) only [vf24,vb24,he',go_sem,↓reduceIte,reduceAdd,reduceSub,reduceEqDiff,reduceLeDiff,reduceCtorEq]
  obtain ⟨I, hI⟩ : ∃ I : Nat → St → Prop, ∀ k s, I k s ↔ a.take k = b.take k ∧ s.pe 0 = .p (shsP a) ∧ s.pe 1 = .p (shsP b) ∧ s.pe 5 = .p (.int .i64 k) := ⟨_, fun _ _ => Iff.rfl⟩
  refine wp_count (a.length) I ?_ ?_
  ·refine (hI _ _).2 ⟨?_, ?_, ?_, ?_⟩
   ·exact cl3
   all_goals exact cl0
  intro k s hk hIk
  obtain ⟨ht, h0, h1, h5⟩ := (hI _ _).1 hIk
  clear hIk
  simp -implicitDefEqProofs (disch:=omega) only [h0,h1,h5,go_sem,↓reduceIte,reduceAdd,reduceSub,reduceEqDiff,reduceLeDiff,reduceCtorEq]
  refine wp_if_d (fun hlt => ?_) (fun hge => ?_)
  ·have ha : a[k]? = some a[k] := List.getElem?_eq_getElem hlt
   have hb : b[k]? = some b[k] := List.getElem?_eq_getElem (by omega)
   generalize a[k] = c at ha
   generalize b[k] = d at hb
   by_cases hcd : c = d
   ·subst hcd
    simp -implicitDefEqProofs (disch:=omega) only [h0,h1,h5,hlt,ha,hb,Sh.pv,go_sem,↓reduceIte,reduceAdd,reduceSub,reduceEqDiff,reduceLeDiff,reduceCtorEq]
    try refine And.intro (by omega) ?_
    refine (hI _ _).2 ⟨?_, ?_, ?_, ?_⟩
    ·exact by rw [List.take_add_one, List.take_add_one, ha, hb, ht]
    all_goals exact cl0
   ·have hne : ¬ a = b := by
     intro hab
     subst hab
     rw [ha] at hb
     cases hb
     exact hcd rfl
    have hx := sameK_ne hcd
    simp -implicitDefEqProofs (disch:=omega) only [h0,h1,h5,hlt,ha,hb,hx,hne,decide_false,Sh.pv,go_sem,↓reduceIte,reduceAdd,reduceSub,reduceEqDiff,reduceLeDiff,reduceCtorEq]
  ·have hab : a = b := by
    rw [List.take_of_length_le (by omega), List.take_of_length_le (by omega)] at ht
    exact ht
   simp -implicitDefEqProofs (disch:=omega) only [h0,h1,h5,hge,hab,decide_true,go_sem,↓reduceIte,reduceAdd,reduceSub,reduceEqDiff,reduceLeDiff,reduceCtorEq]
 ·have he' : ¬ ((a.length : Int) = b.length) := by omega
  have hne : ¬ a = b := fun h => he (by rw [h])
  simp -implicitDefEqProofs (disch:=omega) only [vf24,vb24,he',hne,decide_false,go_sem,↓reduceIte,reduceAdd,reduceSub,reduceEqDiff,reduceLeDiff,reduceCtorEq]
theorem pagesB_true {n : Int} (h : pagesB n = true) : 0 ≤ n ∧ n ≤ 16777216 := by
 simpa [pagesB] using h
set_option maxHeartbeats 4000000 in
theorem svalid_eq (t : Tr) (sw : Stk) (hf : t.Fits) (hn : t.nodes.length < 1000000) (hl : sw.hs.length < 1000000) : V 64 [t.vv, sw.vv] [] = some (.p (.bool (validS t sw)), []) := by
 refine V_wp (vf := vf64) rfl ?_
 have hc := tcheck_eq t hf hn
 have hz := spages_eq sw.size
 unfold validS
 rw [show (decide (0 ≤ sw.size) && decide (sw.size ≤ 16777216)) = pagesB sw.size from rfl]
 by_cases ht : treeOk t = true
 ·rw [ht] at hc ⊢
  rw [Bool.true_and]
  by_cases hzz : pagesB sw.size = true
  ·rw [hzz] at hz ⊢
   rw [Bool.true_and]
   obtain ⟨z0, z1⟩ := pagesB_true hzz
   simp -implicitDefEqProofs (disch:=omega) only [vf64,vb64,hc,hz,go_sem,↓reduceIte,reduceAdd,reduceSub,reduceEqDiff,reduceLeDiff,reduceCtorEq]
   obtain ⟨I, hI⟩ : ∃ I : Nat → St → Prop, ∀ k s, I k s ↔ ∃ (p : Option Int) (m : Int) (q : Int), hgOk t.nodes sw.size none 0 0 sw.hs = hgOk t.nodes sw.size p m q (sw.hs.drop k) ∧ (k = 0 → p = none) ∧ (∀ j, k = j + 1 → ∃ c, sw.hs[j]? = some c ∧ p = some c.group) ∧ 0 ≤ m ∧ m ≤ 16777216 ∧ 0 ≤ q ∧ q ≤ sw.size ∧ s.pe 2 = .ptr (.slot 2 0) 0 0 ∧ s.pe 3 = .ptr (.slot 3 0) 0 0 ∧ s.pe 5 = .p (.int .i64 m) ∧ s.pe 6 = .p (.int .i64 q) ∧ s.pe 21 = .p (hgsP sw.hs) ∧ s.pe 22 = .p (.int .i64 ↑sw.hs.length) ∧ s.pe 23 = .p (.int .i64 k) ∧ s.h (.slot 2 0) = some (0, Ob.box [.p (nodesP t.nodes), .p (.int .i64 t.next)]) ∧ s.h (.slot 3 0) = some (0, Ob.box [.p (hgsP sw.hs), .p (.int .i64 sw.size)]) := ⟨_, fun _ _ => Iff.rfl⟩
   refine wp_count (sw.hs.length) I ?_ ?_
   ·refine (hI _ _).2 ⟨none, 0, 0, ?_, ?_, ?_, ?_, ?_, ?_, ?_, ?_, ?_, ?_, ?_, ?_, ?_, ?_, ?_, ?_⟩
    ·rfl
    ·exact fun _ => rfl
    ·exact fun j hj => by omega
    ·omega
    ·omega
    ·omega
    ·omega
    all_goals exact cl0
   intro k s hk hIk
   obtain ⟨p, m, q, hq, hp0, hp1, m0, m1, q0, q1, h2, h3, h5, h6, h21, h22, h23, hh2_0, hh3_0⟩ := (hI _ _).1 hIk
   clear hIk
   simp -implicitDefEqProofs (disch:=omega) only [h2,h3,h5,h6,h21,h22,h23,hh2_0,hh3_0,go_sem,↓reduceIte,reduceAdd,reduceSub,reduceEqDiff,reduceLeDiff,reduceCtorEq]
   refine wp_if_d (fun hlt => ?_) (fun hge => ?_)
   ·have hm : sw.hs[k]? = some sw.hs[k] := List.getElem?_eq_getElem hlt
    have hd : sw.hs.drop k = sw.hs[k] :: sw.hs.drop (k + 1) := List.drop_eq_getElem_cons hlt
    generalize sw.hs[k] = c at hm hd
    have hfi := ffind_eq t c.group hn
    have p1 := spages_eq c.file
    have p2 := spages_eq c.anon
    have p3 := spages_eq c.swap
    rw [hd, hgOk_cons] at hq
    rw [show (decide (0 ≤ c.file) && decide (c.file ≤ 16777216)) = pagesB c.file from rfl, show (decide (0 ≤ c.anon) && decide (c.anon ≤ 16777216)) = pagesB c.anon from rfl, show (decide (0 ≤ c.swap) && decide (c.swap ≤ 16777216)) = pagesB c.swap from rfl] at hq
    have hnx : ∀ j, k + 1 = j + 1 → ∃ c', sw.hs[j]? = some c' ∧ some c.group = some c'.group := fun j hj => ⟨c, by rw [show j = k by omega]; exact hm, rfl⟩
    cases hfs : (findN t.nodes c.group).isSome with
    | false =>
     rw [hfs] at hfi
     simp only [hfs, Bool.false_and] at hq
     generalize (findN t.nodes c.group).getD zeroNd = nd at hfi
     simp -implicitDefEqProofs (disch:=omega) only [h2,h3,h5,h6,h21,h22,h23,hh2_0,hh3_0,hlt,hm,hfi,Nd.vv,hq,go_sem,↓reduceIte,reduceAdd,reduceSub,reduceEqDiff,reduceLeDiff,reduceCtorEq]
    | true =>
     rw [hfs] at hfi
     rw [hfs, Bool.true_and] at hq
     generalize (findN t.nodes c.group).getD zeroNd = nd at hfi
     by_cases hk0 : (0 : Int) < k
     ·obtain ⟨e, he, hpe⟩ := hp1 (k - 1) (by omega)
      have he' : sw.hs[((k : Int) - 1).toNat]? = some e := by rw [show ((k : Int) - 1).toNat = k - 1 by omega]; exact he
      have hk1 : (0 : Int) ≤ (k : Int) - 1 := by omega
      subst hpe
      by_cases hle : c.group ≤ e.group
      ·rw [show prevOk (some e.group) c.group = false from decide_eq_false (by omega)] at hq
       simp only [Bool.false_and] at hq
       simp -implicitDefEqProofs (disch:=omega) only [h2,h3,h5,h6,h21,h22,h23,hh2_0,hh3_0,hlt,hm,hfi,Nd.vv,hk0,hk1,he',hle,hq,go_sem,↓reduceIte,reduceAdd,reduceSub,reduceEqDiff,reduceLeDiff,reduceCtorEq]
      ·rw [show prevOk (some e.group) c.group = true from decide_eq_true (by omega), Bool.true_and] at hq
       cases b1 : pagesB c.file with
       | false =>
        rw [b1] at p1 hq
        simp only [Bool.false_and] at hq
        simp -implicitDefEqProofs (disch:=omega) only [h2,h3,h5,h6,h21,h22,h23,hh2_0,hh3_0,hlt,hm,hfi,Nd.vv,hk0,hk1,he',hle,p1,hq,go_sem,↓reduceIte,reduceAdd,reduceSub,reduceEqDiff,reduceLeDiff,reduceCtorEq]
       | true =>
        obtain ⟨b10, b11⟩ := pagesB_true b1
        rw [b1] at p1 hq
        rw [Bool.true_and] at hq
        cases b2 : pagesB c.anon with
        | false =>
         rw [b2] at p2 hq
         simp only [Bool.false_and] at hq
         simp -implicitDefEqProofs (disch:=omega) only [h2,h3,h5,h6,h21,h22,h23,hh2_0,hh3_0,hlt,hm,hfi,Nd.vv,hk0,hk1,he',hle,p1,p2,hq,go_sem,↓reduceIte,reduceAdd,reduceSub,reduceEqDiff,reduceLeDiff,reduceCtorEq]
        | true =>
         obtain ⟨b20, b21⟩ := pagesB_true b2
         rw [b2] at p2 hq
         rw [Bool.true_and] at hq
         cases b3 : pagesB c.swap with
         | false =>
          rw [b3] at p3 hq
          simp only [Bool.false_and] at hq
          simp -implicitDefEqProofs (disch:=omega) only [h2,h3,h5,h6,h21,h22,h23,hh2_0,hh3_0,hlt,hm,hfi,Nd.vv,hk0,hk1,he',hle,p1,p2,p3,hq,go_sem,↓reduceIte,reduceAdd,reduceSub,reduceEqDiff,reduceLeDiff,reduceCtorEq]
         | true =>
          obtain ⟨b30, b31⟩ := pagesB_true b3
          rw [b3] at p3 hq
          rw [Bool.true_and] at hq
          by_cases b4 : c.file + c.anon + c.swap = 0
          ·rw [decide_eq_false (show ¬ (c.file + c.anon + c.swap ≠ 0) from fun h => h b4)] at hq
           simp only [Bool.false_and] at hq
           simp -implicitDefEqProofs (disch:=omega) only [h2,h3,h5,h6,h21,h22,h23,hh2_0,hh3_0,hlt,hm,hfi,Nd.vv,hk0,hk1,he',hle,p1,p2,p3,b4,hq,go_sem,↓reduceIte,reduceAdd,reduceSub,reduceEqDiff,reduceLeDiff,reduceCtorEq]
          ·rw [decide_eq_true (show c.file + c.anon + c.swap ≠ 0 from b4), Bool.true_and] at hq
           by_cases b5 : 16777216 < m + (c.file + c.anon)
           ·rw [decide_eq_false (show ¬ m + (c.file + c.anon) ≤ 16777216 by omega)] at hq
            simp only [Bool.false_and] at hq
            simp -implicitDefEqProofs (disch:=omega) only [h2,h3,h5,h6,h21,h22,h23,hh2_0,hh3_0,hlt,hm,hfi,Nd.vv,hk0,hk1,he',hle,p1,p2,p3,b4,b5,hq,go_sem,↓reduceIte,reduceAdd,reduceSub,reduceEqDiff,reduceLeDiff,reduceCtorEq]
           ·rw [decide_eq_true (show m + (c.file + c.anon) ≤ 16777216 by omega), Bool.true_and] at hq
            by_cases b6 : sw.size < q + c.swap
            ·rw [decide_eq_false (show ¬ q + c.swap ≤ sw.size by omega)] at hq
             simp only [Bool.false_and] at hq
             simp -implicitDefEqProofs (disch:=omega) only [h2,h3,h5,h6,h21,h22,h23,hh2_0,hh3_0,hlt,hm,hfi,Nd.vv,hk0,hk1,he',hle,p1,p2,p3,b4,b5,b6,hq,go_sem,↓reduceIte,reduceAdd,reduceSub,reduceEqDiff,reduceLeDiff,reduceCtorEq]
            ·rw [decide_eq_true (show q + c.swap ≤ sw.size by omega), Bool.true_and] at hq
             simp -implicitDefEqProofs (disch:=omega) only [h2,h3,h5,h6,h21,h22,h23,hh2_0,hh3_0,hlt,hm,hfi,Nd.vv,hk0,hk1,he',hle,p1,p2,p3,b4,b5,b6,go_sem,↓reduceIte,reduceAdd,reduceSub,reduceEqDiff,reduceLeDiff,reduceCtorEq]
             try refine And.intro (by omega) ?_
             refine (hI _ _).2 ⟨some c.group, m + (c.file + c.anon), q + c.swap, ?_, ?_, ?_, ?_, ?_, ?_, ?_, ?_, ?_, ?_, ?_, ?_, ?_, ?_, ?_, ?_⟩
             ·exact hq
             ·exact by simp
             ·exact hnx
             ·omega
             ·omega
             ·omega
             ·omega
             all_goals exact cl0
     ·have hpn := hp0 (by omega)
      subst hpn
      rw [show prevOk none c.group = true from rfl, Bool.true_and] at hq
      cases b1 : pagesB c.file with
      | false =>
       rw [b1] at p1 hq
       simp only [Bool.false_and] at hq
       simp -implicitDefEqProofs (disch:=omega) only [h2,h3,h5,h6,h21,h22,h23,hh2_0,hh3_0,hlt,hm,hfi,Nd.vv,hk0,p1,hq,go_sem,↓reduceIte,reduceAdd,reduceSub,reduceEqDiff,reduceLeDiff,reduceCtorEq]
      | true =>
       obtain ⟨b10, b11⟩ := pagesB_true b1
       rw [b1] at p1 hq
       rw [Bool.true_and] at hq
       cases b2 : pagesB c.anon with
       | false =>
        rw [b2] at p2 hq
        simp only [Bool.false_and] at hq
        simp -implicitDefEqProofs (disch:=omega) only [h2,h3,h5,h6,h21,h22,h23,hh2_0,hh3_0,hlt,hm,hfi,Nd.vv,hk0,p1,p2,hq,go_sem,↓reduceIte,reduceAdd,reduceSub,reduceEqDiff,reduceLeDiff,reduceCtorEq]
       | true =>
        obtain ⟨b20, b21⟩ := pagesB_true b2
        rw [b2] at p2 hq
        rw [Bool.true_and] at hq
        cases b3 : pagesB c.swap with
        | false =>
         rw [b3] at p3 hq
         simp only [Bool.false_and] at hq
         simp -implicitDefEqProofs (disch:=omega) only [h2,h3,h5,h6,h21,h22,h23,hh2_0,hh3_0,hlt,hm,hfi,Nd.vv,hk0,p1,p2,p3,hq,go_sem,↓reduceIte,reduceAdd,reduceSub,reduceEqDiff,reduceLeDiff,reduceCtorEq]
        | true =>
         obtain ⟨b30, b31⟩ := pagesB_true b3
         rw [b3] at p3 hq
         rw [Bool.true_and] at hq
         by_cases b4 : c.file + c.anon + c.swap = 0
         ·rw [decide_eq_false (show ¬ (c.file + c.anon + c.swap ≠ 0) from fun h => h b4)] at hq
          simp only [Bool.false_and] at hq
          simp -implicitDefEqProofs (disch:=omega) only [h2,h3,h5,h6,h21,h22,h23,hh2_0,hh3_0,hlt,hm,hfi,Nd.vv,hk0,p1,p2,p3,b4,hq,go_sem,↓reduceIte,reduceAdd,reduceSub,reduceEqDiff,reduceLeDiff,reduceCtorEq]
         ·rw [decide_eq_true (show c.file + c.anon + c.swap ≠ 0 from b4), Bool.true_and] at hq
          by_cases b5 : 16777216 < m + (c.file + c.anon)
          ·rw [decide_eq_false (show ¬ m + (c.file + c.anon) ≤ 16777216 by omega)] at hq
           simp only [Bool.false_and] at hq
           simp -implicitDefEqProofs (disch:=omega) only [h2,h3,h5,h6,h21,h22,h23,hh2_0,hh3_0,hlt,hm,hfi,Nd.vv,hk0,p1,p2,p3,b4,b5,hq,go_sem,↓reduceIte,reduceAdd,reduceSub,reduceEqDiff,reduceLeDiff,reduceCtorEq]
          ·rw [decide_eq_true (show m + (c.file + c.anon) ≤ 16777216 by omega), Bool.true_and] at hq
           by_cases b6 : sw.size < q + c.swap
           ·rw [decide_eq_false (show ¬ q + c.swap ≤ sw.size by omega)] at hq
            simp only [Bool.false_and] at hq
            simp -implicitDefEqProofs (disch:=omega) only [h2,h3,h5,h6,h21,h22,h23,hh2_0,hh3_0,hlt,hm,hfi,Nd.vv,hk0,p1,p2,p3,b4,b5,b6,hq,go_sem,↓reduceIte,reduceAdd,reduceSub,reduceEqDiff,reduceLeDiff,reduceCtorEq]
           ·rw [decide_eq_true (show q + c.swap ≤ sw.size by omega), Bool.true_and] at hq
            simp -implicitDefEqProofs (disch:=omega) only [h2,h3,h5,h6,h21,h22,h23,hh2_0,hh3_0,hlt,hm,hfi,Nd.vv,hk0,p1,p2,p3,b4,b5,b6,go_sem,↓reduceIte,reduceAdd,reduceSub,reduceEqDiff,reduceLeDiff,reduceCtorEq]
            try refine And.intro (by omega) ?_
            refine (hI _ _).2 ⟨some c.group, m + (c.file + c.anon), q + c.swap, ?_, ?_, ?_, ?_, ?_, ?_, ?_, ?_, ?_, ?_, ?_, ?_, ?_, ?_, ?_, ?_⟩
            ·exact hq
            ·exact by simp
            ·exact hnx
            ·omega
            ·omega
            ·omega
            ·omega
            all_goals exact cl0
   ·rw [List.drop_of_length_le (by omega)] at hq
    simp only [hgOk] at hq
    simp -implicitDefEqProofs (disch:=omega) only [h2,h3,h5,h6,h21,h22,h23,hh2_0,hh3_0,hge,hq,go_sem,↓reduceIte,reduceAdd,reduceSub,reduceEqDiff,reduceLeDiff,reduceCtorEq]
  ·have hzf : pagesB sw.size = false := by simpa using hzz
   rw [hzf] at hz ⊢
   simp -implicitDefEqProofs (disch:=omega) only [vf64,vb64,hc,hz,Bool.false_and,go_sem,↓reduceIte,reduceAdd,reduceSub,reduceEqDiff,reduceLeDiff,reduceCtorEq]
 ·have htf : treeOk t = false := by simpa using ht
  rw [htf] at hc ⊢
  simp -implicitDefEqProofs (disch:=omega) only [vf64,vb64,hc,Bool.false_and,go_sem,↓reduceIte,reduceAdd,reduceSub,reduceEqDiff,reduceLeDiff,reduceCtorEq]
structure Pr where
 group : Int
 least : Int
 low : Int
 deriving DecidableEq
def Pr.pv (h : Pr) : PV := .agg [.int .i64 h.group, .int .i64 h.least, .int .i64 h.low]
abbrev Pr.vv (h : Pr) : VVal := .agg [.p (.int .i64 h.group), .p (.int .i64 h.least), .p (.int .i64 h.low)]
abbrev prsP (l : List Pr) : PV := .slice 3 (l.map Pr.pv)
attribute [go_sem] Pr.pv
theorem prs_flat (l : List Pr) : (l.map Pr.pv).all PV.flat = true := by
 rw [List.all_eq_true]
 intro x hx
 obtain ⟨n, _, rfl⟩ := List.mem_map.1 hx
 rfl
attribute [go_sem] prs_flat
abbrev amtB (n : Int) : Bool := decide (0 ≤ n) && decide (n ≤ 4611686018427387904)
def prOk (ns : List Nd) : Option Int → List Pr → Bool
 | _, [] => true
 | p, h :: l => (findN ns h.group).isSome && prevOk p h.group && amtB h.least && amtB h.low && prOk ns (some h.group) l
def validPr (t : Tr) (l : List Pr) : Bool := treeOk t && prOk t.nodes none l
structure PrOk (ns : List Nd) (l : List Pr) : Prop where
 known : ∀ h ∈ l, (findN ns h.group).isSome = true
 inc : l.Pairwise fun a b => a.group < b.group
 least : ∀ h ∈ l, 0 ≤ h.least ∧ h.least ≤ 4611686018427387904
 low : ∀ h ∈ l, 0 ≤ h.low ∧ h.low ≤ 4611686018427387904
theorem prOk_iff' (ns : List Nd) : ∀ (l : List Pr) (p : Option Int), prOk ns p l = true ↔ PrOk ns l ∧ ∀ q, p = some q → ∀ h ∈ l, q < h.group
 | [], p => by
  simp only [prOk, true_iff]
  exact ⟨⟨by simp, List.Pairwise.nil, by simp, by simp⟩, by simp⟩
 | h :: l, p => by
  have ih := prOk_iff' ns l (some h.group)
  have hp : prevOk p h.group = true ↔ ∀ q, p = some q → q < h.group := by cases p <;> simp [prevOk]
  simp only [prOk, amtB, Bool.and_eq_true, decide_eq_true_eq, hp, ih]
  constructor
  ·rintro ⟨⟨⟨⟨h1, h2⟩, h3⟩, h4⟩, ⟨a1, a2, a3, a4⟩, h5⟩
   refine ⟨⟨?_, List.pairwise_cons.2 ⟨h5 _ rfl, a2⟩, ?_, ?_⟩, ?_⟩
   ·simp only [List.mem_cons, forall_eq_or_imp]; exact ⟨h1, a1⟩
   ·simp only [List.mem_cons, forall_eq_or_imp]; exact ⟨h3, a3⟩
   ·simp only [List.mem_cons, forall_eq_or_imp]; exact ⟨h4, a4⟩
   ·intro q hq
    have := h2 q hq
    simp only [List.mem_cons, forall_eq_or_imp]
    refine ⟨this, fun c hc => ?_⟩
    have := h5 _ rfl c hc
    omega
  ·rintro ⟨⟨a1, a2, a3, a4⟩, h5⟩
   simp only [List.mem_cons, forall_eq_or_imp] at a1 a3 a4 h5
   obtain ⟨b1, b2⟩ := List.pairwise_cons.1 a2
   refine ⟨⟨⟨⟨a1.1, fun q hq => (h5 q hq).1⟩, a3.1⟩, a4.1⟩, ⟨a1.2, b2, a3.2, a4.2⟩, fun q hq => ?_⟩
   cases hq
   exact b1
theorem validPr_iff (t : Tr) (l : List Pr) : validPr t l = true ↔ TreeOk t ∧ PrOk t.nodes l := by
 simp only [validPr, Bool.and_eq_true, treeOk_iff, prOk_iff']
 constructor
 ·rintro ⟨h1, h2, _⟩; exact ⟨h1, h2⟩
 ·rintro ⟨h1, h2⟩; exact ⟨h1, h2, by simp⟩
set_option maxHeartbeats 4000000 in
theorem prvalid_eq (t : Tr) (l : List Pr) (hf : t.Fits) (hn : t.nodes.length < 1000000) (hl : l.length < 1000000) : V 88 [t.vv, .p (prsP l)] [] = some (.p (.bool (validPr t l)), []) := by
 refine V_wp (vf := vf88) rfl ?_
 have hc := tcheck_eq t hf hn
 unfold validPr
 by_cases ht : treeOk t = true
 ·rw [ht] at hc ⊢
  rw [Bool.true_and]
  simp -implicitDefEqProofs (disch:=omega) only [vf88,vb88,hc,go_sem,↓reduceIte,reduceAdd,reduceSub,reduceEqDiff,reduceLeDiff,reduceCtorEq]
  obtain ⟨I, hI⟩ : ∃ I : Nat → St → Prop, ∀ k s, I k s ↔ ∃ (p : Option Int), prOk t.nodes none l = prOk t.nodes p (l.drop k) ∧ (k = 0 → p = none) ∧ (∀ j, k = j + 1 → ∃ c, l[j]? = some c ∧ p = some c.group) ∧ s.pe 1 = .p (prsP l) ∧ s.pe 2 = .ptr (.slot 2 0) 0 0 ∧ s.pe 12 = .p (prsP l) ∧ s.pe 13 = .p (.int .i64 ↑l.length) ∧ s.pe 14 = .p (.int .i64 k) ∧ s.h (.slot 2 0) = some (0, Ob.box [.p (nodesP t.nodes), .p (.int .i64 t.next)]) := ⟨_, fun _ _ => Iff.rfl⟩
  refine wp_count (l.length) I ?_ ?_
  ·refine (hI _ _).2 ⟨none, ?_, ?_, ?_, ?_, ?_, ?_, ?_, ?_, ?_⟩
   ·rfl
   ·exact fun _ => rfl
   ·exact fun j hj => by omega
   all_goals exact cl0
  intro k s hk hIk
  obtain ⟨p, hq, hp0, hp1, h1, h2, h12, h13, h14, hh2_0⟩ := (hI _ _).1 hIk
  clear hIk
  simp -implicitDefEqProofs (disch:=omega) only [h1,h2,h12,h13,h14,hh2_0,go_sem,↓reduceIte,reduceAdd,reduceSub,reduceEqDiff,reduceLeDiff,reduceCtorEq]
  refine wp_if_d (fun hlt => ?_) (fun hge => ?_)
  ·have hm : l[k]? = some l[k] := List.getElem?_eq_getElem hlt
   have hd : l.drop k = l[k] :: l.drop (k + 1) := List.drop_eq_getElem_cons hlt
   generalize l[k] = c at hm hd
   have hfi := ffind_eq t c.group hn
   rw [hd, prOk] at hq
   have hnx : ∀ j, k + 1 = j + 1 → ∃ c', l[j]? = some c' ∧ some c.group = some c'.group := fun j hj => ⟨c, by rw [show j = k by omega]; exact hm, rfl⟩
   cases hfs : (findN t.nodes c.group).isSome with
   | false =>
    rw [hfs] at hfi
    simp only [hfs, Bool.false_and] at hq
    generalize (findN t.nodes c.group).getD zeroNd = nd at hfi
    simp -implicitDefEqProofs (disch:=omega) only [h1,h2,h12,h13,h14,hh2_0,hlt,hm,hfi,Nd.vv,hq,go_sem,↓reduceIte,reduceAdd,reduceSub,reduceEqDiff,reduceLeDiff,reduceCtorEq]
   | true =>
    rw [hfs] at hfi
    rw [hfs, Bool.true_and] at hq
    generalize (findN t.nodes c.group).getD zeroNd = nd at hfi
    by_cases hk0 : (0 : Int) < k
    ·obtain ⟨e, he, hpe⟩ := hp1 (k - 1) (by omega)
     have he' : l[((k : Int) - 1).toNat]? = some e := by rw [show ((k : Int) - 1).toNat = k - 1 by omega]; exact he
     have hk1 : (0 : Int) ≤ (k : Int) - 1 := by omega
     subst hpe
     by_cases hle : c.group ≤ e.group
     ·rw [show prevOk (some e.group) c.group = false from decide_eq_false (by omega)] at hq
      simp only [Bool.false_and] at hq
      simp -implicitDefEqProofs (disch:=omega) only [h1,h2,h12,h13,h14,hh2_0,hlt,hm,hfi,Nd.vv,hk0,hk1,he',hle,hq,go_sem,↓reduceIte,reduceAdd,reduceSub,reduceEqDiff,reduceLeDiff,reduceCtorEq]
     ·rw [show prevOk (some e.group) c.group = true from decide_eq_true (by omega), Bool.true_and] at hq
      by_cases b0 : c.least < 0
      ·rw [show amtB c.least = false by simp [amtB]; omega] at hq
       simp only [Bool.false_and] at hq
       simp -implicitDefEqProofs (disch:=omega) only [h1,h2,h12,h13,h14,hh2_0,hlt,hm,hfi,Nd.vv,hk0,hk1,he',hle,b0,hq,go_sem,↓reduceIte,reduceAdd,reduceSub,reduceEqDiff,reduceLeDiff,reduceCtorEq]
      ·skip
       by_cases b1 : 4611686018427387904 < c.least
       ·rw [show amtB c.least = false by simp [amtB]; omega] at hq
        simp only [Bool.false_and] at hq
        simp -implicitDefEqProofs (disch:=omega) only [h1,h2,h12,h13,h14,hh2_0,hlt,hm,hfi,Nd.vv,hk0,hk1,he',hle,b0,b1,hq,go_sem,↓reduceIte,reduceAdd,reduceSub,reduceEqDiff,reduceLeDiff,reduceCtorEq]
       ·rw [show amtB c.least = true by simp [amtB]; omega, Bool.true_and] at hq
        by_cases b2 : c.low < 0
        ·rw [show amtB c.low = false by simp [amtB]; omega] at hq
         simp only [Bool.false_and] at hq
         simp -implicitDefEqProofs (disch:=omega) only [h1,h2,h12,h13,h14,hh2_0,hlt,hm,hfi,Nd.vv,hk0,hk1,he',hle,b0,b1,b2,hq,go_sem,↓reduceIte,reduceAdd,reduceSub,reduceEqDiff,reduceLeDiff,reduceCtorEq]
        ·skip
         by_cases b3 : 4611686018427387904 < c.low
         ·rw [show amtB c.low = false by simp [amtB]; omega] at hq
          simp only [Bool.false_and] at hq
          simp -implicitDefEqProofs (disch:=omega) only [h1,h2,h12,h13,h14,hh2_0,hlt,hm,hfi,Nd.vv,hk0,hk1,he',hle,b0,b1,b2,b3,hq,go_sem,↓reduceIte,reduceAdd,reduceSub,reduceEqDiff,reduceLeDiff,reduceCtorEq]
         ·rw [show amtB c.low = true by simp [amtB]; omega, Bool.true_and] at hq
          simp -implicitDefEqProofs (disch:=omega) only [h1,h2,h12,h13,h14,hh2_0,hlt,hm,hfi,Nd.vv,hk0,hk1,he',hle,b0,b1,b2,b3,go_sem,↓reduceIte,reduceAdd,reduceSub,reduceEqDiff,reduceLeDiff,reduceCtorEq]
          try refine And.intro (by omega) ?_
          refine (hI _ _).2 ⟨some c.group, ?_, ?_, ?_, ?_, ?_, ?_, ?_, ?_, ?_⟩
          ·exact hq
          ·exact by simp
          ·exact hnx
          all_goals exact cl0
    ·have hpn := hp0 (by omega)
     subst hpn
     rw [show prevOk none c.group = true from rfl, Bool.true_and] at hq
     by_cases b0 : c.least < 0
     ·rw [show amtB c.least = false by simp [amtB]; omega] at hq
      simp only [Bool.false_and] at hq
      simp -implicitDefEqProofs (disch:=omega) only [h1,h2,h12,h13,h14,hh2_0,hlt,hm,hfi,Nd.vv,hk0,b0,hq,go_sem,↓reduceIte,reduceAdd,reduceSub,reduceEqDiff,reduceLeDiff,reduceCtorEq]
     ·skip
      by_cases b1 : 4611686018427387904 < c.least
      ·rw [show amtB c.least = false by simp [amtB]; omega] at hq
       simp only [Bool.false_and] at hq
       simp -implicitDefEqProofs (disch:=omega) only [h1,h2,h12,h13,h14,hh2_0,hlt,hm,hfi,Nd.vv,hk0,b0,b1,hq,go_sem,↓reduceIte,reduceAdd,reduceSub,reduceEqDiff,reduceLeDiff,reduceCtorEq]
      ·rw [show amtB c.least = true by simp [amtB]; omega, Bool.true_and] at hq
       by_cases b2 : c.low < 0
       ·rw [show amtB c.low = false by simp [amtB]; omega] at hq
        simp only [Bool.false_and] at hq
        simp -implicitDefEqProofs (disch:=omega) only [h1,h2,h12,h13,h14,hh2_0,hlt,hm,hfi,Nd.vv,hk0,b0,b1,b2,hq,go_sem,↓reduceIte,reduceAdd,reduceSub,reduceEqDiff,reduceLeDiff,reduceCtorEq]
       ·skip
        by_cases b3 : 4611686018427387904 < c.low
        ·rw [show amtB c.low = false by simp [amtB]; omega] at hq
         simp only [Bool.false_and] at hq
         simp -implicitDefEqProofs (disch:=omega) only [h1,h2,h12,h13,h14,hh2_0,hlt,hm,hfi,Nd.vv,hk0,b0,b1,b2,b3,hq,go_sem,↓reduceIte,reduceAdd,reduceSub,reduceEqDiff,reduceLeDiff,reduceCtorEq]
        ·rw [show amtB c.low = true by simp [amtB]; omega, Bool.true_and] at hq
         simp -implicitDefEqProofs (disch:=omega) only [h1,h2,h12,h13,h14,hh2_0,hlt,hm,hfi,Nd.vv,hk0,b0,b1,b2,b3,go_sem,↓reduceIte,reduceAdd,reduceSub,reduceEqDiff,reduceLeDiff,reduceCtorEq]
         try refine And.intro (by omega) ?_
         refine (hI _ _).2 ⟨some c.group, ?_, ?_, ?_, ?_, ?_, ?_, ?_, ?_, ?_⟩
         ·exact hq
         ·exact by simp
         ·exact hnx
         all_goals exact cl0
  ·rw [List.drop_of_length_le (by omega)] at hq
   simp only [prOk] at hq
   simp -implicitDefEqProofs (disch:=omega) only [h1,h2,h12,h13,h14,hh2_0,hge,hq,go_sem,↓reduceIte,reduceAdd,reduceSub,reduceEqDiff,reduceLeDiff,reduceCtorEq]
 ·have htf : treeOk t = false := by simpa using ht
  rw [htf] at hc ⊢
  simp -implicitDefEqProofs (disch:=omega) only [vf88,vb88,hc,Bool.false_and,go_sem,↓reduceIte,reduceAdd,reduceSub,reduceEqDiff,reduceLeDiff,reduceCtorEq]
abbrev setKs (l : List Pr) : List MKey := l.map fun x => MKey.int x.group
theorem leaF_eq (h : Pr) : V 107 [h.vv] [] = some (.p (.int .i64 h.least), []) := by
 refine V_wp (vf := vf107) rfl ?_
 simp -implicitDefEqProofs (disch:=omega) only [vf107,vb107,go_sem,↓reduceIte,reduceAdd,reduceSub,reduceEqDiff,reduceLeDiff,reduceCtorEq]
abbrev leaP (l : List Pr) : PV := .map (.int .i64) (setKs l) (l.map fun x => PV.int .i64 (min x.least 16777216))
set_option maxHeartbeats 2000000 in
theorem lea_settings_eq (l : List Pr) (hl : l.length < 1000000) (hnd : (l.map (·.group)).Nodup) : V 106 [.p (prsP l), .p (.fn 107)] [] = some (.p (leaP l), []) := by
 refine V_wp (vf := vf106) rfl ?_
 simp -implicitDefEqProofs (disch:=omega) only [vf106,vb106,go_sem,↓reduceIte,reduceAdd,reduceSub,reduceEqDiff,reduceLeDiff,reduceCtorEq]
 obtain ⟨I, hI⟩ : ∃ I : Nat → St → Prop, ∀ k s, I k s ↔ s.pe 1 = .p (.fn 107) ∧ s.pe 5 = .mref (.slot 8 0) 0 ∧ s.pe 9 = .p (prsP l) ∧ s.pe 10 = .p (.int .i64 ↑l.length) ∧ s.pe 11 = .p (.int .i64 k) ∧ s.h (.slot 8 0) = some (0, Ob.map (KT.int IntKind.i64) (setKs (l.take k)) ((l.take k).map fun x => PV.int .i64 (min x.least 16777216))) := ⟨_, fun _ _ => Iff.rfl⟩
 refine wp_count (l.length) I ?_ ?_
 ·refine (hI _ _).2 ⟨?_, ?_, ?_, ?_, ?_, ?_⟩
  all_goals exact cl0
 intro k s hk hIk
 obtain ⟨h1, h5, h9, h10, h11, hh8_0⟩ := (hI _ _).1 hIk
 clear hIk
 simp -implicitDefEqProofs (disch:=omega) only [h1,h5,h9,h10,h11,hh8_0,go_sem,↓reduceIte,reduceAdd,reduceSub,reduceEqDiff,reduceLeDiff,reduceCtorEq]
 refine wp_if_d (fun hlt => ?_) (fun hge => ?_)
 ·have hm : l[k]? = some l[k] := List.getElem?_eq_getElem hlt
  have htk := take_snoc hm
  have hnew : MKey.int l[k].group ∉ setKs (l.take k) := by
   intro h
   obtain ⟨y, hy, he⟩ := List.mem_map.1 h
   have he' : y.group = l[k].group := by simpa using he
   obtain ⟨i, hi, rfl⟩ := List.mem_take_iff_getElem.1 hy
   have h1 : i < k := (Nat.lt_min.1 hi).1
   have hnd' := List.pairwise_iff_getElem.1 hnd i k (by simp; omega) (by simpa using hlt) h1
   simp only [List.getElem_map] at hnd'
   exact hnd' he'
  generalize l[k] = x at hm htk hnew
  have hput := mput_new (MKey.int x.group) (PV.int .i64 (min x.least 16777216)) (setKs (l.take k)) ((l.take k).map fun x => PV.int .i64 (min x.least 16777216)) (by simp) hnew
  have e1 : setKs (l.take (k + 1)) = setKs (l.take k) ++ [MKey.int x.group] := by rw [htk]; simp
  have e2 : ((l.take (k + 1)).map fun x => PV.int .i64 (min x.least 16777216)) = ((l.take k).map fun x => PV.int .i64 (min x.least 16777216)) ++ [PV.int .i64 (min x.least 16777216)] := by rw [htk]; simp
  have hfe := leaF_eq x
  simp -implicitDefEqProofs (disch:=omega) only [h1,h5,h9,h10,h11,hh8_0,hlt,hm,hfe,hput,go_sem,↓reduceIte,reduceAdd,reduceSub,reduceEqDiff,reduceLeDiff,reduceCtorEq]
  try refine And.intro (by omega) ?_
  refine (hI _ _).2 ⟨?_, ?_, ?_, ?_, ?_, ?_⟩
  all_goals exact cl0
 ·simp -implicitDefEqProofs (disch:=omega) only [h1,h5,h9,h10,h11,hh8_0,hge,go_sem,↓reduceIte,reduceAdd,reduceSub,reduceEqDiff,reduceLeDiff,reduceCtorEq]
  rw [List.take_of_length_le (by omega)]
theorem lowF_eq (h : Pr) : V 108 [h.vv] [] = some (.p (.int .i64 h.low), []) := by
 refine V_wp (vf := vf108) rfl ?_
 simp -implicitDefEqProofs (disch:=omega) only [vf108,vb108,go_sem,↓reduceIte,reduceAdd,reduceSub,reduceEqDiff,reduceLeDiff,reduceCtorEq]
abbrev lowP (l : List Pr) : PV := .map (.int .i64) (setKs l) (l.map fun x => PV.int .i64 (min x.low 16777216))
set_option maxHeartbeats 2000000 in
theorem low_settings_eq (l : List Pr) (hl : l.length < 1000000) (hnd : (l.map (·.group)).Nodup) : V 106 [.p (prsP l), .p (.fn 108)] [] = some (.p (lowP l), []) := by
 refine V_wp (vf := vf106) rfl ?_
 simp -implicitDefEqProofs (disch:=omega) only [vf106,vb106,go_sem,↓reduceIte,reduceAdd,reduceSub,reduceEqDiff,reduceLeDiff,reduceCtorEq]
 obtain ⟨I, hI⟩ : ∃ I : Nat → St → Prop, ∀ k s, I k s ↔ s.pe 1 = .p (.fn 108) ∧ s.pe 5 = .mref (.slot 8 0) 0 ∧ s.pe 9 = .p (prsP l) ∧ s.pe 10 = .p (.int .i64 ↑l.length) ∧ s.pe 11 = .p (.int .i64 k) ∧ s.h (.slot 8 0) = some (0, Ob.map (KT.int IntKind.i64) (setKs (l.take k)) ((l.take k).map fun x => PV.int .i64 (min x.low 16777216))) := ⟨_, fun _ _ => Iff.rfl⟩
 refine wp_count (l.length) I ?_ ?_
 ·refine (hI _ _).2 ⟨?_, ?_, ?_, ?_, ?_, ?_⟩
  all_goals exact cl0
 intro k s hk hIk
 obtain ⟨h1, h5, h9, h10, h11, hh8_0⟩ := (hI _ _).1 hIk
 clear hIk
 simp -implicitDefEqProofs (disch:=omega) only [h1,h5,h9,h10,h11,hh8_0,go_sem,↓reduceIte,reduceAdd,reduceSub,reduceEqDiff,reduceLeDiff,reduceCtorEq]
 refine wp_if_d (fun hlt => ?_) (fun hge => ?_)
 ·have hm : l[k]? = some l[k] := List.getElem?_eq_getElem hlt
  have htk := take_snoc hm
  have hnew : MKey.int l[k].group ∉ setKs (l.take k) := by
   intro h
   obtain ⟨y, hy, he⟩ := List.mem_map.1 h
   have he' : y.group = l[k].group := by simpa using he
   obtain ⟨i, hi, rfl⟩ := List.mem_take_iff_getElem.1 hy
   have h1 : i < k := (Nat.lt_min.1 hi).1
   have hnd' := List.pairwise_iff_getElem.1 hnd i k (by simp; omega) (by simpa using hlt) h1
   simp only [List.getElem_map] at hnd'
   exact hnd' he'
  generalize l[k] = x at hm htk hnew
  have hput := mput_new (MKey.int x.group) (PV.int .i64 (min x.low 16777216)) (setKs (l.take k)) ((l.take k).map fun x => PV.int .i64 (min x.low 16777216)) (by simp) hnew
  have e1 : setKs (l.take (k + 1)) = setKs (l.take k) ++ [MKey.int x.group] := by rw [htk]; simp
  have e2 : ((l.take (k + 1)).map fun x => PV.int .i64 (min x.low 16777216)) = ((l.take k).map fun x => PV.int .i64 (min x.low 16777216)) ++ [PV.int .i64 (min x.low 16777216)] := by rw [htk]; simp
  have hfe := lowF_eq x
  simp -implicitDefEqProofs (disch:=omega) only [h1,h5,h9,h10,h11,hh8_0,hlt,hm,hfe,hput,go_sem,↓reduceIte,reduceAdd,reduceSub,reduceEqDiff,reduceLeDiff,reduceCtorEq]
  try refine And.intro (by omega) ?_
  refine (hI _ _).2 ⟨?_, ?_, ?_, ?_, ?_, ?_⟩
  all_goals exact cl0
 ·simp -implicitDefEqProofs (disch:=omega) only [h1,h5,h9,h10,h11,hh8_0,hge,go_sem,↓reduceIte,reduceAdd,reduceSub,reduceEqDiff,reduceLeDiff,reduceCtorEq]
  rw [List.take_of_length_le (by omega)]
def parN (ns : List Nd) (g : Int) : Int := ((findN ns g).getD zeroNd).parent
def effN (ns : List Nd) (cl : Int → Int) (root : Int) : Nat → Int → Int
 | 0, _ => 0
 | k + 1, g => if g = root then 0 else if parN ns g = root then cl g else
   if sumI ((kidsN ns (parN ns g)).map cl) ≤ effN ns cl root k (parN ns g) then cl g else cl g * effN ns cl root k (parN ns g) / sumI ((kidsN ns (parN ns g)).map cl)
def effT (t : Tr) (cl : Int → Int) (root g : Int) : Int := effN t.nodes cl root t.nodes.length g
theorem parN_at {t : Tr} (h : TreeOk t) {i : Nat} {n : Nd} (hn : t.nodes[i]? = some n) : parN t.nodes n.id = n.parent := by rw [parN, findN_unique h.inc hn]; rfl
theorem effN_fuel {t : Tr} (h : TreeOk t) (cl : Int → Int) {root : Int} : ∀ (i : Nat) (n : Nd), t.nodes[i]? = some n → root ∈ ancF t.nodes t.nodes.length n.id → ∀ k k', i < k → i < k' → effN t.nodes cl root k n.id = effN t.nodes cl root k' n.id := by
 intro i
 induction i using Nat.strongRecOn with
 | _ i ih =>
  intro n hn ha k k' hk hk'
  obtain ⟨k, rfl⟩ : ∃ m, k = m + 1 := ⟨k - 1, by omega⟩
  obtain ⟨k', rfl⟩ : ∃ m, k' = m + 1 := ⟨k' - 1, by omega⟩
  simp only [effN, parN_at h hn]
  by_cases h1 : n.id = root
  ·rw [if_pos h1, if_pos h1]
  ·rw [if_neg h1, if_neg h1]
   rcases (anc_iff h hn root).1 ha with h2 | ⟨hi, h2⟩
   ·exact absurd h2.symm h1
   ·rcases h.nodeAt hn with ⟨h3, _⟩ | ⟨_, _, j, p, hj, hpn, he⟩
    ·exact absurd h3 hi
    ·rw [← he] at h2 ⊢
     rw [ih j (by omega) p hpn h2 k k' (by omega) (by omega)]
theorem effT_root {t : Tr} {cl : Int → Int} {root : Int} : effT t cl root root = 0 := by
 unfold effT
 cases t.nodes.length with
 | zero => rfl
 | succ k => rw [effN, if_pos rfl]
theorem effT_step {t : Tr} (h : TreeOk t) (cl : Int → Int) {root : Int} {i : Nat} {n : Nd} (hn : t.nodes[i]? = some n) {j : Nat} {p : Nd} (hp : t.nodes[j]? = some p) (he : p.id = n.parent) (ha : root ∈ ancF t.nodes t.nodes.length p.id) : effT t cl root n.id = if p.id = root then cl n.id else if sumI ((kidsN t.nodes p.id).map cl) ≤ effT t cl root p.id then cl n.id else cl n.id * effT t cl root p.id / sumI ((kidsN t.nodes p.id).map cl) := by
 have hij := h.kid hp hn he.symm
 have hi := (List.getElem?_eq_some_iff.1 hn).1
 obtain ⟨N, hN⟩ : ∃ N, t.nodes.length = N + 1 := ⟨t.nodes.length - 1, by omega⟩
 have hne : ¬ n.id = root := by
  intro hr
  obtain ⟨q, m, hm, hme, hqj⟩ := ancUp h j p hp ha
  have := (h.idx hm hn (by rw [hme, hr])).1
  omega
 have e1 : effT t cl root n.id = effN t.nodes cl root (N + 1) n.id := by rw [effT, hN]
 have e2 : effT t cl root p.id = effN t.nodes cl root N p.id := effN_fuel h cl j p hp ha _ _ (by omega) (by omega)
 rw [e1, effN, if_neg hne, parN_at h hn, ← he, e2]
where
 ancUp {t : Tr} (h : TreeOk t) {root : Int} : ∀ (j : Nat) (p : Nd), t.nodes[j]? = some p → root ∈ ancF t.nodes t.nodes.length p.id → ∃ (q : Nat) (m : Nd), t.nodes[q]? = some m ∧ m.id = root ∧ q ≤ j := by
  intro j
  induction j using Nat.strongRecOn with
  | _ j ih =>
   intro p hp ha
   rcases (anc_iff h hp root).1 ha with h2 | ⟨hi, h2⟩
   ·exact ⟨j, p, hp, h2.symm, Nat.le_refl _⟩
   ·rcases h.nodeAt hp with ⟨h3, _⟩ | ⟨_, _, i, q, hi2, hq, he⟩
    ·exact absurd h3 hi
    ·rw [← he] at h2
     obtain ⟨a, b, c, d, e⟩ := ih i (by omega) q hq h2
     exact ⟨a, b, c, d, by omega⟩
theorem subF_pre (ns : List Nd) : ∀ (k : Nat) (l : List Int) (A : List Int) (x : Int) (B : List Int), l.flatMap (subF ns k) = A ++ x :: B → x ∈ l ∨ x ∈ A.flatMap (kidsN ns)
 | 0, l, A, x, B, he => by
  exfalso
  have : l.flatMap (subF ns 0) = [] := by
   rw [List.flatMap_eq_nil_iff]
   intro y _
   rfl
  rw [this] at he
  simp at he
 | k + 1, [], A, x, B, he => by simp at he
 | k + 1, y :: l, A, x, B, he => by
  rw [List.flatMap_cons, subF, List.cons_append] at he
  cases A with
  | nil =>
   rw [List.nil_append, List.cons.injEq] at he
   exact Or.inl (by rw [← he.1]; exact List.mem_cons_self ..)
  | cons a A =>
   rw [List.cons_append, List.cons.injEq] at he
   obtain ⟨rfl, he⟩ := he
   rcases List.append_eq_append_iff.1 he with ⟨c, rfl, hc⟩ | ⟨c, hc1, hc2⟩
   ·rcases subF_pre ns (k + 1) l c x B hc with h | h
    ·exact Or.inl (List.mem_cons_of_mem _ h)
    ·right
     rw [List.flatMap_cons, List.flatMap_append]
     simp [h]
   ·cases c with
    | nil =>
     rw [List.nil_append] at hc2
     rcases subF_pre ns (k + 1) l [] x B hc2.symm with h | h
     ·exact Or.inl (List.mem_cons_of_mem _ h)
     ·simp at h
    | cons z c =>
     rw [List.cons_append, List.cons.injEq] at hc2
     obtain ⟨rfl, _⟩ := hc2
     rcases subF_pre ns k _ A x c hc1 with h | h
     ·right
      rw [List.flatMap_cons]
      simp [h]
     ·right
      rw [List.flatMap_cons]
      simp [h]
def RepD (ks : List MKey) (vs : List PV) (f : Int → Int) : Prop := ∀ id, (mget ks vs (.int id)).getD (.int .i64 0) = .int .i64 (f id)
theorem RepD.put {ks : List MKey} {vs : List PV} {f : Int → Int} (h : RepD ks vs f) (g v : Int) : RepD (mput ks vs (.int g) (.int .i64 v)).1 (mput ks vs (.int g) (.int .i64 v)).2 (fun x => if x = g then v else f x) := by
 intro id
 rw [mget_mput]
 by_cases hg : id = g
 ·subst hg
  simp
 ·simp [hg]
  exact h id
theorem RepD.congr {ks : List MKey} {vs : List PV} {f g : Int → Int} (h : RepD ks vs f) (he : ∀ x, f x = g x) : RepD ks vs g := fun id => by rw [← he]; exact h id
theorem RepD.nil : RepD [] [] fun _ => 0 := fun _ => rfl
theorem effN_bound (ns : List Nd) (cl : Int → Int) (hb : ∀ x, 0 ≤ cl x ∧ cl x ≤ 16777216) (root : Int) : ∀ (k : Nat) (g : Int), 0 ≤ effN ns cl root k g ∧ effN ns cl root k g ≤ cl g
 | 0, g => ⟨Int.le_refl _, (hb g).1⟩
 | k + 1, g => by
  have ih := effN_bound ns cl hb root k (parN ns g)
  have hg := hb g
  unfold effN
  split
  ·omega
  ·split
   ·omega
   ·split
    ·omega
    ·rename_i h1
     have hs : effN ns cl root k (parN ns g) < sumI ((kidsN ns (parN ns g)).map cl) := by omega
     generalize effN ns cl root k (parN ns g) = e at ih hs
     generalize sumI ((kidsN ns (parN ns g)).map cl) = s at hs
     generalize cl g = c at hg
     refine ⟨Int.ediv_nonneg (Int.mul_nonneg hg.1 ih.1) (by omega), ?_⟩
     have h2 : c * e ≤ c * s := Int.mul_le_mul_of_nonneg_left (by omega) hg.1
     refine Int.le_trans (Int.ediv_le_ediv (by omega) h2) ?_
     rw [Int.mul_ediv_cancel _ (by omega)]
     exact Int.le_refl _
theorem effT_bound (t : Tr) (cl : Int → Int) (hb : ∀ x, 0 ≤ cl x ∧ cl x ≤ 16777216) (root g : Int) : 0 ≤ effT t cl root g ∧ effT t cl root g ≤ 16777216 := by
 have := effN_bound t.nodes cl hb root t.nodes.length g
 have := hb g
 unfold effT
 omega
def onlyF (D : List Int) (f : Int → Int) (x : Int) : Int := if x ∈ D then f x else 0
set_option maxHeartbeats 4000000 in
theorem peff_eq {t : Tr} (h : TreeOk t) {root : Int} (hr : InN t.nodes root) {uk sk : List MKey} {uv sv : List PV} {u s0 : Int → Int} (hu : RepD uk uv u) (hs : RepD sk sv s0) (hb : ∀ x, 0 ≤ min (u x) (s0 x) ∧ min (u x) (s0 x) ≤ 16777216) : ∃ ks vs, V 105 [t.vv, .mref (.arg 0 0) 0, .p (.map (.int .i64) sk sv), .p (.int .i64 root)] [.map (.int .i64) uk uv] = some (.p (.map (.int .i64) ks vs), [.map (.int .i64) uk uv]) ∧ RepD ks vs (onlyF ((subT t root).flatMap (kidsN t.nodes)) (effT t (fun x => min (u x) (s0 x)) root)) := by
 suffices hw : wp (callF V vf105 [t.vv, .mref (.arg 0 0) 0, .p (.map (.int .i64) sk sv), .p (.int .i64 root)] [.map (.int .i64) uk uv]) (fun r => ∃ ks vs, r = (.p (.map (.int .i64) ks vs), [.map (.int .i64) uk uv]) ∧ RepD ks vs (onlyF ((subT t root).flatMap (kidsN t.nodes)) (effT t (fun x => min (u x) (s0 x)) root))) by
  obtain ⟨r, hr, ks, vs, rfl, hrep⟩ := hw
  exact ⟨ks, vs, V_fix (vf := vf105) rfl hr, hrep⟩
 have hsub := fsub_eq root h
 have hsl := subT_len h root
 have hlen := h.len
 have hST : subT t root = subF t.nodes t.nodes.length root := by
  obtain ⟨i, n, hn, rfl⟩ := hr
  simp [subT, findT_ok ((treeOk_iff t).2 h), findN_unique h.inc hn]
 have heff := effT_bound t (fun x => min (u x) (s0 x)) hb root
 generalize hS : subT t root = S at hsub hsl hST
 simp -implicitDefEqProofs (disch:=omega) only [vf105,vb105,hsub,go_sem,↓reduceIte,reduceAdd,reduceSub,reduceEqDiff,reduceLeDiff,reduceCtorEq]
 obtain ⟨I, hI⟩ : ∃ I : Nat → St → Prop, ∀ k s, I k s ↔ ∃ (ks : List MKey) (vs : List PV), RepD ks vs (onlyF ((S.take k).flatMap (kidsN t.nodes)) (effT t (fun x => min (u x) (s0 x)) root)) ∧ s.pe 1 = .mref (.arg 0 0) 0 ∧ s.pe 2 = .p (PV.map (KT.int IntKind.i64) sk sv) ∧ s.pe 3 = .p (.int .i64 root) ∧ s.pe 4 = .ptr (.slot 4 0) 0 0 ∧ s.pe 9 = .mref (.slot 18 0) 0 ∧ s.pe 21 = .own (.slot 21 1) 0 0 S.length ∧ s.pe 22 = .p (.int .i64 ↑S.length) ∧ s.pe 23 = .p (.int .i64 k) ∧ s.h (.arg 0 0) = some (0, Ob.map (KT.int IntKind.i64) uk uv) ∧ s.h (.slot 4 0) = some (0, Ob.box [.p (nodesP t.nodes), .p (.int .i64 t.next)]) ∧ s.h (.slot 18 0) = some (0, Ob.map (KT.int IntKind.i64) ks vs) ∧ s.h (.slot 21 1) = some (0, Ob.arr 1 (List.map (.int .i64) S)) := ⟨_, fun _ _ => Iff.rfl⟩
 refine wp_count (S.length) I ?_ ?_
 ·refine (hI _ _).2 ⟨[], [], ?_, ?_, ?_, ?_, ?_, ?_, ?_, ?_, ?_, ?_, ?_, ?_, ?_⟩
  ·exact RepD.nil.congr fun x => by simp [onlyF]
  all_goals exact cl0
 intro k s hk hIk
 obtain ⟨ks, vs, hrep, h1, h2, h3, h4, h9, h21, h22, h23, ha0, hh4_0, hh18_0, hh21_1⟩ := (hI _ _).1 hIk
 clear hIk
 simp -implicitDefEqProofs (disch:=omega) only [h1,h2,h3,h4,h9,h21,h22,h23,ha0,hh4_0,hh18_0,hh21_1,go_sem,↓reduceIte,reduceAdd,reduceSub,reduceEqDiff,reduceLeDiff,reduceCtorEq]
 refine wp_if_d (fun hlt => ?_) (fun hge => ?_)
 ·have hm : S[k]? = some S[k] := List.getElem?_eq_getElem hlt
  have htk := take_snoc hm
  have hsp0 : S.take k ++ S[k] :: S.drop (k + 1) = S := by rw [← List.drop_eq_getElem_cons hlt, List.take_append_drop]
  generalize S[k] = g at hm htk hsp0
  have hk := fkids_eq t g (by omega)
  have hkl := kidsN_len t.nodes g
  have hfm : (S.take (k + 1)).flatMap (kidsN t.nodes) = (S.take k).flatMap (kidsN t.nodes) ++ kidsN t.nodes g := by rw [htk]; simp
  obtain ⟨ri, rn, hrn, hre⟩ := hr
  have hgS : g ∈ subF t.nodes t.nodes.length rn.id := by rw [hre, ← hST]; exact List.mem_of_getElem? hm
  obtain ⟨gi, gn, hgn, hge', hga⟩ := (mem_subF h _ ri rn hrn (by omega) g).1 hgS
  rw [hre] at hga
  have hgD : ¬ g = root → g ∈ (S.take k).flatMap (kidsN t.nodes) := by
   intro hne
   have hsp : [root].flatMap (subF t.nodes t.nodes.length) = S.take k ++ g :: S.drop (k + 1) := by
    rw [List.flatMap_cons, List.flatMap_nil, List.append_nil, ← hST]
    exact hsp0.symm
   rcases subF_pre t.nodes _ _ _ _ _ hsp with h1 | h1
   ·exact absurd (List.mem_singleton.1 h1) hne
   ·exact h1
  have hstep : ∀ x ∈ kidsN t.nodes g, ¬ g = x ∧ True ∧ effT t (fun x => min (u x) (s0 x)) root x = if g = root then min (u x) (s0 x) else if sumI ((kidsN t.nodes g).map fun x => min (u x) (s0 x)) ≤ effT t (fun x => min (u x) (s0 x)) root g then min (u x) (s0 x) else min (u x) (s0 x) * effT t (fun x => min (u x) (s0 x)) root g / sumI ((kidsN t.nodes g).map fun x => min (u x) (s0 x)) := by
   intro x hxk
   obtain ⟨xj, xm, hxm, hxp, rfl⟩ := mem_kidsN.1 hxk
   have hlt2 := h.kid hgn hxm (by rw [hxp, hge'])
   refine ⟨fun he => ?_, trivial, ?_⟩
   ·have := (h.idx hgn hxm (by rw [hge', he])).1
    omega
   ·have := effT_step h (fun x => min (u x) (s0 x)) (root := root) hxm hgn (by rw [hge', hxp]) hga
    rw [hge'] at this
    exact this
  generalize hG : kidsN t.nodes g = G at hk hkl hfm hstep
  simp -implicitDefEqProofs (disch:=omega) only [h1,h2,h3,h4,h9,h21,h22,h23,ha0,hh4_0,hh18_0,hh21_1,hlt,hm,hk,go_sem,↓reduceIte,reduceAdd,reduceSub,reduceEqDiff,reduceLeDiff,reduceCtorEq]
  obtain ⟨J, hJ⟩ : ∃ I : Nat → St → Prop, ∀ j s, I j s ↔ ∃ (q : Int) (v29_1 : Nat), sumI (G.map fun x => min (u x) (s0 x)) = q + sumI ((G.drop j).map fun x => min (u x) (s0 x)) ∧ 0 ≤ q ∧ q ≤ 16777216 * j ∧ s.pe 1 = .mref (.arg 0 0) 0 ∧ s.pe 2 = .p (PV.map (KT.int IntKind.i64) sk sv) ∧ s.pe 3 = .p (.int .i64 root) ∧ s.pe 4 = .ptr (.slot 4 0) 0 0 ∧ s.pe 9 = .mref (.slot 18 0) 0 ∧ s.pe 11 = .p (.int .i64 g) ∧ s.pe 12 = .own (.slot 29 1) v29_1 0 G.length ∧ s.pe 13 = .p (.int .i64 q) ∧ s.pe 21 = .own (.slot 21 1) 0 0 S.length ∧ s.pe 22 = .p (.int .i64 ↑S.length) ∧ s.pe 23 = .p (.int .i64 ↑k) ∧ s.pe 30 = .own (.slot 29 1) v29_1 0 G.length ∧ s.pe 31 = .p (.int .i64 ↑G.length) ∧ s.pe 32 = .p (.int .i64 j) ∧ s.h (.arg 0 0) = some (0, Ob.map (KT.int IntKind.i64) uk uv) ∧ s.h (.slot 4 0) = some (0, Ob.box [.p (nodesP t.nodes), .p (.int .i64 t.next)]) ∧ s.h (.slot 18 0) = some (0, Ob.map (KT.int IntKind.i64) ks vs) ∧ s.h (.slot 21 1) = some (0, Ob.arr 1 (List.map (.int .i64) S)) ∧ s.h (.slot 29 1) = some (v29_1, Ob.arr 1 (List.map (.int .i64) G)) := ⟨_, fun _ _ => Iff.rfl⟩
  refine wp_count (G.length) J ?_ ?_
  ·refine (hJ _ _).2 ⟨0, nv (fzOb [29] s.h (.slot 29 1)), ?_, ?_, ?_, ?_, ?_, ?_, ?_, ?_, ?_, ?_, ?_, ?_, ?_, ?_, ?_, ?_, ?_, ?_, ?_, ?_, ?_, ?_⟩
   ·exact by simp
   ·omega
   ·omega
   all_goals exact cl0
  intro j s hj hJk
  obtain ⟨q, v29_1, hq, q0, q1, h1, h2, h3, h4, h9, h11, h12, h13, h21, h22, h23, h30, h31, h32, ha0, hh4_0, hh18_0, hh21_1, hh29_1⟩ := (hJ _ _).1 hJk
  clear hJk
  simp -implicitDefEqProofs (disch:=omega) only [h1,h2,h3,h4,h9,h11,h12,h13,h21,h22,h23,h30,h31,h32,ha0,hh4_0,hh18_0,hh21_1,hh29_1,go_sem,↓reduceIte,reduceAdd,reduceSub,reduceEqDiff,reduceLeDiff,reduceCtorEq]
  refine wp_if_d (fun hjl => ?_) (fun hjg => ?_)
  ·have hx : G[j]? = some G[j] := List.getElem?_eq_getElem hjl
   have hdr : G.drop j = G[j] :: G.drop (j + 1) := List.drop_eq_getElem_cons hjl
   generalize G[j] = x at hx hdr
   rw [hdr, List.map_cons, sumI, ← Int.add_assoc] at hq
   have hux := hu x
   have hsx := hs x
   obtain ⟨c0, c1⟩ := hb x
   simp -implicitDefEqProofs (disch:=omega) only [h1,h2,h3,h4,h9,h11,h12,h13,h21,h22,h23,h30,h31,h32,ha0,hh4_0,hh18_0,hh21_1,hh29_1,hjl,hx,hux,hsx,go_sem,↓reduceIte,reduceAdd,reduceSub,reduceEqDiff,reduceLeDiff,reduceCtorEq]
   try refine And.intro (by omega) ?_
   refine (hJ _ _).2 ⟨q + min (u x) (s0 x), v29_1, ?_, ?_, ?_, ?_, ?_, ?_, ?_, ?_, ?_, ?_, ?_, ?_, ?_, ?_, ?_, ?_, ?_, ?_, ?_, ?_, ?_, ?_⟩
   ·exact hq
   ·omega
   ·exact by push_cast; omega
   all_goals exact cl0
  ·rw [List.drop_of_length_le (by omega), List.map_nil, sumI, Int.add_zero] at hq
   have hjG : j = G.length := by omega
   simp -implicitDefEqProofs (disch:=omega) only [h1,h2,h3,h4,h9,h11,h12,h13,h21,h22,h23,h30,h31,h32,ha0,hh4_0,hh18_0,hh21_1,hh29_1,hjg,go_sem,↓reduceIte,reduceAdd,reduceSub,reduceEqDiff,reduceLeDiff,reduceCtorEq]
   obtain ⟨P, hP⟩ : ∃ I : Nat → St → Prop, ∀ p s, I p s ↔ ∃ (ks : List MKey) (vs : List PV), RepD ks vs (onlyF ((S.take k).flatMap (kidsN t.nodes) ++ G.take p) (effT t (fun x => min (u x) (s0 x)) root)) ∧ s.pe 1 = .mref (.arg 0 0) 0 ∧ s.pe 2 = .p (PV.map (KT.int IntKind.i64) sk sv) ∧ s.pe 3 = .p (.int .i64 root) ∧ s.pe 4 = .ptr (.slot 4 0) 0 0 ∧ s.pe 9 = .mref (.slot 18 0) 0 ∧ s.pe 11 = .p (.int .i64 g) ∧ s.pe 13 = .p (.int .i64 q) ∧ s.pe 21 = .own (.slot 21 1) 0 0 S.length ∧ s.pe 22 = .p (.int .i64 ↑S.length) ∧ s.pe 23 = .p (.int .i64 ↑k) ∧ s.pe 46 = .own (.slot 29 1) v29_1 0 G.length ∧ s.pe 47 = .p (.int .i64 ↑G.length) ∧ s.pe 48 = .p (.int .i64 p) ∧ s.h (.arg 0 0) = some (0, Ob.map (KT.int IntKind.i64) uk uv) ∧ s.h (.slot 4 0) = some (0, Ob.box [.p (nodesP t.nodes), .p (.int .i64 t.next)]) ∧ s.h (.slot 18 0) = some (0, Ob.map (KT.int IntKind.i64) ks vs) ∧ s.h (.slot 21 1) = some (0, Ob.arr 1 (List.map (.int .i64) S)) ∧ s.h (.slot 29 1) = some (v29_1, Ob.arr 1 (List.map (.int .i64) G)) := ⟨_, fun _ _ => Iff.rfl⟩
   refine wp_count (G.length) P ?_ ?_
   ·refine (hP _ _).2 ⟨ks, vs, ?_, ?_, ?_, ?_, ?_, ?_, ?_, ?_, ?_, ?_, ?_, ?_, ?_, ?_, ?_, ?_, ?_, ?_, ?_⟩
    ·exact by simpa using hrep
    all_goals exact cl0
   intro p s hp hPk
   obtain ⟨ks, vs, hrp, h1, h2, h3, h4, h9, h11, h13, h21, h22, h23, h46, h47, h48, ha0, hh4_0, hh18_0, hh21_1, hh29_1⟩ := (hP _ _).1 hPk
   clear hPk
   simp -implicitDefEqProofs (disch:=omega) only [h1,h2,h3,h4,h9,h11,h13,h21,h22,h23,h46,h47,h48,ha0,hh4_0,hh18_0,hh21_1,hh29_1,go_sem,↓reduceIte,reduceAdd,reduceSub,reduceEqDiff,reduceLeDiff,reduceCtorEq]
   refine wp_if_d (fun hpl => ?_) (fun hpg => ?_)
   ·have hx : G[p]? = some G[p] := List.getElem?_eq_getElem hpl
    have htp := take_snoc hx
    generalize G[p] = x at hx htp
    have hux := hu x
    have hsx := hs x
    obtain ⟨c0, c1⟩ := hb x
    obtain ⟨st1, st2, st3⟩ := hstep x (List.mem_of_getElem? hx)
    have hrx := hrp.put x (min (u x) (s0 x))
    have lg := hrx g
    have lx := hrx x
    simp only [if_neg st1, if_pos] at lg lx
    have hnew : ∀ v, v = effT t (fun x => min (u x) (s0 x)) root x → ∀ y, (if y = x then v else onlyF ((S.take k).flatMap (kidsN t.nodes) ++ G.take p) (effT t (fun x => min (u x) (s0 x)) root) y) = onlyF ((S.take k).flatMap (kidsN t.nodes) ++ G.take (p + 1)) (effT t (fun x => min (u x) (s0 x)) root) y := by
     intro v hv y
     unfold onlyF
     rw [htp, ← List.append_assoc]
     by_cases hy : y = x
     ·subst hy
      simp [hv]
     ·simp [hy]
    by_cases hgr : g = root
    ·rw [if_pos hgr] at st3
     have hr2 := hrx.congr (hnew _ st3.symm)
     simp -implicitDefEqProofs (disch:=omega) only [h1,h2,h3,h4,h9,h11,h13,h21,h22,h23,h46,h47,h48,ha0,hh4_0,hh18_0,hh21_1,hh29_1,hpl,hx,hux,hsx,hgr,go_sem,↓reduceIte,reduceAdd,reduceSub,reduceEqDiff,reduceLeDiff,reduceCtorEq]
     try refine And.intro (by omega) ?_
     refine (hP _ _).2 ⟨(mput ks vs (.int x) (.int .i64 (min (u x) (s0 x)))).1, (mput ks vs (.int x) (.int .i64 (min (u x) (s0 x)))).2, ?_, ?_, ?_, ?_, ?_, ?_, ?_, ?_, ?_, ?_, ?_, ?_, ?_, ?_, ?_, ?_, ?_, ?_, ?_⟩
     ·exact hr2
     all_goals exact cl0
    ·rw [if_neg hgr] at st3
     have hgv : onlyF ((S.take k).flatMap (kidsN t.nodes) ++ G.take p) (effT t (fun x => min (u x) (s0 x)) root) g = effT t (fun x => min (u x) (s0 x)) root g := by
      unfold onlyF
      rw [if_pos (List.mem_append.2 (Or.inl (hgD hgr)))]
     rw [hgv] at lg
     have hqs : sumI (G.map fun x => min (u x) (s0 x)) = q := hq
     rw [hqs] at st3
     obtain ⟨e0, e1⟩ := heff g
     by_cases hle : q ≤ effT t (fun x => min (u x) (s0 x)) root g
     ·rw [if_pos hle] at st3
      have hr2 := hrx.congr (hnew _ st3.symm)
      have hle' : ¬ effT t (fun x => min (u x) (s0 x)) root g < q := by omega
      simp -implicitDefEqProofs (disch:=omega) only [h1,h2,h3,h4,h9,h11,h13,h21,h22,h23,h46,h47,h48,ha0,hh4_0,hh18_0,hh21_1,hh29_1,hpl,hx,hux,hsx,hgr,lg,hle',go_sem,↓reduceIte,reduceAdd,reduceSub,reduceEqDiff,reduceLeDiff,reduceCtorEq]
      try refine And.intro (by omega) ?_
      refine (hP _ _).2 ⟨(mput ks vs (.int x) (.int .i64 (min (u x) (s0 x)))).1, (mput ks vs (.int x) (.int .i64 (min (u x) (s0 x)))).2, ?_, ?_, ?_, ?_, ?_, ?_, ?_, ?_, ?_, ?_, ?_, ?_, ?_, ?_, ?_, ?_, ?_, ?_, ?_⟩
      ·exact hr2
      all_goals exact cl0
     ·rw [if_neg hle] at st3
      have hle' : effT t (fun x => min (u x) (s0 x)) root g < q := by omega
      have m0 : 0 ≤ min (u x) (s0 x) * effT t (fun x => min (u x) (s0 x)) root g := Int.mul_nonneg c0 e0
      have m1 : min (u x) (s0 x) * effT t (fun x => min (u x) (s0 x)) root g ≤ 16777216 * 16777216 := Int.mul_le_mul c1 e1 e0 (by omega)
      have m2 : (min (u x) (s0 x) * effT t (fun x => min (u x) (s0 x)) root g).tdiv q = min (u x) (s0 x) * effT t (fun x => min (u x) (s0 x)) root g / q := Int.tdiv_eq_ediv_of_nonneg m0
      have m3 : 0 ≤ min (u x) (s0 x) * effT t (fun x => min (u x) (s0 x)) root g / q := Int.ediv_nonneg m0 (by omega)
      have m4 : min (u x) (s0 x) * effT t (fun x => min (u x) (s0 x)) root g / q ≤ 16777216 * 16777216 := Int.le_trans (Int.ediv_le_self _ m0) m1
      have hrx2 := hrx.put x (min (u x) (s0 x) * effT t (fun x => min (u x) (s0 x)) root g / q)
      have hr2 := hrx2.congr (g := onlyF ((S.take k).flatMap (kidsN t.nodes) ++ G.take (p + 1)) (effT t (fun x => min (u x) (s0 x)) root)) fun y => by
       rw [← hnew _ st3.symm y]
       by_cases hy : y = x <;> simp [hy]
      generalize hE : effT t (fun x => min (u x) (s0 x)) root g = E at lg hle' m0 m1 m2 m3 m4 hr2
      simp -implicitDefEqProofs (disch:=omega) only [h1,h2,h3,h4,h9,h11,h13,h21,h22,h23,h46,h47,h48,ha0,hh4_0,hh18_0,hh21_1,hh29_1,hpl,hx,hux,hsx,hgr,lg,lx,hle',m2,go_sem,↓reduceIte,reduceAdd,reduceSub,reduceEqDiff,reduceLeDiff,reduceCtorEq]
      try refine And.intro (by omega) ?_
      refine (hP _ _).2 ⟨(mput (mput ks vs (.int x) (.int .i64 (min (u x) (s0 x)))).1 (mput ks vs (.int x) (.int .i64 (min (u x) (s0 x)))).2 (.int x) (.int .i64 (min (u x) (s0 x) * E / q))).1, (mput (mput ks vs (.int x) (.int .i64 (min (u x) (s0 x)))).1 (mput ks vs (.int x) (.int .i64 (min (u x) (s0 x)))).2 (.int x) (.int .i64 (min (u x) (s0 x) * E / q))).2, ?_, ?_, ?_, ?_, ?_, ?_, ?_, ?_, ?_, ?_, ?_, ?_, ?_, ?_, ?_, ?_, ?_, ?_, ?_⟩
      ·exact hr2
      all_goals exact cl0
   ·have hz : G.take p = G := List.take_of_length_le (by omega)
    rw [hz, ← hfm] at hrp
    simp -implicitDefEqProofs (disch:=omega) only [h1,h2,h3,h4,h9,h11,h13,h21,h22,h23,h46,h47,h48,ha0,hh4_0,hh18_0,hh21_1,hh29_1,hpg,go_sem,↓reduceIte,reduceAdd,reduceSub,reduceEqDiff,reduceLeDiff,reduceCtorEq]
    try refine And.intro (by omega) ?_
    refine (hI _ _).2 ⟨ks, vs, ?_, ?_, ?_, ?_, ?_, ?_, ?_, ?_, ?_, ?_, ?_, ?_, ?_⟩
    ·exact hrp
    all_goals exact cl0
 ·simp -implicitDefEqProofs (disch:=omega) only [h1,h2,h3,h4,h9,h21,h22,h23,ha0,hh4_0,hh18_0,hh21_1,hge,go_sem,↓reduceIte,reduceAdd,reduceSub,reduceEqDiff,reduceLeDiff,reduceCtorEq]
  rw [List.take_of_length_le (by omega)] at hrep
  exact ⟨ks, vs, rfl, hrep⟩
theorem ChOk.nil (ns : List Nd) : ChOk ns [] := ⟨fun c h => by simp at h, List.Pairwise.nil, fun c h => by simp at h, by simp [sumI]⟩
theorem ChOk.length {t : Tr} {l : List Ch} (h : ChOk t.nodes l) : l.length ≤ t.nodes.length := by
 have := nodup_length_le (l.map (·.group)) (t.nodes.map (·.id)) (nodup_groups h.inc) (fun x hx => by
  obtain ⟨c, hc, rfl⟩ := List.mem_map.1 hx
  obtain ⟨n, hn, he⟩ := findN_some (h.known c hc)
  exact List.mem_map.2 ⟨n, hn, he⟩)
 simpa using this
theorem filter_step {α : Type} {p : α → Bool} {l : List α} {k : Nat} {m : α} (hm : l[k]? = some m) : (l.take (k + 1)).filter p = if p m = true then (l.take k).filter p ++ [m] else (l.take k).filter p := by
 rw [List.take_add_one, hm]
 simp only [Option.toList, List.filter_append, List.filter_cons, List.filter_nil]
 split <;> simp
def totCh (t : Tr) (c : List Ch) (n : Nd) : Ch := ⟨n.id, tot t (ownC c) n.id⟩
def TotalsK (t : Tr) (c : List Ch) : List Ch × Int := if validK t c = true then ((t.nodes.filter fun n => decide (0 < tot t (ownC c) n.id)).map (totCh t c), 0) else ([], 1)
set_option maxHeartbeats 1000000 in
theorem totals_eq (t : Tr) (c : List Ch) (hf : t.Fits) (hn : t.nodes.length < 1000000) (hl : c.length < 1000000) : V 104 [t.vv, ctrV c] [] = some (.tup [.fresh 2 ((TotalsK t c).1.map Ch.pv), .p (.int .i64 (TotalsK t c).2)], []) := by
 refine V_wp (vf := vf104) rfl ?_
 have hv := kvalid_eq t c hf hn hl
 unfold TotalsK
 cases hvv : validK t c with
 | false =>
  rw [hvv] at hv
  simp -implicitDefEqProofs (disch:=omega) only [vf104,vb104,hv,go_sem,↓reduceIte,reduceAdd,reduceSub,reduceEqDiff,reduceLeDiff,reduceCtorEq]
  try rfl
 | true =>
  rw [hvv] at hv
  rw [if_pos rfl]
  obtain ⟨h1, h2⟩ := (validK_iff t c).1 hvv
  obtain ⟨ks, vs, hs, hg⟩ := sums_eq h1 h2 hn hl
  simp -implicitDefEqProofs (disch:=omega) only [vf104,vb104,hv,hs,go_sem,↓reduceIte,reduceAdd,reduceSub,reduceEqDiff,reduceLeDiff,reduceCtorEq]
  obtain ⟨I, hI⟩ : ∃ I : Nat → St → Prop, ∀ k s, I k s ↔ ∃ (acc : List Ch) (w : Nat), acc = ((t.nodes.take k).filter fun n => decide (0 < tot t (ownC c) n.id)).map (totCh t c) ∧ acc.length ≤ k ∧ s.pe 6 = .own (.slot 6 0) w 0 acc.length ∧ s.pe 7 = .p (PV.map (KT.int IntKind.i64) ks vs) ∧ s.pe 18 = .p (nodesP t.nodes) ∧ s.pe 19 = .p (.int .i64 ↑t.nodes.length) ∧ s.pe 20 = .p (.int .i64 k) ∧ s.h (.slot 6 0) = some (w, Ob.arr 2 (acc.map Ch.pv)) := ⟨_, fun _ _ => Iff.rfl⟩
  refine wp_count (t.nodes.length) I ?_ ?_
  ·refine (hI _ _).2 ⟨[], 0, ?_, ?_, ?_, ?_, ?_, ?_, ?_, ?_⟩
   ·exact cl3
   ·exact cl3
   all_goals first | exact cl0 | (simp -implicitDefEqProofs (disch:=omega) only [List.map_append,go_sem,↓reduceIte,reduceAdd,reduceSub,reduceEqDiff,reduceLeDiff,reduceCtorEq] <;> first | (simp [sumI]; done) | (simp [sumI]; omega))
  intro k s hk hIk
  obtain ⟨acc, w, hacc, hal, h6, h7, h18, h19, h20, hh6_0⟩ := (hI _ _).1 hIk
  clear hIk
  simp -implicitDefEqProofs (disch:=omega) only [h6,h7,h18,h19,h20,hh6_0,go_sem,↓reduceIte,reduceAdd,reduceSub,reduceEqDiff,reduceLeDiff,reduceCtorEq]
  refine wp_if_d (fun hlt => ?_) (fun hge => ?_)
  ·have hm : t.nodes[k]? = some t.nodes[k] := List.getElem?_eq_getElem hlt
   generalize t.nodes[k] = m at hm
   have hgm := hg k m hm
   have hst := filter_step (p := fun n : Nd => decide (0 < tot t (ownC c) n.id)) hm
   by_cases hp : 0 < tot t (ownC c) m.id
   ·simp only [hp, decide_true, if_true] at hst
    have htc : totCh t c m = ⟨m.id, tot t (ownC c) m.id⟩ := rfl
    generalize tot t (ownC c) m.id = T at hgm hp htc
    simp -implicitDefEqProofs (disch:=omega) only [h6,h7,h18,h19,h20,hh6_0,hlt,hm,hgm,hp,go_sem,↓reduceIte,reduceAdd,reduceSub,reduceEqDiff,reduceLeDiff,reduceCtorEq]
    try refine And.intro (by omega) ?_
    refine (hI _ _).2 ⟨acc ++ [⟨m.id, T⟩], w + 1, ?_, ?_, ?_, ?_, ?_, ?_, ?_, ?_⟩
    ·exact by rw [hst, List.map_append, hacc, List.map_cons, List.map_nil, htc]
    ·exact by simp; omega
    all_goals first | exact cl0 | (simp -implicitDefEqProofs (disch:=omega) only [h6,h7,h18,h19,h20,hh6_0,List.map_append,go_sem,↓reduceIte,reduceAdd,reduceSub,reduceEqDiff,reduceLeDiff,reduceCtorEq] <;> first | (simp [sumI]; done) | (simp [sumI]; omega))
   ·simp only [hp, decide_false, Bool.false_eq_true, if_false] at hst
    generalize tot t (ownC c) m.id = T at hgm hp
    simp -implicitDefEqProofs (disch:=omega) only [h6,h7,h18,h19,h20,hh6_0,hlt,hm,hgm,hp,go_sem,↓reduceIte,reduceAdd,reduceSub,reduceEqDiff,reduceLeDiff,reduceCtorEq]
    try refine And.intro (by omega) ?_
    refine (hI _ _).2 ⟨acc, w, ?_, ?_, ?_, ?_, ?_, ?_, ?_, ?_⟩
    ·exact by rw [hst, hacc]
    ·omega
    all_goals first | exact cl0 | (simp -implicitDefEqProofs (disch:=omega) only [h6,h7,h18,h19,h20,hh6_0,List.map_append,go_sem,↓reduceIte,reduceAdd,reduceSub,reduceEqDiff,reduceLeDiff,reduceCtorEq] <;> first | (simp [sumI]; done) | (simp [sumI]; omega))
  ·rw [List.take_of_length_le (by omega)] at hacc
   rw [← hacc]
   simp -implicitDefEqProofs (disch:=omega) only [h6,h7,h18,h19,h20,hh6_0,hge,go_sem,↓reduceIte,reduceAdd,reduceSub,reduceEqDiff,reduceLeDiff,reduceCtorEq]
   try rfl
def mostK (l : List Ch) (id : Int) : Int := (lookC l id).getD 4611686018427387904
def lookPr (f : Pr → Int) : List Pr → Int → Int
 | [], _ => 0
 | h :: l, id => if h.group = id then min (f h) 16777216 else lookPr f l id
theorem set_rep (f : Pr → Int) (l : List Pr) : RepD (setKs l) (l.map fun x => PV.int .i64 (min (f x) 16777216)) (lookPr f l) := by
 intro id
 induction l with
 | nil => rfl
 | cons h l ih =>
  simp only [setKs, List.map_cons, mget, MKey.int.injEq, lookPr]
  by_cases he : h.group = id
  ·simp [he]
  ·have he' : ¬ id = h.group := fun e => he e.symm
   simp only [he, he', if_false]
   exact ih
theorem lookPr_bound (f : Pr → Int) {l : List Pr} (h : ∀ x ∈ l, 0 ≤ f x) (id : Int) : 0 ≤ lookPr f l id ∧ lookPr f l id ≤ 16777216 := by
 induction l with
 | nil => exact ⟨by simp [lookPr], by simp [lookPr]⟩
 | cons x l ih =>
  have := h x (by simp)
  have := ih fun y hy => h y (by simp [hy])
  unfold lookPr
  split <;> omega
def usedF (t : Tr) (c : List Ch) (x : Int) : Int := if (findN t.nodes x).isSome then tot t (ownC c) x else 0
theorem lookC_totals {t : Tr} (h : TreeOk t) {c : List Ch} (hc : ∀ x, 0 ≤ ownC c x) (x : Int) : (lookC ((t.nodes.filter fun n => decide (0 < tot t (ownC c) n.id)).map (totCh t c)) x).getD 0 = usedF t c x := by
 have key : ∀ (l : List Nd), (lookC ((l.filter fun n => decide (0 < tot t (ownC c) n.id)).map (totCh t c)) x).getD 0 = if (l.find? fun n => decide (n.id = x)).isSome then tot t (ownC c) x else 0 := by
  intro l
  induction l with
  | nil => rfl
  | cons n l ih =>
   have hn := tot_nonneg t hc n.id
   by_cases hx : n.id = x
   ·subst hx
    by_cases hp : 0 < tot t (ownC c) n.id
    ·simp [List.filter_cons, hp, lookC, totCh]
    ·have hz : tot t (ownC c) n.id = 0 := by omega
     simp only [List.filter_cons, hp, decide_false, Bool.false_eq_true, if_false, ih]
     simp [hz]
   ·by_cases hp : 0 < tot t (ownC c) n.id
    ·simp only [List.filter_cons, hp, decide_true, if_true, List.map_cons, lookC, totCh, hx, if_false, List.find?_cons, decide_false]
     exact ih
    ·simp only [List.filter_cons, hp, decide_false, Bool.false_eq_true, if_false, List.find?_cons, hx]
     exact ih
 exact key t.nodes
theorem onlyF_sub {t : Tr} (h : TreeOk t) {root : Int} (hr : InN t.nodes root) (cl : Int → Int) {g : Int} (hg : g ∈ subT t root) : onlyF ((subT t root).flatMap (kidsN t.nodes)) (effT t cl root) g = effT t cl root g := by
 unfold onlyF
 by_cases hD : g ∈ (subT t root).flatMap (kidsN t.nodes)
 ·rw [if_pos hD]
 ·rw [if_neg hD]
  have hST : subT t root = subF t.nodes t.nodes.length root := by
   obtain ⟨i, n, hn, rfl⟩ := hr
   simp [subT, findT_ok ((treeOk_iff t).2 h), findN_unique h.inc hn]
  obtain ⟨A, B, hAB⟩ := List.append_of_mem hg
  have hsp : [root].flatMap (subF t.nodes t.nodes.length) = A ++ g :: B := by
   rw [List.flatMap_cons, List.flatMap_nil, List.append_nil, ← hST, hAB]
  rcases subF_pre t.nodes _ _ _ _ _ hsp with h1 | h1
  ·rw [List.mem_singleton.1 h1, effT_root]
  ·exfalso
   apply hD
   rw [hAB, List.flatMap_append]
   exact List.mem_append.2 (Or.inl h1)
def effPr (t : Tr) (c : List Ch) (l : List Pr) (root g : Int) : Pr := ⟨g, effT t (fun x => min (usedF t c x) (lookPr (·.least) l x)) root g, effT t (fun x => min (usedF t c x) (lookPr (·.low) l x)) root g⟩
set_option maxHeartbeats 4000000 in
theorem pEff_ok {t : Tr} {c : List Ch} {l : List Pr} {root : Int} (h : TreeOk t) (hc : ChOk t.nodes c) (hp : PrOk t.nodes l) (hr : InN t.nodes root) (hl : l.length < 1000000) : V 90 [t.vv, ctrV c, .p (prsP l), .p (.int .i64 root)] [] = some (.tup [.fresh 3 ((msort (subT t root)).map fun g => (effPr t c l root g).pv), .p (.int .i64 0)], []) := by
 refine V_wp (vf := vf90) rfl ?_
 have hlen := h.len
 have hcl := hc.length
 have hv := kvalid_eq t c h.fits (by omega) (by omega)
 rw [(validK_iff t c).2 ⟨h, hc⟩] at hv
 have hpv := prvalid_eq t l h.fits (by omega) hl
 rw [(validPr_iff t l).2 ⟨h, hp⟩] at hpv
 have hfi := ffind_eq t root (by omega)
 have hfs : (findN t.nodes root).isSome = true := by
  obtain ⟨i, n, hn, rfl⟩ := hr
  rw [findN_unique h.inc hn]; rfl
 rw [hfs] at hfi
 generalize (findN t.nodes root).getD zeroNd = nd at hfi
 have htt := totals_eq t c h.fits (by omega) (by omega)
 have hTK : TotalsK t c = ((t.nodes.filter fun n => decide (0 < tot t (ownC c) n.id)).map (totCh t c), 0) := by
  rw [TotalsK, if_pos ((validK_iff t c).2 ⟨h, hc⟩)]
 rw [hTK] at htt
 simp only at htt
 have hlk := lookC_totals h (ownC_nonneg hc.pos)
 have htinc : (((t.nodes.filter fun n => decide (0 < tot t (ownC c) n.id)).map (totCh t c))).Pairwise fun a b => a.group < b.group := by
  rw [List.pairwise_map]
  exact h.inc.filter _
 have htl : ((t.nodes.filter fun n => decide (0 < tot t (ownC c) n.id)).map (totCh t c)).length ≤ t.nodes.length := by
  rw [List.length_map]; exact List.length_filter_le _ _
 generalize (t.nodes.filter fun n => decide (0 < tot t (ownC c) n.id)).map (totCh t c) = T at htt hlk htinc htl
 simp -implicitDefEqProofs (disch:=omega) only [vf90,vb90,hv,hpv,hfi,Nd.vv,htt,go_sem,↓reduceIte,reduceAdd,reduceSub,reduceEqDiff,reduceLeDiff,reduceCtorEq]
 obtain ⟨I, hI⟩ : ∃ I : Nat → St → Prop, ∀ k s, I k s ↔ ∃ (ks : List MKey) (vs : List PV), RepD ks vs (fun x => (lookC (T.take k) x).getD 0) ∧ s.pe 2 = .p (prsP l) ∧ s.pe 3 = .p (.int .i64 root) ∧ s.pe 4 = .ptr (.slot 4 0) 0 0 ∧ s.pe 12 = .mref (.slot 41 0) 0 ∧ s.pe 48 = .own (.slot 45 1) 0 0 T.length ∧ s.pe 49 = .p (.int .i64 ↑T.length) ∧ s.pe 50 = .p (.int .i64 k) ∧ s.h (.slot 4 0) = some (0, Ob.box [.p (nodesP t.nodes), .p (.int .i64 t.next)]) ∧ s.h (.slot 41 0) = some (0, Ob.map (KT.int IntKind.i64) ks vs) ∧ s.h (.slot 45 1) = some (0, Ob.arr 2 (List.map Ch.pv T)) := ⟨_, fun _ _ => Iff.rfl⟩
 refine wp_count (T.length) I ?_ ?_
 ·refine (hI _ _).2 ⟨[], [], ?_, ?_, ?_, ?_, ?_, ?_, ?_, ?_, ?_, ?_, ?_⟩
  ·exact RepD.nil.congr fun x => by simp [lookC]
  all_goals exact cl0
 intro k s hk hIk
 obtain ⟨ks, vs, hrep, h2, h3, h4, h12, h48, h49, h50, hh4_0, hh41_0, hh45_1⟩ := (hI _ _).1 hIk
 clear hIk
 simp -implicitDefEqProofs (disch:=omega) only [h2,h3,h4,h12,h48,h49,h50,hh4_0,hh41_0,hh45_1,go_sem,↓reduceIte,reduceAdd,reduceSub,reduceEqDiff,reduceLeDiff,reduceCtorEq]
 refine wp_if_d (fun hlt => ?_) (fun hge => ?_)
 ·have hm : T[k]? = some T[k] := List.getElem?_eq_getElem hlt
  have htk := take_snoc hm
  have hlt' : ∀ d ∈ T.take k, d.group ≠ T[k].group := by
   intro d hd
   obtain ⟨j, hj, rfl⟩ := List.mem_take_iff_getElem.1 hd
   have := List.pairwise_iff_getElem.1 htinc j k (by omega) hlt (by omega)
   omega
  generalize T[k] = c at hm htk hlt'
  have hnew := (hrep.put c.group c.own).congr (g := fun x => (lookC (T.take (k + 1)) x).getD 0) fun x => by
   rw [htk, lookC_snoc c x _ hlt']
   by_cases hx : x = c.group
   ·simp [hx]
   ·simp [hx]
  simp -implicitDefEqProofs (disch:=omega) only [h2,h3,h4,h12,h48,h49,h50,hh4_0,hh41_0,hh45_1,hlt,hm,Ch.pv,go_sem,↓reduceIte,reduceAdd,reduceSub,reduceEqDiff,reduceLeDiff,reduceCtorEq]
  try refine And.intro (by omega) ?_
  refine (hI _ _).2 ⟨(mput ks vs (.int c.group) (.int .i64 c.own)).1, (mput ks vs (.int c.group) (.int .i64 c.own)).2, ?_, ?_, ?_, ?_, ?_, ?_, ?_, ?_, ?_, ?_, ?_⟩
  ·exact hnew
  all_goals exact cl0
 ·rw [List.take_of_length_le (by omega)] at hrep
  have hrep := hrep.congr hlk
  have hnd : (l.map (·.group)).Nodup := by
   have := hp.inc
   rw [List.nodup_iff_pairwise_ne, List.pairwise_map]
   exact this.imp fun h => by omega
  have hs1 := lea_settings_eq l hl hnd
  have hs2 := low_settings_eq l hl hnd
  have hu0 : ∀ x, 0 ≤ usedF t c x := fun x => by
   unfold usedF
   split
   ·exact tot_nonneg t (ownC_nonneg hc.pos) x
   ·exact Int.le_refl _
  have hb1 : ∀ x, 0 ≤ min (usedF t c x) (lookPr (·.least) l x) ∧ min (usedF t c x) (lookPr (·.least) l x) ≤ 16777216 := fun x => by
   have := lookPr_bound (·.least) (l := l) (fun y hy => (hp.least y hy).1) x
   have := hu0 x
   omega
  have hb2 : ∀ x, 0 ≤ min (usedF t c x) (lookPr (·.low) l x) ∧ min (usedF t c x) (lookPr (·.low) l x) ≤ 16777216 := fun x => by
   have := lookPr_bound (·.low) (l := l) (fun y hy => (hp.low y hy).1) x
   have := hu0 x
   omega
  obtain ⟨ks1, vs1, he1, hr1⟩ := peff_eq h hr hrep (set_rep (·.least) l) hb1
  obtain ⟨ks2, vs2, he2, hr2⟩ := peff_eq h hr hrep (set_rep (·.low) l) hb2
  have hsu := fsub_eq root h
  have hsl := subT_len h root
  have hso := sort_eq (subT t root) (by omega)
  have hml := msort_length (subT t root)
  have hG1 : ∀ g ∈ msort (subT t root), (mget ks1 vs1 (.int g)).getD (.int .i64 0) = .int .i64 (effPr t c l root g).least := fun g hg => by
   rw [hr1 g, onlyF_sub h hr _ ((msort_perm _).mem_iff.1 hg)]
   rfl
  have hG2 : ∀ g ∈ msort (subT t root), (mget ks2 vs2 (.int g)).getD (.int .i64 0) = .int .i64 (effPr t c l root g).low := fun g hg => by
   rw [hr2 g, onlyF_sub h hr _ ((msort_perm _).mem_iff.1 hg)]
   rfl
  have hGg : ∀ g, (effPr t c l root g).group = g := fun g => rfl
  generalize effPr t c l root = E at hG1 hG2 hGg
  generalize hG : msort (subT t root) = G at hso hml hG1 hG2
  generalize subT t root = S at hsu hsl hso hml
  simp -implicitDefEqProofs (disch:=omega) only [h2,h3,h4,h12,h48,h49,h50,hh4_0,hh41_0,hh45_1,hge,hs1,hs2,he1,he2,hsu,hso,go_sem,↓reduceIte,reduceAdd,reduceSub,reduceEqDiff,reduceLeDiff,reduceCtorEq]
  obtain ⟨J, hJ⟩ : ∃ I : Nat → St → Prop, ∀ j s, I j s ↔ ∃ (v74_1 : Nat) (acc : List Pr) (ww : Nat), acc = (G.take j).map E ∧ acc.length ≤ j ∧ s.pe 17 = .p (PV.map (KT.int IntKind.i64) ks1 vs1) ∧ s.pe 18 = .p (PV.map (KT.int IntKind.i64) ks2 vs2) ∧ s.pe 20 = .own (.slot 20 0) ww 0 acc.length ∧ s.pe 77 = .own (.slot 74 1) v74_1 0 S.length ∧ s.pe 78 = .p (.int .i64 ↑S.length) ∧ s.pe 79 = .p (.int .i64 j) ∧ s.h (.slot 20 0) = some (ww, Ob.arr 3 (acc.map Pr.pv)) ∧ s.h (.slot 74 1) = some (v74_1, Ob.arr 1 (List.map (.int .i64) G)) := ⟨_, fun _ _ => Iff.rfl⟩
  refine wp_count (G.length) J ?_ ?_
  ·refine (hJ _ _).2 ⟨nv (s.h (.slot 74 1)), [], nv (s.h (.slot 20 0)), ?_, ?_, ?_, ?_, ?_, ?_, ?_, ?_, ?_, ?_⟩
   ·exact by simp
   ·exact by simp
   all_goals exact cl0
  intro j s hj hJk
  obtain ⟨v74_1, acc, ww, hacc, hal, h17, h18, h20, h77, h78, h79, hh20_0, hh74_1⟩ := (hJ _ _).1 hJk
  clear hJk
  simp -implicitDefEqProofs (disch:=omega) only [h17,h18,h20,h77,h78,h79,hh20_0,hh74_1,go_sem,↓reduceIte,reduceAdd,reduceSub,reduceEqDiff,reduceLeDiff,reduceCtorEq]
  refine wp_if_d (fun hjl => ?_) (fun hjg => ?_)
  ·have hx : G[j]? = some G[j] := List.getElem?_eq_getElem (by omega)
   have htk := take_snoc hx
   generalize G[j] = g at hx htk
   have hgm := List.mem_of_getElem? hx
   have h1 := hG1 g hgm
   have h2 := hG2 g hgm
   simp -implicitDefEqProofs (disch:=omega) only [h17,h18,h20,h77,h78,h79,hh20_0,hh74_1,hjl,hx,h1,h2,go_sem,↓reduceIte,reduceAdd,reduceSub,reduceEqDiff,reduceLeDiff,reduceCtorEq]
   try refine And.intro (by omega) ?_
   refine (hJ _ _).2 ⟨v74_1, acc ++ [E g], ww + 1, ?_, ?_, ?_, ?_, ?_, ?_, ?_, ?_, ?_, ?_⟩
   ·exact by rw [hacc, htk]; simp
   ·exact by simp; omega
   all_goals exact cl0
  ·rw [List.take_of_length_le (by omega)] at hacc
   simp -implicitDefEqProofs (disch:=omega) only [h17,h18,h20,h77,h78,h79,hh20_0,hh74_1,hjg,go_sem,↓reduceIte,reduceAdd,reduceSub,reduceEqDiff,reduceLeDiff,reduceCtorEq]
   rw [hacc, List.map_map]
   rfl
def checkS (t : Tr) (sw : Stk) (id : Int) : Int := if validS t sw then (if (findN t.nodes id).isSome then 0 else 4) else 1
theorem scheck_eq (t : Tr) (sw : Stk) (id : Int) (hf : t.Fits) (hn : t.nodes.length < 1000000) (hl : sw.hs.length < 1000000) : V 73 [t.vv, sw.vv, .p (.int .i64 id)] [] = some (.p (.int .i64 (checkS t sw id)), []) := by
 refine V_wp (vf := vf73) rfl ?_
 have hv := svalid_eq t sw hf hn hl
 have hfi := ffind_eq t id hn
 unfold checkS
 cases hvv : validS t sw with
 | false =>
  rw [hvv] at hv
  simp -implicitDefEqProofs (disch:=omega) only [vf73,vb73,hv,go_sem,↓reduceIte,reduceAdd,reduceSub,reduceEqDiff,reduceLeDiff,reduceCtorEq]
 | true =>
  rw [hvv] at hv
  generalize (findN t.nodes id).getD zeroNd = nd at hfi
  cases hfs : (findN t.nodes id).isSome with
  | false =>
   rw [hfs] at hfi
   simp -implicitDefEqProofs (disch:=omega) only [vf73,vb73,hv,hfi,Nd.vv,go_sem,↓reduceIte,reduceAdd,reduceSub,reduceEqDiff,reduceLeDiff,reduceCtorEq]
  | true =>
   rw [hfs] at hfi
   simp -implicitDefEqProofs (disch:=omega) only [vf73,vb73,hv,hfi,Nd.vv,go_sem,↓reduceIte,reduceAdd,reduceSub,reduceEqDiff,reduceLeDiff,reduceCtorEq]
def swT (t : Tr) (hs : List Hg) (id : Int) : Int := sumI ((subT t id).map (swpF hs))
theorem sumI_bound {f : Int → Int} {B : Int} (h : ∀ x, 0 ≤ f x ∧ f x ≤ B) : ∀ (l : List Int), 0 ≤ sumI (l.map f) ∧ sumI (l.map f) ≤ B * l.length
 | [] => by simp [sumI]
 | x :: l => by
  have := sumI_bound h l
  have := h x
  simp only [List.map_cons, sumI, List.length_cons, Int.natCast_add, Int.natCast_one, Int.mul_add, Int.mul_one]
  omega
set_option maxHeartbeats 1000000 in
theorem sswapped_eq {t : Tr} (h : TreeOk t) (sw : Stk) (id : Int) (hl : sw.hs.length < 1000000) (hb : ∀ x, inPg (swpF sw.hs x)) : V 125 [t.vv, sw.vv, .p (.int .i64 id)] [] = some (.p (.int .i64 (swT t sw.hs id)), []) := by
 refine V_wp (vf := vf125) rfl ?_
 have hs := fsub_eq id h
 have hsl := subT_len h id
 have hlen := h.len
 unfold swT
 generalize subT t id = S at hs hsl
 simp -implicitDefEqProofs (disch:=omega) only [vf125,vb125,hs,go_sem,↓reduceIte,reduceAdd,reduceSub,reduceEqDiff,reduceLeDiff,reduceCtorEq]
 obtain ⟨I, hI⟩ : ∃ I : Nat → St → Prop, ∀ k s, I k s ↔ ∃ (q : Int), sumI (S.map (swpF sw.hs)) = q + sumI ((S.drop k).map (swpF sw.hs)) ∧ 0 ≤ q ∧ q ≤ 16777216 * k ∧ s.pe 4 = .ptr (.slot 4 0) 0 0 ∧ s.pe 7 = .p (.int .i64 q) ∧ s.pe 12 = .own (.slot 12 1) 0 0 S.length ∧ s.pe 13 = .p (.int .i64 ↑S.length) ∧ s.pe 14 = .p (.int .i64 k) ∧ s.h (.slot 4 0) = some (0, Ob.box [.p (hgsP sw.hs), .p (.int .i64 sw.size)]) ∧ s.h (.slot 12 1) = some (0, Ob.arr 1 (List.map (.int .i64) S)) := ⟨_, fun _ _ => Iff.rfl⟩
 refine wp_count (S.length) I ?_ ?_
 ·refine (hI _ _).2 ⟨0, ?_, ?_, ?_, ?_, ?_, ?_, ?_, ?_, ?_, ?_⟩
  ·exact by simp
  ·omega
  ·omega
  all_goals exact cl0
 intro k s hk hIk
 obtain ⟨q, ho, q0, q1, h4, h7, h12, h13, h14, hh4_0, hh12_1⟩ := (hI _ _).1 hIk
 clear hIk
 simp -implicitDefEqProofs (disch:=omega) only [h4,h7,h12,h13,h14,hh4_0,hh12_1,go_sem,↓reduceIte,reduceAdd,reduceSub,reduceEqDiff,reduceLeDiff,reduceCtorEq]
 refine wp_if_d (fun hlt => ?_) (fun hge => ?_)
 ·have hm : S[k]? = some S[k] := List.getElem?_eq_getElem hlt
  have hd : S.drop k = S[k] :: S.drop (k + 1) := List.drop_eq_getElem_cons hlt
  generalize S[k] = x at hm hd
  have hg := sget_eq sw x hl
  obtain ⟨b1, b2⟩ := hb x
  rw [hd, List.map_cons, sumI, ← Int.add_assoc] at ho
  unfold swpF at b1 b2
  simp -implicitDefEqProofs (disch:=omega) only [h4,h7,h12,h13,h14,hh4_0,hh12_1,hlt,hm,hg,go_sem,↓reduceIte,reduceAdd,reduceSub,reduceEqDiff,reduceLeDiff,reduceCtorEq]
  try refine And.intro (by omega) ?_
  refine (hI _ _).2 ⟨q + (getS sw.hs x).swap, ?_, ?_, ?_, ?_, ?_, ?_, ?_, ?_, ?_, ?_⟩
  ·exact ho
  ·omega
  ·exact by push_cast; omega
  all_goals exact cl0
 ·rw [List.drop_of_length_le (by omega), List.map_nil, sumI, Int.add_zero] at ho
  simp -implicitDefEqProofs (disch:=omega) only [h4,h7,h12,h13,h14,hh4_0,hh12_1,hge,ho,go_sem,↓reduceIte,reduceAdd,reduceSub,reduceEqDiff,reduceLeDiff,reduceCtorEq]
theorem checkS_zero {t : Tr} {sw : Stk} {id : Int} : checkS t sw id = 0 ↔ StkOk t sw ∧ ∃ (i : Nat) (n : Nd), t.nodes[i]? = some n ∧ n.id = id := by
 unfold checkS
 rw [← validS_iff]
 constructor
 ·intro h
  split at h
  ·rename_i hv
   refine ⟨hv, ?_⟩
   split at h
   ·rename_i hs
    cases hf : findN t.nodes id with
    | none => rw [hf] at hs; simp at hs
    | some n =>
     unfold findN at hf
     obtain ⟨i, hi⟩ := List.getElem?_of_mem (List.mem_of_find?_eq_some hf)
     have := List.find?_some hf
     exact ⟨i, n, hi, by simpa using this⟩
   ·omega
  ·omega
 ·rintro ⟨hv, i, n, hi, rfl⟩
  rw [if_pos hv, findN_unique ((validS_iff t sw).1 hv).tree.inc hi]
  rfl
def leftS (W : Int → Int) (l : List Ch) : List Int → Int → Int
 | [], a => a
 | g :: gs, a => leftS W l gs (min a (mostK l g - W g))
def roomS (t : Tr) (hs : List Hg) (z : Int) (l : List Ch) (id : Int) : Int := max 0 (leftS (swT t hs) l (ancF t.nodes t.nodes.length id) (z - swT t hs 1))
theorem leftS_le (W : Int → Int) (l : List Ch) : ∀ (gs : List Int) (a : Int), leftS W l gs a ≤ a
 | [], a => Int.le_refl _
 | g :: gs, a => by
  have := leftS_le W l gs (min a (mostK l g - W g))
  unfold leftS
  omega
theorem lookC_none_of {l : List Ch} {g : Int} (h : ∀ x ∈ l, x.group ≠ g) : lookC l g = none := by
 induction l with
 | nil => rfl
 | cons x l ih =>
  rw [lookC, if_neg (h x (by simp)), ih fun y hy => h y (by simp [hy])]
structure LimOk (l : List Ch) : Prop where
 inc : l.Pairwise fun a b => a.group < b.group
 bound : ∀ x ∈ l, 0 ≤ x.own ∧ x.own ≤ 4611686018427387904
theorem LimOk.nil : LimOk [] := ⟨List.Pairwise.nil, by simp⟩
theorem LimOk.most {l : List Ch} (h : LimOk l) (g : Int) : 0 ≤ mostK l g ∧ mostK l g ≤ 4611686018427387904 := by
 unfold mostK
 cases hl : lookC l g with
 | none => simp
 | some v =>
  obtain ⟨c, hc, _, rfl⟩ := lookC_mem hl
  exact h.bound c hc
set_option maxHeartbeats 4000000 in
theorem sroom_eq {t : Tr} (h : TreeOk t) (sw : Stk) (l : List Ch) (id : Int) (hs : sw.hs.length < 1000000) (hb : ∀ x, inPg (swpF sw.hs x)) (hz : inPg sw.size) (hl : LimOk l) (hll : l.length < 1000000) : V 120 [t.vv, sw.vv, .p (chsP l), .p (.int .i64 id)] [] = some (.p (.int .i64 (roomS t sw.hs sw.size l id)), []) := by
 refine V_wp (vf := vf120) rfl ?_
 have hlen := h.len
 have han := fanc_eq t id (by omega)
 have hal := ancF_length t.nodes t.nodes.length id
 have hsw : ∀ g, V 125 [t.vv, sw.vv, .p (.int .i64 g)] [] = some (.p (.int .i64 (swT t sw.hs g)), []) := fun g => sswapped_eq h sw g hs hb
 have hWb : ∀ g, 0 ≤ swT t sw.hs g ∧ swT t sw.hs g ≤ 16777216 * 64 := fun g => by
  have h1 := sumI_bound (f := swpF sw.hs) (B := 16777216) hb (subT t g)
  have h2 := subT_len h g
  unfold swT
  omega
 have hmb := hl.most
 unfold roomS
 obtain ⟨z0, z1⟩ := hz
 generalize swT t sw.hs = W at hsw hWb
 have h1 := hWb 1
 generalize ancF t.nodes t.nodes.length id = A at han hal
 simp -implicitDefEqProofs (disch:=omega) only [vf120,vb120,hsw 1,han,go_sem,↓reduceIte,reduceAdd,reduceSub,reduceEqDiff,reduceLeDiff,reduceCtorEq]
 obtain ⟨I, hI⟩ : ∃ I : Nat → St → Prop, ∀ k s, I k s ↔ ∃ (a : Int), leftS W l A (sw.size - W 1) = leftS W l (A.drop k) a ∧ -16777216 * 64 ≤ a ∧ a ≤ 16777216 ∧ s.pe 2 = .p (chsP l) ∧ s.pe 4 = .ptr (.slot 4 0) 0 0 ∧ s.pe 5 = .ptr (.slot 5 0) 0 0 ∧ s.pe 9 = .p (.int .i64 a) ∧ s.pe 22 = .own (.slot 22 1) 0 0 A.length ∧ s.pe 23 = .p (.int .i64 ↑A.length) ∧ s.pe 24 = .p (.int .i64 k) ∧ s.h (.slot 4 0) = some (0, Ob.box [.p (nodesP t.nodes), .p (.int .i64 t.next)]) ∧ s.h (.slot 5 0) = some (0, Ob.box [.p (hgsP sw.hs), .p (.int .i64 sw.size)]) ∧ s.h (.slot 22 1) = some (0, Ob.arr 1 (List.map (.int .i64) A)) := ⟨_, fun _ _ => Iff.rfl⟩
 refine wp_count (A.length) I ?_ ?_
 ·refine (hI _ _).2 ⟨sw.size - W 1, ?_, ?_, ?_, ?_, ?_, ?_, ?_, ?_, ?_, ?_, ?_, ?_, ?_⟩
  ·rfl
  ·omega
  ·omega
  all_goals exact cl0
 intro k s hk hIk
 obtain ⟨a, ha, a0, a1, h2, h4, h5, h9, h22, h23, h24, hh4_0, hh5_0, hh22_1⟩ := (hI _ _).1 hIk
 clear hIk
 simp -implicitDefEqProofs (disch:=omega) only [h2,h4,h5,h9,h22,h23,h24,hh4_0,hh5_0,hh22_1,go_sem,↓reduceIte,reduceAdd,reduceSub,reduceEqDiff,reduceLeDiff,reduceCtorEq]
 refine wp_if_d (fun hlt => ?_) (fun hge => ?_)
 ·have hm : A[k]? = some A[k] := List.getElem?_eq_getElem hlt
  have hdr : A.drop k = A[k] :: A.drop (k + 1) := List.drop_eq_getElem_cons hlt
  generalize A[k] = g at hm hdr
  have hg := hWb g
  have hmg := hmb g
  rw [hdr, leftS] at ha
  simp -implicitDefEqProofs (disch:=omega) only [h2,h4,h5,h9,h22,h23,h24,hh4_0,hh5_0,hh22_1,hlt,hm,go_sem,↓reduceIte,reduceAdd,reduceSub,reduceEqDiff,reduceLeDiff,reduceCtorEq]
  obtain ⟨J, hJ⟩ : ∃ I : Nat → St → Prop, ∀ j s, I j s ↔ ∃ (b : Int), min a (mostK l g - W g) = min b ((lookC (l.drop j) g).getD 4611686018427387904 - W g) ∧ -16777216 * 64 ≤ b ∧ b ≤ 16777216 ∧ s.pe 2 = .p (chsP l) ∧ s.pe 4 = .ptr (.slot 4 0) 0 0 ∧ s.pe 5 = .ptr (.slot 5 0) 0 0 ∧ s.pe 9 = .p (.int .i64 b) ∧ s.pe 11 = .p (.int .i64 g) ∧ s.pe 22 = .own (.slot 22 1) 0 0 A.length ∧ s.pe 23 = .p (.int .i64 ↑A.length) ∧ s.pe 24 = .p (.int .i64 k) ∧ s.pe 28 = .p (chsP l) ∧ s.pe 29 = .p (.int .i64 l.length) ∧ s.pe 30 = .p (.int .i64 j) ∧ s.h (.slot 4 0) = some (0, Ob.box [.p (nodesP t.nodes), .p (.int .i64 t.next)]) ∧ s.h (.slot 5 0) = some (0, Ob.box [.p (hgsP sw.hs), .p (.int .i64 sw.size)]) ∧ s.h (.slot 22 1) = some (0, Ob.arr 1 (List.map (.int .i64) A)) := ⟨_, fun _ _ => Iff.rfl⟩
  refine wp_count (l.length) J ?_ ?_
  ·refine (hJ _ _).2 ⟨a, ?_, ?_, ?_, ?_, ?_, ?_, ?_, ?_, ?_, ?_, ?_, ?_, ?_, ?_, ?_, ?_, ?_⟩
   ·rfl
   ·omega
   ·omega
   all_goals exact cl0
  intro j s hj hJk
  obtain ⟨b, hb', b0, b1, h2, h4, h5, h9, h11, h22, h23, h24, h28, h29, h30, hh4_0, hh5_0, hh22_1⟩ := (hJ _ _).1 hJk
  clear hJk
  simp -implicitDefEqProofs (disch:=omega) only [h2,h4,h5,h9,h11,h22,h23,h24,h28,h29,h30,hh4_0,hh5_0,hh22_1,go_sem,↓reduceIte,reduceAdd,reduceSub,reduceEqDiff,reduceLeDiff,reduceCtorEq]
  refine wp_if_d (fun hjl => ?_) (fun hjg => ?_)
  ·have hx : l[j]? = some l[j] := List.getElem?_eq_getElem hjl
   have hdl : l.drop j = l[j] :: l.drop (j + 1) := List.drop_eq_getElem_cons hjl
   have hinc := hl.inc
   have hxb := hl.bound l[j] (List.getElem_mem _)
   have hrest : ∀ y ∈ l.drop (j + 1), y.group ≠ l[j].group := by
    intro y hy
    rw [← List.take_append_drop j l, hdl] at hinc
    have := (List.pairwise_cons.1 (List.pairwise_append.1 hinc).2.1).1 y hy
    omega
   generalize l[j] = x at hx hdl hrest hxb
   rw [hdl, lookC] at hb'
   by_cases hxg : x.group = g
   ·rw [if_pos hxg] at hb'
    rw [hxg] at hrest
    have hn := lookC_none_of hrest
    have hnew : min a (mostK l g - W g) = min (min b (x.own - W g)) ((lookC (l.drop (j + 1)) g).getD 4611686018427387904 - W g) := by
     rw [hb', hn]
     simp only [Option.getD_some, Option.getD_none]
     omega
    have hsg := hsw g
    simp -implicitDefEqProofs (disch:=omega) only [h2,h4,h5,h9,h11,h22,h23,h24,h28,h29,h30,hh4_0,hh5_0,hh22_1,hjl,hx,hxg,hsg,Ch.pv,go_sem,↓reduceIte,reduceAdd,reduceSub,reduceEqDiff,reduceLeDiff,reduceCtorEq]
    try refine And.intro (by omega) ?_
    refine (hJ _ _).2 ⟨min b (x.own - W g), ?_, ?_, ?_, ?_, ?_, ?_, ?_, ?_, ?_, ?_, ?_, ?_, ?_, ?_, ?_, ?_, ?_⟩
    ·exact hnew
    ·omega
    ·omega
    all_goals exact cl0
   ·rw [if_neg hxg] at hb'
    simp -implicitDefEqProofs (disch:=omega) only [h2,h4,h5,h9,h11,h22,h23,h24,h28,h29,h30,hh4_0,hh5_0,hh22_1,hjl,hx,hxg,Ch.pv,go_sem,↓reduceIte,reduceAdd,reduceSub,reduceEqDiff,reduceLeDiff,reduceCtorEq]
    try refine And.intro (by omega) ?_
    refine (hJ _ _).2 ⟨b, ?_, ?_, ?_, ?_, ?_, ?_, ?_, ?_, ?_, ?_, ?_, ?_, ?_, ?_, ?_, ?_, ?_⟩
    ·exact hb'
    ·exact b0
    ·exact b1
    all_goals exact cl0
  ·have hjz : l.drop j = [] := List.drop_of_length_le (by omega)
   rw [hjz] at hb'
   have he : min a (mostK l g - W g) = b := by
    rw [hb']
    simp only [lookC, Option.getD_none]
    omega
   rw [he] at ha
   simp -implicitDefEqProofs (disch:=omega) only [h2,h4,h5,h9,h11,h22,h23,h24,h28,h29,h30,hh4_0,hh5_0,hh22_1,hjg,go_sem,↓reduceIte,reduceAdd,reduceSub,reduceEqDiff,reduceLeDiff,reduceCtorEq]
   try refine And.intro (by omega) ?_
   refine (hI _ _).2 ⟨b, ?_, ?_, ?_, ?_, ?_, ?_, ?_, ?_, ?_, ?_, ?_, ?_, ?_⟩
   ·exact ha
   ·exact b0
   ·exact b1
   all_goals exact cl0
 ·rw [List.drop_of_length_le (by omega), leftS] at ha
  simp -implicitDefEqProofs (disch:=omega) only [h2,h4,h5,h9,h22,h23,h24,hh4_0,hh5_0,hh22_1,hge,go_sem,↓reduceIte,reduceAdd,reduceSub,reduceEqDiff,reduceLeDiff,reduceCtorEq]
  rw [ha]
  try rfl
theorem validLK_iff (t : Tr) (l : List Ch) : validLK t l = true ↔ TreeOk t ∧ AscOk (knownN t.nodes) 0 4611686018427387904 l := by
 rw [validLK, Bool.and_eq_true, treeOk_iff, ascOk_iff]
theorem LimOk.of {kn : Int → Bool} {l : List Ch} (h : AscOk kn 0 4611686018427387904 l) : LimOk l := ⟨h.inc, h.range⟩
theorem HgOk.length {t : Tr} {z : Int} {l : List Hg} (h : HgOk t.nodes z l) : l.length ≤ t.nodes.length := by
 have hnd : (l.map (·.group)).Nodup := by
  rw [List.Nodup, List.pairwise_map]
  exact h.inc.imp fun hab => by omega
 have := nodup_length_le (l.map (·.group)) (t.nodes.map (·.id)) hnd (fun x hx => by
  obtain ⟨c, hc, rfl⟩ := List.mem_map.1 hx
  obtain ⟨n, hn, he⟩ := findN_some (h.known c hc)
  exact List.mem_map.2 ⟨n, hn, he⟩)
 simpa using this
def prtS (t : Tr) (hs : List Hg) (z : Int) (l : List Ch) (own : Hg → Int) (pr : Pr → Int) (out : Bool) (e : Pr) : Pt := ⟨e.group, usedF t (cntS hs) e.group, pr e, own (getS hs e.group), if out = true then roomS t hs z l e.group else 4611686018427387904⟩
set_option maxHeartbeats 4000000 in
theorem sparts_eq {t : Tr} (h : TreeOk t) {hs : List Hg} {z : Int} (hh : HgOk t.nodes z hs) (hz : inPg z) {l : List Ch} (hl : LimOk l) (hll : l.length < 1000000) (eff : List Pr) (hel : eff.length < 1000000) {fo fp : FuncId} {own : Hg → Int} {pr : Pr → Int} (hown : ∀ x : Hg, V fo [x.vv] [] = some (.p (.int .i64 (own x)), [])) (hpr : ∀ x : Pr, V fp [x.vv] [] = some (.p (.int .i64 (pr x)), [])) (out low : Bool) (kt : KT) (tk : List MKey) (tv : List PV) :
  V 96 [.ptr (.arg 0 0) 0 0, .agg [.p (.fn fo), .p (.fn fp), .p (.bool out), .p (.bool low)]] [.box [.p (nodesP t.nodes), .p (.int .i64 t.next), .own (.arg 1 0) 0 0 hs.length, .p (.int .i64 z), .p (chsP l), .own (.arg 2 0) 0 0 eff.length, .mref (.arg 3 0) 0], .arr 4 (hs.map Hg.pv), .arr 3 (eff.map Pr.pv), .map kt tk tv] = some (.fresh 5 ((eff.map (prtS t hs z l own pr out)).map Pt.pv), [.box [.p (nodesP t.nodes), .p (.int .i64 t.next), .own (.arg 1 0) 0 0 hs.length, .p (.int .i64 z), .p (chsP l), .own (.arg 2 0) 0 0 eff.length, .mref (.arg 3 0) 0], .arr 4 (hs.map Hg.pv), .arr 3 (eff.map Pr.pv), .map kt tk tv]) := by
 refine V_wp (vf := vf96) rfl ?_
 have hlen := h.len
 have hhl := hh.length
 have hc := cntS_ok hh
 have hcl := cntS_len hs
 have hct := scounter_eq ⟨hs, z⟩ (by show hs.length < 1000000; omega) (fun x hx => ⟨hh.file x hx, hh.anon x hx⟩)
 have htt := totals_eq t (cntS hs) h.fits (by omega) (by omega)
 have hTK : TotalsK t (cntS hs) = ((t.nodes.filter fun n => decide (0 < tot t (ownC (cntS hs)) n.id)).map (totCh t (cntS hs)), 0) := by
  rw [TotalsK, if_pos ((validK_iff t _).2 ⟨h, hc⟩)]
 rw [hTK] at htt
 simp only at htt
 have hlk := lookC_totals h (ownC_nonneg hc.pos)
 have htinc : (((t.nodes.filter fun n => decide (0 < tot t (ownC (cntS hs)) n.id)).map (totCh t (cntS hs)))).Pairwise fun a b => a.group < b.group := by
  rw [List.pairwise_map]
  exact h.inc.filter _
 have htl : ((t.nodes.filter fun n => decide (0 < tot t (ownC (cntS hs)) n.id)).map (totCh t (cntS hs))).length ≤ t.nodes.length := by
  rw [List.length_map]; exact List.length_filter_le _ _
 have hget : ∀ g, V 53 [.agg [.p (hgsP hs), .p (.int .i64 z)], .p (.int .i64 g)] [] = some ((getS hs g).vv, []) := fun g => sget_eq ⟨hs, z⟩ g (by show hs.length < 1000000; omega)
 have hroom : ∀ g, V 120 [t.vv, .agg [.p (hgsP hs), .p (.int .i64 z)], .p (chsP l), .p (.int .i64 g)] [] = some (.p (.int .i64 (roomS t hs z l g)), []) := fun g => sroom_eq h ⟨hs, z⟩ l g (by show hs.length < 1000000; omega) (fun x => (hh.get x).2.2) hz hl hll
 generalize (t.nodes.filter fun n => decide (0 < tot t (ownC (cntS hs)) n.id)).map (totCh t (cntS hs)) = T at htt hlk htinc htl
 generalize hC : cntS hs = C at hct htt hlk hcl
 simp only [Stk.vv] at hct
 simp -implicitDefEqProofs (disch:=omega) only [vf96,vb96,hct,htt,go_sem,↓reduceIte,reduceAdd,reduceSub,reduceEqDiff,reduceLeDiff,reduceCtorEq]
 obtain ⟨I, hI⟩ : ∃ I : Nat → St → Prop, ∀ k s, I k s ↔ ∃ (ks : List MKey) (vs : List PV), RepD ks vs (fun x => (lookC (T.take k) x).getD 0) ∧ s.pe 0 = .ptr (Id.arg 0 0) 0 0 ∧ s.pe 3 = .ptr (.slot 3 0) 0 0 ∧ s.pe 5 = .mref (.slot 14 0) 0 ∧ s.pe 28 = .own (.slot 25 1) 0 0 T.length ∧ s.pe 29 = .p (.int .i64 ↑T.length) ∧ s.pe 30 = .p (.int .i64 k) ∧ s.h (.arg 0 0) = some (0, Ob.box [.p (nodesP t.nodes), .p (.int .i64 t.next), VVal.own (Id.arg 1 0) 0 0 hs.length, .p (.int .i64 z), .p (chsP l), VVal.own (Id.arg 2 0) 0 0 eff.length, VVal.mref (Id.arg 3 0) 0]) ∧ s.h (.arg 1 0) = some (0, Ob.arr 4 (List.map Hg.pv hs)) ∧ s.h (.arg 2 0) = some (0, Ob.arr 3 (List.map Pr.pv eff)) ∧ s.h (.arg 3 0) = some (0, Ob.map kt tk tv) ∧ s.h (.slot 3 0) = some (0, Ob.box [.p (PV.fn fo), .p (PV.fn fp), .p (.bool out), .p (.bool low)]) ∧ s.h (.slot 14 0) = some (0, Ob.map (KT.int IntKind.i64) ks vs) ∧ s.h (.slot 25 1) = some (0, Ob.arr 2 (List.map Ch.pv T)) := ⟨_, fun _ _ => Iff.rfl⟩
 refine wp_count (T.length) I ?_ ?_
 ·refine (hI _ _).2 ⟨[], [], ?_, ?_, ?_, ?_, ?_, ?_, ?_, ?_, ?_, ?_, ?_, ?_, ?_, ?_⟩
  ·exact RepD.nil.congr fun x => by simp [lookC]
  all_goals exact cl0
 intro k s hk hIk
 obtain ⟨ks, vs, hrep, h0, h3, h5, h28, h29, h30, ha0, ha1, ha2, ha3, hh3_0, hh14_0, hh25_1⟩ := (hI _ _).1 hIk
 clear hIk
 simp -implicitDefEqProofs (disch:=omega) only [h0,h3,h5,h28,h29,h30,ha0,ha1,ha2,ha3,hh3_0,hh14_0,hh25_1,go_sem,↓reduceIte,reduceAdd,reduceSub,reduceEqDiff,reduceLeDiff,reduceCtorEq]
 refine wp_if_d (fun hlt => ?_) (fun hge => ?_)
 ·have hm : T[k]? = some T[k] := List.getElem?_eq_getElem hlt
  have htk := take_snoc hm
  have hlt' : ∀ d ∈ T.take k, d.group ≠ T[k].group := by
   intro d hd
   obtain ⟨j, hj, rfl⟩ := List.mem_take_iff_getElem.1 hd
   have := List.pairwise_iff_getElem.1 htinc j k (by omega) hlt (by omega)
   omega
  generalize T[k] = c at hm htk hlt'
  have hnew := (hrep.put c.group c.own).congr (g := fun x => (lookC (T.take (k + 1)) x).getD 0) fun x => by
   rw [htk, lookC_snoc c x _ hlt']
   by_cases hx : x = c.group
   ·simp [hx]
   ·simp [hx]
  simp -implicitDefEqProofs (disch:=omega) only [h0,h3,h5,h28,h29,h30,ha0,ha1,ha2,ha3,hh3_0,hh14_0,hh25_1,hlt,hm,Ch.pv,go_sem,↓reduceIte,reduceAdd,reduceSub,reduceEqDiff,reduceLeDiff,reduceCtorEq]
  try refine And.intro (by omega) ?_
  refine (hI _ _).2 ⟨(mput ks vs (.int c.group) (.int .i64 c.own)).1, (mput ks vs (.int c.group) (.int .i64 c.own)).2, ?_, ?_, ?_, ?_, ?_, ?_, ?_, ?_, ?_, ?_, ?_, ?_, ?_, ?_⟩
  ·exact hnew
  all_goals exact cl0
 ·rw [List.take_of_length_le (by omega)] at hrep
  have hrep := hrep.congr hlk
  simp -implicitDefEqProofs (disch:=omega) only [h0,h3,h5,h28,h29,h30,ha0,ha1,ha2,ha3,hh3_0,hh14_0,hh25_1,hge,go_sem,↓reduceIte,reduceAdd,reduceSub,reduceEqDiff,reduceLeDiff,reduceCtorEq]
  obtain ⟨J, hJ⟩ : ∃ I : Nat → St → Prop, ∀ j s, I j s ↔ ∃ (acc : List Pt) (ww : Nat), acc = (eff.take j).map (prtS t hs z l own pr out) ∧ acc.length ≤ j ∧ s.pe 0 = .ptr (Id.arg 0 0) 0 0 ∧ s.pe 3 = .ptr (.slot 3 0) 0 0 ∧ s.pe 5 = .mref (.slot 14 0) 0 ∧ s.pe 10 = .own (.slot 10 0) ww 0 acc.length ∧ s.pe 43 = VVal.own (Id.arg 2 0) 0 0 eff.length ∧ s.pe 44 = .p (.int .i64 ↑eff.length) ∧ s.pe 45 = .p (.int .i64 j) ∧ s.h (.arg 0 0) = some (0, Ob.box [.p (nodesP t.nodes), .p (.int .i64 t.next), VVal.own (Id.arg 1 0) 0 0 hs.length, .p (.int .i64 z), .p (chsP l), VVal.own (Id.arg 2 0) 0 0 eff.length, VVal.mref (Id.arg 3 0) 0]) ∧ s.h (.arg 1 0) = some (0, Ob.arr 4 (List.map Hg.pv hs)) ∧ s.h (.arg 2 0) = some (0, Ob.arr 3 (List.map Pr.pv eff)) ∧ s.h (.arg 3 0) = some (0, Ob.map kt tk tv) ∧ s.h (.slot 3 0) = some (0, Ob.box [.p (PV.fn fo), .p (PV.fn fp), .p (.bool out), .p (.bool low)]) ∧ s.h (.slot 10 0) = some (ww, Ob.arr 5 (acc.map Pt.pv)) ∧ s.h (.slot 14 0) = some (0, Ob.map (KT.int IntKind.i64) ks vs) := ⟨_, fun _ _ => Iff.rfl⟩
  refine wp_count (eff.length) J ?_ ?_
  ·refine (hJ _ _).2 ⟨[], nv (s.h (.slot 10 0)), ?_, ?_, ?_, ?_, ?_, ?_, ?_, ?_, ?_, ?_, ?_, ?_, ?_, ?_, ?_, ?_⟩
   ·exact by simp
   ·exact by simp
   all_goals exact cl0
  intro j s hj hJk
  obtain ⟨acc, ww, hacc, hal, h0, h3, h5, h10, h43, h44, h45, ha0, ha1, ha2, ha3, hh3_0, hh10_0, hh14_0⟩ := (hJ _ _).1 hJk
  clear hJk
  simp -implicitDefEqProofs (disch:=omega) only [h0,h3,h5,h10,h43,h44,h45,ha0,ha1,ha2,ha3,hh3_0,hh10_0,hh14_0,go_sem,↓reduceIte,reduceAdd,reduceSub,reduceEqDiff,reduceLeDiff,reduceCtorEq]
  refine wp_if_d (fun hjl => ?_) (fun hjg => ?_)
  ·have hx : eff[j]? = some eff[j] := List.getElem?_eq_getElem hjl
   have htk := take_snoc hx
   generalize eff[j] = e at hx htk
   have hu := hrep e.group
   have ho := hown (getS hs e.group)
   have hp := hpr e
   have hg := hget e.group
   have hr := hroom e.group
   have hnew : ∀ r, (if out = true then roomS t hs z l e.group else 4611686018427387904) = r → acc ++ [⟨e.group, usedF t C e.group, pr e, own (getS hs e.group), r⟩] = (eff.take (j + 1)).map (prtS t hs z l own pr out) := by
    intro r hr
    rw [← hr, hacc, htk, List.map_append, ← hC]
    rfl
   simp only [Pr.vv] at hp
   cases out with
   | false =>
    simp -implicitDefEqProofs (disch:=omega) only [h0,h3,h5,h10,h43,h44,h45,ha0,ha1,ha2,ha3,hh3_0,hh10_0,hh14_0,hjl,hx,hu,ho,hp,hg,Pr.pv,go_sem,↓reduceIte,reduceAdd,reduceSub,reduceEqDiff,reduceLeDiff,reduceCtorEq]
    try refine And.intro (by omega) ?_
    refine (hJ _ _).2 ⟨acc ++ [⟨e.group, usedF t C e.group, pr e, own (getS hs e.group), 4611686018427387904⟩], ww + 1, ?_, ?_, ?_, ?_, ?_, ?_, ?_, ?_, ?_, ?_, ?_, ?_, ?_, ?_, ?_, ?_⟩
    ·exact hnew _ rfl
    ·exact by simp; omega
    all_goals exact cl0
   | true =>
    simp -implicitDefEqProofs (disch:=omega) only [h0,h3,h5,h10,h43,h44,h45,ha0,ha1,ha2,ha3,hh3_0,hh10_0,hh14_0,hjl,hx,hu,ho,hp,hg,hr,Pr.pv,go_sem,↓reduceIte,reduceAdd,reduceSub,reduceEqDiff,reduceLeDiff,reduceCtorEq]
    try refine And.intro (by omega) ?_
    refine (hJ _ _).2 ⟨acc ++ [⟨e.group, usedF t C e.group, pr e, own (getS hs e.group), roomS t hs z l e.group⟩], ww + 1, ?_, ?_, ?_, ?_, ?_, ?_, ?_, ?_, ?_, ?_, ?_, ?_, ?_, ?_, ?_, ?_⟩
    ·exact hnew _ rfl
    ·exact by simp; omega
    all_goals exact cl0
  ·rw [List.take_of_length_le (by omega)] at hacc
   simp -implicitDefEqProofs (disch:=omega) only [h0,h3,h5,h10,h43,h44,h45,ha0,ha1,ha2,ha3,hh3_0,hh10_0,hh14_0,hjg,go_sem,↓reduceIte,reduceAdd,reduceSub,reduceEqDiff,reduceLeDiff,reduceCtorEq]
   rw [hacc]
theorem mput_keys : ∀ (ks : List MKey) (vs : List PV) (k : MKey) (v w : PV), (mput ks vs k v).1 = (mput ks vs k w).1
 | [], _, _, _, _ => rfl
 | _ :: _, [], _, _, _ => rfl
 | a :: ks, b :: vs, k, v, w => by
  have ih := mput_keys ks vs k v w
  unfold mput
  split
  ·rfl
  ·simpa using ih
theorem mput_set : ∀ (ks : List MKey) (vs : List PV) (k : MKey) (v x : PV), ks.length = vs.length → (mput ks vs k v).2.set (kpos ks k) x = (mput ks vs k x).2 ∧ kpos ks k < (mput ks vs k v).2.length
 | [], [], _, _, _, _ => by simp [mput, kpos]
 | [], _ :: _, _, _, _, h => by simp at h
 | _ :: _, [], _, _, _, h => by simp at h
 | a :: ks, b :: vs, k, v, x, h => by
  have ih := mput_set ks vs k v x (by simpa using h)
  unfold mput kpos
  split
  ·simp
  ·simpa using ih
structure RepH (ks : List MKey) (vs : List PV) (f : Int → Sh) : Prop where
 len : ks.length = vs.length
 get : ∀ id, (mget ks vs (.int id)).getD (.agg [.int .i64 0, .int .i64 0, .int .i64 0, .int .i64 0]) = (f id).pv
theorem RepH.nil : RepH [] [] fun _ => zeroSh := ⟨rfl, fun _ => rfl⟩
theorem RepH.put {ks : List MKey} {vs : List PV} {f : Int → Sh} (h : RepH ks vs f) (g : Int) (v : Sh) : RepH (mput ks vs (.int g) v.pv).1 (mput ks vs (.int g) v.pv).2 (fun x => if x = g then v else f x) := by
 refine ⟨mput_len _ _ _ _ h.len, fun id => ?_⟩
 rw [mget_mput]
 by_cases hg : id = g
 ·subst hg
  simp
 ·simp [hg]
  exact h.get id
set_option maxHeartbeats 4000000 in
theorem stake_eq (t : Tr) (hs : List Hg) (z : Int) (l : List Ch) (eff : List Pr) (hl : hs.length < 1000000) {fo fp : FuncId} (out low : Bool) (id n : Int) {tk : List MKey} {tv : List PV} {f : Int → Sh} (hf : RepH tk tv f) (hn : inPg n) (hh : inPg (getS hs id).file ∧ inPg (getS hs id).anon ∧ inPg (getS hs id).swap) (hk : inPg (f id).file ∧ inPg (f id).anon ∧ inPg (f id).low) :
  V 97 [.ptr (.arg 0 0) 0 0, .agg [.p (.fn fo), .p (.fn fp), .p (.bool out), .p (.bool low)], .p (.int .i64 id), .p (.int .i64 n)] [.box [.p (nodesP t.nodes), .p (.int .i64 t.next), .own (.arg 1 0) 0 0 hs.length, .p (.int .i64 z), .p (chsP l), .own (.arg 2 0) 0 0 eff.length, .mref (.arg 3 0) 0], .arr 4 (hs.map Hg.pv), .arr 3 (eff.map Pr.pv), .map (.int .i64) tk tv] = some (.tup [], [.box [.p (nodesP t.nodes), .p (.int .i64 t.next), .fresh 4 ((putS hs (takeH out (getS hs id) n)).map Hg.pv), .p (.int .i64 z), .p (chsP l), .own (.arg 2 0) 0 0 eff.length, .mref (.arg 3 0) 0], .arr 4 (hs.map Hg.pv), .arr 3 (eff.map Pr.pv), .map (.int .i64) (mput tk tv (.int id) (takeK out low id (f id) n).pv).1 (mput tk tv (.int id) (takeK out low id (f id) n).pv).2]) := by
 refine V_wp (vf := vf97) rfl ?_
 have hget := sget_eq ⟨hs, z⟩ id hl
 have hput := fun a b c d : Int => sput_eq ⟨hs, z⟩ ⟨a, b, c, d⟩ hl
 have hg := hf.get id
 have hkey := fun v : PV => mput_keys tk tv (.int id) v (takeK out low id (f id) n).pv
 have hset := fun v x : PV => (mput_set tk tv (.int id) v x hf.len).1
 have hlt := fun v : PV => (mput_set tk tv (.int id) v v hf.len).2
 simp only [Stk.vv] at hget
 simp only [Stk.vv, Stk.fv, Hg.vv] at hput
 obtain ⟨a1, a2, a3⟩ := hh
 obtain ⟨b1, b2, b3⟩ := hk
 have hgid := getS_group hs id
 generalize getS hs id = x at hget a1 a2 a3 hgid ⊢
 generalize f id = k at hg b1 b2 b3 hkey ⊢
 obtain ⟨xg, xf, xa, xs⟩ := x
 obtain ⟨kg, kf, ka, kl⟩ := k
 simp only [inPg] at a1 a2 a3 b1 b2 b3 hn
 simp only [Sh.pv] at hg hkey
 cases out <;> cases low <;> (simp only [takeK,takeH,if_true,if_false,Bool.false_eq_true] at hkey ⊢; simp -implicitDefEqProofs (disch:=omega) only [vf97,vb97,hget,hg,hput,Hg.vv,hlt,hset,hkey,Sh.pv,go_sem,↓reduceIte,reduceAdd,reduceSub,reduceEqDiff,reduceLeDiff,reduceCtorEq])
def swCh (hs : List Hg) : List Ch := hs.map fun h => ⟨h.group, h.swap⟩
theorem swCh_own : ∀ (hs : List Hg) (g : Int), ownC (swCh hs) g = swpF hs g
 | [], _ => rfl
 | h :: hs, g => by
  have ih := swCh_own hs g
  unfold swpF at ih ⊢
  show (if h.group = g then h.swap else ownC (swCh hs) g) = _
  rw [show getS (h :: hs) g = if h.group = g then h else getS hs g from rfl, ih]
  split <;> rfl
theorem swT_root {t : Tr} (h : TreeOk t) {z : Int} {hs : List Hg} (hh : HgOk t.nodes z hs) : swT t hs 1 = sumI (hs.map (·.swap)) := by
 obtain ⟨r, hr, hr1⟩ := root_at h
 have h1 := sum_own_eq (l := swCh hs) (by rw [swCh, List.pairwise_map]; exact hh.inc) (subF t.nodes t.nodes.length r.id) (subF_nodup h hr) fun d hd => by
  obtain ⟨x, hx, rfl⟩ := List.mem_map.1 hd
  obtain ⟨m, hm, he⟩ := findN_some (hh.known x hx)
  obtain ⟨j, hj⟩ := List.getElem?_of_mem hm
  show x.group ∈ _
  rw [← he]
  exact (mem_sub h hr _).2 ⟨j, m, hj, rfl, by rw [hr1]; exact root_anc h j m hj⟩
 rw [swCh, List.map_map] at h1
 rw [swT, ← hr1, subT_some h hr]
 refine Eq.trans ?_ h1
 refine congrArg sumI (List.map_congr_left fun g _ => ?_)
 rw [← swCh_own]
 rfl
theorem roomS_bound {t : Tr} (h : TreeOk t) {z : Int} {hs : List Hg} (hh : HgOk t.nodes z hs) (l : List Ch) (g : Int) : 0 ≤ roomS t hs z l g ∧ roomS t hs z l g ≤ z - sumI (hs.map (·.swap)) := by
 have h1 := leftS_le (swT t hs) l (ancF t.nodes t.nodes.length g) (z - swT t hs 1)
 have h2 := hh.out
 rw [swT_root h hh] at h1
 unfold roomS
 rw [swT_root h hh]
 omega
theorem sw_nonneg {ns : List Nd} {z : Int} {hs : List Hg} (hh : HgOk ns z hs) : 0 ≤ sumI (hs.map (·.swap)) := sumI_map_nonneg _ fun x hx => (hh.swap x hx).1
theorem usedF_bound {t : Tr} (h : TreeOk t) {c : List Ch} (hc : ChOk t.nodes c) (g : Int) : 0 ≤ usedF t c g ∧ usedF t c g ≤ 16777216 := by
 unfold usedF
 split
 ·rename_i hf
  obtain ⟨n, hn, rfl⟩ := findN_some hf
  obtain ⟨j, hj⟩ := List.getElem?_of_mem hn
  have h1 := tot_le h hc hj
  have h2 := tot_nonneg t (ownC_nonneg hc.pos) n.id
  have h3 := hc.all
  omega
 ·omega
structure EffOk (t : Tr) (root : Int) (eff : List Pr) : Prop where
 groups : eff.map (·.group) = msort (subT t root)
 bound : ∀ e ∈ eff, (0 ≤ e.least ∧ e.least ≤ 16777216) ∧ (0 ≤ e.low ∧ e.low ≤ 16777216)
def effL (t : Tr) (c : List Ch) (l : List Pr) (root : Int) : List Pr := (msort (subT t root)).map (effPr t c l root)
theorem claim_bound {t : Tr} (h : TreeOk t) {c : List Ch} (hc : ChOk t.nodes c) (f : Pr → Int) {l : List Pr} (hf : ∀ y ∈ l, 0 ≤ f y) (x : Int) : 0 ≤ min (usedF t c x) (lookPr f l x) ∧ min (usedF t c x) (lookPr f l x) ≤ 16777216 := by
 have h1 := lookPr_bound f hf x
 have h2 := usedF_bound h hc x
 omega
theorem effL_ok {t : Tr} (h : TreeOk t) {c : List Ch} (hc : ChOk t.nodes c) {l : List Pr} (hl : PrOk t.nodes l) (root : Int) : EffOk t root (effL t c l root) := by
 refine ⟨?_, fun e he => ?_⟩
 ·unfold effL
  rw [List.map_map]
  exact List.map_id _
 ·obtain ⟨g, _, rfl⟩ := List.mem_map.1 he
  exact ⟨effT_bound t _ (claim_bound h hc (·.least) fun y hy => (hl.least y hy).1) root g, effT_bound t _ (claim_bound h hc (·.low) fun y hy => (hl.low y hy).1) root g⟩
theorem parts_okS {t : Tr} (h : TreeOk t) {root : Int} (hr : InN t.nodes root) {hs : List Hg} {z : Int} (hh : HgOk t.nodes z hs) (hz : inPg z) (l : List Ch) {eff : List Pr} (he : EffOk t root eff) {own : Hg → Int} {pr : Pr → Int} (hown : ∀ g, inPg (own (getS hs g))) (hpr : ∀ e ∈ eff, inPg (pr e)) (out : Bool) : PartsOk t (eff.map (prtS t hs z l own pr out)) root := by
 refine ⟨h, hr, ?_, fun x hx => ?_⟩
 ·rw [List.map_map]
  exact he.groups
 ·obtain ⟨e, hem, rfl⟩ := List.mem_map.1 hx
  have h1 := usedF_bound h (cntS_ok hh) e.group
  have h2 := hown e.group
  have h3 := hpr e hem
  have h4 := roomS_bound h hh l e.group
  have h5 := sw_nonneg hh
  unfold inPg at h2 h3 hz
  refine ⟨h1.1, h1.2, h3.1, h3.2, h2.1, h2.2, ?_, ?_⟩
  ·show 0 ≤ if out = true then roomS t hs z l e.group else 4611686018427387904
   split <;> omega
  ·show (if out = true then roomS t hs z l e.group else 4611686018427387904) ≤ 4611686018427387904
   split <;> omega
theorem partOf_prt {t : Tr} {hs : List Hg} {z : Int} {l : List Ch} {own : Hg → Int} {pr : Pr → Int} {out : Bool} {g : Int} : ∀ {eff : List Pr}, g ∈ eff.map (·.group) → ∃ e ∈ eff, e.group = g ∧ partOf (eff.map (prtS t hs z l own pr out)) g = prtS t hs z l own pr out e
 | [], h => by simp at h
 | e :: eff, h => by
  unfold partOf
  rw [List.map_cons, List.find?_cons]
  by_cases he : e.group = g
  ·refine ⟨e, by simp, he, ?_⟩
   simp [prtS, he]
  ·have h1 : g ∈ eff.map (·.group) := by simpa [Ne.symm he, eq_comm] using h
   obtain ⟨e', he', hg, hp⟩ := partOf_prt (t := t) (hs := hs) (z := z) (l := l) (own := own) (pr := pr) (out := out) h1
   refine ⟨e', by simp [he'], hg, ?_⟩
   have : decide ((prtS t hs z l own pr out e).group = g) = false := decide_eq_false he
   rw [this]
   exact hp
theorem effOk_mem {t : Tr} (h : TreeOk t) {root : Int} (hr : InN t.nodes root) {eff : List Pr} (he : EffOk t root eff) (g : Int) : g ∈ eff.map (·.group) ↔ g ∈ subA t root := by
 obtain ⟨i, n, hn, hre⟩ := hr
 rw [he.groups, (msort_perm _).mem_iff, ← hre, subT_some h hn]
def ownS (out : Bool) (x : Hg) : Int := if out then x.anon else x.file
def prS (low : Bool) (x : Pr) : Int := if low then x.least else max x.least x.low
abbrev ShSt := List Hg × (Int → Sh) × Int
abbrev partsS (t : Tr) (z : Int) (l : List Ch) (eff : List Pr) (out low : Bool) (hs : List Hg) : List Pt := eff.map (prtS t hs z l (ownS out) (prS low) out)
def takesS (t : Tr) (z : Int) (l : List Ch) (eff : List Pr) (root : Int) (out low : Bool) (s : ShSt) : List (Int × Int) := (RoundP t (partsS t z l eff out low s.1) root s.2.2).1
def takeSt (out low : Bool) (s : ShSt) (a : List (Int × Int)) : ShSt := ((takeAll out low (s.1, s.2.1) a).1, (takeAll out low (s.1, s.2.1) a).2, s.2.2 - sumI (a.map Prod.snd))
def rndS (t : Tr) (z : Int) (l : List Ch) (eff : List Pr) (root : Int) (out low : Bool) (s : ShSt) : ShSt := takeSt out low s (takesS t z l eff root out low s)
def outR (k : Nat) : Bool := decide (k % 2 = 1)
def lowR (k : Nat) : Bool := decide (2 ≤ k)
def shrS (t : Tr) (z : Int) (l : List Ch) (eff : List Pr) (root : Int) (s0 : ShSt) : Nat → ShSt
 | 0 => s0
 | k + 1 => rndS t z l eff root (outR k) (lowR k) (shrS t z l eff root s0 k)
structure ShOk (t : Tr) (z n0 : Int) (s : ShSt) : Prop where
 hs : HgOk t.nodes z s.1
 left : 0 ≤ s.2.2 ∧ s.2.2 ≤ n0
 file : ∀ x, 0 ≤ (s.2.1 x).file ∧ (s.2.1 x).file ≤ n0 - s.2.2
 anon : ∀ x, 0 ≤ (s.2.1 x).anon ∧ (s.2.1 x).anon ≤ n0 - s.2.2
 low : ∀ x, 0 ≤ (s.2.1 x).low ∧ (s.2.1 x).low ≤ n0 - s.2.2
 grp : ∀ x, s.2.1 x = zeroSh ∨ (s.2.1 x).group = x
theorem sumOn_le {S : List Int} {a : List (Int × Int)} (h : ∀ q ∈ a, 0 ≤ q.2) : sumOn S a ≤ sumI (a.map Prod.snd) := by
 induction a with
 | nil => exact Int.le_refl _
 | cons q a ih =>
  have h1 := ih fun r hr => h r (by simp [hr])
  have h2 := h q (by simp)
  have h3 : sumOn S (q :: a) = (if q.1 ∈ S then q.2 else 0) + sumOn S a := rfl
  rw [h3, List.map_cons, sumI]
  split <;> omega
theorem takeSt_ok {t : Tr} {z n0 : Int} (hz : z ≤ 16777216) {s : ShSt} (hs : ShOk t z n0 s) (out low : Bool) {a : List (Int × Int)} (hq : ∀ q ∈ a, 0 < q.2 ∧ (findN t.nodes q.1).isSome = true) (ho : ∀ x, sumOn [x] a ≤ ownS out (getS s.1 x)) (hsw : out = true → sumI (s.1.map (·.swap)) + sumI (a.map Prod.snd) ≤ z) (hl : sumI (a.map Prod.snd) ≤ s.2.2) : ShOk t z n0 (takeSt out low s a) := by
 have h1 := takeAll_ok hz out low a (s.1, s.2.1) hs.hs hq (fun x => by
  have := ho x
  unfold ownS at this
  exact this) hsw
 have hq0 : ∀ q ∈ a, 0 ≤ q.2 := fun q hqm => by have := (hq q hqm).1; omega
 have hsn : 0 ≤ sumI (a.map Prod.snd) := sumI_map_nonneg _ hq0
 have hon : ∀ x, 0 ≤ sumOn [x] a ∧ sumOn [x] a ≤ sumI (a.map Prod.snd) := fun x => ⟨sumOn_nonneg hq0, sumOn_le hq0⟩
 have hle := hs.left
 have key : ∀ x, (takeSt out low s a).2.1 x = if x ∈ a.map Prod.fst then takeK out low x (s.2.1 x) (sumOn [x] a) else s.2.1 x := fun x => takeAll_note out low x a (s.1, s.2.1)
 have hn : (takeSt out low s a).2.2 = s.2.2 - sumI (a.map Prod.snd) := rfl
 refine ⟨h1.1, by rw [hn]; omega, fun x => ?_, fun x => ?_, fun x => ?_, fun x => ?_⟩
 ·rw [key x, hn]
  have b1 := hs.file x
  have b2 := hon x
  split
  ·unfold takeK
   cases out <;> simp <;> omega
  ·omega
 ·rw [key x, hn]
  have b1 := hs.anon x
  have b2 := hon x
  split
  ·unfold takeK
   cases out <;> simp <;> omega
  ·omega
 ·rw [key x, hn]
  have b1 := hs.low x
  have b2 := hon x
  split
  ·unfold takeK
   cases low <;> simp <;> omega
  ·omega
 ·rw [key x]
  split
  ·exact .inr rfl
  ·exact hs.grp x
theorem sumI_take {f : Int × Int → Int} : ∀ (a : List (Int × Int)) (j : Nat), (∀ q ∈ a, 0 ≤ f q) → sumI ((a.take j).map f) ≤ sumI (a.map f)
 | [], j, _ => by simp
 | q :: a, 0, h => by
  have := sumI_map_nonneg (f := f) (q :: a) h
  simpa [sumI] using this
 | q :: a, j + 1, h => by
  have ih := sumI_take a j fun r hr => h r (by simp [hr])
  simp only [List.take_succ_cons, List.map_cons, sumI]
  omega
theorem round_S {t : Tr} (h : TreeOk t) {root : Int} (hr : InN t.nodes root) {z n0 : Int} (hz : inPg z) (hn : n0 ≤ 16777216) (l : List Ch) {eff : List Pr} (he : EffOk t root eff) (out low : Bool) {s : ShSt} (hs : ShOk t z n0 s) :
  PartsOk t (partsS t z l eff out low s.1) root ∧ RoundP t (partsS t z l eff out low s.1) root s.2.2 = (takesS t z l eff root out low s, 0) ∧ RoundOk t (partsS t z l eff out low s.1) root (min s.2.2 (capR t (partsS t z l eff out low s.1) root)) (takesS t z l eff root out low s) ∧ sumI ((takesS t z l eff root out low s).map Prod.snd) = min s.2.2 (capR t (partsS t z l eff out low s.1) root) ∧ (∀ x, sumOn [x] (takesS t z l eff root out low s) ≤ ownS out (getS s.1 x)) ∧ ∀ j, ShOk t z n0 (takeSt out low s ((takesS t z l eff root out low s).take j)) := by
 have hP : PartsOk t (partsS t z l eff out low s.1) root := parts_okS h hr hs.hs hz l he (fun g => by
  obtain ⟨a, b, _⟩ := hs.hs.get g
  unfold ownS
  cases out <;> simp <;> assumption) (fun e hem => by
  have := he.bound e hem
  unfold prS inPg
  cases low <;> simp <;> omega) out
 have hle := hs.left
 obtain ⟨a, ha, hR⟩ := round_ok hP hle.1 (by omega)
 have hta : takesS t z l eff root out low s = a := by unfold takesS; rw [ha]
 rw [hta]
 have hq0 : ∀ q ∈ a, 0 ≤ q.2 := fun q hqm => by have := (hR.pos q hqm).1; omega
 have hsum : sumI (a.map Prod.snd) = min s.2.2 (capR t (partsS t z l eff out low s.1) root) := by
  rw [← hR.top, hR.on root hr, sumOn_all fun q hq => hR.groups q hq]
 have hown : ∀ x, sumOn [x] a ≤ ownS out (getS s.1 x) := fun x => by
  by_cases hx : x ∈ subA t root
  ·have h1 := (own_taken hP.ok hR x).2
   obtain ⟨e, hem, hg, hp⟩ := partOf_prt (t := t) (hs := s.1) (z := z) (l := l) (own := ownS out) (pr := prS low) (out := out) ((effOk_mem h hr he x).2 hx)
   rw [hp] at h1
   show sumOn [x] a ≤ ownS out (getS s.1 x)
   rw [← hg] at h1 ⊢
   exact h1
  ·rw [sumOn_zero fun q hq hqx => hx (by
    have := hR.groups q hq
    simp only [List.mem_singleton] at hqx
    rw [← hqx]
    exact this)]
   obtain ⟨a1, a2, _⟩ := hs.hs.get x
   unfold ownS inPg at *
   cases out <;> simp <;> omega
 have hsw : out = true → sumI (s.1.map (·.swap)) + sumI (a.map Prod.snd) ≤ z := fun ho => by
  have h1 := (cap_le h (l := partsS t z l eff out low s.1) hr).1
  obtain ⟨e, hem, hg, hp⟩ := partOf_prt (t := t) (hs := s.1) (z := z) (l := l) (own := ownS out) (pr := prS low) (out := out) ((effOk_mem h hr he root).2 (subA_self h hr))
  rw [hp] at h1
  have h2 := (roomS_bound h hs.hs l e.group).2
  simp only [prtS, ho, if_true] at h1
  rw [hsum]
  subst ho
  omega
 refine ⟨hP, ha, hR, hsum, hown, fun j => ?_⟩
 have htl := sumI_take a j (f := Prod.snd) hq0
 refine takeSt_ok hz.2 hs out low (fun q hq => ?_) (fun x => ?_) (fun ho => ?_) ?_
 ·have hqm := List.mem_of_mem_take hq
  refine ⟨(hR.pos q hqm).1, ?_⟩
  obtain ⟨i, n, hn', hne⟩ := subA_in h hr (hR.groups q hqm)
  rw [← hne, findN_unique h.inc hn']
  rfl
 ·have := hown x
  have := sumOn_take (S := [x]) hq0 j
  omega
 ·have := hsw ho
  omega
 ·omega
theorem shr_ok {t : Tr} (h : TreeOk t) {root : Int} (hr : InN t.nodes root) {z n0 : Int} (hz : inPg z) (hn : n0 ≤ 16777216) (l : List Ch) {eff : List Pr} (he : EffOk t root eff) {s0 : ShSt} (hs : ShOk t z n0 s0) : ∀ k, ShOk t z n0 (shrS t z l eff root s0 k)
 | 0 => hs
 | k + 1 => by
  have ih := shr_ok h hr hz hn l he hs k
  have h1 := (round_S h hr hz hn l he (outR k) (lowR k) ih).2.2.2.2.2 (takesS t z l eff root (outR k) (lowR k) (shrS t z l eff root s0 k)).length
  rw [List.take_length] at h1
  exact h1
theorem shr0_ok {t : Tr} {z n : Int} {hs : List Hg} (hh : HgOk t.nodes z hs) (hn : 0 ≤ n) : ShOk t z n (hs, (fun _ => zeroSh), n) := by
 refine ⟨hh, ⟨hn, Int.le_refl _⟩, fun _ => ?_, fun _ => ?_, fun _ => ?_, fun _ => .inl rfl⟩ <;> (simp only []; omega)
def outL (f : Int → Sh) (eff : List Pr) : List Sh := (eff.map fun e => f e.group).filter fun k => decide (k.group ≠ 0)
def ShrinkS (t : Tr) (sw : Stk) (p : List Pr) (l : List Ch) (root n : Int) : Stk × List Sh × Int :=
 if validS t sw && validPr t p && validLK t l then
  if (findN t.nodes root).isSome then
   if pagesB n then (⟨(shrS t sw.size l (effL t (cntS sw.hs) p root) root (sw.hs, (fun _ => zeroSh), n) 4).1, sw.size⟩, outL (shrS t sw.size l (effL t (cntS sw.hs) p root) root (sw.hs, (fun _ => zeroSh), n) 4).2.1 (effL t (cntS sw.hs) p root), 0)
   else (⟨[], 0⟩, [], 3)
  else (⟨[], 0⟩, [], 4)
 else (⟨[], 0⟩, [], 1)
theorem fileF_eq (x : Hg) : V 91 [x.vv] [] = some (.p (.int .i64 x.file), []) := by
 refine V_wp (vf := vf91) rfl ?_
 simp -implicitDefEqProofs (disch:=omega) only [vf91,vb91,go_sem,↓reduceIte,reduceAdd,reduceSub,reduceEqDiff,reduceLeDiff,reduceCtorEq]
theorem anonF_eq (x : Hg) : V 93 [x.vv] [] = some (.p (.int .i64 x.anon), []) := by
 refine V_wp (vf := vf93) rfl ?_
 simp -implicitDefEqProofs (disch:=omega) only [vf93,vb93,go_sem,↓reduceIte,reduceAdd,reduceSub,reduceEqDiff,reduceLeDiff,reduceCtorEq]
theorem highF_eq (x : Pr) : V 92 [x.vv] [] = some (.p (.int .i64 (max x.least x.low)), []) := by
 refine V_wp (vf := vf92) rfl ?_
 simp -implicitDefEqProofs (disch:=omega) only [vf92,vb92,go_sem,↓reduceIte,reduceAdd,reduceSub,reduceEqDiff,reduceLeDiff,reduceCtorEq]
theorem lowF2_eq (x : Pr) : V 94 [x.vv] [] = some (.p (.int .i64 x.least), []) := by
 refine V_wp (vf := vf94) rfl ?_
 simp -implicitDefEqProofs (disch:=omega) only [vf94,vb94,go_sem,↓reduceIte,reduceAdd,reduceSub,reduceEqDiff,reduceLeDiff,reduceCtorEq]
def fnO (out : Bool) : FuncId := if out then 93 else 91
def fnP (low : Bool) : FuncId := if low then 94 else 92
theorem fnO_eq (out : Bool) (x : Hg) : V (fnO out) [x.vv] [] = some (.p (.int .i64 (ownS out x)), []) := by
 cases out
 ·exact fileF_eq x
 ·exact anonF_eq x
theorem fnP_eq (low : Bool) (x : Pr) : V (fnP low) [x.vv] [] = some (.p (.int .i64 (prS low x)), []) := by
 cases low
 ·exact highF_eq x
 ·exact lowF2_eq x
theorem takeSt_snoc (out low : Bool) (s : ShSt) (b : List (Int × Int)) (q : Int × Int) : takeSt out low s (b ++ [q]) = (putS (takeSt out low s b).1 (takeH out (getS (takeSt out low s b).1 q.1) q.2), (fun x => if x = q.1 then takeK out low q.1 ((takeSt out low s b).2.1 q.1) q.2 else (takeSt out low s b).2.1 x), (takeSt out low s b).2.2 - q.2) := by
 unfold takeSt takeAll
 rw [List.foldl_append, List.map_append, sumI_append]
 simp only [List.foldl_cons, List.foldl_nil, takeOne, List.map_cons, List.map_nil, sumI]
 congr 2
 omega
theorem outL_snoc (f : Int → Sh) (eff : List Pr) (e : Pr) : outL f (eff ++ [e]) = outL f eff ++ if (f e.group).group = 0 then [] else [f e.group] := by
 unfold outL
 rw [List.map_append, List.filter_append]
 congr 1
 by_cases h : (f e.group).group = 0 <;> simp [h]
theorem outL_len (f : Int → Sh) (eff : List Pr) : (outL f eff).length ≤ eff.length := by
 unfold outL
 refine Nat.le_trans (List.length_filter_le _ _) ?_
 rw [List.length_map]
 exact Nat.le_refl _
set_option maxHeartbeats 8000000 in
theorem shrink_eq (t : Tr) (sw : Stk) (p : List Pr) (l : List Ch) (root n : Int) (hf : t.Fits) (hn : t.nodes.length < 1000000) (hl : sw.hs.length < 1000000) (hpl : p.length < 1000000) (hll : l.length < 1000000) : V 78 [t.vv, sw.vv, .p (prsP p), .p (chsP l), .p (.int .i64 root), .p (.int .i64 n)] [] = some (.tup [Stk.fv (ShrinkS t sw p l root n).1, .fresh 4 ((ShrinkS t sw p l root n).2.1.map Sh.pv), .p (.int .i64 (ShrinkS t sw p l root n).2.2)], []) := by
 refine V_wp (vf := vf78) rfl ?_
 have hv := svalid_eq t sw hf hn hl
 have hpv := prvalid_eq t p hf hn hpl
 have hlv := klimits_eq t l hf hn hll
 have hck := scheck_eq t sw root hf hn hl
 have hpg := spages_eq n
 have e4 : decide ((4 : Int) = 0) = false := rfl
 unfold ShrinkS
 unfold checkS at hck
 by_cases h1 : validS t sw = true
 ·rw [h1] at hv hck ⊢
  by_cases h2 : validPr t p = true
  ·rw [h2] at hpv ⊢
   by_cases h3 : validLK t l = true
   ·rw [h3] at hlv ⊢
    by_cases h4 : (findN t.nodes root).isSome = true
    ·rw [h4] at hck ⊢
     by_cases h5 : pagesB n = true
     ·rw [h5] at hpg ⊢
      have hS := (validS_iff t sw).1 h1
      have hT := hS.tree
      have hPr := ((validPr_iff t p).1 h2).2
      have hL := LimOk.of ((validLK_iff t l).1 h3).2
      have hlen := hT.len
      have hr : InN t.nodes root := by
       obtain ⟨m, hm, he⟩ := findN_some h4
       obtain ⟨j, hj⟩ := List.getElem?_of_mem hm
       exact ⟨j, m, hj, he⟩
      have hcn := cntS_ok hS.hs
      have hct := scounter_eq sw hl (fun x hx => ⟨hS.hs.file x hx, hS.hs.anon x hx⟩)
      have hef := pEff_ok hT hcn hPr hr hpl
      have heo := effL_ok hT hcn hPr root
      have hnb := pagesB_true h5
      have hz : inPg sw.size := ⟨hS.z0, hS.z1⟩
      have hsh := shr_ok hT hr hz hnb.2 l heo (shr0_ok hS.hs hnb.1)
      have hrd := fun k => round_S hT hr hz hnb.2 l heo (outR k) (lowR k) (hsh k)
      have hS0 : shrS t sw.size l (effL t (cntS sw.hs) p root) root (sw.hs, (fun _ => zeroSh), n) 0 = (sw.hs, (fun _ => zeroSh), n) := rfl
      have hSs : ∀ k, shrS t sw.size l (effL t (cntS sw.hs) p root) root (sw.hs, (fun _ => zeroSh), n) (k + 1) = rndS t sw.size l (effL t (cntS sw.hs) p root) root (outR k) (lowR k) (shrS t sw.size l (effL t (cntS sw.hs) p root) root (sw.hs, (fun _ => zeroSh), n) k) := fun _ => rfl
      have hel : (effL t (cntS sw.hs) p root).length ≤ 64 := by
       have h6 := subT_len hT root
       unfold effL
       rw [List.length_map, msort_length]
       omega
      have hemap : (msort (subT t root)).map (fun g => (effPr t (cntS sw.hs) p root g).pv) = (effL t (cntS sw.hs) p root).map Pr.pv := by
       unfold effL
       rw [List.map_map]
       rfl
      have hpt : ∀ (hs : List Hg) (k : Nat) (kt : KT) (tk : List MKey) (tv : List PV), HgOk t.nodes sw.size hs → _ := fun hs k kt tk tv hh => sparts_eq hT hh hz hL hll (effL t (cntS sw.hs) p root) (by omega) (fnO_eq (outR k)) (fnP_eq (lowR k)) (outR k) (lowR k) kt tk tv
      have hro := fun (q : List Pt) (m : Int) (hq : q.length < 1000000) => round_eq t q root m hT.fits (by omega) hq
      rw [hemap] at hef
      generalize hE : effL t (cntS sw.hs) p root = eff at hef heo hsh hrd hS0 hSs hel hemap hpt
      generalize hF : shrS t sw.size l eff root (sw.hs, (fun _ => zeroSh), n) = F at hsh hrd hS0 hSs ⊢
      simp -implicitDefEqProofs (disch:=omega) only [vf78,vb78,hv,hpv,hlv,hck,hpg,hct,hef,go_sem,↓reduceIte,reduceAdd,reduceSub,reduceEqDiff,reduceLeDiff,reduceCtorEq]
      obtain ⟨I, hI⟩ : ∃ I : Nat → St → Prop, ∀ k s, I k s ↔ ∃ (ks : List MKey) (vs : List PV) (ww : Nat), RepH ks vs (F k).2.1 ∧ s.pe 4 = .p (.int .i64 root) ∧ s.pe 5 = .p (.int .i64 (F k).2.2) ∧ s.pe 6 = .ptr (.slot 6 0) 0 0 ∧ s.pe 12 = .ptr (.slot 12 0) 0 0 ∧ s.pe 16 = .ptr (.slot 66 0) 0 0 ∧ s.pe 83 = VVal.agg [.p (PV.fn 91), .p (PV.fn 92), .p (.bool false), .p (.bool false), .p (PV.fn 93), .p (PV.fn 92), .p (.bool true), .p (.bool false), .p (PV.fn 91), .p (PV.fn 94), .p (.bool false), .p (.bool true), .p (PV.fn 93), .p (PV.fn 94), .p (.bool true), .p (.bool true)] ∧ s.pe 84 = .p (.int .i64 k) ∧ s.h (.slot 6 0) = some (0, Ob.box [.p (nodesP t.nodes), .p (.int .i64 t.next)]) ∧ s.h (.slot 12 0) = some (0, Ob.box [.own (.slot 12 1) 0 0 0, .p (.int .i64 0)]) ∧ s.h (.slot 12 1) = some (0, Ob.arr 4 []) ∧ s.h (.slot 59 0) = some (ww, Ob.arr 4 (List.map Hg.pv (F k).1)) ∧ s.h (.slot 64 0) = some (0, Ob.map (KT.int IntKind.i64) ks vs) ∧ s.h (.slot 66 0) = some (0, Ob.box [.p (nodesP t.nodes), .p (.int .i64 t.next), .own (.slot 59 0) ww 0 (F k).1.length, .p (.int .i64 sw.size), .p (chsP l), .own (.slot 74 1) 0 0 eff.length, .mref (.slot 64 0) 0]) ∧ s.h (.slot 74 1) = some (0, Ob.arr 3 (List.map Pr.pv eff)) := ⟨_, fun _ _ => Iff.rfl⟩
      refine wp_count (4) I ?_ ?_
      ·refine (hI _ _).2 ⟨[], [], 0, ?_, ?_, ?_, ?_, ?_, ?_, ?_, ?_, ?_, ?_, ?_, ?_, ?_, ?_, ?_⟩
       ·exact by rw [hS0]; exact RepH.nil
       all_goals first | exact cl0 | (simp -implicitDefEqProofs (disch:=omega) only [List.map_append,go_sem,↓reduceIte,reduceAdd,reduceSub,reduceEqDiff,reduceLeDiff,reduceCtorEq] <;> first | (simp [hS0]; done) | (simp [hS0]; omega))
      intro k s hk hIk
      obtain ⟨ks, vs, ww, hrep, h4, h5, h6, h12, h16, h83, h84, hh6_0, hh12_0, hh12_1, hh59_0, hh64_0, hh66_0, hh74_1⟩ := (hI _ _).1 hIk
      clear hIk
      simp -implicitDefEqProofs (disch:=omega) only [h4,h5,h6,h12,h16,h83,h84,hh6_0,hh12_0,hh12_1,hh59_0,hh64_0,hh66_0,hh74_1,go_sem,↓reduceIte,reduceAdd,reduceSub,reduceEqDiff,reduceLeDiff,reduceCtorEq]
      refine wp_if_d (fun hlt => ?_) (fun hge => ?_)
      ·have hidx : List.take 4 (List.drop (k * 4) [VVal.p (PV.fn 91), .p (PV.fn 92), .p (.bool false), .p (.bool false), .p (PV.fn 93), .p (PV.fn 92), .p (.bool true), .p (.bool false), .p (PV.fn 91), .p (PV.fn 94), .p (.bool false), .p (.bool true), .p (PV.fn 93), .p (PV.fn 94), .p (.bool true), .p (.bool true)]) = [.p (.fn (fnO (outR k))), .p (.fn (fnP (lowR k))), .p (.bool (outR k)), .p (.bool (lowR k))] := by
        have hk4 : k = 0 ∨ k = 1 ∨ k = 2 ∨ k = 3 := by omega
        rcases hk4 with rfl | rfl | rfl | rfl <;> rfl
       obtain ⟨hP, hRP, hRo, hsum, hown, hpre⟩ := hrd k
       have hp0 := hpt (F k).1 k (.int .i64) ks vs (hsh k).hs
       have hr0 := hro (partsS t sw.size l eff (outR k) (lowR k) (F k).1) (F k).2.2 (by rw [partsS, List.length_map]; omega)
       rw [hRP] at hr0
       simp only at hr0
       have hPl : (eff.map (prtS t (F k).1 sw.size l (ownS (outR k)) (prS (lowR k)) (outR k))).length ≤ 64 := by rw [List.length_map]; omega
       have hPo : ∀ q ∈ takesS t sw.size l eff root (outR k) (lowR k) (F k), inPg q.2 := fun q hq => by
        have a1 := hRo.pos q hq
        have a2 := (partOf_ok hP.ok q.1).o1
        exact ⟨by omega, by omega⟩
       unfold partsS at hr0
       have hFk := hSs k
       have hok := hsh (k + 1)
       rw [hFk] at hok
       unfold rndS at hFk
       generalize eff.map (prtS t (F k).1 sw.size l (ownS (outR k)) (prS (lowR k)) (outR k)) = Q at hp0 hr0 hPl
       generalize takesS t sw.size l eff root (outR k) (lowR k) (F k) = a at hr0 hRo hpre hPo hFk
       have hal := hRo.len
       have hG0 : takeSt (outR k) (lowR k) (F k) (a.take 0) = F k := by
        unfold takeSt
        simp [takeAll, sumI]
       have hGs : ∀ (j : Nat) (q : Int × Int), a[j]? = some q → takeSt (outR k) (lowR k) (F k) (a.take (j + 1)) = _ := fun j q hq => by rw [take_snoc hq, takeSt_snoc]
       rw [show takeSt (outR k) (lowR k) (F k) a = takeSt (outR k) (lowR k) (F k) (a.take a.length) by rw [List.take_length]] at hFk
       generalize hG : (fun j => takeSt (outR k) (lowR k) (F k) (a.take j)) = G
       have hG' : ∀ j, takeSt (outR k) (lowR k) (F k) (a.take j) = G j := fun j => by rw [← hG]
       simp only [hG'] at hpre hG0 hGs hFk
       clear hG hG' hRo hP hRP hsum hown
       obtain ⟨O, hO⟩ : ∃ O, fnO (outR k) = O := ⟨_, rfl⟩
       obtain ⟨U, hU⟩ : ∃ U, fnP (lowR k) = U := ⟨_, rfl⟩
       rw [hO, hU] at hidx hp0
       generalize outR k = o at *
       generalize lowR k = u at *
       simp -implicitDefEqProofs (disch:=omega) only [h4,h5,h6,h12,h16,h83,h84,hh6_0,hh12_0,hh12_1,hh59_0,hh64_0,hh66_0,hh74_1,hlt,hidx,hp0,hr0,go_sem,↓reduceIte,reduceAdd,reduceSub,reduceEqDiff,reduceLeDiff,reduceCtorEq]
       have hS0 := hG0
       obtain ⟨J, hJ⟩ : ∃ I : Nat → St → Prop, ∀ j s, I j s ↔ ∃ (v18_0 : Nat) (v94_1 : Nat) (ks : List MKey) (vs : List PV) (ww : Nat), RepH ks vs (G j).2.1 ∧ s.pe 4 = .p (.int .i64 root) ∧ s.pe 5 = .p (.int .i64 (G j).2.2) ∧ s.pe 6 = .ptr (.slot 6 0) 0 0 ∧ s.pe 12 = .ptr (.slot 12 0) 0 0 ∧ s.pe 16 = .ptr (.slot 66 0) 0 0 ∧ s.pe 18 = .ptr (.slot 18 0) v18_0 0 ∧ s.pe 83 = VVal.agg [.p (PV.fn 91), .p (PV.fn 92), .p (.bool false), .p (.bool false), .p (PV.fn 93), .p (PV.fn 92), .p (.bool true), .p (.bool false), .p (PV.fn 91), .p (PV.fn 94), .p (.bool false), .p (.bool true), .p (PV.fn 93), .p (PV.fn 94), .p (.bool true), .p (.bool true)] ∧ s.pe 84 = .p (.int .i64 ↑k) ∧ s.pe 97 = .own (.slot 94 1) v94_1 0 a.length ∧ s.pe 98 = .p (.int .i64 ↑a.length) ∧ s.pe 99 = .p (.int .i64 j) ∧ s.h (.slot 6 0) = some (0, Ob.box [.p (nodesP t.nodes), .p (.int .i64 t.next)]) ∧ s.h (.slot 12 0) = some (0, Ob.box [.own (.slot 12 1) 0 0 0, .p (.int .i64 0)]) ∧ s.h (.slot 12 1) = some (0, Ob.arr 4 []) ∧ s.h (.slot 18 0) = some (v18_0, Ob.box [.p (PV.fn O), .p (PV.fn U), .p (.bool o), .p (.bool u)]) ∧ s.h (.slot 59 0) = some (ww, Ob.arr 4 (List.map Hg.pv (G j).1)) ∧ s.h (.slot 64 0) = some (0, Ob.map (KT.int IntKind.i64) ks vs) ∧ s.h (.slot 66 0) = some (0, Ob.box [.p (nodesP t.nodes), .p (.int .i64 t.next), .own (.slot 59 0) ww 0 (G j).1.length, .p (.int .i64 sw.size), .p (chsP l), .own (.slot 74 1) 0 0 eff.length, .mref (.slot 64 0) 0]) ∧ s.h (.slot 74 1) = some (0, Ob.arr 3 (List.map Pr.pv eff)) ∧ s.h (.slot 94 1) = some (v94_1, Ob.arr 2 (List.map tkP a)) := ⟨_, fun _ _ => Iff.rfl⟩
       refine wp_count (a.length) J ?_ ?_
       ·refine (hJ _ _).2 ⟨nv (fzOb [18, 91, 94] s.h (.slot 18 0)), nv (fzOb [18, 91, 94] s.h (.slot 94 1)), ks, vs, ww, ?_, ?_, ?_, ?_, ?_, ?_, ?_, ?_, ?_, ?_, ?_, ?_, ?_, ?_, ?_, ?_, ?_, ?_, ?_, ?_, ?_⟩
        ·exact by rw [hG0]; exact hrep
        all_goals first | exact cl0 | (simp -implicitDefEqProofs (disch:=omega) only [h4,h5,h6,h12,h16,h83,h84,hh6_0,hh12_0,hh12_1,hh59_0,hh64_0,hh66_0,hh74_1,List.map_append,go_sem,↓reduceIte,reduceAdd,reduceSub,reduceEqDiff,reduceLeDiff,reduceCtorEq] <;> first | (simp [hS0]; done) | (simp [hS0]; omega))
       intro j s hj hJk
       obtain ⟨v18_0, v94_1, ks, vs, ww, hrp, h4, h5, h6, h12, h16, h18, h83, h84, h97, h98, h99, hh6_0, hh12_0, hh12_1, hh18_0, hh59_0, hh64_0, hh66_0, hh74_1, hh94_1⟩ := (hJ _ _).1 hJk
       clear hJk
       simp -implicitDefEqProofs (disch:=omega) only [h4,h5,h6,h12,h16,h18,h83,h84,h97,h98,h99,hh6_0,hh12_0,hh12_1,hh18_0,hh59_0,hh64_0,hh66_0,hh74_1,hh94_1,go_sem,↓reduceIte,reduceAdd,reduceSub,reduceEqDiff,reduceLeDiff,reduceCtorEq]
       refine wp_if_d (fun hjl => ?_) (fun hjg => ?_)
       ·have hx : a[j]? = some a[j] := List.getElem?_eq_getElem hjl
        have hgs := hGs j _ hx
        have hqo := hPo a[j] (List.getElem_mem _)
        have hpj := hpre j
        have hpj2 := hpre (j + 1)
        generalize a[j] = q at hx hgs hqo
        obtain ⟨g, m⟩ := q
        have hlj := hpj.hs.length
        have hle := hpj.left
        have hmb : inPg m := hqo
        have htk := stake_eq t (G j).1 sw.size l eff (by omega) (fo := O) (fp := U) o u g m hrp hqo (hpj.hs.get g) (by
         have b1 := hpj.file g
         have b2 := hpj.anon g
         have b3 := hpj.low g
         unfold inPg
         omega)
        have hrn := hrp.put g (takeK o u g ((G j).2.1 g) m)
        simp only at hgs
        unfold inPg at hmb
        have hrn' : RepH (mput ks vs (.int g) (takeK o u g ((G j).2.1 g) m).pv).1 (mput ks vs (.int g) (takeK o u g ((G j).2.1 g) m).pv).2 (G (j + 1)).2.1 := by rw [hgs]; exact hrn
        have e1 : (G (j + 1)).1 = putS (G j).1 (takeH o (getS (G j).1 g) m) := by rw [hgs]
        have e2 : (G (j + 1)).2.2 = (G j).2.2 - m := by rw [hgs]
        have hl2 := hpj2.hs.length
        rw [e1] at hl2
        simp -implicitDefEqProofs (disch:=omega) only [h4,h5,h6,h12,h16,h18,h83,h84,h97,h98,h99,hh6_0,hh12_0,hh12_1,hh18_0,hh59_0,hh64_0,hh66_0,hh74_1,hh94_1,hjl,hx,htk,tkP,go_sem,↓reduceIte,reduceAdd,reduceSub,reduceEqDiff,reduceLeDiff,reduceCtorEq]
        try refine And.intro (by omega) ?_
        refine (hJ _ _).2 ⟨v18_0, v94_1, (mput ks vs (.int g) (takeK o u g ((G j).2.1 g) m).pv).1, (mput ks vs (.int g) (takeK o u g ((G j).2.1 g) m).pv).2, ww + 1, ?_, ?_, ?_, ?_, ?_, ?_, ?_, ?_, ?_, ?_, ?_, ?_, ?_, ?_, ?_, ?_, ?_, ?_, ?_, ?_, ?_⟩
        ·exact hrn'
        all_goals first | exact cl0 | (simp -implicitDefEqProofs (disch:=omega) only [h4,h5,h6,h12,h16,h18,h83,h84,h97,h98,h99,hh6_0,hh12_0,hh12_1,hh18_0,hh59_0,hh64_0,hh66_0,hh74_1,hh94_1,e1,e2,Sh.pv,List.map_append,go_sem,↓reduceIte,reduceAdd,reduceSub,reduceEqDiff,reduceLeDiff,reduceCtorEq] <;> first | (simp [hS0]; done) | (simp [hS0]; omega))
       ·have hje : j = a.length := by omega
        rw [hje, ← hFk] at hrp
        have hrp' := hrp
        simp -implicitDefEqProofs (disch:=omega) only [h4,h5,h6,h12,h16,h18,h83,h84,h97,h98,h99,hh6_0,hh12_0,hh12_1,hh18_0,hh59_0,hh64_0,hh66_0,hh74_1,hh94_1,hjg,go_sem,↓reduceIte,reduceAdd,reduceSub,reduceEqDiff,reduceLeDiff,reduceCtorEq]
        try refine And.intro (by omega) ?_
        refine (hI _ _).2 ⟨ks, vs, ww, ?_, ?_, ?_, ?_, ?_, ?_, ?_, ?_, ?_, ?_, ?_, ?_, ?_, ?_, ?_⟩
        ·exact hrp
        all_goals first | exact cl0 | (simp -implicitDefEqProofs (disch:=omega) only [h4,h5,h6,h12,h16,h83,h84,hh6_0,hh12_0,hh12_1,hh59_0,hh64_0,hh66_0,hh74_1,hFk,hje,List.map_append,go_sem,↓reduceIte,reduceAdd,reduceSub,reduceEqDiff,reduceLeDiff,reduceCtorEq] <;> first | (simp [hS0]; done) | (simp [hS0]; omega))
      ·have hk4 : k = 4 := by omega
       subst hk4
       have hok := hsh 4
       simp -implicitDefEqProofs (disch:=omega) only [h4,h5,h6,h12,h16,h83,h84,hh6_0,hh12_0,hh12_1,hh59_0,hh64_0,hh66_0,hh74_1,hge,go_sem,↓reduceIte,reduceAdd,reduceSub,reduceEqDiff,reduceLeDiff,reduceCtorEq]
       obtain ⟨g, hg⟩ : ∃ g, (F 4).2.1 = g := ⟨_, rfl⟩
       rw [hg] at hrep
       rw [hg]
       have hS0 : (F 4).2.1 = g := hg
       obtain ⟨K, hK⟩ : ∃ I : Nat → St → Prop, ∀ k s, I k s ↔ ∃ (acc : List Sh) (wv : Nat), acc = outL g (eff.take k) ∧ acc.length ≤ k ∧ s.pe 12 = .ptr (.slot 12 0) 0 0 ∧ s.pe 16 = .ptr (.slot 66 0) 0 0 ∧ s.pe 23 = .own (.slot 23 0) wv 0 acc.length ∧ s.pe 119 = .own (.slot 74 1) 0 0 eff.length ∧ s.pe 120 = .p (.int .i64 ↑eff.length) ∧ s.pe 121 = .p (.int .i64 k) ∧ s.h (.slot 12 0) = some (0, Ob.box [.own (.slot 12 1) 0 0 0, .p (.int .i64 0)]) ∧ s.h (.slot 12 1) = some (0, Ob.arr 4 []) ∧ s.h (.slot 23 0) = some (wv, Ob.arr 4 (acc.map Sh.pv)) ∧ s.h (.slot 59 0) = some (ww, Ob.arr 4 (List.map Hg.pv (F 4).1)) ∧ s.h (.slot 64 0) = some (0, Ob.map (KT.int IntKind.i64) ks vs) ∧ s.h (.slot 66 0) = some (0, Ob.box [.p (nodesP t.nodes), .p (.int .i64 t.next), .own (.slot 59 0) ww 0 (F 4).1.length, .p (.int .i64 sw.size), .p (chsP l), .own (.slot 74 1) 0 0 eff.length, .mref (.slot 64 0) 0]) ∧ s.h (.slot 74 1) = some (0, Ob.arr 3 (List.map Pr.pv eff)) := ⟨_, fun _ _ => Iff.rfl⟩
       refine wp_count (eff.length) K ?_ ?_
       ·refine (hK _ _).2 ⟨[], nv (fzOb [18, 91, 94] s.h (.slot 23 0)), ?_, ?_, ?_, ?_, ?_, ?_, ?_, ?_, ?_, ?_, ?_, ?_, ?_, ?_, ?_⟩
        ·rfl
        ·exact by simp
        all_goals first | exact cl0 | (simp -implicitDefEqProofs (disch:=omega) only [h4,h5,h6,h12,h16,h83,h84,hh6_0,hh12_0,hh12_1,hh59_0,hh64_0,hh66_0,hh74_1,List.map_append,go_sem,↓reduceIte,reduceAdd,reduceSub,reduceEqDiff,reduceLeDiff,reduceCtorEq] <;> first | (simp [hS0]; done) | (simp [hS0]; omega))
       intro k s hk hKk
       obtain ⟨acc, wv, hacc, hal, h12, h16, h23, h119, h120, h121, hh12_0, hh12_1, hh23_0, hh59_0, hh64_0, hh66_0, hh74_1⟩ := (hK _ _).1 hKk
       clear hKk
       simp -implicitDefEqProofs (disch:=omega) only [h12,h16,h23,h119,h120,h121,hh12_0,hh12_1,hh23_0,hh59_0,hh64_0,hh66_0,hh74_1,go_sem,↓reduceIte,reduceAdd,reduceSub,reduceEqDiff,reduceLeDiff,reduceCtorEq]
       refine wp_if_d (fun hkl => ?_) (fun hkg => ?_)
       ·have hx : eff[k]? = some eff[k] := List.getElem?_eq_getElem hkl
        have htk := take_snoc hx
        generalize eff[k] = e at hx htk
        have hge := hrep.get e.group
        have hol := outL_snoc g (eff.take k) e
        rw [← htk] at hol
        have hgv : (g e.group).pv = .agg [.int .i64 (g e.group).group, .int .i64 (g e.group).file, .int .i64 (g e.group).anon, .int .i64 (g e.group).low] := rfl
        rw [hgv] at hge
        generalize g e.group = x at hge hol
        by_cases hx0 : x.group = 0
        ·rw [if_pos hx0, List.append_nil] at hol
         have hx0' : (!decide (x.group = 0)) = false := by simp [hx0]
         simp -implicitDefEqProofs (disch:=omega) only [h12,h16,h23,h119,h120,h121,hh12_0,hh12_1,hh23_0,hh59_0,hh64_0,hh66_0,hh74_1,hkl,hx,hge,Pr.pv,hx0',hx0,go_sem,↓reduceIte,reduceAdd,reduceSub,reduceEqDiff,reduceLeDiff,reduceCtorEq]
         try refine And.intro (by omega) ?_
         refine (hK _ _).2 ⟨acc, wv, ?_, ?_, ?_, ?_, ?_, ?_, ?_, ?_, ?_, ?_, ?_, ?_, ?_, ?_, ?_⟩
         ·exact by rw [hol]; exact hacc
         ·omega
         all_goals first | exact cl0 | (simp -implicitDefEqProofs (disch:=omega) only [h12,h16,h23,h119,h120,h121,hh12_0,hh12_1,hh23_0,hh59_0,hh64_0,hh66_0,hh74_1,List.map_append,go_sem,↓reduceIte,reduceAdd,reduceSub,reduceEqDiff,reduceLeDiff,reduceCtorEq] <;> first | (simp [hS0]; done) | (simp [hS0]; omega))
        ·rw [if_neg hx0] at hol
         simp -implicitDefEqProofs (disch:=omega) only [h12,h16,h23,h119,h120,h121,hh12_0,hh12_1,hh23_0,hh59_0,hh64_0,hh66_0,hh74_1,hkl,hx,hge,Pr.pv,hx0,go_sem,↓reduceIte,reduceAdd,reduceSub,reduceEqDiff,reduceLeDiff,reduceCtorEq]
         try refine And.intro (by omega) ?_
         refine (hK _ _).2 ⟨acc ++ [x], wv + 1, ?_, ?_, ?_, ?_, ?_, ?_, ?_, ?_, ?_, ?_, ?_, ?_, ?_, ?_, ?_⟩
         ·exact by rw [hol, hacc]
         ·exact by simp; omega
         all_goals first | exact cl0 | (simp -implicitDefEqProofs (disch:=omega) only [h12,h16,h23,h119,h120,h121,hh12_0,hh12_1,hh23_0,hh59_0,hh64_0,hh66_0,hh74_1,List.map_append,go_sem,↓reduceIte,reduceAdd,reduceSub,reduceEqDiff,reduceLeDiff,reduceCtorEq] <;> first | (simp [hS0]; done) | (simp [hS0]; omega))
       ·rw [List.take_of_length_le (by omega)] at hacc
        simp -implicitDefEqProofs (disch:=omega) only [h12,h16,h23,h119,h120,h121,hh12_0,hh12_1,hh23_0,hh59_0,hh64_0,hh66_0,hh74_1,hkg,go_sem,↓reduceIte,reduceAdd,reduceSub,reduceEqDiff,reduceLeDiff,reduceCtorEq]
        rw [hacc]
     ·have h5' : pagesB n = false := by simpa using h5
      rw [h5'] at hpg ⊢
      simp -implicitDefEqProofs (disch:=omega) only [vf78,vb78,hv,hpv,hlv,hck,hpg,go_sem,↓reduceIte,reduceAdd,reduceSub,reduceEqDiff,reduceLeDiff,reduceCtorEq] <;> rfl
    ·have h4' : (findN t.nodes root).isSome = false := by simpa using h4
     rw [h4'] at hck ⊢
     simp -implicitDefEqProofs (disch:=omega) only [vf78,vb78,hv,hpv,hlv,hck,e4,go_sem,↓reduceIte,reduceAdd,reduceSub,reduceEqDiff,reduceLeDiff,reduceCtorEq] <;> rfl
   ·have h3' : validLK t l = false := by simpa using h3
    rw [h3'] at hlv ⊢
    simp -implicitDefEqProofs (disch:=omega) only [vf78,vb78,hv,hpv,hlv,go_sem,↓reduceIte,reduceAdd,reduceSub,reduceEqDiff,reduceLeDiff,reduceCtorEq] <;> rfl
  ·have h2' : validPr t p = false := by simpa using h2
   rw [h2'] at hpv ⊢
   simp -implicitDefEqProofs (disch:=omega) only [vf78,vb78,hv,hpv,go_sem,↓reduceIte,reduceAdd,reduceSub,reduceEqDiff,reduceLeDiff,reduceCtorEq] <;> rfl
 ·have h1' : validS t sw = false := by simpa using h1
  rw [h1'] at hv ⊢
  simp -implicitDefEqProofs (disch:=omega) only [vf78,vb78,hv,go_sem,↓reduceIte,reduceAdd,reduceSub,reduceEqDiff,reduceLeDiff,reduceCtorEq] <;> rfl
theorem rnd_calc {t : Tr} {z : Int} {l : List Ch} {eff : List Pr} {root : Int} {out low : Bool} {s : ShSt} {P : List Pt} {S : List Int} {a : List (Int × Int)} (h1 : msort (subT t root) = S) (h0 : partsS t z l eff out low s.1 = P) (h2 : (treeOk t && (!(subT t root).isEmpty && partsOk P S)) = true) (h3 : pagesB s.2.2 = true) (h4 : takeR t P root (min s.2.2 (capR t P root)) = a) (h5 : a.Pairwise fun x y => x.1 ≤ y.1) : rndS t z l eff root out low s = takeSt out low s a := by
 unfold rndS takesS
 rw [h0, RoundP, validP, h1, if_pos h2, if_pos h3]
 show takeSt out low s (tsort (takeR t P root (min s.2.2 (capR t P root)))) = _
 rw [h4, tsort_of h5]
theorem shr_calc {t : Tr} {z : Int} {l : List Ch} {eff : List Pr} {root : Int} {s0 s1 s2 s3 s4 : ShSt} (h1 : rndS t z l eff root false false s0 = s1) (h2 : rndS t z l eff root true false s1 = s2) (h3 : rndS t z l eff root false true s2 = s3) (h4 : rndS t z l eff root true true s3 = s4) : shrS t z l eff root s0 4 = s4 := by
 rw [← h4, ← h3, ← h2, ← h1]
 rfl
theorem total_at {t : Tr} (h : TreeOk t) {l : List Ch} (hl : ChOk t.nodes l) {i : Nat} {n : Nd} (hn : t.nodes[i]? = some n) : V 76 [t.vv, ctrV l, .p (.int .i64 n.id)] [] = some (.tup [.p (.int .i64 (tot t (ownC l) n.id)), .p (.int .i64 0)], []) := by
 have h0 : checkK t l n.id = 0 := checkK_zero.2 ⟨h, hl, i, n, hn, rfl⟩
 have hlen := h.len
 have hll := hl.length
 have := total_eq t l n.id h.fits (by omega) (by omega)
 rw [totK, if_pos h0, h0] at this
 exact this
theorem tot_root {t : Tr} (h : TreeOk t) {c : List Ch} (hc : ChOk t.nodes c) : tot t (ownC c) 1 = sumI (c.map (·.own)) := by
 obtain ⟨r, hr, hr1⟩ := root_at h
 rw [← hr1]
 refine sum_own_eq hc.inc _ (subF_nodup h hr) fun d hd => ?_
 obtain ⟨m, hm, he⟩ := findN_some (hc.known d hd)
 obtain ⟨j, hj⟩ := List.getElem?_of_mem hm
 rw [← he]
 exact (mem_sub h hr _).2 ⟨j, m, hj, rfl, by rw [hr1]; exact root_anc h j m hj⟩
theorem known_len {t : Tr} {gs : List Int} (hi : gs.Pairwise fun a b => a < b) (hk : ∀ g ∈ gs, (findN t.nodes g).isSome = true) : gs.length ≤ t.nodes.length := by
 have hnd : gs.Nodup := hi.imp fun hab => by omega
 have := nodup_length_le gs (t.nodes.map (·.id)) hnd (fun x hx => by
  obtain ⟨n, hn, he⟩ := findN_some (hk x hx)
  exact List.mem_map.2 ⟨n, hn, he⟩)
 simpa using this
theorem PrOk.length {t : Tr} {l : List Pr} (h : PrOk t.nodes l) : l.length ≤ t.nodes.length := by
 have := known_len (t := t) (gs := l.map (·.group)) (by rw [List.pairwise_map]; exact h.inc) fun g hg => by
  obtain ⟨x, hx, rfl⟩ := List.mem_map.1 hg
  exact h.known x hx
 simpa using this
theorem AscOk.length {t : Tr} {lo hi : Int} {l : List Ch} (h : AscOk (knownN t.nodes) lo hi l) : l.length ≤ t.nodes.length := by
 have := known_len (t := t) (gs := l.map (·.group)) (by rw [List.pairwise_map]; exact h.inc) fun g hg => by
  obtain ⟨x, hx, rfl⟩ := List.mem_map.1 hg
  exact h.known x hx
 simpa using this
structure TrialOk (t : Tr) (sw : Stk) (p : List Pr) (l : List Ch) (root : Int) : Prop where
 stk : StkOk t sw
 pr : PrOk t.nodes p
 lim : AscOk (knownN t.nodes) 0 4611686018427387904 l
 root : InN t.nodes root
theorem swT_in {t : Tr} (h : TreeOk t) {hs : List Hg} {g : Int} (hg : InN t.nodes g) : swT t hs g = sumI ((subA t g).map (swpF hs)) := by
 obtain ⟨i, n, hn, rfl⟩ := hg
 rw [swT, subT_some h hn]
theorem sumOn_set (a : List (Int × Int)) : ∀ (S : List Int), S.Nodup → sumI (S.map fun x => sumOn [x] a) = sumOn S a
 | [], _ => (sumOn_zero fun q _ hq => by simp at hq).symm
 | x :: S, h => by
  rw [List.nodup_cons] at h
  rw [sumOn_cons h.1, List.map_cons, sumI, sumOn_set a S h.2]
theorem sumI_add (f g : Int → Int) : ∀ (ks : List Int), sumI (ks.map fun c => f c + g c) = sumI (ks.map f) + sumI (ks.map g)
 | [] => rfl
 | c :: ks => by
  have := sumI_add f g ks
  simp only [List.map_cons, sumI, this]
  omega
structure StepS (t : Tr) (l : List Pt) (root : Int) (out low : Bool) (s s' : ShSt) (a : List (Int × Int)) : Prop where
 parts : PartsOk t l root
 rnd : RoundOk t l root (min s.2.2 (capR t l root)) a
 sum : sumI (a.map Prod.snd) = min s.2.2 (capR t l root)
 get : ∀ x, getS s'.1 x = takeH out (getS s.1 x) (sumOn [x] a)
 file : ∀ x, (s'.2.1 x).file = (s.2.1 x).file + if out then 0 else sumOn [x] a
 anon : ∀ x, (s'.2.1 x).anon = (s.2.1 x).anon + if out then sumOn [x] a else 0
 low : ∀ x, (s'.2.1 x).low = (s.2.1 x).low + if low then sumOn [x] a else 0
 left : s'.2.2 = s.2.2 - sumI (a.map Prod.snd)
 non : ∀ x, 0 ≤ sumOn [x] a
 own : ∀ x, sumOn [x] a ≤ ownS out (getS s.1 x)
 off : ∀ x, x ∉ subA t root → sumOn [x] a = 0
theorem shr_step {t : Tr} (h : TreeOk t) {root : Int} (hr : InN t.nodes root) {z n0 : Int} (hz : inPg z) (hn : n0 ≤ 16777216) (l : List Ch) {eff : List Pr} (he : EffOk t root eff) {s0 : ShSt} (hs : ShOk t z n0 s0) (k : Nat) : StepS t (partsS t z l eff (outR k) (lowR k) (shrS t z l eff root s0 k).1) root (outR k) (lowR k) (shrS t z l eff root s0 k) (shrS t z l eff root s0 (k + 1)) (takesS t z l eff root (outR k) (lowR k) (shrS t z l eff root s0 k)) := by
 have hk := shr_ok h hr hz hn l he hs k
 obtain ⟨h1, h2, h3, h4, h5, h6⟩ := round_S h hr hz hn l he (outR k) (lowR k) hk
 have e : shrS t z l eff root s0 (k + 1) = takeSt (outR k) (lowR k) (shrS t z l eff root s0 k) (takesS t z l eff root (outR k) (lowR k) (shrS t z l eff root s0 k)) := rfl
 rw [e]
 generalize takesS t z l eff root (outR k) (lowR k) (shrS t z l eff root s0 k) = a at h2 h3 h4 h5 ⊢
 generalize shrS t z l eff root s0 k = s at *
 generalize outR k = out at *
 generalize lowR k = low at *
 have hq0 : ∀ q ∈ a, 0 ≤ q.2 := fun q hqm => by have := (h3.pos q hqm).1; omega
 have key : ∀ x, (takeSt out low s a).2.1 x = if x ∈ a.map Prod.fst then takeK out low x (s.2.1 x) (sumOn [x] a) else s.2.1 x := fun x => takeAll_note out low x a (s.1, s.2.1)
 have hz0 : ∀ x, x ∉ a.map Prod.fst → sumOn [x] a = 0 := fun x hx => sumOn_zero fun r hr hrq => hx (by
  have : r.1 = x := by simpa using hrq
  rw [← this]
  exact List.mem_map.2 ⟨r, hr, rfl⟩)
 refine ⟨h1, h3, h4, fun x => takeAll_get out low x a (s.1, s.2.1), fun x => ?_, fun x => ?_, fun x => ?_, rfl, fun x => sumOn_nonneg hq0, h5, fun x hx => hz0 x fun hm => ?_⟩
 ·rw [key x]
  by_cases hx : x ∈ a.map Prod.fst
  ·rw [if_pos hx]
   unfold takeK
   cases out <;> simp
  ·rw [if_neg hx, hz0 x hx]
   cases out <;> simp
 ·rw [key x]
  by_cases hx : x ∈ a.map Prod.fst
  ·rw [if_pos hx]
   unfold takeK
   cases out <;> simp
  ·rw [if_neg hx, hz0 x hx]
   cases out <;> simp
 ·rw [key x]
  by_cases hx : x ∈ a.map Prod.fst
  ·rw [if_pos hx]
   unfold takeK
   cases low <;> simp
  ·rw [if_neg hx, hz0 x hx]
   cases low <;> simp
 ·obtain ⟨q, hq, rfl⟩ := List.mem_map.1 hm
  exact hx (h3.groups q hq)
structure Noted (t : Tr) (root : Int) (hs : List Hg) (n : Int) (s : ShSt) : Prop where
 get : ∀ x, getS s.1 x = ⟨x, (getS hs x).file - (s.2.1 x).file, (getS hs x).anon - (s.2.1 x).anon, (getS hs x).swap + (s.2.1 x).anon⟩
 off : ∀ x, x ∉ subA t root → (s.2.1 x).file = 0 ∧ (s.2.1 x).anon = 0 ∧ (s.2.1 x).low = 0
 sum : ∀ S : List Int, S.Nodup → (∀ x ∈ subA t root, x ∈ S) → sumI (S.map fun x => (s.2.1 x).file + (s.2.1 x).anon) = n - s.2.2
 low : ∀ x, (s.2.1 x).low ≤ (s.2.1 x).file + (s.2.1 x).anon
theorem Noted.step {t : Tr} {root : Int} {hs : List Hg} {n : Int} {s s' : ShSt} (hn : Noted t root hs n s) {l : List Pt} {out low : Bool} {a : List (Int × Int)} (h : StepS t l root out low s s' a) : Noted t root hs n s' := by
 have hT := h.parts.tree
 refine ⟨fun x => ?_, fun x hx => ?_, fun S hS hSr => ?_, fun x => ?_⟩
 ·rw [h.get, hn.get, h.file, h.anon]
  unfold takeH
  cases out <;> simp <;> omega
 ·have h1 := hn.off x hx
  rw [h.file, h.anon, h.low, h.off x hx, h1.1, h1.2.1, h1.2.2]
  simp
 ·have h1 := hn.sum S hS hSr
  have h2 : (fun x => (s'.2.1 x).file + (s'.2.1 x).anon) = fun x => ((s.2.1 x).file + (s.2.1 x).anon) + sumOn [x] a := by
   funext x
   rw [h.file, h.anon]
   cases out <;> simp <;> omega
  rw [h2, sumI_add, h1, sumOn_set a _ hS, sumOn_all fun q hq => hSr _ (h.rnd.groups q hq), h.left]
  omega
 ·have h1 := hn.low x
  have h2 := h.non x
  rw [h.file, h.anon, h.low]
  cases out <;> cases low <;> simp <;> omega
theorem noted0 (t : Tr) (root : Int) (hs : List Hg) (n : Int) : Noted t root hs n (hs, (fun _ => zeroSh), n) := by
 refine ⟨fun x => ?_, fun x hx => ⟨rfl, rfl, rfl⟩, fun S _ _ => ?_, fun x => by simp⟩
 ·show getS hs x = ⟨x, (getS hs x).file - 0, (getS hs x).anon - 0, (getS hs x).swap + 0⟩
  rw [Int.sub_zero, Int.sub_zero, Int.add_zero]
  have hg := getS_group hs x
  revert hg
  generalize getS hs x = y
  intro hg
  subst hg
  rfl
 ·show sumI (S.map fun _ => (0 : Int) + 0) = n - n
  rw [Int.add_zero, sumI_zeros]
  omega
theorem shr_noted {t : Tr} (h : TreeOk t) {root : Int} (hr : InN t.nodes root) {z n : Int} (hz : inPg z) (hn0 : 0 ≤ n) (hn : n ≤ 16777216) (l : List Ch) {eff : List Pr} (he : EffOk t root eff) {hs : List Hg} (hh : HgOk t.nodes z hs) : ∀ k, Noted t root hs n (shrS t z l eff root (hs, (fun _ => zeroSh), n) k)
 | 0 => noted0 t root hs n
 | k + 1 => (shr_noted h hr hz hn0 hn l he hh k).step (shr_step h hr hz hn l he (shr0_ok hh hn0) k)
theorem outL_mem {f : Int → Sh} {eff : List Pr} (hg : ∀ x, f x = zeroSh ∨ (f x).group = x) {x : Sh} (hx : x ∈ outL f eff) : x.group ∈ eff.map (·.group) ∧ x = f x.group ∧ x.group ≠ 0 := by
 obtain ⟨h1, h2⟩ := List.mem_filter.1 hx
 obtain ⟨e, he, rfl⟩ := List.mem_map.1 h1
 simp only [decide_eq_true_eq] at h2
 rcases hg e.group with h3 | h3
 ·rw [h3] at h2
  exact absurd rfl h2
 ·rw [h3] at h2 ⊢
  exact ⟨List.mem_map.2 ⟨e, he, rfl⟩, rfl, h2⟩
theorem sumI_congr' {f g : Int → Int} {l : List Int} (h : ∀ x ∈ l, f x = g x) : sumI (l.map f) = sumI (l.map g) := congrArg sumI (List.map_congr_left h)
theorem swT_step {t : Tr} {l : List Pt} {root : Int} {out low : Bool} {s s' : ShSt} {a : List (Int × Int)} (h : StepS t l root out low s s' a) {g : Int} (hg : InN t.nodes g) : swT t s'.1 g = swT t s.1 g + if out then takenP t a g else 0 := by
 have hT := h.parts.tree
 rw [swT_in hT hg, swT_in hT hg, h.rnd.on g hg, ← sumOn_set a _ (subA_nodup hT hg)]
 cases out with
 | false =>
  simp only [Bool.false_eq_true, if_false, Int.add_zero]
  refine sumI_congr' fun x _ => ?_
  unfold swpF
  rw [h.get]
  rfl
 | true =>
  simp only [if_true]
  rw [← sumI_add]
  refine sumI_congr' fun x _ => ?_
  unfold swpF
  rw [h.get]
  rfl
theorem usedF_step {t : Tr} {l : List Pt} {root : Int} {out low : Bool} {s s' : ShSt} {a : List (Int × Int)} (h : StepS t l root out low s s' a) {z z' : Int} (h0 : HgOk t.nodes z s.1) (h1 : HgOk t.nodes z' s'.1) {g : Int} (hg : InN t.nodes g) : usedF t (cntS s'.1) g = usedF t (cntS s.1) g - takenP t a g := by
 have hT := h.parts.tree
 have hf : (findN t.nodes g).isSome = true := by
  obtain ⟨i, n, hn, rfl⟩ := hg
  rw [findN_unique hT.inc hn]
  rfl
 unfold usedF
 rw [if_pos hf, if_pos hf, h.rnd.on g hg, ← sumOn_set a _ (subA_nodup hT hg)]
 unfold tot
 rw [← sumI_sub]
 refine sumI_congr' fun x _ => ?_
 rw [cntS_own h0.inc, cntS_own h1.inc]
 unfold memF
 rw [h.get]
 unfold takeH
 cases out <;> simp <;> omega
theorem leftS_min (W : Int → Int) (l : List Ch) {c : Int} : ∀ (gs : List Int) (a : Int), c ∈ gs → leftS W l gs a ≤ mostK l c - W c
 | [], _, h => by simp at h
 | g :: gs, a, h => by
  rcases List.mem_cons.1 h with rfl | h
  ·have := leftS_le W l gs (min a (mostK l c - W c))
   unfold leftS
   omega
  ·exact leftS_min W l gs _ h
theorem ancR_in {t : Tr} (h : TreeOk t) {g : Int} (hg : InN t.nodes g) : ancR t g = ancF t.nodes t.nodes.length g := by
 obtain ⟨i, n, hn, rfl⟩ := hg
 exact ancR_anc h hn
theorem roomS_le {t : Tr} (hT : TreeOk t) {hs : List Hg} {z : Int} {l : List Ch} {g c : Int} (hg : InN t.nodes g) (h : c ∈ ancR t g) : roomS t hs z l g ≤ max 0 (mostK l c - swT t hs c) := by
 rw [ancR_in hT hg] at h
 have := leftS_min (swT t hs) l (c := c) (ancF t.nodes t.nodes.length g) (z - swT t hs 1) h
 unfold roomS
 omega
theorem anc_two {t : Tr} (h : TreeOk t) : ∀ (i : Nat) (n : Nd), t.nodes[i]? = some n → ∀ a b, a ∈ ancF t.nodes t.nodes.length n.id → b ∈ ancF t.nodes t.nodes.length n.id → a ∈ ancF t.nodes t.nodes.length b ∨ b ∈ ancF t.nodes t.nodes.length a := by
 intro i
 induction i using Nat.strongRecOn with
 | _ i ih =>
  intro n hn a b ha hb
  rcases (anc_iff h hn a).1 ha with h1 | ⟨hi, h1⟩
  ·rw [h1]
   exact .inr hb
  ·rcases (anc_iff h hn b).1 hb with h2 | ⟨_, h2⟩
   ·rw [h2]
    exact .inl ha
   ·rcases h.nodeAt hn with ⟨h3, _⟩ | ⟨_, _, j, p, hj, hp, he⟩
    ·exact absurd h3 hi
    ·rw [← he] at h1 h2
     exact ih j (by omega) p hp a b h1 h2
theorem room_taken {t : Tr} (h : TreeOk t) {root : Int} (hr : InN t.nodes root) {z : Int} {lm : List Ch} {eff : List Pr} (he : EffOk t root eff) {low : Bool} {s s' : ShSt} {a : List (Int × Int)} (hS : StepS t (partsS t z lm eff true low s.1) root true low s s' a) {g : Int} (hg : InN t.nodes g) : 0 ≤ takenP t a g ∧ (takenP t a g = 0 ∨ takenP t a g ≤ max 0 (mostK lm g - swT t s.1 g)) := by
 have h0 : 0 ≤ takenP t a g := taken_nonneg hS.rnd g
 refine ⟨h0, ?_⟩
 have room : ∀ c, c ∈ subA t root → capR t (partsS t z lm eff true low s.1) c ≤ roomS t s.1 z lm c := fun c hc => by
  obtain ⟨e, hem, hge, hp⟩ := partOf_prt (t := t) (hs := s.1) (z := z) (l := lm) (own := ownS true) (pr := prS low) (out := true) ((effOk_mem h hr he c).2 hc)
  have h1 := (cap_le h (l := partsS t z lm eff true low s.1) (subA_in h hr hc)).1
  rw [hp] at h1
  simp only [prtS, if_true, hge] at h1
  exact h1
 by_cases h1 : g ∈ subA t root
 ·right
  have h2 := hS.rnd.sub g h1
  have h3 := room g h1
  have h4 := roomS_le (hs := s.1) (z := z) (l := lm) h hg (c := g) ((mem_anc h hg hg).2 (subA_self h hg))
  omega
 ·by_cases h2 : root ∈ subA t g
  ·right
   have h3 := hS.sum
   have h4 : takenP t a g ≤ sumI (a.map Prod.snd) := by
    rw [hS.rnd.on g hg]
    exact sumOn_le fun q hq => by have := (hS.rnd.pos q hq).1; omega
   have h5 := room root (subA_self h hr)
   have h6 := roomS_le (hs := s.1) (z := z) (l := lm) h hr (c := g) ((mem_anc h hg hr).2 h2)
   omega
  ·left
   rw [hS.rnd.on g hg]
   refine sumOn_zero fun q hq hqg => ?_
   have h3 := hS.rnd.groups q hq
   obtain ⟨i, n, hn, hne⟩ := subA_in h hr h3
   have a1 := (mem_anc h hr ⟨i, n, hn, hne⟩).2 h3
   have a2 := (mem_anc h hg ⟨i, n, hn, hne⟩).2 hqg
   rw [← hne, ancR_anc h hn] at a1 a2
   rcases anc_two h i n hn g root a2 a1 with h5 | h5
   ·exact h2 ((mem_anc h hg hr).1 (by rw [ancR_in h hr]; exact h5))
   ·exact h1 ((mem_anc h hr hg).1 (by rw [ancR_in h hg]; exact h5))
section
variable {t : Tr} {root z n : Int} {lm : List Ch} {eff : List Pr} {hs : List Hg}
abbrev runS (t : Tr) (z : Int) (lm : List Ch) (eff : List Pr) (root : Int) (hs : List Hg) (n : Int) (k : Nat) : ShSt := shrS t z lm eff root (hs, (fun _ => zeroSh), n) k
theorem swT_shr (h : TreeOk t) (hr : InN t.nodes root) (hz : inPg z) (hn0 : 0 ≤ n) (hn : n ≤ 16777216) (lm : List Ch) (he : EffOk t root eff) (hh : HgOk t.nodes z hs) {g : Int} (hg : InN t.nodes g) : ∀ k, swT t hs g ≤ swT t (runS t z lm eff root hs n k).1 g ∧ swT t (runS t z lm eff root hs n k).1 g ≤ max (swT t hs g) (mostK lm g)
 | 0 => by
  show swT t hs g ≤ swT t hs g ∧ swT t hs g ≤ max (swT t hs g) (mostK lm g)
  omega
 | k + 1 => by
  have ih := swT_shr h hr hz hn0 hn lm he hh hg k
  have hS := shr_step h hr hz hn lm he (shr0_ok hh hn0) k
  have h1 := swT_step hS hg
  by_cases ho : outR k = true
  ·rw [ho] at hS h1
   have h2 := room_taken h hr he hS hg
   rw [if_pos rfl] at h1
   show swT t hs g ≤ swT t (shrS t z lm eff root _ (k + 1)).1 g ∧ swT t (shrS t z lm eff root _ (k + 1)).1 g ≤ _
   rw [h1]
   unfold runS at ih
   omega
  ·rw [Bool.not_eq_true] at ho
   rw [ho] at h1
   rw [if_neg (by simp)] at h1
   show swT t hs g ≤ swT t (shrS t z lm eff root _ (k + 1)).1 g ∧ swT t (shrS t z lm eff root _ (k + 1)).1 g ≤ _
   rw [h1, Int.add_zero]
   exact ih
theorem keeps (h : TreeOk t) (hr : InN t.nodes root) (he : EffOk t root eff) {out low : Bool} {s s' : ShSt} {a : List (Int × Int)} (hS : StepS t (partsS t z lm eff out low s.1) root out low s s' a) (h0 : HgOk t.nodes z s.1) (h1 : HgOk t.nodes z s'.1) {e : Pr} (hem : e ∈ eff) : usedF t (cntS s'.1) e.group ≤ usedF t (cntS s.1) e.group ∧ min (usedF t (cntS s.1) e.group) (prS low e) ≤ usedF t (cntS s'.1) e.group := by
 have hs : e.group ∈ subA t root := (effOk_mem h hr he e.group).1 (List.mem_map.2 ⟨e, hem, rfl⟩)
 have hg := subA_in h hr hs
 have h2 := hS.rnd.sub _ hs
 have h3 := (cap_le h (l := partsS t z lm eff out low s.1) hg).2
 obtain ⟨e', hem', hge, hp⟩ := partOf_prt (t := t) (hs := s.1) (z := z) (l := lm) (own := ownS out) (pr := prS low) (out := out) ((effOk_mem h hr he e.group).2 hs)
 have hee : e' = e := by
  have hnd : (eff.map (·.group)).Nodup := by
   rw [he.groups]
   obtain ⟨i, n, hn, hne⟩ := hr
   rw [(msort_perm _).nodup_iff, ← hne, subT_some h hn]
   exact subF_nodup h hn
  exact eff_inj hnd hem' hem hge
 subst hee
 rw [hp] at h3
 have h4 := usedF_step hS h0 h1 hg
 have h5 := taken_nonneg hS.rnd e'.group
 simp only [prtS] at h3
 omega
where
 eff_inj : ∀ {l : List Pr} {x y : Pr}, (l.map (·.group)).Nodup → x ∈ l → y ∈ l → x.group = y.group → x = y
  | [], _, _, _, hx, _, _ => by simp at hx
  | w :: l, x, y, hnd, hx, hy, hxy => by
   rw [List.map_cons, List.nodup_cons] at hnd
   rcases List.mem_cons.1 hx with hx | hx
   ·rcases List.mem_cons.1 hy with hy | hy
    ·rw [hx, hy]
    ·exact absurd (List.mem_map.2 ⟨y, hy, by rw [← hxy, hx]⟩) hnd.1
   ·rcases List.mem_cons.1 hy with hy | hy
    ·exact absurd (List.mem_map.2 ⟨x, hx, by rw [hxy, hy]⟩) hnd.1
    ·exact eff_inj hnd.2 hx hy hxy
end
structure LePt (x y : Pt) : Prop where
 usage : x.usage ≤ y.usage
 prot : y.protect ≤ x.protect
 own : x.own ≤ y.own
 room : x.room ≤ y.room
theorem capF_le {x y : Pt} (h : LePt x y) {a b : Int} (hab : a ≤ b) : capF x a ≤ capF y b := by
 have h1 := h.usage
 have h2 := h.prot
 have h3 := h.own
 have h4 := h.room
 unfold capF
 omega
theorem capR_le {t : Tr} {p q : List Pt} (h : TreeOk t) {root : Int} (hr : InN t.nodes root) (hle : ∀ g ∈ subA t root, LePt (partOf p g) (partOf q g)) : ∀ (k i : Nat) (n : Nd), t.nodes[i]? = some n → t.nodes.length ≤ i + k → n.id ∈ subA t root → capR t p n.id ≤ capR t q n.id := by
 intro k
 induction k with
 | zero => intro i n hn hk; have := (List.getElem?_eq_some_iff.1 hn).1; omega
 | succ k ih =>
  intro i n hn hk hs
  have hin : InN t.nodes n.id := ⟨i, n, hn, rfl⟩
  rw [capR_step h _ hin, capR_step h _ hin]
  refine capF_le (hle _ hs) (sumI_le fun c hc => ?_)
  have hcs := subA_sub h hr hs (kid_sub h hin hc)
  obtain ⟨j, m, hj, hp, rfl⟩ := mem_kidsN.1 hc
  have hij := h.kid hn hj hp
  exact ih j m hj (by omega) hcs
where
 sumI_le : ∀ {ks : List Int} {f g : Int → Int}, (∀ c ∈ ks, f c ≤ g c) → sumI (ks.map f) ≤ sumI (ks.map g)
  | [], _, _, _ => Int.le_refl _
  | c :: ks, f, g, h => by
   have h1 := h c (by simp)
   have h2 := sumI_le (ks := ks) (f := f) (g := g) fun d hd => h d (by simp [hd])
   simp only [List.map_cons, sumI]
   omega
theorem leftS_down (W W' : Int → Int) (l : List Ch) (T : Int) : ∀ (gs : List Int) (a a' : Int), (∀ g ∈ gs, W g + T ≤ W' g) → a' ≤ a - T → leftS W' l gs a' ≤ leftS W l gs a - T
 | [], a, a', _, h => h
 | g :: gs, a, a', hW, h => by
  have := hW g (by simp)
  exact leftS_down W W' l T gs _ _ (fun x hx => hW x (by simp [hx])) (by omega)
theorem roomS_down {t : Tr} (h : TreeOk t) {hs hs' : List Hg} {z : Int} {l : List Ch} {g T : Int} (hg : InN t.nodes g) (hT : 0 ≤ T) (hW : ∀ c ∈ ancR t g, swT t hs c + T ≤ swT t hs' c) : roomS t hs' z l g ≤ max 0 (roomS t hs z l g - T) := by
 have h1 : (1 : Int) ∈ ancR t g := by
  obtain ⟨i, n, hn, rfl⟩ := hg
  rw [ancR_anc h hn]
  exact root_anc h i n hn
 have h2 := leftS_down (swT t hs) (swT t hs') l T (ancF t.nodes t.nodes.length g) (z - swT t hs 1) (z - swT t hs' 1) (fun c hc => hW c (by rw [ancR_in h hg]; exact hc)) (by have := hW 1 h1; omega)
 unfold roomS
 omega
section
variable {t : Tr} {root z n : Int} {lm : List Ch} {eff : List Pr} {hs : List Hg}
theorem prt_at (h : TreeOk t) (hr : InN t.nodes root) (he : EffOk t root eff) {g : Int} (hg : g ∈ subA t root) (out low : Bool) (hs : List Hg) : (partOf (partsS t z lm eff out low hs) g).usage = usedF t (cntS hs) g ∧ (partOf (partsS t z lm eff out low hs) g).own = ownS out (getS hs g) ∧ (partOf (partsS t z lm eff out low hs) g).room = (if out then roomS t hs z lm g else 4611686018427387904) ∧ (partOf (partsS t z lm eff out low hs) g).group = g := by
 obtain ⟨e, hem, hge, hp⟩ := partOf_prt (t := t) (hs := hs) (z := z) (l := lm) (own := ownS out) (pr := prS low) (out := out) ((effOk_mem h hr he g).2 hg)
 rw [hp, ← hge]
 exact ⟨rfl, rfl, rfl, rfl⟩
theorem prt_prot (h : TreeOk t) (hr : InN t.nodes root) (he : EffOk t root eff) {g : Int} (hg : g ∈ subA t root) (out out' low : Bool) (hs hs' : List Hg) : (partOf (partsS t z lm eff out low hs) g).protect = (partOf (partsS t z lm eff out' low hs') g).protect := by
 have key : ∀ {eff : List Pr}, g ∈ eff.map (·.group) → (partOf (partsS t z lm eff out low hs) g).protect = (partOf (partsS t z lm eff out' low hs') g).protect := by
  intro eff
  induction eff with
  | nil => intro hx; simp at hx
  | cons e eff ih =>
   intro hx
   unfold partOf at ih ⊢
   simp only [partsS, List.map_cons, List.find?_cons] at ih ⊢
   by_cases hge : e.group = g
   ·have e1 : decide ((prtS t hs z lm (ownS out) (prS low) out e).group = g) = true := decide_eq_true hge
    have e2 : decide ((prtS t hs' z lm (ownS out') (prS low) out' e).group = g) = true := decide_eq_true hge
    rw [e1, e2]
    rfl
   ·have e1 : decide ((prtS t hs z lm (ownS out) (prS low) out e).group = g) = false := decide_eq_false hge
    have e2 : decide ((prtS t hs' z lm (ownS out') (prS low) out' e).group = g) = false := decide_eq_false hge
    rw [e1, e2]
    exact ih (by simpa [Ne.symm hge, eq_comm, hge] using hx)
 exact key ((effOk_mem h hr he g).2 hg)
theorem parts_down (h : TreeOk t) (hr : InN t.nodes root) (he : EffOk t root eff) {l : List Pt} {out low : Bool} {s s' : ShSt} {a : List (Int × Int)} (hS : StepS t l root out low s s' a) (h0 : HgOk t.nodes z s.1) (h1 : HgOk t.nodes z s'.1) (o2 l2 : Bool) {g : Int} (hg : g ∈ subA t root) : LePt (partOf (partsS t z lm eff o2 l2 s'.1) g) (partOf (partsS t z lm eff o2 l2 s.1) g) := by
 have hin := subA_in h hr hg
 obtain ⟨a1, a2, a3, _⟩ := prt_at (z := z) (lm := lm) h hr he hg o2 l2 s.1
 obtain ⟨b1, b2, b3, _⟩ := prt_at (z := z) (lm := lm) h hr he hg o2 l2 s'.1
 have hu := usedF_step hS h0 h1 hin
 have ht := taken_nonneg hS.rnd g
 have hnn := hS.non g
 refine ⟨?_, ?_, ?_, ?_⟩
 ·rw [a1, b1]
  omega
 ·rw [prt_prot h hr he hg o2 o2 l2 s.1 s'.1]
  exact Int.le_refl _
 ·rw [a2, b2, hS.get]
  unfold ownS takeH
  cases out <;> cases o2 <;> simp <;> omega
 ·rw [a3, b3]
  cases o2 with
  | false => exact Int.le_refl _
  | true =>
   simp only [if_true]
   have h2 := roomS_down (z := z) (l := lm) h hin (Int.le_refl 0) (hs := s.1) (hs' := s'.1) fun c hc => by
    have hci : InN t.nodes c := by
     obtain ⟨i, n, hn, rfl⟩ := hin
     exact anc_in h i n hn hc
    rw [swT_step hS hci]
    have := taken_nonneg hS.rnd c
    split <;> omega
   have h3 := (roomS_bound h h0 lm g).1
   omega
where
 anc_in {t : Tr} (h : TreeOk t) : ∀ (i : Nat) (n : Nd), t.nodes[i]? = some n → ∀ {c : Int}, c ∈ ancR t n.id → InN t.nodes c := by
  intro i
  induction i using Nat.strongRecOn with
  | _ i ih =>
   intro n hn c hc
   rw [ancR_anc h hn] at hc
   rcases (anc_iff h hn c).1 hc with h1 | ⟨hi, h1⟩
   ·exact ⟨i, n, hn, h1.symm⟩
   ·rcases h.nodeAt hn with ⟨h3, _⟩ | ⟨_, _, j, p, hj, hp, he⟩
    ·exact absurd h3 hi
    ·rw [← he, ← ancR_anc h hp] at h1
     exact ih j (by omega) p hp h1
end
abbrev effP (t : Tr) (sw : Stk) (p : List Pr) (root : Int) : List Pr := effL t (cntS sw.hs) p root
abbrev endS (t : Tr) (sw : Stk) (p : List Pr) (l : List Ch) (root n : Int) (k : Nat) : ShSt := runS t sw.size l (effP t sw p root) root sw.hs n k
theorem TrialOk.eff {t : Tr} {sw : Stk} {p : List Pr} {l : List Ch} {root : Int} (h : TrialOk t sw p l root) : EffOk t root (effP t sw p root) := effL_ok h.stk.tree (cntS_ok h.stk.hs) h.pr root
theorem shrinkS_eq {t : Tr} {sw : Stk} {p : List Pr} {l : List Ch} {root n : Int} (h : TrialOk t sw p l root) (hn0 : 0 ≤ n) (hn : n ≤ 16777216) : ShrinkS t sw p l root n = (⟨(endS t sw p l root n 4).1, sw.size⟩, outL (endS t sw p l root n 4).2.1 (effP t sw p root), 0) := by
 have h1 : validS t sw = true := (validS_iff t sw).2 h.stk
 have h2 : validPr t p = true := (validPr_iff t p).2 ⟨h.stk.tree, h.pr⟩
 have h3 : validLK t l = true := (validLK_iff t l).2 ⟨h.stk.tree, h.lim⟩
 have h4 : (findN t.nodes root).isSome = true := by
  obtain ⟨i, m, hm, rfl⟩ := h.root
  rw [findN_unique h.stk.tree.inc hm]
  rfl
 unfold ShrinkS
 rw [if_pos (by rw [h1, h2, h3]; rfl), if_pos h4, if_pos (by simp [pagesB, hn0, hn])]
theorem eff_len {t : Tr} (h : TreeOk t) {root : Int} (hr : InN t.nodes root) {eff : List Pr} (he : EffOk t root eff) : eff.length ≤ t.nodes.length := by
 have h1 := nodup_length_le (eff.map (·.group)) (t.nodes.map (·.id)) (by
  rw [he.groups]
  obtain ⟨i, n, hn, hne⟩ := hr
  rw [(msort_perm _).nodup_iff, ← hne, subT_some h hn]
  exact subF_nodup h hn) fun x hx => by
   obtain ⟨i, m, hm, hme⟩ := subA_in h hr ((effOk_mem h hr he x).1 hx)
   exact List.mem_map.2 ⟨m, List.mem_of_getElem? hm, hme⟩
 simpa using h1
theorem limits_ok {t : Tr} {sw : Stk} {p : List Pr} {l : List Ch} {root n : Int} (h : TrialOk t sw p l root) (hn0 : 0 ≤ n) (hn : n ≤ 16777216) : StkOk t ⟨(endS t sw p l root n 4).1, sw.size⟩ ∧ ∀ id, InN t.nodes id → swT t sw.hs id ≤ swT t (endS t sw p l root n 4).1 id ∧ swT t (endS t sw p l root n 4).1 id ≤ max (swT t sw.hs id) (mostK l id) := by
 have hT := h.stk.tree
 have hr := h.root
 have he := h.eff
 have hz : inPg sw.size := ⟨h.stk.z0, h.stk.z1⟩
 have hO := shr_ok hT hr hz hn l he (shr0_ok h.stk.hs hn0) 4
 exact ⟨⟨hT, hz.1, hz.2, hO.hs⟩, fun id hid => swT_shr hT hr hz hn0 hn l he h.stk.hs hid 4⟩
theorem capR_nonneg {t : Tr} {l : List Pt} (hp : ∀ x ∈ l, PtOk x) (g : Int) : 0 ≤ capR t l g := (capN_bound (ns := t.nodes) hp t.nodes.length g).1
section
variable {t : Tr} {sw : Stk} {p : List Pr} {l : List Ch} {root n : Int}
theorem end_step (h : TrialOk t sw p l root) (hn0 : 0 ≤ n) (hn : n ≤ 16777216) (k : Nat) : StepS t (partsS t sw.size l (effP t sw p root) (outR k) (lowR k) (endS t sw p l root n k).1) root (outR k) (lowR k) (endS t sw p l root n k) (endS t sw p l root n (k + 1)) (takesS t sw.size l (effP t sw p root) root (outR k) (lowR k) (endS t sw p l root n k)) := shr_step h.stk.tree h.root ⟨h.stk.z0, h.stk.z1⟩ hn l h.eff (shr0_ok h.stk.hs hn0) k
theorem end_ok (h : TrialOk t sw p l root) (hn0 : 0 ≤ n) (hn : n ≤ 16777216) (k : Nat) : ShOk t sw.size n (endS t sw p l root n k) := shr_ok h.stk.tree h.root ⟨h.stk.z0, h.stk.z1⟩ hn l h.eff (shr0_ok h.stk.hs hn0) k
theorem end_noted (h : TrialOk t sw p l root) (hn0 : 0 ≤ n) (hn : n ≤ 16777216) (k : Nat) : Noted t root sw.hs n (endS t sw p l root n k) := shr_noted h.stk.tree h.root ⟨h.stk.z0, h.stk.z1⟩ hn0 hn l h.eff h.stk.hs k
end
structure Mc where
 group : Int
 least : Int
 low : Int
 high : Int
 most : Int
 swap : Int
 tog : Bool
 deriving DecidableEq
def getM : List Mc → Int → Mc
 | [], id => ⟨id, 0, 0, 4611686018427387904, 4611686018427387904, 4611686018427387904, false⟩
 | m :: l, id => if m.group = id then m else getM l id
def mostM (l : List Mc) (id : Int) : Int := if id = 1 then min (getM l id).most 16777216 else (getM l id).most
def prsM (l : List Mc) : List Pr := (l.filter fun m => !(decide (m.least = 0) && decide (m.low = 0))).map fun m => ⟨m.group, m.least, m.low⟩
def chsM (l : List Mc) : List Ch := (l.filter fun m => !decide (m.swap = 4611686018427387904)).map fun m => ⟨m.group, m.swap⟩
def amtM (n : Int) : Bool := (decide (0 ≤ n) && decide (n ≤ 1099511627776)) || decide (n = 4611686018427387904)
theorem amtM_bound {n : Int} (h : amtM n = true) : 0 ≤ n ∧ n ≤ 4611686018427387904 := by
 simp only [amtM, Bool.or_eq_true, Bool.and_eq_true, decide_eq_true_eq] at h
 omega
structure McOk (ns : List Nd) (l : List Mc) : Prop where
 known : ∀ m ∈ l, (findN ns m.group).isSome = true
 inc : l.Pairwise fun a b => a.group < b.group
 amt : ∀ m ∈ l, amtM m.least = true ∧ amtM m.low = true ∧ amtM m.high = true ∧ amtM m.most = true ∧ amtM m.swap = true
theorem prsM_ok {ns : List Nd} {l : List Mc} (h : McOk ns l) : PrOk ns (prsM l) := by
 refine ⟨fun c hc => ?_, ?_, fun c hc => ?_, fun c hc => ?_⟩
 ·obtain ⟨m, hm, rfl⟩ := List.mem_map.1 hc
  exact h.known m (List.mem_filter.1 hm).1
 ·unfold prsM
  rw [List.pairwise_map]
  exact h.inc.sublist List.filter_sublist
 ·obtain ⟨m, hm, rfl⟩ := List.mem_map.1 hc
  exact amtM_bound (h.amt m (List.mem_filter.1 hm).1).1
 ·obtain ⟨m, hm, rfl⟩ := List.mem_map.1 hc
  exact amtM_bound (h.amt m (List.mem_filter.1 hm).1).2.1
theorem chsM_ok {ns : List Nd} {l : List Mc} (h : McOk ns l) : AscOk (knownN ns) 0 4611686018427387904 (chsM l) := by
 refine ⟨fun c hc => ?_, ?_, fun c hc => ?_⟩
 ·obtain ⟨m, hm, rfl⟩ := List.mem_map.1 hc
  exact h.known m (List.mem_filter.1 hm).1
 ·unfold chsM
  rw [List.pairwise_map]
  exact h.inc.sublist List.filter_sublist
 ·obtain ⟨m, hm, rfl⟩ := List.mem_map.1 hc
  exact amtM_bound (h.amt m (List.mem_filter.1 hm).1).2.2.2.2
theorem getM_amt {ns : List Nd} {l : List Mc} (h : McOk ns l) (id : Int) : amtM (getM l id).high = true ∧ amtM (getM l id).most = true := by
 have h1 := h.amt
 clear h
 induction l with
 | nil => exact ⟨rfl, rfl⟩
 | cons m l ih =>
  unfold getM
  split
  ·exact ⟨(h1 m (by simp)).2.2.1, (h1 m (by simp)).2.2.2.1⟩
  ·exact ih fun x hx => h1 x (by simp [hx])
def sumT (f : Sh → Int) (a : List Sh) (id : Int) : Int := sumI (a.map fun y => if y.group = id then f y else 0)
theorem sumT_append (f : Sh → Int) (a b : List Sh) (id : Int) : sumT f (a ++ b) id = sumT f a id + sumT f b id := by
 unfold sumT
 rw [List.map_append, sumI_append]
theorem sumT_nonneg {f : Sh → Int} {a : List Sh} (h : ∀ y ∈ a, 0 ≤ f y) (id : Int) : 0 ≤ sumT f a id := sumI_map_nonneg _ fun y hy => by
 split
 ·exact h y hy
 ·exact Int.le_refl _
def Acc (s0 : List Hg) (a : List Sh) (s : List Hg) : Prop := ∀ id, getS s id = ⟨id, (getS s0 id).file - sumT (·.file) a id, (getS s0 id).anon - sumT (·.anon) a id, (getS s0 id).swap + sumT (·.anon) a id⟩
theorem acc_nil (s : List Hg) : Acc s [] s := fun id => by
 have hg := getS_group s id
 revert hg
 generalize getS s id = y
 intro hg
 subst hg
 simp [sumT, sumI]
theorem Acc.trans {s0 s1 s2 : List Hg} {a b : List Sh} (h : Acc s0 a s1) (h' : Acc s1 b s2) : Acc s0 (a ++ b) s2 := fun id => by
 rw [h' id, h id, sumT_append, sumT_append]
 simp only [Hg.mk.injEq, true_and]
 omega
theorem outL_sumT {f : Int → Sh} (hg : ∀ x, f x = zeroSh ∨ (f x).group = x) (F : Sh → Int) (hF : F zeroSh = 0) {id : Int} (h0 : id ≠ 0) : ∀ {eff : List Pr}, (eff.map (·.group)).Nodup → (id ∉ eff.map (·.group) → F (f id) = 0) → sumT F (outL f eff) id = F (f id)
 | [], _, ho => by
  rw [ho (by simp)]
  rfl
 | e :: eff, hnd, ho => by
  rw [List.map_cons, List.nodup_cons] at hnd
  have key : sumT F (outL f (e :: eff)) id = (if e.group = id then F (f id) else 0) + sumT F (outL f eff) id := by
   have e1 : outL f (e :: eff) = (if (f e.group).group ≠ 0 then [f e.group] else []) ++ outL f eff := by
    unfold outL
    rw [List.map_cons]
    by_cases hz : (f e.group).group ≠ 0
    ·rw [List.filter_cons_of_pos (by simpa using hz), if_pos hz]
     rfl
    ·rw [List.filter_cons_of_neg (by simpa using hz), if_neg hz]
     rfl
   rw [e1, sumT_append]
   congr 1
   rcases hg e.group with h1 | h1
   ·rw [h1, if_neg (by simp)]
    by_cases he : e.group = id
    ·rw [if_pos he, ← he, h1, hF]
     rfl
    ·rw [if_neg he]
     rfl
   ·by_cases he : e.group = id
    ·rw [if_pos he, if_pos (by rw [h1, he]; exact h0), ← he]
     simp [sumT, sumI, h1]
    ·rw [if_neg he]
     split
     ·simp [sumT, sumI, h1, he]
     ·rfl
  rw [key]
  by_cases he : e.group = id
  ·rw [if_pos he]
   have hno : id ∉ eff.map (·.group) := he ▸ hnd.1
   have : sumT F (outL f eff) id = 0 := by
    unfold sumT
    refine (congrArg sumI (List.map_congr_left (g := fun _ => (0 : Int)) fun y hy => ?_)).trans ?_
    ·have := (outL_mem hg hy).1
     rw [if_neg]
     intro hy2
     exact hno (hy2 ▸ this)
    ·clear key ho hno he hnd
     induction outL f eff with
     | nil => rfl
     | cons y l ih => rw [List.map_cons, sumI, ih]; rfl
   omega
  ·rw [if_neg he]
   have := outL_sumT hg F hF h0 hnd.2 fun hx => ho (by simp [hx, Ne.symm he])
   omega
structure ShkOk (t : Tr) (s : Stk) (root n : Int) (x : Stk) (a : List Sh) : Prop where
 stk : StkOk t x
 size : x.size = s.size
 use : ∀ g, InN t.nodes g → usedF t (cntS x.hs) g ≤ usedF t (cntS s.hs) g
 acc : Acc s.hs a x.hs
 pos : ∀ y ∈ a, 0 ≤ y.file ∧ 0 ≤ y.anon
 in_ : ∀ y ∈ a, y.group ∈ subA t root
 len : a.length ≤ 64
theorem eff_nodup {t : Tr} (h : TreeOk t) {root : Int} (hr : InN t.nodes root) {eff : List Pr} (he : EffOk t root eff) : (eff.map (·.group)).Nodup := by
 rw [he.groups]
 obtain ⟨i, n, hn, hne⟩ := hr
 rw [(msort_perm _).nodup_iff, ← hne, subT_some h hn]
 exact subF_nodup h hn
theorem use_of_acc {t : Tr} (hT : TreeOk t) {z z' : Int} {s0 s : List Hg} {a : List Sh} (h : Acc s0 a s) (hp : ∀ y ∈ a, 0 ≤ y.file ∧ 0 ≤ y.anon) (h0 : HgOk t.nodes z s0) (h1 : HgOk t.nodes z' s) {g : Int} (hg : InN t.nodes g) : usedF t (cntS s) g ≤ usedF t (cntS s0) g := by
 have hf : (findN t.nodes g).isSome = true := by
  obtain ⟨i, n, hn, rfl⟩ := hg
  rw [findN_unique hT.inc hn]
  rfl
 unfold usedF
 rw [if_pos hf, if_pos hf]
 unfold tot
 refine capR_le.sumI_le fun x _ => ?_
 rw [cntS_own h0.inc, cntS_own h1.inc]
 unfold memF
 rw [h x]
 have h2 := sumT_nonneg (f := (·.file)) (fun y hy => (hp y hy).1) x
 have h3 := sumT_nonneg (f := (·.anon)) (fun y hy => (hp y hy).2) x
 show _ - _ + (_ - _) ≤ _
 omega
theorem shk_ok {t : Tr} {sw : Stk} {p : List Pr} {l : List Ch} {root n : Int} (h : TrialOk t sw p l root) (hn0 : 0 ≤ n) (hn : n ≤ 16777216) : ShkOk t sw root n (ShrinkS t sw p l root n).1 (ShrinkS t sw p l root n).2.1 ∧ (ShrinkS t sw p l root n).2.2 = 0 := by
 rw [shrinkS_eq h hn0 hn]
 refine ⟨?_, rfl⟩
 have hT := h.stk.tree
 have hO := end_ok h hn0 hn 4
 have hN := end_noted h hn0 hn 4
 have hE := h.eff
 have hst := (limits_ok h hn0 hn).1
 have hnd := eff_nodup hT h.root hE
 have hel := eff_len hT h.root hE
 have hlen := hT.len
 generalize endS t sw p l root n 4 = s at *
 generalize effP t sw p root = eff at *
 have hacc : Acc sw.hs (outL s.2.1 eff) s.1 := fun id => by
  by_cases h0 : id = 0
  ·have e0 : ∀ F : Sh → Int, sumT F (outL s.2.1 eff) id = 0 := fun F => by
    unfold sumT
    refine (congrArg sumI (List.map_congr_left (g := fun _ => (0 : Int)) fun y hy => ?_)).trans (sumI_zero_map _)
    rw [if_neg]
    intro hy2
    exact (outL_mem hO.grp hy).2.2 (hy2.trans h0)
   have hoff := hN.off id fun hx => by
    obtain ⟨i, m, hm, hme⟩ := subA_in hT h.root hx
    have := hT.pos m (List.mem_of_getElem? hm)
    omega
   rw [hN.get id, e0, e0, hoff.1, hoff.2.1]
  ·have hoff : id ∉ eff.map (·.group) → (s.2.1 id).file = 0 ∧ (s.2.1 id).anon = 0 := fun hx => by
    have := hN.off id fun hy => hx ((effOk_mem hT h.root hE id).2 hy)
    exact ⟨this.1, this.2.1⟩
   rw [hN.get id, outL_sumT hO.grp (·.file) rfl h0 hnd fun hx => (hoff hx).1, outL_sumT hO.grp (·.anon) rfl h0 hnd fun hx => (hoff hx).2]
 have hpos : ∀ y ∈ outL s.2.1 eff, 0 ≤ y.file ∧ 0 ≤ y.anon := fun y hy => by
  rw [(outL_mem hO.grp hy).2.1]
  exact ⟨(hO.file _).1, (hO.anon _).1⟩
 refine ⟨hst, rfl, fun g hg => use_of_acc hT hacc hpos h.stk.hs hO.hs hg, hacc, hpos, fun y hy => (effOk_mem hT h.root hE _).1 (outL_mem hO.grp hy).1, ?_⟩
 have := outL_len s.2.1 eff
 show (outL s.2.1 eff).length ≤ 64
 omega
where
 sumI_zero_map : ∀ (l : List Sh), sumI (l.map fun _ => (0 : Int)) = 0
  | [] => rfl
  | _ :: l => by rw [List.map_cons, sumI, sumI_zero_map l]; rfl
structure Gw where
 stk : Stk
 shr : List Sh
 maxes : List Int
 highs : List Int
 refused : Int
abbrev useG (t : Tr) (g : Gw) (id : Int) : Int := usedF t (cntS g.stk.hs) id
def shrG (t : Tr) (l : List Mc) (g : Gw) (id n : Int) : Gw := ⟨(ShrinkS t g.stk (prsM l) (chsM l) id (min n 16777216)).1, g.shr ++ (ShrinkS t g.stk (prsM l) (chsM l) id (min n 16777216)).2.1, g.maxes, g.highs, g.refused⟩
def overG (t : Tr) (l : List Mc) (n : Int) (g : Gw) (a : Int) : Int := useG t g a + n - mostM l a
def maxG (g : Gw) (a : Int) : Gw := ⟨g.stk, g.shr, g.maxes ++ [a], g.highs, g.refused⟩
def highG (g : Gw) (a : Int) : Gw := ⟨g.stk, g.shr, g.maxes, g.highs ++ [a], g.refused⟩
def refG (g : Gw) (a : Int) : Gw := ⟨g.stk, g.shr, g.maxes, g.highs, a⟩
def roomG (t : Tr) (l : List Mc) (n : Int) : List Int → Gw → Gw × Int
 | [], g => (g, 0)
 | a :: as_, g =>
  if 0 < overG t l n g a then
   if mostM l a < useG t (shrG t l (maxG g a) a (overG t l n g a)) a + n then (refG (shrG t l (maxG g a) a (overG t l n g a)) a, 20)
   else roomG t l n as_ (shrG t l (maxG g a) a (overG t l n g a))
  else roomG t l n as_ g
def settleG (t : Tr) (l : List Mc) : List Int → Gw → Gw
 | [], g => g
 | a :: as_, g =>
  if 0 < useG t g a - (getM l a).high then
   settleG t l as_ (if (getM l a).high < useG t (shrG t l g a (useG t g a - (getM l a).high)) a then highG (shrG t l g a (useG t g a - (getM l a).high)) a else shrG t l g a (useG t g a - (getM l a).high))
  else settleG t l as_ g
def putG (g : Gw) (h : Hg) : Gw := ⟨⟨putS g.stk.hs h, g.stk.size⟩, g.shr, g.maxes, g.highs, g.refused⟩
def moreH (h : Hg) (file anon : Int) : Hg := ⟨h.group, h.file + file, h.anon + anon, h.swap⟩
def growG (t : Tr) (l : List Mc) (g : Gw) (id file anon : Int) : Gw × Int :=
 if (roomG t l (file + anon) (ancR t id) g).2 = 0 then (settleG t l (ancR t id) (putG (roomG t l (file + anon) (ancR t id) g).1 (moreH (getS (roomG t l (file + anon) (ancR t id) g).1.stk.hs id) file anon)), 0)
 else roomG t l (file + anon) (ancR t id) g
structure Grw (t : Tr) (g g' : Gw) : Prop where
 stk : StkOk t g'.stk
 size : g'.stk.size = g.stk.size
 shr : ∃ a, g'.shr = g.shr ++ a ∧ Acc g.stk.hs a g'.stk.hs ∧ ∀ y ∈ a, 0 ≤ y.file ∧ 0 ≤ y.anon
theorem Grw.refl {t : Tr} {g : Gw} (h : StkOk t g.stk) : Grw t g g := ⟨h, rfl, [], by simp, acc_nil _, by simp⟩
theorem Grw.trans {t : Tr} {a b c : Gw} (h : Grw t a b) (h' : Grw t b c) : Grw t a c := by
 obtain ⟨x, hx, ax, px⟩ := h.shr
 obtain ⟨y, hy, ay, py⟩ := h'.shr
 refine ⟨h'.stk, h'.size.trans h.size, x ++ y, by rw [hy, hx, List.append_assoc], ax.trans ay, fun z hz => ?_⟩
 rcases List.mem_append.1 hz with hz | hz
 ·exact px z hz
 ·exact py z hz
theorem Grw.use {t : Tr} {g g' : Gw} (h : Grw t g g') (h0 : StkOk t g.stk) {id : Int} (hid : InN t.nodes id) : useG t g' id ≤ useG t g id := by
 obtain ⟨a, _, ha, hp⟩ := h.shr
 exact use_of_acc h0.tree ha hp h0.hs h.stk.hs hid
theorem shrG_ok {t : Tr} {l : List Mc} {g : Gw} (hg : StkOk t g.stk) (hl : McOk t.nodes l) {a n : Int} (ha : InN t.nodes a) (hn : 0 ≤ n) : Grw t g (shrG t l g a n) := by
 have h := (shk_ok (t := t) (sw := g.stk) (p := prsM l) (l := chsM l) (root := a) (n := min n 16777216) ⟨hg, prsM_ok hl, chsM_ok hl, ha⟩ (by omega) (by omega)).1
 exact ⟨h.stk, h.size, _, rfl, h.acc, h.pos⟩
theorem grw_max {t : Tr} {g g' : Gw} (a : Int) (h : Grw t (maxG g a) g') : Grw t g g' := ⟨h.stk, h.size, h.shr⟩
theorem grw_ref {t : Tr} {g g' : Gw} (a : Int) (h : Grw t g g') : Grw t g (refG g' a) := ⟨h.stk, h.size, h.shr⟩
theorem grw_high {t : Tr} {g g' : Gw} (a : Int) (h : Grw t g g') : Grw t g (highG g' a) := ⟨h.stk, h.size, h.shr⟩
structure RoomG (t : Tr) (l : List Mc) (n : Int) (as_ : List Int) (g : Gw) (r : Gw × Int) : Prop where
 grw : Grw t g r.1
 highs : r.1.highs = g.highs
 err : (r.2 = 0 ∧ r.1.refused = g.refused ∧ ∀ a ∈ as_, useG t r.1 a + n ≤ mostM l a) ∨ (r.2 = 20 ∧ r.1.refused ∈ as_ ∧ r.1.refused ∈ r.1.maxes ∧ mostM l r.1.refused < useG t r.1 r.1.refused + n)
theorem roomG_ok {t : Tr} {l : List Mc} (hl : McOk t.nodes l) (n : Int) : ∀ (as_ : List Int) (g : Gw), (∀ a ∈ as_, InN t.nodes a) → StkOk t g.stk → RoomG t l n as_ g (roomG t l n as_ g)
 | [], g, _, hg => ⟨Grw.refl hg, rfl, .inl ⟨rfl, rfl, by simp⟩⟩
 | a :: as_, g, has, hg => by
  have ha := has a (by simp)
  have has' : ∀ x ∈ as_, InN t.nodes x := fun x hx => has x (by simp [hx])
  unfold roomG
  by_cases ho : 0 < overG t l n g a
  ·rw [if_pos ho]
   have h1 : Grw t g (shrG t l (maxG g a) a (overG t l n g a)) := grw_max a (shrG_ok (g := maxG g a) hg hl ha (by omega))
   have e1 : (shrG t l (maxG g a) a (overG t l n g a)).maxes = g.maxes ++ [a] := rfl
   have e2 : (shrG t l (maxG g a) a (overG t l n g a)).highs = g.highs := rfl
   have e3 : (shrG t l (maxG g a) a (overG t l n g a)).refused = g.refused := rfl
   generalize shrG t l (maxG g a) a (overG t l n g a) = g1 at *
   by_cases hu : mostM l a < useG t g1 a + n
   ·rw [if_pos hu]
    refine ⟨grw_ref a h1, e2, .inr ⟨rfl, ?_, ?_, hu⟩⟩
    ·show a ∈ a :: as_
     simp
    ·show a ∈ g1.maxes
     rw [e1]
     simp
   ·rw [if_neg hu]
    have ih := roomG_ok hl n as_ g1 has' h1.stk
    refine ⟨h1.trans ih.grw, ih.highs.trans e2, ?_⟩
    rcases ih.err with ⟨x1, x2, x3⟩ | ⟨x1, x2, x3, x4⟩
    ·refine .inl ⟨x1, x2.trans e3, fun b hb => ?_⟩
     rcases List.mem_cons.1 hb with rfl | hb
     ·have := ih.grw.use h1.stk ha
      omega
     ·exact x3 b hb
    ·exact .inr ⟨x1, List.mem_cons_of_mem _ x2, x3, x4⟩
  ·rw [if_neg ho]
   have ih := roomG_ok hl n as_ g has' hg
   refine ⟨ih.grw, ih.highs, ?_⟩
   rcases ih.err with ⟨x1, x2, x3⟩ | ⟨x1, x2, x3, x4⟩
   ·refine .inl ⟨x1, x2, fun b hb => ?_⟩
    rcases List.mem_cons.1 hb with rfl | hb
    ·have := ih.grw.use hg ha
     unfold overG at ho
     omega
    ·exact x3 b hb
   ·exact .inr ⟨x1, List.mem_cons_of_mem _ x2, x3, x4⟩
structure SetG (t : Tr) (l : List Mc) (as_ : List Int) (g r : Gw) : Prop where
 grw : Grw t g r
 maxes : r.maxes = g.maxes
 refused : r.refused = g.refused
 highs : ∃ b, r.highs = g.highs ++ b ∧ (∀ a ∈ b, a ∈ as_) ∧ ∀ a ∈ as_, a ∈ b ∨ useG t r a ≤ (getM l a).high
theorem settleG_ok {t : Tr} {l : List Mc} (hl : McOk t.nodes l) : ∀ (as_ : List Int) (g : Gw), (∀ a ∈ as_, InN t.nodes a) → StkOk t g.stk → SetG t l as_ g (settleG t l as_ g)
 | [], g, _, hg => ⟨Grw.refl hg, rfl, rfl, [], by simp [settleG], by simp, by simp⟩
 | a :: as_, g, has, hg => by
  have ha := has a (by simp)
  have has' : ∀ x ∈ as_, InN t.nodes x := fun x hx => has x (by simp [hx])
  unfold settleG
  by_cases ho : 0 < useG t g a - (getM l a).high
  ·rw [if_pos ho]
   have h1 : Grw t g (shrG t l g a (useG t g a - (getM l a).high)) := shrG_ok hg hl ha (by omega)
   have e1 : (shrG t l g a (useG t g a - (getM l a).high)).maxes = g.maxes := rfl
   have e2 : (shrG t l g a (useG t g a - (getM l a).high)).highs = g.highs := rfl
   have e3 : (shrG t l g a (useG t g a - (getM l a).high)).refused = g.refused := rfl
   generalize shrG t l g a (useG t g a - (getM l a).high) = g1 at *
   by_cases hu : (getM l a).high < useG t g1 a
   ·rw [if_pos hu]
    have ih := settleG_ok hl as_ (highG g1 a) has' h1.stk
    obtain ⟨b, hb1, hb2, hb3⟩ := ih.highs
    refine ⟨(grw_high a h1).trans ih.grw, ih.maxes.trans e1, ih.refused.trans e3, a :: b, ?_, ?_, ?_⟩
    ·rw [hb1]
     show (g1.highs ++ [a]) ++ b = _
     rw [e2, List.append_assoc]
     rfl
    ·intro x hx
     rcases List.mem_cons.1 hx with rfl | hx
     ·simp
     ·exact List.mem_cons_of_mem _ (hb2 x hx)
    ·intro x hx
     rcases List.mem_cons.1 hx with rfl | hx
     ·exact .inl (by simp)
     ·rcases hb3 x hx with h | h
      ·exact .inl (List.mem_cons_of_mem _ h)
      ·exact .inr h
   ·rw [if_neg hu]
    have ih := settleG_ok hl as_ g1 has' h1.stk
    obtain ⟨b, hb1, hb2, hb3⟩ := ih.highs
    refine ⟨h1.trans ih.grw, ih.maxes.trans e1, ih.refused.trans e3, b, by rw [hb1, e2], fun x hx => List.mem_cons_of_mem _ (hb2 x hx), ?_⟩
    intro x hx
    rcases List.mem_cons.1 hx with rfl | hx
    ·have := ih.grw.use h1.stk ha
     exact .inr (by omega)
    ·exact hb3 x hx
  ·rw [if_neg ho]
   have ih := settleG_ok hl as_ g has' hg
   obtain ⟨b, hb1, hb2, hb3⟩ := ih.highs
   refine ⟨ih.grw, ih.maxes, ih.refused, b, hb1, fun x hx => List.mem_cons_of_mem _ (hb2 x hx), ?_⟩
   intro x hx
   rcases List.mem_cons.1 hx with rfl | hx
   ·have := ih.grw.use hg ha
    exact .inr (by omega)
   ·exact hb3 x hx
theorem found_in {t : Tr} (h : TreeOk t) {g : Int} (hg : InN t.nodes g) : (findN t.nodes g).isSome = true := by
 obtain ⟨i, n, hn, rfl⟩ := hg
 rw [findN_unique h.inc hn]
 rfl
theorem use_root {t : Tr} (h : TreeOk t) {z : Int} {hs : List Hg} (hh : HgOk t.nodes z hs) : usedF t (cntS hs) 1 = sumI (hs.map fun h => h.file + h.anon) := by
 obtain ⟨r, hr, hr1⟩ := root_at h
 unfold usedF
 rw [if_pos (found_in h ⟨0, r, hr, hr1⟩), tot_root h (cntS_ok hh), cntS_sum]
theorem anc_InN {t : Tr} (h : TreeOk t) {id c : Int} (hid : InN t.nodes id) (hc : c ∈ ancR t id) : InN t.nodes c := by
 obtain ⟨i, n, hn, rfl⟩ := hid
 exact parts_down.anc_in h i n hn hc
theorem root_in_anc {t : Tr} (h : TreeOk t) {id : Int} (hid : InN t.nodes id) : (1 : Int) ∈ ancR t id := by
 obtain ⟨i, n, hn, rfl⟩ := hid
 rw [ancR_anc h hn]
 exact root_anc h i n hn
theorem put_ok {t : Tr} {s : Stk} (hs : StkOk t s) {id file anon : Int} (hid : InN t.nodes id) (hf : 0 ≤ file) (ha : 0 ≤ anon) (hr : usedF t (cntS s.hs) 1 + (file + anon) ≤ 16777216) : StkOk t ⟨putS s.hs (moreH (getS s.hs id) file anon), s.size⟩ ∧ inPg ((getS s.hs id).file + file) ∧ inPg ((getS s.hs id).anon + anon) := by
 have hT := hs.tree
 obtain ⟨⟨f0, f1⟩, ⟨a0, a1⟩, w0⟩ := hs.hs.get id
 have hm := hs.hs.mem
 have hg := getS_group s.hs id
 have hle : (getS s.hs id).file + (getS s.hs id).anon ≤ sumI (s.hs.map fun h => h.file + h.anon) := by
  have hnn : ∀ y ∈ s.hs.map (fun h => h.file + h.anon), 0 ≤ y := fun y hy => by
   obtain ⟨x, hx, rfl⟩ := List.mem_map.1 hy
   have := (hs.hs.file x hx).1
   have := (hs.hs.anon x hx).1
   omega
  rcases getS_mem (l := s.hs) (id := id) with he | he
  ·rw [he]
   exact sumI_nonneg _ hnn
  ·exact mem_le_sumI _ hnn (List.mem_map.2 ⟨_, he, rfl⟩)
 rw [use_root hT hs.hs] at hr
 have b1 : inPg ((getS s.hs id).file + file) := ⟨by omega, by omega⟩
 have b2 : inPg ((getS s.hs id).anon + anon) := ⟨by omega, by omega⟩
 refine ⟨⟨hT, hs.z0, hs.z1, ?_⟩, b1, b2⟩
 have hgm : (moreH (getS s.hs id) file anon).group = id := hg
 refine hs.hs.put (by rw [hgm]; exact found_in hT hid) b1 b2 w0 ?_ ?_
 ·rw [hgm]
  show _ - _ + ((getS s.hs id).file + file + ((getS s.hs id).anon + anon)) ≤ _
  omega
 ·rw [hgm]
  show _ - _ + (getS s.hs id).swap ≤ _
  have := hs.hs.out
  omega
theorem McOk.length {t : Tr} {l : List Mc} (h : McOk t.nodes l) : l.length ≤ t.nodes.length := by
 have := known_len (t := t) (gs := l.map (·.group)) (by rw [List.pairwise_map]; exact h.inc) fun g hg => by
  obtain ⟨x, hx, rfl⟩ := List.mem_map.1 hg
  exact h.known x hx
 simpa using this
def Mc.pv (h : Mc) : PV := .agg [.int .i64 h.group, .int .i64 h.least, .int .i64 h.low, .int .i64 h.high, .int .i64 h.most, .int .i64 h.swap, .bool h.tog]
abbrev Mc.vv (h : Mc) : VVal := .agg [.p (.int .i64 h.group), .p (.int .i64 h.least), .p (.int .i64 h.low), .p (.int .i64 h.high), .p (.int .i64 h.most), .p (.int .i64 h.swap), .p (.bool h.tog)]
abbrev Mc.mv (h : Mc) : VVal := .agg [.p (.int .i64 h.least), .p (.int .i64 h.low), .p (.int .i64 h.high), .p (.int .i64 h.most), .p (.int .i64 h.swap), .p (.bool h.tog)]
abbrev mcsP (l : List Mc) : PV := .slice 7 (l.map Mc.pv)
attribute [go_sem] Mc.pv
theorem mcs_flat (l : List Mc) : (l.map Mc.pv).all PV.flat = true := by
 rw [List.all_eq_true]
 intro x hx
 obtain ⟨n, _, rfl⟩ := List.mem_map.1 hx
 rfl
attribute [go_sem] mcs_flat
def amtR (n a b : Int) : Bool := (decide (a ≤ n) && decide (n ≤ b)) || decide (n = 4611686018427387904)
set_option maxHeartbeats 1000000 in
theorem amount_eq (n a b : Int) : V 100 [.p (.int .i64 n), .p (.int .i64 a), .p (.int .i64 b)] [] = some (.p (.bool (amtR n a b)), []) := by
 refine V_wp (vf := vf100) rfl ?_
 unfold amtR
 by_cases h1 : a ≤ n
 ·by_cases h2 : n ≤ b
  ·have e1 : ¬ n < a := by omega
   have e2 : ¬ b < n := by omega
   simp -implicitDefEqProofs (disch:=omega) only [vf100,vb100,h1,h2,e1,e2,go_sem,↓reduceIte,reduceAdd,reduceSub,reduceEqDiff,reduceLeDiff,reduceCtorEq]
   try simp [h1, h2]
  ·have e1 : ¬ n < a := by omega
   have e2 : b < n := by omega
   simp -implicitDefEqProofs (disch:=omega) only [vf100,vb100,h1,h2,e1,e2,go_sem,↓reduceIte,reduceAdd,reduceSub,reduceEqDiff,reduceLeDiff,reduceCtorEq]
   try simp [h1, h2]
 ·have e1 : n < a := by omega
  simp -implicitDefEqProofs (disch:=omega) only [vf100,vb100,h1,e1,go_sem,↓reduceIte,reduceAdd,reduceSub,reduceEqDiff,reduceLeDiff,reduceCtorEq]
  try simp [h1]
def chkM (m : Mc) : Bool := amtM m.least && amtM m.low && amtM m.high && amtM m.most && amtM m.swap
set_option maxHeartbeats 1000000 in
theorem checkMem_eq (m : Mc) : V 83 [m.mv] [] = some (.p (.bool (chkM m)), []) := by
 refine V_wp (vf := vf83) rfl ?_
 have ha : ∀ n, V 100 [.p (.int .i64 n), .p (.int .i64 0), .p (.int .i64 1099511627776)] [] = some (.p (.bool (amtM n)), []) := fun n => amount_eq n 0 1099511627776
 unfold chkM
 cases h1 : amtM m.least with
 | false =>
  simp -implicitDefEqProofs (disch:=omega) only [vf83,vb83,ha,h1,Bool.false_and,go_sem,↓reduceIte,reduceAdd,reduceSub,reduceEqDiff,reduceLeDiff,reduceCtorEq]
 | true =>
  cases h2 : amtM m.low with
  | false => simp -implicitDefEqProofs (disch:=omega) only [vf83,vb83,ha,h1,h2,Bool.false_and,Bool.true_and,go_sem,↓reduceIte,reduceAdd,reduceSub,reduceEqDiff,reduceLeDiff,reduceCtorEq]
  | true =>
   cases h3 : amtM m.high with
   | false => simp -implicitDefEqProofs (disch:=omega) only [vf83,vb83,ha,h1,h2,h3,Bool.false_and,Bool.true_and,go_sem,↓reduceIte,reduceAdd,reduceSub,reduceEqDiff,reduceLeDiff,reduceCtorEq]
   | true =>
    cases h4 : amtM m.most with
    | false => simp -implicitDefEqProofs (disch:=omega) only [vf83,vb83,ha,h1,h2,h3,h4,Bool.false_and,Bool.true_and,go_sem,↓reduceIte,reduceAdd,reduceSub,reduceEqDiff,reduceLeDiff,reduceCtorEq]
    | true =>
     cases h5 : amtM m.swap with
     | false => simp -implicitDefEqProofs (disch:=omega) only [vf83,vb83,ha,h1,h2,h3,h4,h5,Bool.false_and,Bool.true_and,go_sem,↓reduceIte,reduceAdd,reduceSub,reduceEqDiff,reduceLeDiff,reduceCtorEq]
     | true => simp -implicitDefEqProofs (disch:=omega) only [vf83,vb83,ha,h1,h2,h3,h4,h5,Bool.true_and,go_sem,↓reduceIte,reduceAdd,reduceSub,reduceEqDiff,reduceLeDiff,reduceCtorEq]
theorem chkM_iff (m : Mc) : chkM m = true ↔ (amtM m.least = true ∧ amtM m.low = true ∧ amtM m.high = true ∧ amtM m.most = true ∧ amtM m.swap = true) := by
 simp only [chkM, Bool.and_eq_true, and_assoc]
set_option maxHeartbeats 4000000 in
theorem mvalid_ok {t : Tr} {l : List Mc} (h : TreeOk t) (hM : McOk t.nodes l) : V 65 [t.vv, .p (mcsP l)] [] = some (.p (.bool true), []) := by
 refine V_wp (vf := vf65) rfl ?_
 have hlen := h.len
 have hll := hM.length
 have hc := tcheck_eq t h.fits (by omega)
 rw [(treeOk_iff t).2 h] at hc
 simp -implicitDefEqProofs (disch:=omega) only [vf65,vb65,hc,go_sem,↓reduceIte,reduceAdd,reduceSub,reduceEqDiff,reduceLeDiff,reduceCtorEq]
 obtain ⟨I, hI⟩ : ∃ I : Nat → St → Prop, ∀ k s, I k s ↔ s.pe 1 = .p (mcsP l) ∧ s.pe 2 = .ptr (.slot 2 0) 0 0 ∧ s.pe 12 = .p (mcsP l) ∧ s.pe 13 = .p (.int .i64 ↑l.length) ∧ s.pe 14 = .p (.int .i64 k) ∧ s.h (.slot 2 0) = some (0, Ob.box [.p (nodesP t.nodes), .p (.int .i64 t.next)]) := ⟨_, fun _ _ => Iff.rfl⟩
 refine wp_count (l.length) I ?_ ?_
 ·refine (hI _ _).2 ⟨?_, ?_, ?_, ?_, ?_, ?_⟩
  all_goals exact cl0
 intro k s hk hIk
 obtain ⟨h1, h2, h12, h13, h14, hh2_0⟩ := (hI _ _).1 hIk
 clear hIk
 simp -implicitDefEqProofs (disch:=omega) only [h1,h2,h12,h13,h14,hh2_0,go_sem,↓reduceIte,reduceAdd,reduceSub,reduceEqDiff,reduceLeDiff,reduceCtorEq]
 refine wp_if_d (fun hlt => ?_) (fun hge => ?_)
 ·have hm : l[k]? = some l[k] := List.getElem?_eq_getElem hlt
  have hprev : ∀ j (h : j < k), l[j].group < l[k].group := fun j h => (List.pairwise_iff_getElem.1 hM.inc) j k (by omega) hlt h
  have hkn := hM.known l[k] (List.getElem_mem hlt)
  have hch := checkMem_eq l[k]
  rw [(chkM_iff _).2 (hM.amt l[k] (List.getElem_mem hlt))] at hch
  generalize l[k] = c at hm hprev hkn hch
  have hfi := ffind_eq t c.group (by omega)
  rw [hkn] at hfi
  generalize (findN t.nodes c.group).getD zeroNd = nd at hfi
  by_cases hk0 : (0 : Int) < k
  ·have he : l[k - 1]? = some l[k - 1] := List.getElem?_eq_getElem (by omega)
   have hlt1 := hprev (k - 1) (by omega)
   generalize l[k - 1] = e at he hlt1
   have he' : l[((k : Int) - 1).toNat]? = some e := by rw [show ((k : Int) - 1).toNat = k - 1 by omega]; exact he
   have hk1 : (0 : Int) ≤ (k : Int) - 1 := by omega
   have hle : ¬ c.group ≤ e.group := by omega
   simp only [Mc.mv] at hch
   simp -implicitDefEqProofs (disch:=omega) only [h1,h2,h12,h13,h14,hh2_0,hlt,hm,hfi,Nd.vv,hk0,hk1,he',hle,hch,go_sem,↓reduceIte,reduceAdd,reduceSub,reduceEqDiff,reduceLeDiff,reduceCtorEq]
   try refine And.intro (by omega) ?_
   refine (hI _ _).2 ⟨?_, ?_, ?_, ?_, ?_, ?_⟩
   all_goals exact cl0
  ·simp only [Mc.mv] at hch
   simp -implicitDefEqProofs (disch:=omega) only [h1,h2,h12,h13,h14,hh2_0,hlt,hm,hfi,Nd.vv,hk0,hch,go_sem,↓reduceIte,reduceAdd,reduceSub,reduceEqDiff,reduceLeDiff,reduceCtorEq]
   try refine And.intro (by omega) ?_
   refine (hI _ _).2 ⟨?_, ?_, ?_, ?_, ?_, ?_⟩
   all_goals exact cl0
 ·simp -implicitDefEqProofs (disch:=omega) only [h1,h2,h12,h13,h14,hh2_0,hge,go_sem,↓reduceIte,reduceAdd,reduceSub,reduceEqDiff,reduceLeDiff,reduceCtorEq]
set_option maxHeartbeats 2000000 in
theorem msettings_eq (l : List Mc) (id : Int) (hl : l.length < 1000000) : V 20 [.p (mcsP l), .p (.int .i64 id)] [] = some ((getM l id).mv, []) := by
 refine V_wp (vf := vf20) rfl ?_
 simp -implicitDefEqProofs (disch:=omega) only [vf20,vb20,go_sem,↓reduceIte,reduceAdd,reduceSub,reduceEqDiff,reduceLeDiff,reduceCtorEq]
 obtain ⟨I, hI⟩ : ∃ I : Nat → St → Prop, ∀ k s, I k s ↔ getM l id = getM (l.drop k) id ∧ s.pe 1 = .p (.int .i64 id) ∧ s.pe 4 = .ptr (.slot 4 0) 0 0 ∧ s.pe 7 = .p (mcsP l) ∧ s.pe 8 = .p (.int .i64 ↑l.length) ∧ s.pe 9 = .p (.int .i64 k) ∧ s.h (.slot 4 0) = some (0, Ob.box [.p (.int .i64 0), .p (.int .i64 0), .p (.int .i64 0), .p (.int .i64 0), .p (.int .i64 0), .p (.bool false)]) := ⟨_, fun _ _ => Iff.rfl⟩
 refine wp_count (l.length) I ?_ ?_
 ·refine (hI _ _).2 ⟨?_, ?_, ?_, ?_, ?_, ?_, ?_⟩
  ·rfl
  all_goals exact cl0
 intro k s hk hIk
 obtain ⟨hp, h1, h4, h7, h8, h9, hh4_0⟩ := (hI _ _).1 hIk
 clear hIk
 simp -implicitDefEqProofs (disch:=omega) only [h1,h4,h7,h8,h9,hh4_0,go_sem,↓reduceIte,reduceAdd,reduceSub,reduceEqDiff,reduceLeDiff,reduceCtorEq]
 refine wp_if_d (fun hlt => ?_) (fun hge => ?_)
 ·have hm : l[k]? = some l[k] := List.getElem?_eq_getElem hlt
  have hdr : l.drop k = l[k] :: l.drop (k + 1) := List.drop_eq_getElem_cons hlt
  generalize l[k] = c at hm hdr
  rw [hdr, getM] at hp
  by_cases hc : c.group = id
  ·rw [if_pos hc] at hp
   rw [hp]
   simp -implicitDefEqProofs (disch:=omega) only [h1,h4,h7,h8,h9,hh4_0,hlt,hm,hc,go_sem,↓reduceIte,reduceAdd,reduceSub,reduceEqDiff,reduceLeDiff,reduceCtorEq]
  ·rw [if_neg hc] at hp
   simp -implicitDefEqProofs (disch:=omega) only [h1,h4,h7,h8,h9,hh4_0,hlt,hm,hc,go_sem,↓reduceIte,reduceAdd,reduceSub,reduceEqDiff,reduceLeDiff,reduceCtorEq]
   try refine And.intro (by omega) ?_
   refine (hI _ _).2 ⟨?_, ?_, ?_, ?_, ?_, ?_, ?_⟩
   ·exact hp
   all_goals exact cl0
 ·rw [List.drop_of_length_le (by omega)] at hp
  have hdf : V 21 [] [] = some (.agg [.p (.int .i64 0), .p (.int .i64 0), .p (.int .i64 4611686018427387904), .p (.int .i64 4611686018427387904), .p (.int .i64 4611686018427387904), .p (.bool false)], []) := by
   refine V_wp (vf := vf21) rfl ?_
   simp -implicitDefEqProofs (disch:=omega) only [vf21,vb21,go_sem,↓reduceIte,reduceAdd,reduceSub,reduceEqDiff,reduceLeDiff,reduceCtorEq]
  rw [hp]
  simp -implicitDefEqProofs (disch:=omega) only [h1,h4,h7,h8,h9,hh4_0,hge,hdf,go_sem,↓reduceIte,reduceAdd,reduceSub,reduceEqDiff,reduceLeDiff,reduceCtorEq]
  all_goals rfl
theorem prsM_cons (m : Mc) (l : List Mc) : prsM (m :: l) = (if m.least = 0 ∧ m.low = 0 then [] else [⟨m.group, m.least, m.low⟩]) ++ prsM l := by
 unfold prsM
 by_cases h : m.least = 0 ∧ m.low = 0
 ·rw [List.filter_cons_of_neg (by simp [h.1, h.2]), if_pos h]
  rfl
 ·rw [List.filter_cons_of_pos (by simp; omega), if_neg h]
  rfl
theorem chsM_cons (m : Mc) (l : List Mc) : chsM (m :: l) = (if m.swap = 4611686018427387904 then [] else [⟨m.group, m.swap⟩]) ++ chsM l := by
 unfold chsM
 by_cases h : m.swap = 4611686018427387904
 ·rw [List.filter_cons_of_neg (by simp [h]), if_pos h]
  rfl
 ·rw [List.filter_cons_of_pos (by simpa using h), if_neg h]
  rfl
set_option maxHeartbeats 2000000 in
theorem mprots_eq (l : List Mc) (hl : l.length < 1000000) : V 79 [.p (mcsP l)] [] = some (.fresh 3 ((prsM l).map Pr.pv), []) := by
 refine V_wp (vf := vf79) rfl ?_
 simp -implicitDefEqProofs (disch:=omega) only [vf79,vb79,go_sem,↓reduceIte,reduceAdd,reduceSub,reduceEqDiff,reduceLeDiff,reduceCtorEq]
 obtain ⟨I, hI⟩ : ∃ I : Nat → St → Prop, ∀ k s, I k s ↔ ∃ (acc : List Pr) (w : Nat), prsM l = acc ++ prsM (l.drop k) ∧ acc.length ≤ k ∧ s.pe 3 = .own (.slot 3 0) w 0 acc.length ∧ s.pe 6 = .p (mcsP l) ∧ s.pe 7 = .p (.int .i64 ↑l.length) ∧ s.pe 8 = .p (.int .i64 k) ∧ s.h (.slot 3 0) = some (w, Ob.arr 3 (acc.map Pr.pv)) := ⟨_, fun _ _ => Iff.rfl⟩
 refine wp_count (l.length) I ?_ ?_
 ·refine (hI _ _).2 ⟨[], 0, ?_, ?_, ?_, ?_, ?_, ?_, ?_⟩
  ·rfl
  ·exact Nat.zero_le _
  all_goals exact cl0
 intro k s hk hIk
 obtain ⟨acc, w, ho, hal, h3, h6, h7, h8, hh3_0⟩ := (hI _ _).1 hIk
 clear hIk
 simp -implicitDefEqProofs (disch:=omega) only [h3,h6,h7,h8,hh3_0,go_sem,↓reduceIte,reduceAdd,reduceSub,reduceEqDiff,reduceLeDiff,reduceCtorEq]
 refine wp_if_d (fun hlt => ?_) (fun hge => ?_)
 ·have hm : l[k]? = some l[k] := List.getElem?_eq_getElem hlt
  have hdr : l.drop k = l[k] :: l.drop (k + 1) := List.drop_eq_getElem_cons hlt
  generalize l[k] = c at hm hdr
  rw [hdr, prsM_cons] at ho
  by_cases h1 : c.least = 0
  ·by_cases h2 : c.low = 0
   ·rw [if_pos ⟨h1, h2⟩, List.nil_append] at ho
    simp -implicitDefEqProofs (disch:=omega) only [h3,h6,h7,h8,hh3_0,hlt,hm,h1,h2,go_sem,↓reduceIte,reduceAdd,reduceSub,reduceEqDiff,reduceLeDiff,reduceCtorEq]
    try refine And.intro (by omega) ?_
    refine (hI _ _).2 ⟨acc, w, ?_, ?_, ?_, ?_, ?_, ?_, ?_⟩
    ·exact ho
    ·omega
    all_goals exact cl0
   ·rw [if_neg (fun h => h2 h.2), ← List.append_assoc, h1] at ho
    simp -implicitDefEqProofs (disch:=omega) only [h3,h6,h7,h8,hh3_0,hlt,hm,h1,h2,go_sem,↓reduceIte,reduceAdd,reduceSub,reduceEqDiff,reduceLeDiff,reduceCtorEq]
    try refine And.intro (by omega) ?_
    refine (hI _ _).2 ⟨acc ++ [⟨c.group, 0, c.low⟩], w + 1, ?_, ?_, ?_, ?_, ?_, ?_, ?_⟩
    ·exact ho
    ·exact by simp; omega
    all_goals exact cl0
  ·rw [if_neg (fun h => h1 h.1), ← List.append_assoc] at ho
   simp -implicitDefEqProofs (disch:=omega) only [h3,h6,h7,h8,hh3_0,hlt,hm,h1,go_sem,↓reduceIte,reduceAdd,reduceSub,reduceEqDiff,reduceLeDiff,reduceCtorEq]
   try refine And.intro (by omega) ?_
   refine (hI _ _).2 ⟨acc ++ [⟨c.group, c.least, c.low⟩], w + 1, ?_, ?_, ?_, ?_, ?_, ?_, ?_⟩
   ·exact ho
   ·exact by simp; omega
   all_goals exact cl0
 ·rw [List.drop_of_length_le (by omega)] at ho
  rw [show prsM [] = [] from rfl, List.append_nil] at ho
  simp -implicitDefEqProofs (disch:=omega) only [h3,h6,h7,h8,hh3_0,hge,go_sem,↓reduceIte,reduceAdd,reduceSub,reduceEqDiff,reduceLeDiff,reduceCtorEq]
  rw [ho]
set_option maxHeartbeats 2000000 in
theorem mswaps_eq (l : List Mc) (hl : l.length < 1000000) : V 80 [.p (mcsP l)] [] = some (.fresh 2 ((chsM l).map Ch.pv), []) := by
 refine V_wp (vf := vf80) rfl ?_
 simp -implicitDefEqProofs (disch:=omega) only [vf80,vb80,go_sem,↓reduceIte,reduceAdd,reduceSub,reduceEqDiff,reduceLeDiff,reduceCtorEq]
 obtain ⟨I, hI⟩ : ∃ I : Nat → St → Prop, ∀ k s, I k s ↔ ∃ (acc : List Ch) (w : Nat), chsM l = acc ++ chsM (l.drop k) ∧ acc.length ≤ k ∧ s.pe 3 = .own (.slot 3 0) w 0 acc.length ∧ s.pe 6 = .p (mcsP l) ∧ s.pe 7 = .p (.int .i64 ↑l.length) ∧ s.pe 8 = .p (.int .i64 k) ∧ s.h (.slot 3 0) = some (w, Ob.arr 2 (acc.map Ch.pv)) := ⟨_, fun _ _ => Iff.rfl⟩
 refine wp_count (l.length) I ?_ ?_
 ·refine (hI _ _).2 ⟨[], 0, ?_, ?_, ?_, ?_, ?_, ?_, ?_⟩
  ·rfl
  ·exact Nat.zero_le _
  all_goals exact cl0
 intro k s hk hIk
 obtain ⟨acc, w, ho, hal, h3, h6, h7, h8, hh3_0⟩ := (hI _ _).1 hIk
 clear hIk
 simp -implicitDefEqProofs (disch:=omega) only [h3,h6,h7,h8,hh3_0,go_sem,↓reduceIte,reduceAdd,reduceSub,reduceEqDiff,reduceLeDiff,reduceCtorEq]
 refine wp_if_d (fun hlt => ?_) (fun hge => ?_)
 ·have hm : l[k]? = some l[k] := List.getElem?_eq_getElem hlt
  have hdr : l.drop k = l[k] :: l.drop (k + 1) := List.drop_eq_getElem_cons hlt
  generalize l[k] = c at hm hdr
  rw [hdr, chsM_cons] at ho
  by_cases h1 : c.swap = 4611686018427387904
  ·rw [if_pos h1, List.nil_append] at ho
   simp -implicitDefEqProofs (disch:=omega) only [h3,h6,h7,h8,hh3_0,hlt,hm,h1,go_sem,↓reduceIte,reduceAdd,reduceSub,reduceEqDiff,reduceLeDiff,reduceCtorEq]
   try refine And.intro (by omega) ?_
   refine (hI _ _).2 ⟨acc, w, ?_, ?_, ?_, ?_, ?_, ?_, ?_⟩
   ·exact ho
   ·omega
   all_goals exact cl0
  ·rw [if_neg h1, ← List.append_assoc] at ho
   simp -implicitDefEqProofs (disch:=omega) only [h3,h6,h7,h8,hh3_0,hlt,hm,h1,go_sem,↓reduceIte,reduceAdd,reduceSub,reduceEqDiff,reduceLeDiff,reduceCtorEq]
   try refine And.intro (by omega) ?_
   refine (hI _ _).2 ⟨acc ++ [⟨c.group, c.swap⟩], w + 1, ?_, ?_, ?_, ?_, ?_, ?_, ?_⟩
   ·exact ho
   ·exact by simp; omega
   all_goals exact cl0
 ·rw [List.drop_of_length_le (by omega)] at ho
  rw [show chsM [] = [] from rfl, List.append_nil] at ho
  simp -implicitDefEqProofs (disch:=omega) only [h3,h6,h7,h8,hh3_0,hge,go_sem,↓reduceIte,reduceAdd,reduceSub,reduceEqDiff,reduceLeDiff,reduceCtorEq]
  rw [ho]
theorem usedF_in {t : Tr} (h : TreeOk t) {c : List Ch} {i : Nat} {n : Nd} (hn : t.nodes[i]? = some n) : usedF t c n.id = tot t (ownC c) n.id := by
 unfold usedF
 rw [if_pos]
 rw [findN_unique h.inc hn]
 rfl
set_option maxHeartbeats 2000000 in
theorem rcounter25_eq (sw : Stk) (hl : sw.hs.length < 1000000) (hb : ∀ h ∈ sw.hs, inPg h.file ∧ inPg h.anon) : V 47 [sw.vv] [] = some (ctrF (cntS sw.hs), []) := by
 refine V_wp (vf := vf47) rfl ?_
 simp -implicitDefEqProofs (disch:=omega) only [vf47,vb47,go_sem,↓reduceIte,reduceAdd,reduceSub,reduceEqDiff,reduceLeDiff,reduceCtorEq]
 obtain ⟨I, hI⟩ : ∃ I : Nat → St → Prop, ∀ k s, I k s ↔ ∃ (acc : List Ch) (w : Nat), cntS sw.hs = acc ++ cntS (sw.hs.drop k) ∧ acc.length ≤ k ∧ s.pe 1 = .ptr (.slot 1 0) 0 0 ∧ s.pe 2 = .ptr (.slot 2 0) 0 0 ∧ s.pe 3 = .own (.slot 3 0) w 0 acc.length ∧ s.pe 4 = .p (.int .i64 k) ∧ s.h (.slot 1 0) = some (0, Ob.box [.p (hgsP sw.hs), .p (.int .i64 sw.size)]) ∧ s.h (.slot 2 0) = some (0, Ob.box [.own (.slot 2 1) 0 0 0]) ∧ s.h (.slot 2 1) = some (0, Ob.arr 2 []) ∧ s.h (.slot 3 0) = some (w, Ob.arr 2 (acc.map Ch.pv)) := ⟨_, fun _ _ => Iff.rfl⟩
 refine wp_count (sw.hs.length) I ?_ ?_
 ·refine (hI _ _).2 ⟨[], 0, ?_, ?_, ?_, ?_, ?_, ?_, ?_, ?_, ?_, ?_⟩
  ·rfl
  ·exact Nat.le_refl _
  all_goals exact cl0
 intro k s hk hIk
 obtain ⟨acc, w, ho, hal, h1, h2, h3, h4, hh1_0, hh2_0, hh2_1, hh3_0⟩ := (hI _ _).1 hIk
 clear hIk
 simp -implicitDefEqProofs (disch:=omega) only [h1,h2,h3,h4,hh1_0,hh2_0,hh2_1,hh3_0,go_sem,↓reduceIte,reduceAdd,reduceSub,reduceEqDiff,reduceLeDiff,reduceCtorEq]
 refine wp_if_d (fun hlt => ?_) (fun hge => ?_)
 ·have hm : sw.hs[k]? = some sw.hs[k] := List.getElem?_eq_getElem hlt
  have hd : sw.hs.drop k = sw.hs[k] :: sw.hs.drop (k + 1) := List.drop_eq_getElem_cons hlt
  obtain ⟨⟨b1, b2⟩, b3, b4⟩ := hb _ (List.mem_of_getElem? hm)
  generalize sw.hs[k] = c at hm hd b1 b2 b3 b4
  rw [hd, cntS_cons] at ho
  by_cases he : c.file + c.anon = 0
  ·rw [if_pos he, List.nil_append] at ho
   simp -implicitDefEqProofs (disch:=omega) only [h1,h2,h3,h4,hh1_0,hh2_0,hh2_1,hh3_0,hlt,hm,he,go_sem,↓reduceIte,reduceAdd,reduceSub,reduceEqDiff,reduceLeDiff,reduceCtorEq]
   try refine And.intro (by omega) ?_
   refine (hI _ _).2 ⟨acc, w, ?_, ?_, ?_, ?_, ?_, ?_, ?_, ?_, ?_, ?_⟩
   ·exact ho
   ·omega
   all_goals exact cl0
  ·rw [if_neg he, ← List.append_assoc] at ho
   simp -implicitDefEqProofs (disch:=omega) only [h1,h2,h3,h4,hh1_0,hh2_0,hh2_1,hh3_0,hlt,hm,he,go_sem,↓reduceIte,reduceAdd,reduceSub,reduceEqDiff,reduceLeDiff,reduceCtorEq]
   try refine And.intro (by omega) ?_
   refine (hI _ _).2 ⟨acc ++ [⟨c.group, c.file + c.anon⟩], w + 1, ?_, ?_, ?_, ?_, ?_, ?_, ?_, ?_, ?_, ?_⟩
   ·exact ho
   ·exact by simp; omega
   all_goals exact cl0
 ·rw [List.drop_of_length_le (by omega)] at ho
  rw [show cntS [] = [] from rfl, List.append_nil] at ho
  simp -implicitDefEqProofs (disch:=omega) only [h1,h2,h3,h4,hh1_0,hh2_0,hh2_1,hh3_0,hge,go_sem,↓reduceIte,reduceAdd,reduceSub,reduceEqDiff,reduceLeDiff,reduceCtorEq]
  rw [ho]
set_option maxHeartbeats 2000000 in
theorem rusage_eq {t : Tr} (h : TreeOk t) {z : Int} {hs : List Hg} (hh : HgOk t.nodes z hs) (hl : hs.length < 1000000) {i : Nat} {n : Nd} (hn : t.nodes[i]? = some n) : V 19 [t.vv, Stk.vv ⟨hs, z⟩, .p (.int .i64 n.id)] [] = some (.p (.int .i64 (usedF t (cntS hs) n.id)), []) := by
 refine V_wp (vf := vf19) rfl ?_
 have h1 := rcounter25_eq ⟨hs, z⟩ hl fun x hx => ⟨hh.file x hx, hh.anon x hx⟩
 have hc := cntS_ok hh
 have h2 := rsum_eq h hc (by have := cntS_len hs; omega) hn
 rw [← usedF_in h hn] at h2
 simp only [Stk.vv, ctrF, ctrV] at h1 h2
 simp -implicitDefEqProofs (disch:=omega) only [vf19,vb19,h1,h2,go_sem,↓reduceIte,reduceAdd,reduceSub,reduceEqDiff,reduceLeDiff,reduceCtorEq]
abbrev grwC (t : Tr) (l : List Mc) (H : VVal) (z : Int) (S M G : VVal) (r : Int) : Ob := .box [.p (nodesP t.nodes), .p (.int .i64 t.next), .p (mcsP l), H, .p (.int .i64 z), S, M, G, .p (.int .i64 r)]
abbrev grwB (t : Tr) (l : List Mc) (n : Nat) (z : Int) (m p q : Nat) (r : Int) : Ob := grwC t l (.own (.arg 1 0) 0 0 n) z (.own (.arg 2 0) 0 0 m) (.own (.arg 3 0) 0 0 p) (.own (.arg 4 0) 0 0 q) r
abbrev grwH (t : Tr) (l : List Mc) (g : Gw) : List Ob := [grwB t l g.stk.hs.length g.stk.size g.shr.length g.maxes.length g.highs.length g.refused, .arr 4 (g.stk.hs.map Hg.pv), .arr 4 (g.shr.map Sh.pv), .arr 1 (g.maxes.map (.int .i64)), .arr 1 (g.highs.map (.int .i64))]
set_option maxHeartbeats 2000000 in
theorem gmost_eq (t : Tr) (l : List Mc) (g : Gw) (id : Int) (hl : l.length < 1000000) : V 56 [.ptr (.arg 0 0) 0 0, .p (.int .i64 id)] (grwH t l g) = some (.p (.int .i64 (mostM l id)), grwH t l g) := by
 refine V_wp (vf := vf56) rfl ?_
 have h1 := msettings_eq l id hl
 unfold mostM
 by_cases hid : id = 1
 ·rw [if_pos hid]
  subst hid
  generalize getM l 1 = m at h1 ⊢
  simp -implicitDefEqProofs (disch:=omega) only [vf56,vb56,h1,go_sem,↓reduceIte,reduceAdd,reduceSub,reduceEqDiff,reduceLeDiff,reduceCtorEq]
 ·rw [if_neg hid]
  generalize getM l id = m at h1 ⊢
  simp -implicitDefEqProofs (disch:=omega) only [vf56,vb56,h1,hid,go_sem,↓reduceIte,reduceAdd,reduceSub,reduceEqDiff,reduceLeDiff,reduceCtorEq]
theorem useG_eq {t : Tr} {s : Stk} (h : StkOk t s) {i : Nat} {m : Nd} (hm : t.nodes[i]? = some m) : V 76 [t.vv, ctrV (cntS s.hs), .p (.int .i64 m.id)] [] = some (.tup [.p (.int .i64 (usedF t (cntS s.hs) m.id)), .p (.int .i64 0)], []) := by
 rw [usedF_in h.tree hm]
 exact total_at h.tree (cntS_ok h.hs) hm
set_option maxHeartbeats 2000000 in
theorem gusage_eq {t : Tr} (l : List Mc) {g : Gw} (hg : StkOk t g.stk) {id : Int} (hid : InN t.nodes id) : V 55 [.ptr (.arg 0 0) 0 0, .p (.int .i64 id)] (grwH t l g) = some (.p (.int .i64 (useG t g id)), grwH t l g) := by
 refine V_wp (vf := vf55) rfl ?_
 obtain ⟨i, m, hm, rfl⟩ := hid
 have hlen := hg.tree.len
 have hsl := hg.hs.length
 have h1 := scounter_eq g.stk (by omega) fun x hx => ⟨hg.hs.file x hx, hg.hs.anon x hx⟩
 have h2 := useG_eq hg hm
 simp only [Stk.vv, ctrF, ctrV] at h1 h2
 unfold useG
 generalize usedF t (cntS g.stk.hs) m.id = u at h2 ⊢
 simp -implicitDefEqProofs (disch:=omega) only [vf55,vb55,h1,h2,go_sem,↓reduceIte,reduceAdd,reduceSub,reduceEqDiff,reduceLeDiff,reduceCtorEq]
abbrev shrH (t : Tr) (l : List Mc) (g g' : Gw) : List Ob := [grwC t l (.fresh 4 (g'.stk.hs.map Hg.pv)) g'.stk.size (.own (.arg 2 0) 1 0 g'.shr.length) (.own (.arg 3 0) 0 0 g.maxes.length) (.own (.arg 4 0) 0 0 g.highs.length) g.refused, .arr 4 (g.stk.hs.map Hg.pv), .box [.undef, .fresh 4 (g'.shr.map Sh.pv)], .arr 1 (g.maxes.map (.int .i64)), .arr 1 (g.highs.map (.int .i64))]
set_option maxHeartbeats 4000000 in
theorem gshrink_eq {t : Tr} {l : List Mc} {g : Gw} (hg : StkOk t g.stk) (hl : McOk t.nodes l) {id n : Int} (hid : InN t.nodes id) (hn : 0 ≤ n) (hn1 : n < 4611686018427387904) (hsl : g.shr.length < 1000000) : V 57 [.ptr (.arg 0 0) 0 0, .p (.int .i64 id), .p (.int .i64 n)] (grwH t l g) = some (.tup [], shrH t l g (shrG t l g id n)) := by
 refine V_wp (vf := vf57) rfl ?_
 have hlen := hg.tree.len
 have hhl := hg.hs.length
 have hll := hl.length
 have hpl := (prsM_ok hl).length
 have hcl := (chsM_ok hl).length
 have h1 := mprots_eq l (by omega)
 have h2 := mswaps_eq l (by omega)
 have h3 := shrink_eq t g.stk (prsM l) (chsM l) id (min n 16777216) hg.tree.fits (by omega) (by omega) (by omega) (by omega)
 have hk := (shk_ok (t := t) (sw := g.stk) (p := prsM l) (l := chsM l) (root := id) (n := min n 16777216) ⟨hg, prsM_ok hl, chsM_ok hl, hid⟩ (by omega) (by omega)).1.len
 unfold shrG
 generalize ShrinkS t g.stk (prsM l) (chsM l) id (min n 16777216) = X at h3 hk ⊢
 obtain ⟨⟨x, z⟩, a, e⟩ := X
 obtain ⟨⟨hs, z0⟩, shr, mx, hi, rf⟩ := g
 simp only [Stk.vv, Stk.fv] at h3 hk ⊢
 have hta : List.take shr.length (shr.map Sh.pv) = shr.map Sh.pv := List.take_of_length_le (by simp)
 simp only at hsl
 simp -implicitDefEqProofs (disch:=omega) only [vf57,vb57,h1,h2,h3,List.length_map,hta,List.map_append,List.length_append,go_sem,↓reduceIte,reduceAdd,reduceSub,reduceEqDiff,reduceLeDiff,reduceCtorEq]
 all_goals first | rfl | simp
set_option maxHeartbeats 2000000 in
theorem sPut_ok {t : Tr} {sw : Stk} {h : Hg} (hs : StkOk t sw) (hid : InN t.nodes h.group) (h1 : inPg h.file) (h2 : inPg h.anon) (h3 : inPg h.swap) (hx : StkOk t ⟨putS sw.hs h, sw.size⟩) : V 54 [t.vv, sw.vv, h.vv] [] = some (.tup [Stk.fv ⟨putS sw.hs h, sw.size⟩, .p (.int .i64 0)], []) := by
 refine V_wp (vf := vf54) rfl ?_
 have hlen := hs.tree.len
 have hsl := hs.hs.length
 have hxl : (putS sw.hs h).length ≤ t.nodes.length := hx.hs.length
 have hck := scheck_eq t sw h.group hs.tree.fits (by omega) (by omega)
 obtain ⟨i, m, hm, hme⟩ := hid
 rw [checkS_zero.2 ⟨hs, i, m, hm, hme⟩] at hck
 have hput := sput_eq sw h (by omega)
 have hv := svalid_eq t ⟨putS sw.hs h, sw.size⟩ hs.tree.fits (by omega) (by show (putS sw.hs h).length < _; omega)
 rw [(validS_iff _ _).2 hx] at hv
 have p1 := spages_eq h.file
 have p2 := spages_eq h.anon
 have p3 := spages_eq h.swap
 rw [show pagesB h.file = true by simp [pagesB, h1.1, h1.2]] at p1
 rw [show pagesB h.anon = true by simp [pagesB, h2.1, h2.2]] at p2
 rw [show pagesB h.swap = true by simp [pagesB, h3.1, h3.2]] at p3
 obtain ⟨hg, hf, ha, hw⟩ := h
 simp only [Stk.vv, Stk.fv, Hg.vv] at hck hput hv p1 p2 p3 ⊢
 generalize putS sw.hs ⟨hg, hf, ha, hw⟩ = y at *
 simp -implicitDefEqProofs (disch:=omega) only [vf54,vb54,hck,p1,p2,p3,hput,hv,go_sem,↓reduceIte,reduceAdd,reduceSub,reduceEqDiff,reduceLeDiff,reduceCtorEq]
set_option maxHeartbeats 2000000 in
theorem mcheck_ok {t : Tr} {sw : Stk} {l : List Mc} (hs : StkOk t sw) (hl : McOk t.nodes l) {id : Int} (hid : InN t.nodes id) : V 41 [t.vv, sw.vv, .p (mcsP l), .p (.int .i64 id)] [] = some (.p (.int .i64 0), []) := by
 refine V_wp (vf := vf41) rfl ?_
 have hlen := hs.tree.len
 have hsl := hs.hs.length
 have hv := svalid_eq t sw hs.tree.fits (by omega) (by omega)
 rw [(validS_iff _ _).2 hs] at hv
 have hm := mvalid_ok hs.tree hl
 have hfi := ffind_eq t id (by omega)
 rw [found_in hs.tree hid] at hfi
 generalize (findN t.nodes id).getD zeroNd = nd at hfi
 simp only [Nd.vv] at hfi
 simp -implicitDefEqProofs (disch:=omega) only [vf41,vb41,hv,hm,hfi,go_sem,↓reduceIte,reduceAdd,reduceSub,reduceEqDiff,reduceLeDiff,reduceCtorEq]
end Go.V
