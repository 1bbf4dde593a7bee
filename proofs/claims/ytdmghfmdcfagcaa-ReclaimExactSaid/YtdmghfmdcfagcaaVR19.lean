/- What is taken from each subtree. Plain. -/
import Derived.Test.YtdmghfmdcfagcaaVR18
import Derived.Test.YtdmghfmdcfagcaaVG2
set_option linter.unusedSimpArgs false
set_option linter.unusedVariables false
namespace Go.V

theorem capN_fuel {t : Tr} (h : TreeOk t) (l : List Pt) : ∀ (k k' i : Nat) (n : Nd), t.nodes[i]? = some n → t.nodes.length ≤ i + k → t.nodes.length ≤ i + k' → capN t.nodes l k n.id = capN t.nodes l k' n.id := by
  intro k
  induction k with
  | zero => intro k' i n hn hk; have := (List.getElem?_eq_some_iff.1 hn).1; omega
  | succ k ih =>
    intro k' i n hn hk hk'
    cases k' with
    | zero => have := (List.getElem?_eq_some_iff.1 hn).1; omega
    | succ k' =>
      rw [capN_succ, capN_succ]
      congr 1
      refine sumI_congr fun c hc => ?_
      obtain ⟨j, m, hj, hp, rfl⟩ := mem_kidsN.1 hc
      have hij := h.kid hn hj hp
      exact ih k' j m hj (by omega) (by omega)
theorem anc_trans {t : Tr} (h : TreeOk t) : ∀ (i : Nat) (n : Nd), t.nodes[i]? = some n → ∀ (j : Nat) (m : Nd), t.nodes[j]? = some m → m.id ∈ ancF t.nodes t.nodes.length n.id → ∀ c ∈ ancF t.nodes t.nodes.length m.id, c ∈ ancF t.nodes t.nodes.length n.id := by
  intro i
  induction i using Nat.strongRecOn with
  | _ i ih =>
    intro n hn j m hm ha c hc
    rcases (anc_iff h hn m.id).1 ha with he | ⟨hi, ha⟩
    · rw [he] at hc
      exact hc
    · refine (anc_iff h hn c).2 (Or.inr ⟨hi, ?_⟩)
      rcases h.nodeAt hn with ⟨h0, _⟩ | ⟨_, _, j', p, hj', hp, he⟩
      · exact absurd h0 hi
      · rw [← he] at ha ⊢
        exact ih j' hj' p hp j m hm ha c hc
abbrev subA (t : Tr) (id : Int) : List Int := subF t.nodes t.nodes.length id
theorem subA_in {t : Tr} (h : TreeOk t) {g x : Int} (hg : InN t.nodes g) (hx : x ∈ subA t g) : InN t.nodes x := by
  obtain ⟨i, n, hn, rfl⟩ := hg
  obtain ⟨j, m, hj, he, _⟩ := (mem_subF h _ i n hn (by omega) x).1 hx
  exact ⟨j, m, hj, he⟩
theorem subA_self {t : Tr} (h : TreeOk t) {g : Int} (hg : InN t.nodes g) : g ∈ subA t g := by
  rw [subA, subF_step h hg]
  simp
theorem subA_sub {t : Tr} (h : TreeOk t) {g c x : Int} (hg : InN t.nodes g) (hc : c ∈ subA t g) (hx : x ∈ subA t c) : x ∈ subA t g := by
  obtain ⟨i, n, hn, rfl⟩ := hg
  obtain ⟨j, m, hj, rfl, ha⟩ := (mem_subF h _ i n hn (by omega) c).1 hc
  obtain ⟨j', m', hj', rfl, ha'⟩ := (mem_subF h _ j m hj (by omega) x).1 hx
  exact (mem_subF h _ i n hn (by omega) _).2 ⟨j', m', hj', rfl, anc_trans h j' m' hj' j m hj ha' _ ha⟩
theorem mem_anc {t : Tr} (h : TreeOk t) {g x : Int} (hg : InN t.nodes g) (hx : InN t.nodes x) : g ∈ ancR t x ↔ x ∈ subA t g := by
  obtain ⟨i, n, hn, rfl⟩ := hg
  obtain ⟨j, m, hj, rfl⟩ := hx
  rw [ancR_anc h hj, mem_subF h _ i n hn (by omega)]
  constructor
  · exact fun ha => ⟨j, m, hj, rfl, ha⟩
  · rintro ⟨j', m', hj', he, ha⟩
    rw [← he]
    exact ha
theorem kid_in {t : Tr} {g c : Int} (hc : c ∈ kidsN t.nodes g) : InN t.nodes c := by
  obtain ⟨j, m, hj, _, rfl⟩ := mem_kidsN.1 hc
  exact ⟨j, m, hj, rfl⟩
theorem subA_cons {t : Tr} (h : TreeOk t) {g : Int} (hg : InN t.nodes g) : subA t g = g :: (kidsN t.nodes g).flatMap (subA t) := subF_step h hg
theorem subA_nodup {t : Tr} (h : TreeOk t) {g : Int} (hg : InN t.nodes g) : (subA t g).Nodup := by
  obtain ⟨i, n, hn, rfl⟩ := hg
  exact nodup_subF h _ i n hn (by omega)
theorem capR_step {t : Tr} (h : TreeOk t) (l : List Pt) {g : Int} (hg : InN t.nodes g) : capR t l g = capF (partOf l g) (sumI ((kidsN t.nodes g).map (capR t l))) := by
  obtain ⟨i, n, hn, rfl⟩ := hg
  have hl := (List.getElem?_eq_some_iff.1 hn).1
  rw [capR, capN_fuel h l t.nodes.length (t.nodes.length + 1) i n hn (by omega) (by omega), capN_succ]

/-! ### sums over the groups of a list -/

def sumOn (S : List Int) (l : List (Int × Int)) : Int := sumI (l.map fun p => if p.1 ∈ S then p.2 else 0)
theorem sumOn_append (S : List Int) (a b : List (Int × Int)) : sumOn S (a ++ b) = sumOn S a + sumOn S b := by
  rw [sumOn, List.map_append, sumI_append]
  rfl
theorem sumOn_zero {S : List Int} : ∀ {l : List (Int × Int)}, (∀ q ∈ l, q.1 ∉ S) → sumOn S l = 0
  | [], _ => rfl
  | q :: l, h => by
    have ih := sumOn_zero (l := l) fun q hq => h q (by simp [hq])
    have h1 := h q (by simp)
    rw [sumOn] at ih ⊢
    rw [List.map_cons, if_neg h1, sumI, ih]
    rfl
theorem sumOn_all {S : List Int} : ∀ {l : List (Int × Int)}, (∀ q ∈ l, q.1 ∈ S) → sumOn S l = sumI (l.map Prod.snd)
  | [], _ => rfl
  | q :: l, h => by
    have ih := sumOn_all (l := l) fun q hq => h q (by simp [hq])
    have h1 := h q (by simp)
    rw [sumOn] at ih ⊢
    rw [List.map_cons, if_pos h1, sumI, ih, List.map_cons, sumI]
theorem sumI_perm {a b : List Int} (h : a.Perm b) : sumI a = sumI b := by
  induction h with
  | nil => rfl
  | cons x _ ih => simp only [sumI, ih]
  | swap x y l => simp only [sumI]; omega
  | trans _ _ ih1 ih2 => rw [ih1, ih2]
theorem sumOn_perm {S : List Int} {a b : List (Int × Int)} (h : a.Perm b) : sumOn S a = sumOn S b := sumI_perm (h.map _)
theorem sumOn_nonneg {S : List Int} {l : List (Int × Int)} (h : ∀ q ∈ l, 0 ≤ q.2) : 0 ≤ sumOn S l := by
  refine sumI_map_nonneg _ fun q hq => ?_
  have := h q hq
  split <;> omega
theorem sumOn_cons {x : Int} {S : List Int} (hx : x ∉ S) : ∀ (l : List (Int × Int)), sumOn (x :: S) l = sumOn [x] l + sumOn S l
  | [] => rfl
  | q :: l => by
    have ih := sumOn_cons hx l
    simp only [sumOn, List.map_cons, sumI, List.mem_cons, List.not_mem_nil, or_false] at ih ⊢
    by_cases h1 : q.1 = x
    · simp only [h1, true_or, if_true, if_neg hx] at ih ⊢
      omega
    · simp only [h1, false_or, if_false] at ih ⊢
      omega
theorem sumOn_union {A B : List Int} (h : ∀ x ∈ A, x ∉ B) : ∀ (l : List (Int × Int)), sumOn (A ++ B) l = sumOn A l + sumOn B l
  | [] => rfl
  | q :: l => by
    have ih := sumOn_union h l
    simp only [sumOn, List.map_cons, sumI, List.mem_append] at ih ⊢
    by_cases h1 : q.1 ∈ A
    · simp only [h1, true_or, if_true, if_neg (h _ h1)] at ih ⊢
      omega
    · simp only [h1, false_or, if_false] at ih ⊢
      omega
theorem sumOn_flat {G : Int → List Int} (l : List (Int × Int)) : ∀ (ks : List Int), (ks.flatMap G).Nodup → sumOn (ks.flatMap G) l = sumI (ks.map fun c => sumOn (G c) l)
  | [], _ => sumOn_zero (by simp)
  | c :: ks, hn => by
    rw [List.flatMap_cons] at hn ⊢
    obtain ⟨_, h2, h3⟩ := List.nodup_append.1 hn
    rw [sumOn_union (fun x hx hx' => h3 x hx x hx' rfl), sumOn_flat l ks h2, List.map_cons, sumI]
theorem zip_groups {F : Int × Int → List (Int × Int)} {G : Int → List Int} (hF : ∀ p, ∀ q ∈ F p, q.1 ∈ G p.1) : ∀ (ks gs : List Int), ∀ q ∈ (ks.zip gs).flatMap F, q.1 ∈ ks.flatMap G := by
  intro ks gs q hq
  obtain ⟨p, hp, hq⟩ := List.mem_flatMap.1 hq
  exact List.mem_flatMap.2 ⟨p.1, (List.of_mem_zip hp).1, hF p q hq⟩
/-- Of several parts only one has to do with some groups. -/
theorem sumOn_zip {S : List Int} {F : Int × Int → List (Int × Int)} {G : Int → List Int} (hF : ∀ p, ∀ q ∈ F p, q.1 ∈ G p.1) : ∀ (ks gs : List Int) (j : Nat) (c gk : Int), (ks.flatMap G).Nodup → ks[j]? = some c → gs[j]? = some gk → (∀ x ∈ S, x ∈ G c) → sumOn S ((ks.zip gs).flatMap F) = sumOn S (F (c, gk))
  | [], _, _, _, _, _, h, _, _ => by simp at h
  | _ :: _, [], _, _, _, _, _, h, _ => by simp at h
  | k0 :: ks, g0 :: gs, 0, c, gk, hn, hk, hg, hS => by
    simp only [List.getElem?_cons_zero, Option.some.injEq] at hk hg
    subst hk
    subst hg
    rw [List.flatMap_cons] at hn
    obtain ⟨_, _, h3⟩ := List.nodup_append.1 hn
    rw [List.zip_cons_cons, List.flatMap_cons, sumOn_append, sumOn_zero (l := (ks.zip gs).flatMap F), Int.add_zero]
    intro q hq hqS
    exact h3 q.1 (hS _ hqS) q.1 (zip_groups hF ks gs q hq) rfl
  | k0 :: ks, g0 :: gs, j + 1, c, gk, hn, hk, hg, hS => by
    simp only [List.getElem?_cons_succ] at hk hg
    rw [List.flatMap_cons] at hn
    obtain ⟨_, h2, h3⟩ := List.nodup_append.1 hn
    rw [List.zip_cons_cons, List.flatMap_cons, sumOn_append, sumOn_zero (l := F (k0, g0)), Int.zero_add]
    · exact sumOn_zip hF ks gs j c gk h2 hk hg hS
    · intro q hq hqS
      exact h3 q.1 (hF _ q hq) q.1 (List.mem_flatMap.2 ⟨c, List.mem_of_getElem? hk, hS _ hqS⟩) rfl
theorem zip_sum {F : Int × Int → List (Int × Int)} : ∀ (ks gs : List Int), gs.length = ks.length → (∀ (j : Nat) (c gk : Int), ks[j]? = some c → gs[j]? = some gk → sumI ((F (c, gk)).map Prod.snd) = gk) → sumI (((ks.zip gs).flatMap F).map Prod.snd) = sumI gs
  | [], [], _, _ => rfl
  | [], _ :: _, h, _ => by simp at h
  | _ :: _, [], h, _ => by simp at h
  | k :: ks, g :: gs, hl, h => by
    have ih := zip_sum (F := F) ks gs (by simpa using hl) fun j c gk hc hg => h (j + 1) c gk (by simpa using hc) (by simpa using hg)
    have h0 := h 0 k g rfl rfl
    rw [List.zip_cons_cons, List.flatMap_cons, List.map_append, sumI_append, ih, h0]
    rfl

/-! ### what is taken -/

structure TakeOk (t : Tr) (l : List Pt) (k : Nat) (g K : Int) : Prop where
  all : sumI ((takeN t.nodes l (capR t l) k g K).map Prod.snd) = K
  own : ∀ q ∈ takeN t.nodes l (capR t l) k g K, 0 < q.2 ∧ q.2 ≤ (partOf l q.1).own
  sub : ∀ c ∈ subF t.nodes k g, sumOn (subA t c) (takeN t.nodes l (capR t l) k g K) ≤ capR t l c

theorem cap_le_sum {t : Tr} (h : TreeOk t) {l : List Pt} {g : Int} (hg : InN t.nodes g) : capR t l g ≤ sumI ((partOf l g).own :: (kidsN t.nodes g).map (capR t l)) := by
  rw [capR_step h l hg, capF, sumI]
  omega
theorem shares_nonneg {t : Tr} {l : List Pt} (hp : ∀ x ∈ l, PtOk x) (g : Int) (ks : List Int) : ∀ x ∈ (partOf l g).own :: ks.map (capR t l), 0 ≤ x := by
  intro x hx
  rcases List.mem_cons.1 hx with rfl | hx
  · exact (partOf_ok hp g).o0
  · obtain ⟨c, _, rfl⟩ := List.mem_map.1 hx
    exact (capN_bound (ns := t.nodes) hp t.nodes.length c).1

theorem takeN_groups (ns : List Nd) (l : List Pt) (cap : Int → Int) (k : Nat) (g K : Int) : ∀ q ∈ takeN ns l cap k g K, q.1 ∈ subF ns k g := fun _ hq => (takeN_sub ns l cap k g K).subset (List.mem_map.2 ⟨_, hq, rfl⟩)

theorem take_main {t : Tr} (h : TreeOk t) {l : List Pt} (hp : ∀ x ∈ l, PtOk x) : ∀ (k i : Nat) (n : Nd) (K : Int), t.nodes[i]? = some n → t.nodes.length ≤ i + k → 0 ≤ K → K ≤ capR t l n.id →
    TakeOk t l k n.id K ∧ ∀ (m k' : Nat) (c : Int), k = k' + 1 → (kidsN t.nodes n.id)[m]? = some c → ∃ z, (splitP K ((partOf l n.id).own :: (kidsN t.nodes n.id).map (capR t l)))[m + 1]? = some z ∧ sumOn (subA t c) (takeN t.nodes l (capR t l) k n.id K) = z := by
  intro k
  induction k with
  | zero => intro i n K hn hk; have := (List.getElem?_eq_some_iff.1 hn).1; omega
  | succ k ih =>
    intro i n K hn hk h0 h1
    have hin : InN t.nodes n.id := ⟨i, n, hn, rfl⟩
    have hnn := shares_nonneg (t := t) hp n.id (kidsN t.nodes n.id)
    have hle := Int.le_trans h1 (cap_le_sum h (l := l) hin)
    have hsum := split_sum hnn h0 hle
    have hat := fun (j : Nat) (x : Int) hj => split_at hnn h0 hle (i := j) (x := x) hj
    have hsl := splitP_length K ((partOf l n.id).own :: (kidsN t.nodes n.id).map (capR t l))
    have hnd := subA_nodup h hin
    rw [subA_cons h hin, List.nodup_cons] at hnd
    have hkf : ∀ c ∈ kidsN t.nodes n.id, subF t.nodes k c = subA t c := by
      intro c hc
      obtain ⟨j, m, hj, hpar, rfl⟩ := mem_kidsN.1 hc
      have hij := h.kid hn hj hpar
      exact subF_fuel h k t.nodes.length j m hj (by omega) (by omega)
    have hfl : (kidsN t.nodes n.id).flatMap (subF t.nodes k) = (kidsN t.nodes n.id).flatMap (subA t) := flatMap_congr_mem hkf
    have hrec : ∀ c ∈ kidsN t.nodes n.id, ∀ K', 0 ≤ K' → K' ≤ capR t l c → TakeOk t l k c K' := by
      intro c hc K' h0' h1'
      obtain ⟨j, m, hj, hpar, rfl⟩ := mem_kidsN.1 hc
      have hij := h.kid hn hj hpar
      exact (ih j m K' hj (by omega) h0' h1').1
    generalize hsp : splitP K ((partOf l n.id).own :: (kidsN t.nodes n.id).map (capR t l)) = sp at hsum hat hsl
    rcases sp with - | ⟨g0, gs⟩
    · simp at hsl
    have hgl : gs.length = (kidsN t.nodes n.id).length := by simpa using hsl
    have hg0 : 0 ≤ g0 ∧ g0 ≤ (partOf l n.id).own := by
      obtain ⟨z, hz, a, b, _⟩ := hat 0 _ rfl
      have : g0 = z := by simpa using hz
      subst this
      exact ⟨a, b⟩
    have hgs : ∀ (j : Nat) (c gk : Int), (kidsN t.nodes n.id)[j]? = some c → gs[j]? = some gk → 0 ≤ gk ∧ gk ≤ capR t l c := by
      intro j c gk hc hg
      obtain ⟨z, hz, a, b, _⟩ := hat (j + 1) (capR t l c) (by rw [List.getElem?_cons_succ, List.getElem?_map, hc]; rfl)
      rw [List.getElem?_cons_succ, hg] at hz
      simp only [Option.some.injEq] at hz
      subst hz
      exact ⟨a, b⟩
    have htk : takeN t.nodes l (capR t l) (k + 1) n.id K = (if 0 < g0 then [(n.id, g0)] else []) ++ ((kidsN t.nodes n.id).zip gs).flatMap fun p => if 0 < p.2 then takeN t.nodes l (capR t l) k p.1 p.2 else [] := by
      rw [takeN, hsp]
      rfl
    obtain ⟨F, hF⟩ : ∃ F : Int × Int → List (Int × Int), F = fun p => if 0 < p.2 then takeN t.nodes l (capR t l) k p.1 p.2 else [] := ⟨_, rfl⟩
    rw [← hF] at htk
    have hFp : ∀ a b, 0 < b → F (a, b) = takeN t.nodes l (capR t l) k a b := fun a b hb => by rw [hF]; exact if_pos hb
    have hFn : ∀ a b, ¬ 0 < b → F (a, b) = [] := fun a b hb => by rw [hF]; exact if_neg hb
    have hFg : ∀ p, ∀ q ∈ F p, q.1 ∈ subF t.nodes k p.1 := by
      intro p q hq
      by_cases hb : 0 < p.2
      · rw [hFp _ _ hb] at hq
        exact takeN_groups _ _ _ _ _ _ q hq
      · rw [hFn _ _ hb] at hq
        simp at hq
    have hFs : ∀ (j : Nat) (c gk : Int), (kidsN t.nodes n.id)[j]? = some c → gs[j]? = some gk → sumI ((F (c, gk)).map Prod.snd) = gk := by
      intro j c gk hc hg
      have hb := hgs j c gk hc hg
      by_cases hpos : 0 < gk
      · rw [hFp _ _ hpos]
        exact (hrec c (List.mem_of_getElem? hc) gk hb.1 hb.2).all
      · rw [hFn _ _ hpos]
        simp only [List.map_nil, sumI]
        omega
    have hgrp : ∀ q ∈ ((kidsN t.nodes n.id).zip gs).flatMap F, q.1 ∈ (kidsN t.nodes n.id).flatMap (subA t) := fun q hq => hfl ▸ zip_groups hFg _ _ q hq
    have hz := zip_sum (F := F) _ _ hgl hFs
    have hhead : ∀ S : List Int, n.id ∉ S → sumOn S (if 0 < g0 then [(n.id, g0)] else []) = 0 := fun S hS => sumOn_zero fun q hq => by
      split at hq
      · have : q = (n.id, g0) := by simpa using hq
        rw [this]
        exact hS
      · simp at hq
    have hone : ∀ (j : Nat) (c gk : Int), (kidsN t.nodes n.id)[j]? = some c → gs[j]? = some gk → ∀ S : List Int, (∀ x ∈ S, x ∈ subA t c) → sumOn S (takeN t.nodes l (capR t l) (k + 1) n.id K) = sumOn S (F (c, gk)) := by
      intro j c gk hc hg S hS
      have hcm := List.mem_of_getElem? hc
      rw [htk, sumOn_append, hhead S (fun hx => hnd.1 (List.mem_flatMap.2 ⟨c, hcm, hS _ hx⟩)), Int.zero_add]
      exact sumOn_zip hFg _ _ j c gk (hfl ▸ hnd.2) hc hg (fun x hx => by rw [hkf c hcm]; exact hS x hx)
    have hall : sumI ((takeN t.nodes l (capR t l) (k + 1) n.id K).map Prod.snd) = K := by
      rw [htk, List.map_append, sumI_append, hz]
      simp only [sumI] at hsum
      split
      · simp only [List.map_cons, List.map_nil, sumI]
        omega
      · simp only [List.map_nil, sumI]
        omega
    refine ⟨⟨hall, fun q hq => ?_, fun c hc => ?_⟩, fun m k' c _ hc => ?_⟩
    · rw [htk] at hq
      rcases List.mem_append.1 hq with hq | hq
      · split at hq
        · have : q = (n.id, g0) := by simpa using hq
          subst this
          exact ⟨by assumption, hg0.2⟩
        · simp at hq
      · obtain ⟨p, hpz, hq⟩ := List.mem_flatMap.1 hq
        by_cases hb : 0 < p.2
        · rw [hFp _ _ hb] at hq
          obtain ⟨j, hj⟩ := List.getElem?_of_mem hpz
          have hzz : (kidsN t.nodes n.id)[j]? = some p.1 ∧ gs[j]? = some p.2 := by
            rw [List.getElem?_zip_eq_some] at hj
            exact hj
          have hb2 := hgs j _ _ hzz.1 hzz.2
          exact (hrec p.1 (List.mem_of_getElem? hzz.1) p.2 hb2.1 hb2.2).own q hq
        · rw [hFn _ _ hb] at hq
          simp at hq
    · rw [subF, List.mem_cons] at hc
      rcases hc with rfl | hc
      · rw [sumOn_all (fun q hq => ?_), hall]
        · exact h1
        · rw [subA_cons h hin]
          have := takeN_groups _ _ _ _ _ _ q hq
          rw [subF, hfl] at this
          exact this
      · obtain ⟨d, hd, hc⟩ := List.mem_flatMap.1 hc
        obtain ⟨j, hj⟩ := List.getElem?_of_mem hd
        have hjl := (List.getElem?_eq_some_iff.1 hj).1
        have hg : gs[j]? = some gs[j] := List.getElem?_eq_getElem (by omega)
        generalize gs[j] = gk at hg
        have hb := hgs j d gk hj hg
        rw [hone j d gk hj hg _ (fun x hx => subA_sub h (kid_in hd) (by rw [← hkf d hd]; exact hc) hx)]
        by_cases hpos : 0 < gk
        · rw [hFp _ _ hpos]
          exact (hrec d hd gk hb.1 hb.2).sub c hc
        · rw [hFn _ _ hpos]
          exact (capN_bound (ns := t.nodes) hp t.nodes.length c).1
    · have hjl := (List.getElem?_eq_some_iff.1 hc).1
      have hg : gs[m]? = some gs[m] := List.getElem?_eq_getElem (by omega)
      generalize gs[m] = gk at hg
      refine ⟨gk, by rw [List.getElem?_cons_succ, hg], ?_⟩
      have hb := hgs m c gk hc hg
      have hcm := List.mem_of_getElem? hc
      rw [hone m c gk hc hg _ (fun x hx => hx)]
      refine (sumOn_all fun q hq => ?_).trans (hFs m c gk hc hg)
      have := hFg (c, gk) q hq
      rw [hkf c hcm] at this
      exact this
end Go.V

