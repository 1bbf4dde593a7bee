/- Charges: plain laws of totals. -/
/- The value machine V at work: charges of a group itself. -/
/- The value machine V at work: the check of charges. -/
/- The value machine V at work: the totals of all groups. -/
/- The value machine V at work: totals and additions. -/
/- Lists that ascend, checked element by element. Plain. -/
/- The value machine V at work: lists that are the same, limits. -/
/- The value machine V at work: charges below limits. -/
/- The value machine V at work: the reference's charges. -/
import Derived.Test.YtdmghfmdcfagcaaVU
set_option linter.unusedSimpArgs false
set_option linter.unusedVariables false
namespace Go.V

structure Ch where
  group : Int
  own : Int
  deriving DecidableEq
def Ch.pv (c : Ch) : PV := .agg [.int .i64 c.group, .int .i64 c.own]
abbrev Ch.vv (c : Ch) : VVal := .agg [.p (.int .i64 c.group), .p (.int .i64 c.own)]
abbrev chsP (l : List Ch) : PV := .slice 2 (l.map Ch.pv)
attribute [go_sem] Ch.pv
theorem chs_flat (l : List Ch) : (l.map Ch.pv).all PV.flat = true := by
  rw [List.all_eq_true]
  intro x hx
  obtain ⟨n, _, rfl⟩ := List.mem_map.1 hx
  rfl
attribute [go_sem] chs_flat

/-! ### sums of lists -/

def sumI : List Int → Int
  | [] => 0
  | x :: xs => x + sumI xs
theorem sumI_append : ∀ (a b : List Int), sumI (a ++ b) = sumI a + sumI b
  | [], b => by simp [sumI]
  | x :: a, b => by have := sumI_append a b; simp only [List.cons_append, sumI]; omega
theorem sumI_nonneg : ∀ (a : List Int), (∀ x ∈ a, 0 ≤ x) → 0 ≤ sumI a
  | [], _ => Int.le_refl _
  | x :: a, h => by
    have := sumI_nonneg a (fun y hy => h y (List.mem_cons_of_mem _ hy))
    have := h x (List.mem_cons_self ..)
    simp only [sumI]; omega
theorem sumI_map_nonneg {α : Type} {f : α → Int} (a : List α) (h : ∀ x ∈ a, 0 ≤ f x) : 0 ≤ sumI (a.map f) := sumI_nonneg _ (fun x hx => by
  obtain ⟨y, hy, rfl⟩ := List.mem_map.1 hx
  exact h y hy)
theorem sumI_flatMap {α : Type} (f : Int → Int) (g : α → List Int) : ∀ (a : List α), sumI ((a.flatMap g).map f) = sumI (a.map fun x => sumI ((g x).map f))
  | [] => rfl
  | x :: a => by
    have := sumI_flatMap f g a
    simp only [List.flatMap_cons, List.map_append, sumI_append, List.map_cons, sumI, this]
theorem sumI_take_succ {α : Type} {f : α → Int} {l : List α} {k : Nat} {x : α} (h : l[k]? = some x) : sumI ((l.take (k + 1)).map f) = sumI ((l.take k).map f) + f x := by
  rw [List.take_add_one, h]
  simp [sumI_append, sumI]
theorem sumI_take_le {α : Type} {f : α → Int} (l : List α) (k : Nat) (h : ∀ x ∈ l, 0 ≤ f x) : sumI ((l.take k).map f) ≤ sumI (l.map f) := by
  have h1 : sumI (l.map f) = sumI ((l.take k).map f) + sumI ((l.drop k).map f) := by
    rw [← sumI_append, ← List.map_append, List.take_append_drop]
  have h2 := sumI_map_nonneg (l.drop k) (f := f) (fun x hx => h x (List.mem_of_mem_drop hx))
  omega
theorem sumI_congr {α : Type} {f g : α → Int} {l : List α} (h : ∀ x ∈ l, f x = g x) : sumI (l.map f) = sumI (l.map g) := by
  rw [List.map_congr_left h]

/-! ### charges -/

def ownC : List Ch → Int → Int
  | [], _ => 0
  | c :: l, id => if c.group = id then c.own else ownC l id

def prevOk (p : Option Int) (g : Int) : Bool := match p with | none => true | some q => decide (q < g)
def chOk (ns : List Nd) : Option Int → Int → List Ch → Bool
  | _, _, [] => true
  | p, s, c :: l => (findN ns c.group).isSome && prevOk p c.group && decide (1 ≤ c.own) && decide (c.own ≤ 16777216 - s) && chOk ns (some c.group) (s + c.own) l

theorem chOk_cons (ns : List Nd) (p : Option Int) (s : Int) (c : Ch) (l : List Ch) : chOk ns p s (c :: l) = ((findN ns c.group).isSome && prevOk p c.group && decide (1 ≤ c.own) && decide (c.own ≤ 16777216 - s) && chOk ns (some c.group) (s + c.own) l) := by simp only [chOk]
theorem chOk_nil (ns : List Nd) (p : Option Int) (s : Int) : chOk ns p s [] = true := by simp only [chOk]
structure ChOk (ns : List Nd) (l : List Ch) : Prop where
  known : ∀ c ∈ l, (findN ns c.group).isSome = true
  inc : l.Pairwise fun a b => a.group < b.group
  pos : ∀ c ∈ l, 1 ≤ c.own
  all : sumI (l.map (·.own)) ≤ 16777216

theorem chOk_iff' (ns : List Nd) : ∀ (l : List Ch) (p : Option Int) (s : Int), s ≤ 16777216 → (chOk ns p s l = true ↔
    (∀ c ∈ l, (findN ns c.group).isSome = true) ∧ (l.Pairwise fun a b => a.group < b.group) ∧ (∀ q, p = some q → ∀ c ∈ l, q < c.group) ∧ (∀ c ∈ l, 1 ≤ c.own) ∧ s + sumI (l.map (·.own)) ≤ 16777216)
  | [], p, s, hs => by simp [chOk, sumI]; omega
  | c :: l, p, s, hs => by
    have hp : prevOk p c.group = true ↔ ∀ q, p = some q → q < c.group := by
      cases p <;> simp [prevOk]
    simp only [chOk, Bool.and_eq_true, decide_eq_true_eq, hp, List.mem_cons, forall_eq_or_imp, List.pairwise_cons, List.map_cons, sumI]
    constructor
    · rintro ⟨⟨⟨⟨h1, h2⟩, h3⟩, h4⟩, h5⟩
      obtain ⟨a1, a2, a3, a4, a5⟩ := (chOk_iff' ns l (some c.group) (s + c.own) (by omega)).1 h5
      refine ⟨⟨h1, a1⟩, ⟨a3 _ rfl, a2⟩, fun q hq => ⟨h2 q hq, fun d hd => ?_⟩, ⟨h3, a4⟩, by omega⟩
      have := h2 q hq
      have := a3 _ rfl d hd
      omega
    · rintro ⟨⟨h1, a1⟩, ⟨a3, a2⟩, h2, ⟨h3, a4⟩, h5⟩
      have hn := sumI_map_nonneg l (f := (·.own)) (fun x hx => by have := a4 x hx; omega)
      refine ⟨⟨⟨⟨h1, fun q hq => (h2 q hq).1⟩, h3⟩, by omega⟩, (chOk_iff' ns l (some c.group) (s + c.own) (by omega)).2 ⟨a1, a2, fun q hq => ?_, a4, by omega⟩⟩
      cases hq
      exact a3
theorem chOk_iff (ns : List Nd) (l : List Ch) : chOk ns none 0 l = true ↔ ChOk ns l := by
  rw [chOk_iff' ns l none 0 (by omega)]
  constructor
  · rintro ⟨a, b, _, d, e⟩
    exact ⟨a, b, d, by omega⟩
  · rintro ⟨a, b, d, e⟩
    exact ⟨a, b, fun q hq => by simp at hq, d, by omega⟩

theorem ownC_nonneg {l : List Ch} (h : ∀ c ∈ l, 1 ≤ c.own) (id : Int) : 0 ≤ ownC l id := by
  induction l with
  | nil => exact Int.le_refl _
  | cons c l ih =>
    unfold ownC
    split
    · have := h c (List.mem_cons_self ..); omega
    · exact ih (fun d hd => h d (List.mem_cons_of_mem _ hd))
theorem ownC_zero {l : List Ch} {id : Int} (h : ∀ c ∈ l, c.group ≠ id) : ownC l id = 0 := by
  induction l with
  | nil => rfl
  | cons c l ih =>
    unfold ownC
    rw [if_neg (h c (List.mem_cons_self ..))]
    exact ih (fun d hd => h d (List.mem_cons_of_mem _ hd))
theorem ownC_le {l : List Ch} (h : ∀ c ∈ l, 1 ≤ c.own) (id : Int) : ownC l id ≤ sumI (l.map (·.own)) := by
  induction l with
  | nil => exact Int.le_refl _
  | cons c l ih =>
    have h0 := h c (List.mem_cons_self ..)
    have hl := fun d hd => h d (List.mem_cons_of_mem c hd)
    have h1 := ih hl
    have h2 := sumI_map_nonneg l (f := (·.own)) (fun x hx => by have := hl x hx; omega)
    unfold ownC
    simp only [List.map_cons, sumI]
    split <;> omega

theorem sum_upd (f : Int → Int) (g v : Int) : ∀ (xs : List Int), xs.Nodup → sumI (xs.map fun x => if x = g then v else f x) = sumI (xs.map f) + if g ∈ xs then v - f g else 0
  | [], _ => by simp [sumI]
  | x :: xs, h => by
    obtain ⟨hx, hn⟩ := List.nodup_cons.1 h
    have ih := sum_upd f g v xs hn
    simp only [List.map_cons, sumI, ih, List.mem_cons]
    by_cases he : x = g
    · subst he
      simp [hx]
      omega
    · have he' : ¬ g = x := fun hh => he hh.symm
      simp only [he, he', if_false, false_or]
      omega

theorem ownC_cons (c : Ch) (l : List Ch) : ownC (c :: l) = fun x => if x = c.group then c.own else ownC l x := by
  funext x
  simp only [ownC, eq_comm]
theorem sum_own_nil : ∀ xs : List Int, sumI (xs.map (ownC [])) = 0
  | [] => rfl
  | x :: xs => by
    show ownC [] x + sumI (xs.map (ownC [])) = 0
    rw [sum_own_nil xs]; rfl
theorem sum_own_le {l : List Ch} (h : ∀ c ∈ l, 1 ≤ c.own) (xs : List Int) (hx : xs.Nodup) : sumI (xs.map (ownC l)) ≤ sumI (l.map (·.own)) := by
  induction l with
  | nil =>
    rw [sum_own_nil]
    exact Int.le_refl _
  | cons c l ih =>
    have h0 := h c (List.mem_cons_self ..)
    have hl := fun d hd => h d (List.mem_cons_of_mem c hd)
    have h1 := ih hl
    rw [ownC_cons, sum_upd _ _ _ _ hx]
    have h3 := ownC_nonneg hl c.group
    simp only [List.map_cons, sumI]
    split <;> omega
theorem sum_own_eq {l : List Ch} (hp : l.Pairwise fun a b => a.group < b.group) (xs : List Int) (hx : xs.Nodup) (hm : ∀ c ∈ l, c.group ∈ xs) : sumI (xs.map (ownC l)) = sumI (l.map (·.own)) := by
  induction l with
  | nil =>
    rw [sum_own_nil]
    rfl
  | cons c l ih =>
    obtain ⟨h0, h1⟩ := List.pairwise_cons.1 hp
    rw [ownC_cons, sum_upd _ _ _ _ hx, if_pos (hm c (List.mem_cons_self ..)), ih h1 (fun d hd => hm d (List.mem_cons_of_mem _ hd)), ownC_zero (fun d hd => by have := h0 d hd; omega)]
    simp only [List.map_cons, sumI]
    omega

theorem ch_ext : ∀ (a b : List Ch), (a.Pairwise fun x y => x.group < y.group) → (b.Pairwise fun x y => x.group < y.group) → (∀ c ∈ a, 1 ≤ c.own) → (∀ c ∈ b, 1 ≤ c.own) → (∀ x, ownC a x = ownC b x) → a = b
  | [], [], _, _, _, _, _ => rfl
  | [], c :: b, _, _, _, h, he => by
    have h1 := he c.group
    have h2 := h c (List.mem_cons_self ..)
    simp [ownC] at h1
    omega
  | c :: a, [], _, _, h, _, he => by
    have h1 := he c.group
    have h2 := h c (List.mem_cons_self ..)
    simp [ownC] at h1
    omega
  | c :: a, d :: b, ha, hb, pa, pb, he => by
    obtain ⟨ha0, ha1⟩ := List.pairwise_cons.1 ha
    obtain ⟨hb0, hb1⟩ := List.pairwise_cons.1 hb
    have c0 := pa c (List.mem_cons_self ..)
    have d0 := pb d (List.mem_cons_self ..)
    have hg : c.group = d.group := by
      have e1 := he c.group
      have e2 := he d.group
      simp only [ownC, if_true] at e1 e2
      by_cases h1 : d.group < c.group
      · rw [if_neg (by omega), ownC_zero (fun x hx => by have := ha0 x hx; omega)] at e2
        omega
      · by_cases h2 : c.group < d.group
        · rw [if_neg (by omega), ownC_zero (fun x hx => by have := hb0 x hx; omega)] at e1
          omega
        · omega
    have ho : c.own = d.own := by
      have e1 := he c.group
      simp only [ownC, if_true] at e1
      rw [if_pos hg.symm] at e1
      exact e1
    have hcd : c = d := by
      cases c; cases d; simp_all
    subst hcd
    congr 1
    refine ch_ext a b ha1 hb1 (fun x hx => pa x (List.mem_cons_of_mem _ hx)) (fun x hx => pb x (List.mem_cons_of_mem _ hx)) (fun x => ?_)
    have := he x
    simp only [ownC] at this
    by_cases hx : c.group = x
    · subst hx
      rw [ownC_zero (fun y hy => by have := ha0 y hy; omega), ownC_zero (fun y hy => by have := hb0 y hy; omega)]
    · rwa [if_neg hx, if_neg hx] at this

/-! ### a group's own charge replaced -/

def withGo (id v : Int) : Bool → List Ch → List Ch
  | d, [] => if d then [] else [⟨id, v⟩]
  | d, c :: l => (if !d && decide (id ≤ c.group) then [⟨id, v⟩] else []) ++ (if c.group = id then [] else [c]) ++ withGo id v (d || decide (id ≤ c.group)) l
def withC (l : List Ch) (id v : Int) : List Ch := withGo id v (decide (v = 0)) l

theorem withGo_own (id v x : Int) : ∀ (l : List Ch) (d : Bool), ownC (withGo id v d l) x = if x = id then (if d then 0 else v) else ownC l x
  | [], d => by
    cases d
    · simp [withGo, ownC, eq_comm]
    · simp [withGo, ownC]
  | c :: l, d => by
    have ih := withGo_own id v x l
    unfold withGo
    cases d
    · by_cases h1 : id ≤ c.group
      · by_cases h2 : c.group = id
        · by_cases h3 : x = id
          · simp [h2, h3, ownC]
          · have h3' : ¬ id = x := fun h => h3 h.symm
            simp [h2, h3, h3', ownC, ih]
        · by_cases h3 : x = id
          · simp [h1, h2, h3, ownC]
          · have h3' : ¬ id = x := fun h => h3 h.symm
            simp [h1, h2, h3, h3', ownC, ih]
      · have h2 : ¬ c.group = id := by omega
        by_cases h3 : x = id
        · subst h3
          simp [h1, h2, ownC, ih]
        · simp [h1, h2, h3, ownC, ih]
    · by_cases h2 : c.group = id
      · by_cases h3 : x = id
        · subst h3
          simp [h2, ownC, ih]
        · have h3' : ¬ id = x := fun h => h3 h.symm
          simp [h2, h3, h3', ownC, ih]
      · by_cases h3 : x = id
        · subst h3
          simp [h2, ownC, ih]
        · simp [h2, h3, ownC, ih]
theorem withC_own (l : List Ch) (id v x : Int) : ownC (withC l id v) x = if x = id then v else ownC l x := by
  unfold withC
  rw [withGo_own]
  by_cases h : v = 0
  · simp [h]
  · simp [h]

theorem withGo_mem (id v : Int) : ∀ (l : List Ch) (d : Bool), ∀ c ∈ withGo id v d l, (d = false ∧ c = ⟨id, v⟩) ∨ (c ∈ l ∧ c.group ≠ id)
  | [], d, c, hc => by
    cases d
    · simp [withGo] at hc; exact Or.inl ⟨rfl, hc⟩
    · simp [withGo] at hc
  | e :: l, d, c, hc => by
    unfold withGo at hc
    simp only [List.mem_append] at hc
    rcases hc with (hc | hc) | hc
    · split at hc
      · rename_i h
        simp only [Bool.and_eq_true, Bool.not_eq_true'] at h
        exact Or.inl ⟨h.1, by simpa using hc⟩
      · simp at hc
    · split at hc
      · simp at hc
      · rename_i h
        simp at hc
        subst hc
        exact Or.inr ⟨List.mem_cons_self .., h⟩
    · rcases withGo_mem id v l _ c hc with ⟨h1, h2⟩ | ⟨h1, h2⟩
      · simp only [Bool.or_eq_false_iff] at h1
        exact Or.inl ⟨h1.1, h2⟩
      · exact Or.inr ⟨List.mem_cons_of_mem _ h1, h2⟩

theorem withGo_inc (id v : Int) : ∀ (l : List Ch) (d : Bool), (l.Pairwise fun a b => a.group < b.group) → (withGo id v d l).Pairwise fun a b => a.group < b.group
  | [], d, _ => by cases d <;> simp [withGo]
  | e :: l, d, h => by
    obtain ⟨h0, h1⟩ := List.pairwise_cons.1 h
    have ih := fun d => withGo_inc id v l d h1
    have hm := withGo_mem id v l
    unfold withGo
    by_cases hge : id ≤ e.group
    · have hT : (withGo id v true l).Pairwise fun a b => a.group < b.group := ih true
      have hbig : ∀ c ∈ withGo id v true l, e.group < c.group := fun c hc => by
        rcases hm true c hc with ⟨hh, _⟩ | ⟨hh, _⟩
        · simp at hh
        · exact h0 c hh
      cases d
      · by_cases he : e.group = id
        · simp only [hge, decide_true, Bool.not_false, Bool.and_self, if_true, he, Int.le_refl, decide_true, List.append_nil, Bool.or_true, List.singleton_append, List.pairwise_cons]
          exact ⟨fun c hc => by have := hbig c hc; show id < c.group; omega, hT⟩
        · simp only [hge, decide_true, Bool.not_false, Bool.and_self, if_true, he, if_false, Bool.or_true, List.singleton_append, List.cons_append, List.nil_append, List.pairwise_cons, List.mem_cons, forall_eq_or_imp]
          exact ⟨⟨by show id < e.group; omega, fun c hc => by have := hbig c hc; show id < c.group; omega⟩, hbig, hT⟩
      · by_cases he : e.group = id
        · simp only [he, Bool.not_true, Bool.false_and, Bool.false_eq_true, if_false, if_true, List.append_nil, List.nil_append, Bool.true_or]
          exact hT
        · simp only [he, Bool.not_true, Bool.false_and, Bool.false_eq_true, if_false, List.nil_append, Bool.true_or, List.singleton_append, List.pairwise_cons]
          exact ⟨hbig, hT⟩
    · have he : ¬ e.group = id := by omega
      simp only [hge, decide_false, Bool.and_false, Bool.false_eq_true, if_false, he, List.nil_append, Bool.or_false, List.singleton_append, List.pairwise_cons]
      refine ⟨fun c hc => ?_, ih d⟩
      rcases hm d c hc with ⟨_, hh⟩ | ⟨hh, _⟩
      · subst hh
        show e.group < id
        omega
      · exact h0 c hh

theorem withGo_sum (id v : Int) : ∀ (l : List Ch) (d : Bool), (l.Pairwise fun a b => a.group < b.group) → sumI ((withGo id v d l).map (·.own)) = sumI (l.map (·.own)) - ownC l id + if d then 0 else v
  | [], d, _ => by cases d <;> simp [withGo, sumI, ownC]
  | e :: l, d, h => by
    obtain ⟨h0, h1⟩ := List.pairwise_cons.1 h
    have ih := fun d => withGo_sum id v l d h1
    unfold withGo ownC
    by_cases he : e.group = id
    · have hz : ownC l id = 0 := ownC_zero (fun c hc => by have := h0 c hc; omega)
      cases d <;> simp [he, sumI, ih, hz] <;> omega
    · by_cases hge : id ≤ e.group
      · cases d <;> simp [he, hge, sumI, ih] <;> omega
      · cases d <;> simp [he, hge, sumI, ih] <;> omega

theorem ChOk.with {ns : List Nd} {l : List Ch} (h : ChOk ns l) {id v : Int} (hid : (findN ns id).isSome = true) (hv : 0 ≤ v) (hs : sumI (l.map (·.own)) - ownC l id + v ≤ 16777216) : ChOk ns (withC l id v) := by
  refine ⟨fun c hc => ?_, withGo_inc _ _ _ _ h.inc, fun c hc => ?_, ?_⟩
  · rcases withGo_mem _ _ _ _ c hc with ⟨_, rfl⟩ | ⟨hh, _⟩
    · exact hid
    · exact h.known c hh
  · rcases withGo_mem _ _ _ _ c hc with ⟨hd, rfl⟩ | ⟨hh, _⟩
    · simp at hd
      show 1 ≤ v
      omega
    · exact h.pos c hh
  · unfold withC
    rw [withGo_sum _ _ _ _ h.inc]
    by_cases hz : v = 0
    · simp [hz]; omega
    · simp [hz]; omega
theorem withC_sum {l : List Ch} (h : l.Pairwise fun a b => a.group < b.group) (id v : Int) : sumI ((withC l id v).map (·.own)) = sumI (l.map (·.own)) - ownC l id + v := by
  unfold withC
  rw [withGo_sum _ _ _ _ h]
  by_cases hz : v = 0
  · simp [hz]
  · simp [hz]

/-! ### totals -/

def tot (t : Tr) (f : Int → Int) (id : Int) : Int := sumI ((subF t.nodes t.nodes.length id).map f)

theorem tot_step {t : Tr} (h : TreeOk t) (f : Int → Int) {i : Nat} {n : Nd} (hn : t.nodes[i]? = some n) : tot t f n.id = f n.id + sumI ((kidsN t.nodes n.id).map (tot t f)) := by
  have hi : i < t.nodes.length := (List.getElem?_eq_some_iff.1 hn).1
  obtain ⟨k, hk⟩ : ∃ k, t.nodes.length = k + 1 := ⟨t.nodes.length - 1, by omega⟩
  unfold tot
  have hs : subF t.nodes t.nodes.length n.id = n.id :: (kidsN t.nodes n.id).flatMap (subF t.nodes k) := by rw [hk]; rfl
  rw [hs, List.map_cons, sumI, sumI_flatMap]
  congr 1
  apply sumI_congr
  intro x hx
  obtain ⟨j, m, hm, hp, rfl⟩ := mem_kidsN.1 hx
  have hij := h.kid hn hm hp
  rw [subF_fuel h k t.nodes.length j m hm (by omega) (by omega)]

def part (t : Tr) (f : Int → Int) (i : Nat) (id : Int) : Int := f id + sumI (((t.nodes.drop i).filter fun m => decide (m.parent = id)).map fun m => tot t f m.id)

theorem part_end (t : Tr) (f : Int → Int) (id : Int) : part t f t.nodes.length id = f id := by
  unfold part
  rw [List.drop_of_length_le (Nat.le_refl _)]
  simp [sumI]
theorem part_step {t : Tr} (f : Int → Int) {i : Nat} {n : Nd} (hn : t.nodes[i]? = some n) (id : Int) : part t f i id = part t f (i + 1) id + if id = n.parent then tot t f n.id else 0 := by
  obtain ⟨hi, he⟩ := List.getElem?_eq_some_iff.1 hn
  unfold part
  rw [List.drop_eq_getElem_cons hi, he]
  by_cases h : n.parent = id
  · simp only [List.filter_cons, h, decide_true, if_true, List.map_cons, sumI]
    omega
  · have h' : ¬ id = n.parent := fun hh => h hh.symm
    simp only [List.filter_cons, h, h', decide_false, Bool.false_eq_true, if_false]
    omega
theorem part_tot {t : Tr} (h : TreeOk t) (f : Int → Int) {i k : Nat} {n : Nd} (hn : t.nodes[i]? = some n) (hk : k ≤ i + 1) : part t f k n.id = tot t f n.id := by
  rw [tot_step h f hn]
  unfold part kidsN
  rw [List.map_map]
  congr 1
  have : t.nodes.filter (fun m => decide (m.parent = n.id)) = (t.nodes.drop k).filter (fun m => decide (m.parent = n.id)) := by
    conv => lhs; rw [← List.take_append_drop k t.nodes, List.filter_append]
    have : (t.nodes.take k).filter (fun m => decide (m.parent = n.id)) = [] := by
      rw [List.filter_eq_nil_iff]
      intro m hm
      obtain ⟨j, hj⟩ := List.getElem?_of_mem hm
      have hjk : j < k := by
        have := (List.getElem?_eq_some_iff.1 hj).1
        simp at this
        omega
      rw [List.getElem?_take_of_lt hjk] at hj
      simp only [decide_eq_true_eq]
      intro hp
      have := h.kid hn hj hp
      omega
    rw [this, List.nil_append]
  rw [this]
  rfl

theorem tot_nonneg (t : Tr) {f : Int → Int} (hf : ∀ x, 0 ≤ f x) (id : Int) : 0 ≤ tot t f id := sumI_map_nonneg _ (fun x _ => hf x)
theorem part_le {t : Tr} (h : TreeOk t) {f : Int → Int} (hf : ∀ x, 0 ≤ f x) {i : Nat} {n : Nd} (hn : t.nodes[i]? = some n) (k : Nat) : part t f k n.id ≤ tot t f n.id := by
  rw [← part_tot h f hn (Nat.zero_le _)]
  unfold part
  rw [List.drop_zero]
  have h1 : t.nodes.filter (fun m => decide (m.parent = n.id)) = (t.nodes.take k).filter (fun m => decide (m.parent = n.id)) ++ (t.nodes.drop k).filter (fun m => decide (m.parent = n.id)) := by
    rw [← List.filter_append, List.take_append_drop]
  rw [h1, List.map_append, sumI_append]
  have := sumI_map_nonneg ((t.nodes.take k).filter (fun m => decide (m.parent = n.id))) (f := fun m => tot t f m.id) (fun m _ => tot_nonneg t hf _)
  omega
theorem part_nonneg (t : Tr) {f : Int → Int} (hf : ∀ x, 0 ≤ f x) (i : Nat) (id : Int) : 0 ≤ part t f i id := by
  unfold part
  have h1 := hf id
  have := sumI_map_nonneg ((t.nodes.drop i).filter (fun m => decide (m.parent = id))) (f := fun m => tot t f m.id) (fun m _ => tot_nonneg t hf _)
  omega
theorem subF_nodup {t : Tr} (h : TreeOk t) {i : Nat} {n : Nd} (hn : t.nodes[i]? = some n) : (subF t.nodes t.nodes.length n.id).Nodup := nodup_subF h _ _ _ hn (by omega)
theorem mem_sub {t : Tr} (h : TreeOk t) {i : Nat} {n : Nd} (hn : t.nodes[i]? = some n) (x : Int) : x ∈ subF t.nodes t.nodes.length n.id ↔ ∃ (j : Nat) (m : Nd), t.nodes[j]? = some m ∧ m.id = x ∧ n.id ∈ ancF t.nodes t.nodes.length m.id := mem_subF h _ _ _ hn (by omega) x
theorem tot_le {t : Tr} (h : TreeOk t) {l : List Ch} (hl : ChOk t.nodes l) {i : Nat} {n : Nd} (hn : t.nodes[i]? = some n) : tot t (ownC l) n.id ≤ sumI (l.map (·.own)) := sum_own_le hl.pos _ (subF_nodup h hn)
theorem tot_upd {t : Tr} (h : TreeOk t) (f : Int → Int) {i j : Nat} {n m : Nd} (hn : t.nodes[i]? = some n) (hm : t.nodes[j]? = some m) (v : Int) : tot t (fun x => if x = m.id then v else f x) n.id = tot t f n.id + if n.id ∈ ancF t.nodes t.nodes.length m.id then v - f m.id else 0 := by
  unfold tot
  rw [sum_upd _ _ _ _ (subF_nodup h hn)]
  congr 1
  have : m.id ∈ subF t.nodes t.nodes.length n.id ↔ n.id ∈ ancF t.nodes t.nodes.length m.id := by
    rw [mem_sub h hn]
    constructor
    · rintro ⟨k, p, hp, he, ha⟩
      rwa [he] at ha
    · intro ha
      exact ⟨j, m, hm, rfl, ha⟩
  simp only [this]

end Go.V

namespace Go.V

abbrev ctrV (l : List Ch) : VVal := .agg [.p (chsP l)]
abbrev ctrF (l : List Ch) : VVal := .agg [.fresh 2 (l.map Ch.pv)]

end Go.V

namespace Go.V

def validK (t : Tr) (l : List Ch) : Bool := treeOk t && chOk t.nodes none 0 l

end Go.V

namespace Go.V

def Rep (ks : List MKey) (vs : List PV) (f : Int → Int) : Prop := ∀ id, (mget ks vs (.int id)).getD (.int .i64 0) = .int .i64 (f id)

theorem mget_mput (x k' : MKey) (v' : PV) : ∀ (ks : List MKey) (vs : List PV), mget (mput ks vs k' v').1 (mput ks vs k' v').2 x = if x = k' then some v' else mget ks vs x
  | [], [] => by simp [mput, mget]
  | [], _ :: _ => by simp [mput, mget]
  | _ :: _, [] => by simp [mput, mget]
  | k :: ks, v :: vs => by
    have ih := mget_mput x k' v' ks vs
    by_cases h : k' = k
    · subst h
      simp only [mput, if_true, mget]
      by_cases hx : x = k' <;> simp [hx]
    · simp only [mput, h, if_false, mget, ih]
      by_cases hx : x = k
      · have : ¬ x = k' := fun hh => h (hh ▸ hx)
        simp [hx, this]
        intro hh
        exact absurd hh.symm h
      · simp [hx]

theorem Rep.put {ks : List MKey} {vs : List PV} {f : Int → Int} (h : Rep ks vs f) (g v : Int) : Rep (mput ks vs (.int g) (.int .i64 v)).1 (mput ks vs (.int g) (.int .i64 v)).2 (fun x => if x = g then v else f x) := by
  intro id
  rw [mget_mput]
  by_cases hg : id = g
  · subst hg
    simp
  · simp [hg]
    exact h id

theorem ownC_snoc (c : Ch) (x : Int) : ∀ (a : List Ch), (∀ d ∈ a, d.group ≠ c.group) → ownC (a ++ [c]) x = if x = c.group then c.own else ownC a x
  | [], _ => by simp only [List.nil_append, ownC, eq_comm]
  | d :: a, h => by
    have ih := ownC_snoc c x a (fun e he => h e (List.mem_cons_of_mem _ he))
    have hd := h d (List.mem_cons_self ..)
    simp only [List.cons_append, ownC, ih]
    by_cases h1 : d.group = x
    · have h2 : ¬ x = c.group := by omega
      simp [h1, h2]
    · simp [h1]

end Go.V

namespace Go.V

def checkK (t : Tr) (l : List Ch) (id : Int) : Int := if validK t l = true then (if (findN t.nodes id).isSome = true then 0 else 4) else 1

theorem validK_iff (t : Tr) (l : List Ch) : validK t l = true ↔ TreeOk t ∧ ChOk t.nodes l := by
  unfold validK
  rw [Bool.and_eq_true, treeOk_iff, chOk_iff]
theorem checkK_zero {t : Tr} {l : List Ch} {id : Int} : checkK t l id = 0 ↔ TreeOk t ∧ ChOk t.nodes l ∧ ∃ (i : Nat) (n : Nd), t.nodes[i]? = some n ∧ n.id = id := by
  unfold checkK
  by_cases hv : validK t l = true
  · rw [if_pos hv]
    obtain ⟨h1, h2⟩ := (validK_iff t l).1 hv
    by_cases hs : (findN t.nodes id).isSome = true
    · rw [if_pos hs]
      obtain ⟨n, hn, he⟩ := findN_some hs
      obtain ⟨i, hi⟩ := List.getElem?_of_mem hn
      exact ⟨fun _ => ⟨h1, h2, i, n, hi, he⟩, fun _ => rfl⟩
    · rw [if_neg hs]
      constructor
      · intro h; omega
      · rintro ⟨_, _, i, n, hi, rfl⟩
        rw [findN_unique h1.inc hi] at hs
        simp at hs
  · rw [if_neg hv]
    constructor
    · intro h; omega
    · rintro ⟨h1, h2, _⟩
      exact absurd ((validK_iff t l).2 ⟨h1, h2⟩) hv

def totK (t : Tr) (l : List Ch) (id : Int) : Int := if checkK t l id = 0 then tot t (ownC l) id else 0

def addK (t : Tr) (l : List Ch) (id n : Int) : List Ch × Int :=
  if n < -16777216 ∨ 16777216 < n ∨ ownC l id + n < 0 then ([], 3) else if 16777216 < tot t (ownC l) 1 + n then ([], 7) else (withC l id (ownC l id + n), 0)

theorem root_at {t : Tr} (h : TreeOk t) : ∃ r, t.nodes[0]? = some r ∧ r.id = 1 := by
  obtain ⟨r, ns, hr, h1, _⟩ := h.root
  exact ⟨r, by rw [hr]; rfl, h1⟩

def AddK (t : Tr) (l : List Ch) (id n : Int) : List Ch × Int := if checkK t l id = 0 then addK t l id n else ([], checkK t l id)

end Go.V

namespace Go.V

def ascOk (kn : Int → Bool) (lo hi : Int) : Option Int → List Ch → Bool
  | _, [] => true
  | p, c :: l => kn c.group && prevOk p c.group && decide (lo ≤ c.own ∧ c.own ≤ hi) && ascOk kn lo hi (some c.group) l

def prevG (l : List Ch) (k : Nat) : Option Int := if k = 0 then none else (l[k - 1]?).map (·.group)

structure AscOk (kn : Int → Bool) (lo hi : Int) (l : List Ch) : Prop where
  known : ∀ c ∈ l, kn c.group = true
  inc : l.Pairwise fun a b => a.group < b.group
  range : ∀ c ∈ l, lo ≤ c.own ∧ c.own ≤ hi

theorem ascOk_iff' (kn : Int → Bool) (lo hi : Int) : ∀ (l : List Ch) (p : Option Int), ascOk kn lo hi p l = true ↔ (∀ c ∈ l, kn c.group = true) ∧ (l.Pairwise fun a b => a.group < b.group) ∧ (∀ q, p = some q → ∀ c ∈ l, q < c.group) ∧ ∀ c ∈ l, lo ≤ c.own ∧ c.own ≤ hi
  | [], p => by simp [ascOk]
  | c :: l, p => by
    have hp : prevOk p c.group = true ↔ ∀ q, p = some q → q < c.group := by
      cases p <;> simp [prevOk]
    simp only [ascOk, Bool.and_eq_true, decide_eq_true_eq, hp, List.mem_cons, forall_eq_or_imp, List.pairwise_cons, ascOk_iff' kn lo hi l (some c.group)]
    constructor
    · rintro ⟨⟨⟨h1, h2⟩, h3⟩, a1, a2, a3, a4⟩
      refine ⟨⟨h1, a1⟩, ⟨a3 _ rfl, a2⟩, fun q hq => ⟨h2 q hq, fun d hd => ?_⟩, h3, a4⟩
      have := h2 q hq
      have := a3 _ rfl d hd
      omega
    · rintro ⟨⟨h1, a1⟩, ⟨a3, a2⟩, h2, h3, a4⟩
      refine ⟨⟨⟨h1, fun q hq => (h2 q hq).1⟩, h3⟩, a1, a2, fun q hq => ?_, a4⟩
      cases hq
      exact a3
theorem ascOk_iff (kn : Int → Bool) (lo hi : Int) (l : List Ch) : ascOk kn lo hi none l = true ↔ AscOk kn lo hi l := by
  rw [ascOk_iff' kn lo hi l none]
  constructor
  · rintro ⟨a, b, _, d⟩
    exact ⟨a, b, d⟩
  · rintro ⟨a, b, d⟩
    exact ⟨a, b, fun q hq => by simp at hq, d⟩

/-- What the element at a place must be. -/
def ascAt (kn : Int → Bool) (lo hi : Int) (l : List Ch) (k : Nat) (c : Ch) : Prop := kn c.group = true ∧ (k = 0 ∨ ∃ e, l[k - 1]? = some e ∧ e.group < c.group) ∧ lo ≤ c.own ∧ c.own ≤ hi

theorem prevG_ok {l : List Ch} {k : Nat} {c : Ch} (hm : l[k]? = some c) : prevOk (prevG l k) c.group = true ↔ (k = 0 ∨ ∃ e, l[k - 1]? = some e ∧ e.group < c.group) := by
  unfold prevG
  by_cases hk : k = 0
  · simp [hk, prevOk]
  · have hl := (List.getElem?_eq_some_iff.1 hm).1
    have he : l[k - 1]? = some l[k - 1] := List.getElem?_eq_getElem (by omega)
    rw [if_neg hk, he]
    simp [prevOk, hk]
theorem asc_good {kn : Int → Bool} {lo hi : Int} {l : List Ch} {k : Nat} {c : Ch} (hq : ascOk kn lo hi none l = ascOk kn lo hi (prevG l k) (l.drop k)) (hm : l[k]? = some c) (h : ascAt kn lo hi l k c) : ascOk kn lo hi none l = ascOk kn lo hi (prevG l (k + 1)) (l.drop (k + 1)) := by
  have hl := (List.getElem?_eq_some_iff.1 hm).1
  have hd : l.drop k = c :: l.drop (k + 1) := by
    rw [List.drop_eq_getElem_cons hl]
    rw [List.getElem?_eq_getElem hl] at hm
    cases hm
    rfl
  obtain ⟨h1, h2, h3, h4⟩ := h
  rw [hq, hd, ascOk, h1, (prevG_ok hm).2 h2, decide_eq_true ⟨h3, h4⟩]
  simp [prevG, hm]
theorem asc_bad {kn : Int → Bool} {lo hi : Int} {l : List Ch} {k : Nat} {c : Ch} (hq : ascOk kn lo hi none l = ascOk kn lo hi (prevG l k) (l.drop k)) (hm : l[k]? = some c) (h : ¬ ascAt kn lo hi l k c) : ascOk kn lo hi none l = false := by
  have hl := (List.getElem?_eq_some_iff.1 hm).1
  have hd : l.drop k = c :: l.drop (k + 1) := by
    rw [List.drop_eq_getElem_cons hl]
    rw [List.getElem?_eq_getElem hl] at hm
    cases hm
    rfl
  rw [Bool.eq_false_iff]
  intro ht
  apply h
  rw [hq, hd, ascOk] at ht
  simp only [Bool.and_eq_true, decide_eq_true_eq] at ht
  exact ⟨ht.1.1.1, (prevG_ok hm).1 ht.1.1.2, ht.1.2⟩
theorem asc_end {kn : Int → Bool} {lo hi : Int} {l : List Ch} {k : Nat} (hq : ascOk kn lo hi none l = ascOk kn lo hi (prevG l k) (l.drop k)) (hk : l.length ≤ k) : ascOk kn lo hi none l = true := by
  rw [hq, List.drop_of_length_le hk]
  simp [ascOk]
theorem prev_at {l : List Ch} {k : Nat} {c : Ch} (hm : l[k]? = some c) (hk : (0 : Int) < k) : ∃ e, l[k - 1]? = some e ∧ l[((k : Int) - 1).toNat]? = some e := by
  have hl := (List.getElem?_eq_some_iff.1 hm).1
  have he : l[k - 1]? = some l[k - 1] := List.getElem?_eq_getElem (by omega)
  exact ⟨_, he, by rw [show ((k : Int) - 1).toNat = k - 1 by omega]; exact he⟩
theorem ascAt_zero {kn : Int → Bool} {lo hi : Int} {l : List Ch} {k : Nat} {c : Ch} (hk : ¬ (0 : Int) < k) : ascAt kn lo hi l k c ↔ kn c.group = true ∧ lo ≤ c.own ∧ c.own ≤ hi := by
  have : k = 0 := by omega
  subst this
  simp [ascAt]
theorem ascAt_succ {kn : Int → Bool} {lo hi : Int} {l : List Ch} {k : Nat} {c e : Ch} (hk : (0 : Int) < k) (he : l[k - 1]? = some e) : ascAt kn lo hi l k c ↔ kn c.group = true ∧ e.group < c.group ∧ lo ≤ c.own ∧ c.own ≤ hi := by
  have : ¬ k = 0 := by omega
  simp [ascAt, this, he]
end Go.V

namespace Go.V

theorem ch_ne {c d : Ch} (h : ¬ c = d) : (decide (c.group = d.group) && decide (c.own = d.own)) = false := by
  rw [Bool.eq_false_iff]
  intro hh
  simp at hh
  apply h
  cases c; cases d; simp_all

theorem fkids_eq (t : Tr) (id : Int) (hl : t.nodes.length < 1000000) : V 39 [t.vv, .p (.int .i64 id)] [] = some (.fresh 1 ((kidsN t.nodes id).map (.int .i64)), []) := by
  refine V_wp (vf := vf39) rfl ?_
  simp -implicitDefEqProofs (disch := omega) only [vf39, vb39, go_sem, ↓reduceIte, Nat.reduceAdd, Nat.reduceSub, Nat.reduceEqDiff, Nat.reduceLeDiff, reduceCtorEq]
  obtain ⟨I, hI⟩ : ∃ I : Nat → St → Prop, ∀ k s, I k s ↔ ∃ (acc : List Int) (w : Nat), acc = kidsN (t.nodes.take k) id ∧ acc.length ≤ k ∧ s.pe 1 = .p (.int .i64 id) ∧ s.pe 5 = .own (.slot 5 0) w 0 acc.length ∧ s.pe 9 = .p (nodesP t.nodes) ∧ s.pe 10 = .p (.int .i64 t.nodes.length) ∧ s.pe 11 = .p (.int .i64 k) ∧ s.h (.slot 5 0) = some (w, .arr 1 (acc.map (.int .i64))) := ⟨_, fun _ _ => Iff.rfl⟩
  refine wp_count (t.nodes.length) I ?_ ?_
  · refine (hI _ _).2 ⟨[], 0, ?_, ?_, ?_, ?_, ?_, ?_, ?_, ?_⟩
    · exact by first | rfl | omega | (simp; done) | (simp; omega)
    · exact by first | rfl | omega | (simp; done) | (simp; omega)
    all_goals first | with_reducible rfl | (simp -implicitDefEqProofs (disch := omega) only [List.map_append, go_sem, ↓reduceIte, Nat.reduceAdd, Nat.reduceSub, Nat.reduceEqDiff, Nat.reduceLeDiff, reduceCtorEq]; first | done | rfl | (simp; done) | (congr 2; omega) | (congr 1; omega) | (congr 3; omega) | (simp; omega) | (congr 2; simp; omega) | (refine ⟨_, rfl, ?_⟩; first | rfl | (simp -implicitDefEqProofs (disch := omega) only [List.map_append, go_sem, ↓reduceIte, Nat.reduceAdd, Nat.reduceSub, Nat.reduceEqDiff, Nat.reduceLeDiff, reduceCtorEq]; done))) | rfl | omega | (congr 2; omega)
  intro k s hk hIk
  obtain ⟨acc, w, hacc, hal, h1, h5, h9, h10, h11, hh5_0⟩ := (hI _ _).1 hIk
  clear hIk
  simp -implicitDefEqProofs (disch := omega) only [h1, h5, h9, h10, h11, hh5_0, go_sem, ↓reduceIte, Nat.reduceAdd, Nat.reduceSub, Nat.reduceEqDiff, Nat.reduceLeDiff, reduceCtorEq]
  refine wp_if_d (fun hlt => ?_) (fun hge => ?_)
  · have hm : t.nodes[k]? = some t.nodes[k] := List.getElem?_eq_getElem hlt
    generalize t.nodes[k] = m at hm
    have hst := filter_take (p := fun n : Nd => decide (n.parent = id)) hm
    by_cases hp : m.parent = id
    · simp only [hp, decide_true, if_true] at hst
      simp -implicitDefEqProofs (disch := omega) only [h1, h5, h9, h10, h11, hh5_0, hlt, hm, hp, go_sem, ↓reduceIte, Nat.reduceAdd, Nat.reduceSub, Nat.reduceEqDiff, Nat.reduceLeDiff, reduceCtorEq]
      try refine And.intro (by omega) ?_
      refine (hI _ _).2 ⟨acc ++ [m.id], w + 1, ?_, ?_, ?_, ?_, ?_, ?_, ?_, ?_⟩
      · exact by rw [kidsN, hst, List.map_append, hacc]; rfl
      · exact by simp; omega
      all_goals first | with_reducible rfl | (simp -implicitDefEqProofs (disch := omega) only [h1, h5, h9, h10, h11, hh5_0, List.map_append, go_sem, ↓reduceIte, Nat.reduceAdd, Nat.reduceSub, Nat.reduceEqDiff, Nat.reduceLeDiff, reduceCtorEq]; first | done | rfl | (simp; done) | (congr 2; omega) | (congr 1; omega) | (congr 3; omega) | (simp; omega) | (congr 2; simp; omega) | (refine ⟨_, rfl, ?_⟩; first | rfl | (simp -implicitDefEqProofs (disch := omega) only [h1, h5, h9, h10, h11, hh5_0, List.map_append, go_sem, ↓reduceIte, Nat.reduceAdd, Nat.reduceSub, Nat.reduceEqDiff, Nat.reduceLeDiff, reduceCtorEq]; done))) | rfl | omega | (congr 2; omega)
    · simp only [hp, decide_false, Bool.false_eq_true, if_false] at hst
      simp -implicitDefEqProofs (disch := omega) only [h1, h5, h9, h10, h11, hh5_0, hlt, hm, hp, go_sem, ↓reduceIte, Nat.reduceAdd, Nat.reduceSub, Nat.reduceEqDiff, Nat.reduceLeDiff, reduceCtorEq]
      try refine And.intro (by omega) ?_
      refine (hI _ _).2 ⟨acc, w, ?_, ?_, ?_, ?_, ?_, ?_, ?_, ?_⟩
      · exact by rw [kidsN, hst, hacc]; rfl
      · exact by omega
      all_goals first | with_reducible rfl | (simp -implicitDefEqProofs (disch := omega) only [h1, h5, h9, h10, h11, hh5_0, List.map_append, go_sem, ↓reduceIte, Nat.reduceAdd, Nat.reduceSub, Nat.reduceEqDiff, Nat.reduceLeDiff, reduceCtorEq]; first | done | rfl | (simp; done) | (congr 2; omega) | (congr 1; omega) | (congr 3; omega) | (simp; omega) | (congr 2; simp; omega) | (refine ⟨_, rfl, ?_⟩; first | rfl | (simp -implicitDefEqProofs (disch := omega) only [h1, h5, h9, h10, h11, hh5_0, List.map_append, go_sem, ↓reduceIte, Nat.reduceAdd, Nat.reduceSub, Nat.reduceEqDiff, Nat.reduceLeDiff, reduceCtorEq]; done))) | rfl | omega | (congr 2; omega)
  · rw [List.take_of_length_le (by omega)] at hacc
    simp -implicitDefEqProofs (disch := omega) only [h1, h5, h9, h10, h11, hh5_0, hge, hacc, go_sem, ↓reduceIte, Nat.reduceAdd, Nat.reduceSub, Nat.reduceEqDiff, Nat.reduceLeDiff, reduceCtorEq]

def RemK (t : Tr) (l : List Ch) (id : Int) : List Ch × Int :=
  if checkK t l id = 0 then
    (if id = 1 then ([], 3) else if kidsN t.nodes id ≠ [] then ([], 6)
     else if ownC l id = 0 then (withC l id 0, 0)
     else (withC (withC l id 0) ((findN t.nodes id).getD zeroNd).parent (ownC l ((findN t.nodes id).getD zeroNd).parent + ownC l id), 0))
  else ([], checkK t l id)

theorem withGo_length (id v : Int) : ∀ (l : List Ch) (d : Bool), (withGo id v d l).length ≤ l.length + (if d then 0 else 1)
  | [], d => by cases d <;> simp [withGo]
  | c :: l, d => by
    have ih := withGo_length id v l
    unfold withGo
    have h1 := ih true
    have h2 := ih false
    simp only [if_true, Bool.false_eq_true, if_false] at h1 h2
    cases d <;> by_cases hg : id ≤ c.group <;> by_cases he : c.group = id <;> simp [hg, he] <;> omega
theorem withC_length (l : List Ch) (id v : Int) : (withC l id v).length ≤ l.length + 1 := by
  have := withGo_length id v l (decide (v = 0))
  unfold withC
  split at this <;> omega

theorem zero_lt_zero : ¬ ((0 : Int) < ((0 : Nat) : Int)) := by omega

/-! ### limits -/

def knownN (ns : List Nd) (g : Int) : Bool := (findN ns g).isSome
def validLK (t : Tr) (l : List Ch) : Bool := treeOk t && ascOk (knownN t.nodes) 0 4611686018427387904 none l

end Go.V

namespace Go.V

def lookC : List Ch → Int → Option Int
  | [], _ => none
  | c :: l, id => if c.group = id then some c.own else lookC l id

theorem lookC_snoc (c : Ch) (x : Int) : ∀ (a : List Ch), (∀ d ∈ a, d.group ≠ c.group) → lookC (a ++ [c]) x = if x = c.group then some c.own else lookC a x
  | [], _ => by simp only [List.nil_append, lookC, eq_comm]
  | d :: a, h => by
    have ih := lookC_snoc c x a (fun e he => h e (List.mem_cons_of_mem _ he))
    have hd := h d (List.mem_cons_self ..)
    simp only [List.cons_append, lookC, ih]
    by_cases h1 : d.group = x
    · have h2 : ¬ x = c.group := by omega
      simp [h1, h2]
    · simp [h1]
theorem lookC_mem {l : List Ch} {x m : Int} (h : lookC l x = some m) : ∃ c ∈ l, c.group = x ∧ c.own = m := by
  induction l with
  | nil => cases h
  | cons c l ih =>
    unfold lookC at h
    split at h
    · rename_i hg
      cases h
      exact ⟨c, List.mem_cons_self .., hg, rfl⟩
    · obtain ⟨d, hd, h1⟩ := ih h
      exact ⟨d, List.mem_cons_of_mem _ hd, h1⟩

theorem fresh_at {l : List Ch} (hinc : l.Pairwise fun a b => a.group < b.group) {k : Nat} {c : Ch} (hm : l[k]? = some c) : ∀ d ∈ l.take k, d.group ≠ c.group := by
  intro d hd
  obtain ⟨j, hj⟩ := List.getElem?_of_mem hd
  have hjk : j < k := by
    have := (List.getElem?_eq_some_iff.1 hj).1
    simp at this
    omega
  rw [List.getElem?_take_of_lt hjk] at hj
  obtain ⟨hjl, he⟩ := List.getElem?_eq_some_iff.1 hj
  obtain ⟨hkl, he2⟩ := List.getElem?_eq_some_iff.1 hm
  have := List.pairwise_iff_getElem.1 hinc j k hjl hkl hjk
  rw [he, he2] at this
  omega

def Rep2 (ks : List MKey) (vs : List PV) (f : Int → Option Int) : Prop := ∀ id, mget ks vs (.int id) = (f id).map (.int .i64)
theorem Rep2.put {ks : List MKey} {vs : List PV} {f : Int → Option Int} (h : Rep2 ks vs f) (g v : Int) : Rep2 (mput ks vs (.int g) (.int .i64 v)).1 (mput ks vs (.int g) (.int .i64 v)).2 (fun x => if x = g then some v else f x) := by
  intro id
  rw [mget_mput]
  by_cases hg : id = g
  · subst hg
    simp
  · simp [hg]
    exact h id

def refuses (t : Tr) (c l : List Ch) (n : Int) (g : Int) : Bool := match lookC l g with
  | some m => decide (m < tot t (ownC c) g + n)
  | none => false

def ChargeK (t : Tr) (c l : List Ch) (id n : Int) : List Ch × Int × Int :=
  if validK t c = true ∧ validLK t l = true then
    (if checkK t c id = 0 then
      (if n < 0 then ([], 0, 3) else if (addK t c id n).2 ≠ 0 ∨ n = 0 then ((addK t c id n).1, 0, (addK t c id n).2)
       else match (ancF t.nodes t.nodes.length id).find? (refuses t c l n) with
        | some g => ([], g, 11)
        | none => ((addK t c id n).1, 0, 0))
     else ([], 0, checkK t c id))
  else ([], 0, 1)

theorem addK_range {t : Tr} {c : List Ch} {id n : Int} (h : (addK t c id n).2 = 0) : n ≤ 16777216 := by
  unfold addK at h
  split at h
  · simp at h
  · omega

theorem find_drop {α : Type} {p : α → Bool} {l : List α} {k : Nat} {x : α} (hm : l[k]? = some x) (h : l.find? p = (l.drop k).find? p) : l.find? p = if p x = true then some x else (l.drop (k + 1)).find? p := by
  have hl := (List.getElem?_eq_some_iff.1 hm).1
  rw [h, List.drop_eq_getElem_cons hl]
  rw [List.getElem?_eq_getElem hl] at hm
  cases hm
  rw [List.find?_cons]
  split <;> simp_all

end Go.V

namespace Go.V

theorem findT_ok {t : Tr} (h : treeOk t = true) (id : Int) : findT t id = findN t.nodes id := by simp [findT, h]

/-! ### sums of charges -/

theorem nodup_groups {l : List Ch} (h : l.Pairwise fun a b => a.group < b.group) : (l.map (·.group)).Nodup := by
  rw [List.Nodup, List.pairwise_map]
  exact h.imp fun hab => by omega
theorem asc_length {ns : List Nd} {lo hi : Int} {l : List Ch} (h : AscOk (knownN ns) lo hi l) : l.length ≤ ns.length := by
  have := nodup_length_le (l.map (·.group)) (ns.map (·.id)) (nodup_groups h.inc) (fun x hx => by
    obtain ⟨c, hc, rfl⟩ := List.mem_map.1 hx
    obtain ⟨n, hn, he⟩ := findN_some (h.known c hc)
    exact List.mem_map.2 ⟨n, hn, he⟩)
  simpa using this
theorem sum_bound {hi : Int} : ∀ (l : List Ch), (∀ c ∈ l, 0 ≤ c.own ∧ c.own ≤ hi) → 0 ≤ sumI (l.map (·.own)) ∧ sumI (l.map (·.own)) ≤ l.length * hi
  | [], _ => by simp [sumI]
  | c :: l, h => by
    have h0 := h c (List.mem_cons_self ..)
    have h1 := sum_bound l fun d hd => h d (List.mem_cons_of_mem _ hd)
    simp only [List.map_cons, sumI, List.length_cons, Int.natCast_add]
    have : ((l.length : Int) + (1 : Nat)) * hi = l.length * hi + hi := by rw [Int.add_mul]; simp
    omega

theorem validK_asc (t : Tr) (l : List Ch) (ht : treeOk t = true) : validK t l = (ascOk (knownN t.nodes) 1 16777216 none l && decide (sumI (l.map (·.own)) ≤ 16777216)) := by
  rw [Bool.eq_iff_iff, Bool.and_eq_true, ascOk_iff, decide_eq_true_eq, validK_iff]
  constructor
  · rintro ⟨_, h⟩
    refine ⟨⟨h.known, h.inc, fun c hc => ⟨h.pos c hc, ?_⟩⟩, h.all⟩
    have := ownC_le h.pos c.group
    have h3 := h.all
    have h4 : c.own ≤ sumI (l.map (·.own)) := by
      have := sumI_mem_le' l h.pos c hc
      exact this
    omega
  · rintro ⟨h, hs⟩
    exact ⟨(treeOk_iff t).1 ht, ⟨h.known, h.inc, fun c hc => (h.range c hc).1, hs⟩⟩
where
  sumI_mem_le' : ∀ (l : List Ch), (∀ c ∈ l, 1 ≤ c.own) → ∀ c ∈ l, c.own ≤ sumI (l.map (·.own))
  | [], _, _, h => by cases h
  | d :: l, hp, c, h => by
    have h0 := hp d (List.mem_cons_self ..)
    have h1 := sumI_map_nonneg l (f := (·.own)) fun z hz => by have := hp z (List.mem_cons_of_mem _ hz); omega
    simp only [List.map_cons, sumI]
    rcases List.mem_cons.1 h with rfl | h
    · omega
    · have := sumI_mem_le' l (fun z hz => hp z (List.mem_cons_of_mem _ hz)) c h
      omega

theorem subT_len {t : Tr} (h : TreeOk t) (id : Int) : (subT t id).length ≤ t.nodes.length := by
  unfold subT
  split
  · rename_i hs
    rw [findT_ok ((treeOk_iff t).2 h)] at hs
    obtain ⟨n, hn, rfl⟩ := findN_some hs
    obtain ⟨i, hi⟩ := List.getElem?_of_mem hn
    exact subF_length h hi (by omega)
  · exact Nat.zero_le _

/-! ### made counters -/

def pickV (L : List Int) (a : Nat) (xs : List Int) : Int := xs.getD (nextV L a xs.length).toNat 0
theorem pick_eq (L : List Int) (a : Nat) (xs : List Int) (hL : L.length < 4611686018427387904) (h0 : 1 ≤ xs.length) (h1 : xs.length < 1000000) : V 16 [.ptr (.arg 0 0) 0 0, .p (intsP xs)] [diceB L a] = some (.p (.int .i64 (pickV L a xs)), [diceB L (nextA L a xs.length)]) := by
  refine V_wp (vf := vf16) rfl ?_
  have hn := next_eq L a xs.length hL (by omega)
  have n0 := nextV_nonneg L a xs.length
  have n1 := nextV_lt L a (n := xs.length) (by omega)
  unfold pickV
  generalize nextV L a xs.length = x at hn n0 n1
  generalize nextA L a xs.length = a' at hn
  have hm : xs[x.toNat]? = some (xs.getD x.toNat 0) := by
    rw [List.getD_eq_getElem?_getD, List.getElem?_eq_getElem (by omega)]; rfl
  generalize xs.getD x.toNat 0 = y at hm
  simp -implicitDefEqProofs (disch := omega) only [vf16, vb16, hn, hm, go_sem, ↓reduceIte, Nat.reduceAdd, Nat.reduceSub, Nat.reduceEqDiff, Nat.reduceLeDiff, reduceCtorEq]
theorem pickV_mem (L : List Int) (a : Nat) {xs : List Int} (h0 : 1 ≤ xs.length) : pickV L a xs ∈ xs := by
  have n0 := nextV_nonneg L a xs.length
  have n1 := nextV_lt L a (n := xs.length) (by omega)
  unfold pickV
  rw [List.getD_eq_getElem?_getD, List.getElem?_eq_getElem (by omega)]
  exact List.getElem_mem _

def dCounter (L : List Int) (t : Tr) : List Nd → Nat → List Ch → List Ch × Nat
  | [], a, c => (c, a)
  | n :: ns, a, c => dCounter L t ns (nextA L a 6) (if (AddK t c n.id (pickV L a [0, 1, 5, 40, 100, 1000])).2 = 0 then (AddK t c n.id (pickV L a [0, 1, 5, 40, 100, 1000])).1 else c)
end Go.V

