/- Charges: plain laws of totals. -/
/- The value machine V at work: charges of a group itself. -/
/- The value machine V at work: the check of charges. -/
/- The value machine V at work: the totals of all groups. -/
/- The value machine V at work: totals and additions. -/
/- Lists that ascend, checked element by element. Plain. -/
/- The value machine V at work: lists that are the same, limits. -/
/- The value machine V at work: charges below limits. -/
/- The value machine V at work: the reference's charges. -/
/- The value machine V at work: made counters; the examples of the chapter. -/
/- The value machine V at work: the examples of chapter 22. -/
/- The value machine V at work: all totals, groups above their limits; made limits. -/
/- Ways up: the reference's are the program's; how many groups a made tree has had. Plain. -/
import Derived.Test.YthmbpjnpcjfdiaaVU
set_option linter.unusedSimpArgs false
set_option linter.unusedVariables false
namespace Go.V

structure Ch where
  group : Int
  own : Int
  deriving DecidableEq
def Ch.pv (c : Ch) : PV := .agg [.int .i64 c.group, .int .i64 c.own]
abbrev Ch.vv (c : Ch) : VVal := .agg [.p (.int .i64 c.group), .p (.int .i64 c.own)]
abbrev chsP (l : List Ch) : PV := .slice 2 (l.map Ch.pv)
attribute [go_sem] Ch.pv
theorem chs_flat (l : List Ch) : (l.map Ch.pv).all PV.flat = true := by
  rw [List.all_eq_true]
  intro x hx
  obtain ⟨n, _, rfl⟩ := List.mem_map.1 hx
  rfl
attribute [go_sem] chs_flat

/-! ### sums of lists -/

def sumI : List Int → Int
  | [] => 0
  | x :: xs => x + sumI xs
theorem sumI_append : ∀ (a b : List Int), sumI (a ++ b) = sumI a + sumI b
  | [], b => by simp [sumI]
  | x :: a, b => by have := sumI_append a b; simp only [List.cons_append, sumI]; omega
theorem sumI_nonneg : ∀ (a : List Int), (∀ x ∈ a, 0 ≤ x) → 0 ≤ sumI a
  | [], _ => Int.le_refl _
  | x :: a, h => by
    have := sumI_nonneg a (fun y hy => h y (List.mem_cons_of_mem _ hy))
    have := h x (List.mem_cons_self ..)
    simp only [sumI]; omega
theorem sumI_map_nonneg {α : Type} {f : α → Int} (a : List α) (h : ∀ x ∈ a, 0 ≤ f x) : 0 ≤ sumI (a.map f) := sumI_nonneg _ (fun x hx => by
  obtain ⟨y, hy, rfl⟩ := List.mem_map.1 hx
  exact h y hy)
theorem sumI_flatMap {α : Type} (f : Int → Int) (g : α → List Int) : ∀ (a : List α), sumI ((a.flatMap g).map f) = sumI (a.map fun x => sumI ((g x).map f))
  | [] => rfl
  | x :: a => by
    have := sumI_flatMap f g a
    simp only [List.flatMap_cons, List.map_append, sumI_append, List.map_cons, sumI, this]
theorem sumI_take_succ {α : Type} {f : α → Int} {l : List α} {k : Nat} {x : α} (h : l[k]? = some x) : sumI ((l.take (k + 1)).map f) = sumI ((l.take k).map f) + f x := by
  rw [List.take_add_one, h]
  simp [sumI_append, sumI]
theorem sumI_take_le {α : Type} {f : α → Int} (l : List α) (k : Nat) (h : ∀ x ∈ l, 0 ≤ f x) : sumI ((l.take k).map f) ≤ sumI (l.map f) := by
  have h1 : sumI (l.map f) = sumI ((l.take k).map f) + sumI ((l.drop k).map f) := by
    rw [← sumI_append, ← List.map_append, List.take_append_drop]
  have h2 := sumI_map_nonneg (l.drop k) (f := f) (fun x hx => h x (List.mem_of_mem_drop hx))
  omega
theorem sumI_congr {α : Type} {f g : α → Int} {l : List α} (h : ∀ x ∈ l, f x = g x) : sumI (l.map f) = sumI (l.map g) := by
  rw [List.map_congr_left h]

/-! ### charges -/

def ownC : List Ch → Int → Int
  | [], _ => 0
  | c :: l, id => if c.group = id then c.own else ownC l id

def prevOk (p : Option Int) (g : Int) : Bool := match p with | none => true | some q => decide (q < g)
def chOk (ns : List Nd) : Option Int → Int → List Ch → Bool
  | _, _, [] => true
  | p, s, c :: l => (findN ns c.group).isSome && prevOk p c.group && decide (1 ≤ c.own) && decide (c.own ≤ 16777216 - s) && chOk ns (some c.group) (s + c.own) l

theorem chOk_cons (ns : List Nd) (p : Option Int) (s : Int) (c : Ch) (l : List Ch) : chOk ns p s (c :: l) = ((findN ns c.group).isSome && prevOk p c.group && decide (1 ≤ c.own) && decide (c.own ≤ 16777216 - s) && chOk ns (some c.group) (s + c.own) l) := by simp only [chOk]
theorem chOk_nil (ns : List Nd) (p : Option Int) (s : Int) : chOk ns p s [] = true := by simp only [chOk]
structure ChOk (ns : List Nd) (l : List Ch) : Prop where
  known : ∀ c ∈ l, (findN ns c.group).isSome = true
  inc : l.Pairwise fun a b => a.group < b.group
  pos : ∀ c ∈ l, 1 ≤ c.own
  all : sumI (l.map (·.own)) ≤ 16777216

theorem chOk_iff' (ns : List Nd) : ∀ (l : List Ch) (p : Option Int) (s : Int), s ≤ 16777216 → (chOk ns p s l = true ↔
    (∀ c ∈ l, (findN ns c.group).isSome = true) ∧ (l.Pairwise fun a b => a.group < b.group) ∧ (∀ q, p = some q → ∀ c ∈ l, q < c.group) ∧ (∀ c ∈ l, 1 ≤ c.own) ∧ s + sumI (l.map (·.own)) ≤ 16777216)
  | [], p, s, hs => by simp [chOk, sumI]; omega
  | c :: l, p, s, hs => by
    have hp : prevOk p c.group = true ↔ ∀ q, p = some q → q < c.group := by
      cases p <;> simp [prevOk]
    simp only [chOk, Bool.and_eq_true, decide_eq_true_eq, hp, List.mem_cons, forall_eq_or_imp, List.pairwise_cons, List.map_cons, sumI]
    constructor
    · rintro ⟨⟨⟨⟨h1, h2⟩, h3⟩, h4⟩, h5⟩
      obtain ⟨a1, a2, a3, a4, a5⟩ := (chOk_iff' ns l (some c.group) (s + c.own) (by omega)).1 h5
      refine ⟨⟨h1, a1⟩, ⟨a3 _ rfl, a2⟩, fun q hq => ⟨h2 q hq, fun d hd => ?_⟩, ⟨h3, a4⟩, by omega⟩
      have := h2 q hq
      have := a3 _ rfl d hd
      omega
    · rintro ⟨⟨h1, a1⟩, ⟨a3, a2⟩, h2, ⟨h3, a4⟩, h5⟩
      have hn := sumI_map_nonneg l (f := (·.own)) (fun x hx => by have := a4 x hx; omega)
      refine ⟨⟨⟨⟨h1, fun q hq => (h2 q hq).1⟩, h3⟩, by omega⟩, (chOk_iff' ns l (some c.group) (s + c.own) (by omega)).2 ⟨a1, a2, fun q hq => ?_, a4, by omega⟩⟩
      cases hq
      exact a3
theorem chOk_iff (ns : List Nd) (l : List Ch) : chOk ns none 0 l = true ↔ ChOk ns l := by
  rw [chOk_iff' ns l none 0 (by omega)]
  constructor
  · rintro ⟨a, b, _, d, e⟩
    exact ⟨a, b, d, by omega⟩
  · rintro ⟨a, b, d, e⟩
    exact ⟨a, b, fun q hq => by simp at hq, d, by omega⟩

theorem ownC_nonneg {l : List Ch} (h : ∀ c ∈ l, 1 ≤ c.own) (id : Int) : 0 ≤ ownC l id := by
  induction l with
  | nil => exact Int.le_refl _
  | cons c l ih =>
    unfold ownC
    split
    · have := h c (List.mem_cons_self ..); omega
    · exact ih (fun d hd => h d (List.mem_cons_of_mem _ hd))
theorem ownC_zero {l : List Ch} {id : Int} (h : ∀ c ∈ l, c.group ≠ id) : ownC l id = 0 := by
  induction l with
  | nil => rfl
  | cons c l ih =>
    unfold ownC
    rw [if_neg (h c (List.mem_cons_self ..))]
    exact ih (fun d hd => h d (List.mem_cons_of_mem _ hd))
theorem ownC_le {l : List Ch} (h : ∀ c ∈ l, 1 ≤ c.own) (id : Int) : ownC l id ≤ sumI (l.map (·.own)) := by
  induction l with
  | nil => exact Int.le_refl _
  | cons c l ih =>
    have h0 := h c (List.mem_cons_self ..)
    have hl := fun d hd => h d (List.mem_cons_of_mem c hd)
    have h1 := ih hl
    have h2 := sumI_map_nonneg l (f := (·.own)) (fun x hx => by have := hl x hx; omega)
    unfold ownC
    simp only [List.map_cons, sumI]
    split <;> omega

theorem sum_upd (f : Int → Int) (g v : Int) : ∀ (xs : List Int), xs.Nodup → sumI (xs.map fun x => if x = g then v else f x) = sumI (xs.map f) + if g ∈ xs then v - f g else 0
  | [], _ => by simp [sumI]
  | x :: xs, h => by
    obtain ⟨hx, hn⟩ := List.nodup_cons.1 h
    have ih := sum_upd f g v xs hn
    simp only [List.map_cons, sumI, ih, List.mem_cons]
    by_cases he : x = g
    · subst he
      simp [hx]
      omega
    · have he' : ¬ g = x := fun hh => he hh.symm
      simp only [he, he', if_false, false_or]
      omega

theorem ownC_cons (c : Ch) (l : List Ch) : ownC (c :: l) = fun x => if x = c.group then c.own else ownC l x := by
  funext x
  simp only [ownC, eq_comm]
theorem sum_own_nil : ∀ xs : List Int, sumI (xs.map (ownC [])) = 0
  | [] => rfl
  | x :: xs => by
    show ownC [] x + sumI (xs.map (ownC [])) = 0
    rw [sum_own_nil xs]; rfl
theorem sum_own_le {l : List Ch} (h : ∀ c ∈ l, 1 ≤ c.own) (xs : List Int) (hx : xs.Nodup) : sumI (xs.map (ownC l)) ≤ sumI (l.map (·.own)) := by
  induction l with
  | nil =>
    rw [sum_own_nil]
    exact Int.le_refl _
  | cons c l ih =>
    have h0 := h c (List.mem_cons_self ..)
    have hl := fun d hd => h d (List.mem_cons_of_mem c hd)
    have h1 := ih hl
    rw [ownC_cons, sum_upd _ _ _ _ hx]
    have h3 := ownC_nonneg hl c.group
    simp only [List.map_cons, sumI]
    split <;> omega
theorem sum_own_eq {l : List Ch} (hp : l.Pairwise fun a b => a.group < b.group) (xs : List Int) (hx : xs.Nodup) (hm : ∀ c ∈ l, c.group ∈ xs) : sumI (xs.map (ownC l)) = sumI (l.map (·.own)) := by
  induction l with
  | nil =>
    rw [sum_own_nil]
    rfl
  | cons c l ih =>
    obtain ⟨h0, h1⟩ := List.pairwise_cons.1 hp
    rw [ownC_cons, sum_upd _ _ _ _ hx, if_pos (hm c (List.mem_cons_self ..)), ih h1 (fun d hd => hm d (List.mem_cons_of_mem _ hd)), ownC_zero (fun d hd => by have := h0 d hd; omega)]
    simp only [List.map_cons, sumI]
    omega

theorem ch_ext : ∀ (a b : List Ch), (a.Pairwise fun x y => x.group < y.group) → (b.Pairwise fun x y => x.group < y.group) → (∀ c ∈ a, 1 ≤ c.own) → (∀ c ∈ b, 1 ≤ c.own) → (∀ x, ownC a x = ownC b x) → a = b
  | [], [], _, _, _, _, _ => rfl
  | [], c :: b, _, _, _, h, he => by
    have h1 := he c.group
    have h2 := h c (List.mem_cons_self ..)
    simp [ownC] at h1
    omega
  | c :: a, [], _, _, h, _, he => by
    have h1 := he c.group
    have h2 := h c (List.mem_cons_self ..)
    simp [ownC] at h1
    omega
  | c :: a, d :: b, ha, hb, pa, pb, he => by
    obtain ⟨ha0, ha1⟩ := List.pairwise_cons.1 ha
    obtain ⟨hb0, hb1⟩ := List.pairwise_cons.1 hb
    have c0 := pa c (List.mem_cons_self ..)
    have d0 := pb d (List.mem_cons_self ..)
    have hg : c.group = d.group := by
      have e1 := he c.group
      have e2 := he d.group
      simp only [ownC, if_true] at e1 e2
      by_cases h1 : d.group < c.group
      · rw [if_neg (by omega), ownC_zero (fun x hx => by have := ha0 x hx; omega)] at e2
        omega
      · by_cases h2 : c.group < d.group
        · rw [if_neg (by omega), ownC_zero (fun x hx => by have := hb0 x hx; omega)] at e1
          omega
        · omega
    have ho : c.own = d.own := by
      have e1 := he c.group
      simp only [ownC, if_true] at e1
      rw [if_pos hg.symm] at e1
      exact e1
    have hcd : c = d := by
      cases c; cases d; simp_all
    subst hcd
    congr 1
    refine ch_ext a b ha1 hb1 (fun x hx => pa x (List.mem_cons_of_mem _ hx)) (fun x hx => pb x (List.mem_cons_of_mem _ hx)) (fun x => ?_)
    have := he x
    simp only [ownC] at this
    by_cases hx : c.group = x
    · subst hx
      rw [ownC_zero (fun y hy => by have := ha0 y hy; omega), ownC_zero (fun y hy => by have := hb0 y hy; omega)]
    · rwa [if_neg hx, if_neg hx] at this

/-! ### a group's own charge replaced -/

def withGo (id v : Int) : Bool → List Ch → List Ch
  | d, [] => if d then [] else [⟨id, v⟩]
  | d, c :: l => (if !d && decide (id ≤ c.group) then [⟨id, v⟩] else []) ++ (if c.group = id then [] else [c]) ++ withGo id v (d || decide (id ≤ c.group)) l
def withC (l : List Ch) (id v : Int) : List Ch := withGo id v (decide (v = 0)) l

theorem withGo_own (id v x : Int) : ∀ (l : List Ch) (d : Bool), ownC (withGo id v d l) x = if x = id then (if d then 0 else v) else ownC l x
  | [], d => by
    cases d
    · simp [withGo, ownC, eq_comm]
    · simp [withGo, ownC]
  | c :: l, d => by
    have ih := withGo_own id v x l
    unfold withGo
    cases d
    · by_cases h1 : id ≤ c.group
      · by_cases h2 : c.group = id
        · by_cases h3 : x = id
          · simp [h2, h3, ownC]
          · have h3' : ¬ id = x := fun h => h3 h.symm
            simp [h2, h3, h3', ownC, ih]
        · by_cases h3 : x = id
          · simp [h1, h2, h3, ownC]
          · have h3' : ¬ id = x := fun h => h3 h.symm
            simp [h1, h2, h3, h3', ownC, ih]
      · have h2 : ¬ c.group = id := by omega
        by_cases h3 : x = id
        · subst h3
          simp [h1, h2, ownC, ih]
        · simp [h1, h2, h3, ownC, ih]
    · by_cases h2 : c.group = id
      · by_cases h3 : x = id
        · subst h3
          simp [h2, ownC, ih]
        · have h3' : ¬ id = x := fun h => h3 h.symm
          simp [h2, h3, h3', ownC, ih]
      · by_cases h3 : x = id
        · subst h3
          simp [h2, ownC, ih]
        · simp [h2, h3, ownC, ih]
theorem withC_own (l : List Ch) (id v x : Int) : ownC (withC l id v) x = if x = id then v else ownC l x := by
  unfold withC
  rw [withGo_own]
  by_cases h : v = 0
  · simp [h]
  · simp [h]

theorem withGo_mem (id v : Int) : ∀ (l : List Ch) (d : Bool), ∀ c ∈ withGo id v d l, (d = false ∧ c = ⟨id, v⟩) ∨ (c ∈ l ∧ c.group ≠ id)
  | [], d, c, hc => by
    cases d
    · simp [withGo] at hc; exact Or.inl ⟨rfl, hc⟩
    · simp [withGo] at hc
  | e :: l, d, c, hc => by
    unfold withGo at hc
    simp only [List.mem_append] at hc
    rcases hc with (hc | hc) | hc
    · split at hc
      · rename_i h
        simp only [Bool.and_eq_true, Bool.not_eq_true'] at h
        exact Or.inl ⟨h.1, by simpa using hc⟩
      · simp at hc
    · split at hc
      · simp at hc
      · rename_i h
        simp at hc
        subst hc
        exact Or.inr ⟨List.mem_cons_self .., h⟩
    · rcases withGo_mem id v l _ c hc with ⟨h1, h2⟩ | ⟨h1, h2⟩
      · simp only [Bool.or_eq_false_iff] at h1
        exact Or.inl ⟨h1.1, h2⟩
      · exact Or.inr ⟨List.mem_cons_of_mem _ h1, h2⟩

theorem withGo_inc (id v : Int) : ∀ (l : List Ch) (d : Bool), (l.Pairwise fun a b => a.group < b.group) → (withGo id v d l).Pairwise fun a b => a.group < b.group
  | [], d, _ => by cases d <;> simp [withGo]
  | e :: l, d, h => by
    obtain ⟨h0, h1⟩ := List.pairwise_cons.1 h
    have ih := fun d => withGo_inc id v l d h1
    have hm := withGo_mem id v l
    unfold withGo
    by_cases hge : id ≤ e.group
    · have hT : (withGo id v true l).Pairwise fun a b => a.group < b.group := ih true
      have hbig : ∀ c ∈ withGo id v true l, e.group < c.group := fun c hc => by
        rcases hm true c hc with ⟨hh, _⟩ | ⟨hh, _⟩
        · simp at hh
        · exact h0 c hh
      cases d
      · by_cases he : e.group = id
        · simp only [hge, decide_true, Bool.not_false, Bool.and_self, if_true, he, Int.le_refl, decide_true, List.append_nil, Bool.or_true, List.singleton_append, List.pairwise_cons]
          exact ⟨fun c hc => by have := hbig c hc; show id < c.group; omega, hT⟩
        · simp only [hge, decide_true, Bool.not_false, Bool.and_self, if_true, he, if_false, Bool.or_true, List.singleton_append, List.cons_append, List.nil_append, List.pairwise_cons, List.mem_cons, forall_eq_or_imp]
          exact ⟨⟨by show id < e.group; omega, fun c hc => by have := hbig c hc; show id < c.group; omega⟩, hbig, hT⟩
      · by_cases he : e.group = id
        · simp only [he, Bool.not_true, Bool.false_and, Bool.false_eq_true, if_false, if_true, List.append_nil, List.nil_append, Bool.true_or]
          exact hT
        · simp only [he, Bool.not_true, Bool.false_and, Bool.false_eq_true, if_false, List.nil_append, Bool.true_or, List.singleton_append, List.pairwise_cons]
          exact ⟨hbig, hT⟩
    · have he : ¬ e.group = id := by omega
      simp only [hge, decide_false, Bool.and_false, Bool.false_eq_true, if_false, he, List.nil_append, Bool.or_false, List.singleton_append, List.pairwise_cons]
      refine ⟨fun c hc => ?_, ih d⟩
      rcases hm d c hc with ⟨_, hh⟩ | ⟨hh, _⟩
      · subst hh
        show e.group < id
        omega
      · exact h0 c hh

theorem withGo_sum (id v : Int) : ∀ (l : List Ch) (d : Bool), (l.Pairwise fun a b => a.group < b.group) → sumI ((withGo id v d l).map (·.own)) = sumI (l.map (·.own)) - ownC l id + if d then 0 else v
  | [], d, _ => by cases d <;> simp [withGo, sumI, ownC]
  | e :: l, d, h => by
    obtain ⟨h0, h1⟩ := List.pairwise_cons.1 h
    have ih := fun d => withGo_sum id v l d h1
    unfold withGo ownC
    by_cases he : e.group = id
    · have hz : ownC l id = 0 := ownC_zero (fun c hc => by have := h0 c hc; omega)
      cases d <;> simp [he, sumI, ih, hz] <;> omega
    · by_cases hge : id ≤ e.group
      · cases d <;> simp [he, hge, sumI, ih] <;> omega
      · cases d <;> simp [he, hge, sumI, ih] <;> omega

theorem ChOk.with {ns : List Nd} {l : List Ch} (h : ChOk ns l) {id v : Int} (hid : (findN ns id).isSome = true) (hv : 0 ≤ v) (hs : sumI (l.map (·.own)) - ownC l id + v ≤ 16777216) : ChOk ns (withC l id v) := by
  refine ⟨fun c hc => ?_, withGo_inc _ _ _ _ h.inc, fun c hc => ?_, ?_⟩
  · rcases withGo_mem _ _ _ _ c hc with ⟨_, rfl⟩ | ⟨hh, _⟩
    · exact hid
    · exact h.known c hh
  · rcases withGo_mem _ _ _ _ c hc with ⟨hd, rfl⟩ | ⟨hh, _⟩
    · simp at hd
      show 1 ≤ v
      omega
    · exact h.pos c hh
  · unfold withC
    rw [withGo_sum _ _ _ _ h.inc]
    by_cases hz : v = 0
    · simp [hz]; omega
    · simp [hz]; omega
theorem withC_sum {l : List Ch} (h : l.Pairwise fun a b => a.group < b.group) (id v : Int) : sumI ((withC l id v).map (·.own)) = sumI (l.map (·.own)) - ownC l id + v := by
  unfold withC
  rw [withGo_sum _ _ _ _ h]
  by_cases hz : v = 0
  · simp [hz]
  · simp [hz]

/-! ### totals -/

def tot (t : Tr) (f : Int → Int) (id : Int) : Int := sumI ((subF t.nodes t.nodes.length id).map f)

theorem tot_step {t : Tr} (h : TreeOk t) (f : Int → Int) {i : Nat} {n : Nd} (hn : t.nodes[i]? = some n) : tot t f n.id = f n.id + sumI ((kidsN t.nodes n.id).map (tot t f)) := by
  have hi : i < t.nodes.length := (List.getElem?_eq_some_iff.1 hn).1
  obtain ⟨k, hk⟩ : ∃ k, t.nodes.length = k + 1 := ⟨t.nodes.length - 1, by omega⟩
  unfold tot
  have hs : subF t.nodes t.nodes.length n.id = n.id :: (kidsN t.nodes n.id).flatMap (subF t.nodes k) := by rw [hk]; rfl
  rw [hs, List.map_cons, sumI, sumI_flatMap]
  congr 1
  apply sumI_congr
  intro x hx
  obtain ⟨j, m, hm, hp, rfl⟩ := mem_kidsN.1 hx
  have hij := h.kid hn hm hp
  rw [subF_fuel h k t.nodes.length j m hm (by omega) (by omega)]

def part (t : Tr) (f : Int → Int) (i : Nat) (id : Int) : Int := f id + sumI (((t.nodes.drop i).filter fun m => decide (m.parent = id)).map fun m => tot t f m.id)

theorem part_end (t : Tr) (f : Int → Int) (id : Int) : part t f t.nodes.length id = f id := by
  unfold part
  rw [List.drop_of_length_le (Nat.le_refl _)]
  simp [sumI]
theorem part_step {t : Tr} (f : Int → Int) {i : Nat} {n : Nd} (hn : t.nodes[i]? = some n) (id : Int) : part t f i id = part t f (i + 1) id + if id = n.parent then tot t f n.id else 0 := by
  obtain ⟨hi, he⟩ := List.getElem?_eq_some_iff.1 hn
  unfold part
  rw [List.drop_eq_getElem_cons hi, he]
  by_cases h : n.parent = id
  · simp only [List.filter_cons, h, decide_true, if_true, List.map_cons, sumI]
    omega
  · have h' : ¬ id = n.parent := fun hh => h hh.symm
    simp only [List.filter_cons, h, h', decide_false, Bool.false_eq_true, if_false]
    omega
theorem part_tot {t : Tr} (h : TreeOk t) (f : Int → Int) {i k : Nat} {n : Nd} (hn : t.nodes[i]? = some n) (hk : k ≤ i + 1) : part t f k n.id = tot t f n.id := by
  rw [tot_step h f hn]
  unfold part kidsN
  rw [List.map_map]
  congr 1
  have : t.nodes.filter (fun m => decide (m.parent = n.id)) = (t.nodes.drop k).filter (fun m => decide (m.parent = n.id)) := by
    conv => lhs; rw [← List.take_append_drop k t.nodes, List.filter_append]
    have : (t.nodes.take k).filter (fun m => decide (m.parent = n.id)) = [] := by
      rw [List.filter_eq_nil_iff]
      intro m hm
      obtain ⟨j, hj⟩ := List.getElem?_of_mem hm
      have hjk : j < k := by
        have := (List.getElem?_eq_some_iff.1 hj).1
        simp at this
        omega
      rw [List.getElem?_take_of_lt hjk] at hj
      simp only [decide_eq_true_eq]
      intro hp
      have := h.kid hn hj hp
      omega
    rw [this, List.nil_append]
  rw [this]
  rfl

theorem tot_nonneg (t : Tr) {f : Int → Int} (hf : ∀ x, 0 ≤ f x) (id : Int) : 0 ≤ tot t f id := sumI_map_nonneg _ (fun x _ => hf x)
theorem part_le {t : Tr} (h : TreeOk t) {f : Int → Int} (hf : ∀ x, 0 ≤ f x) {i : Nat} {n : Nd} (hn : t.nodes[i]? = some n) (k : Nat) : part t f k n.id ≤ tot t f n.id := by
  rw [← part_tot h f hn (Nat.zero_le _)]
  unfold part
  rw [List.drop_zero]
  have h1 : t.nodes.filter (fun m => decide (m.parent = n.id)) = (t.nodes.take k).filter (fun m => decide (m.parent = n.id)) ++ (t.nodes.drop k).filter (fun m => decide (m.parent = n.id)) := by
    rw [← List.filter_append, List.take_append_drop]
  rw [h1, List.map_append, sumI_append]
  have := sumI_map_nonneg ((t.nodes.take k).filter (fun m => decide (m.parent = n.id))) (f := fun m => tot t f m.id) (fun m _ => tot_nonneg t hf _)
  omega
theorem part_nonneg (t : Tr) {f : Int → Int} (hf : ∀ x, 0 ≤ f x) (i : Nat) (id : Int) : 0 ≤ part t f i id := by
  unfold part
  have h1 := hf id
  have := sumI_map_nonneg ((t.nodes.drop i).filter (fun m => decide (m.parent = id))) (f := fun m => tot t f m.id) (fun m _ => tot_nonneg t hf _)
  omega
theorem subF_nodup {t : Tr} (h : TreeOk t) {i : Nat} {n : Nd} (hn : t.nodes[i]? = some n) : (subF t.nodes t.nodes.length n.id).Nodup := nodup_subF h _ _ _ hn (by omega)
theorem mem_sub {t : Tr} (h : TreeOk t) {i : Nat} {n : Nd} (hn : t.nodes[i]? = some n) (x : Int) : x ∈ subF t.nodes t.nodes.length n.id ↔ ∃ (j : Nat) (m : Nd), t.nodes[j]? = some m ∧ m.id = x ∧ n.id ∈ ancF t.nodes t.nodes.length m.id := mem_subF h _ _ _ hn (by omega) x
theorem tot_le {t : Tr} (h : TreeOk t) {l : List Ch} (hl : ChOk t.nodes l) {i : Nat} {n : Nd} (hn : t.nodes[i]? = some n) : tot t (ownC l) n.id ≤ sumI (l.map (·.own)) := sum_own_le hl.pos _ (subF_nodup h hn)
theorem tot_upd {t : Tr} (h : TreeOk t) (f : Int → Int) {i j : Nat} {n m : Nd} (hn : t.nodes[i]? = some n) (hm : t.nodes[j]? = some m) (v : Int) : tot t (fun x => if x = m.id then v else f x) n.id = tot t f n.id + if n.id ∈ ancF t.nodes t.nodes.length m.id then v - f m.id else 0 := by
  unfold tot
  rw [sum_upd _ _ _ _ (subF_nodup h hn)]
  congr 1
  have : m.id ∈ subF t.nodes t.nodes.length n.id ↔ n.id ∈ ancF t.nodes t.nodes.length m.id := by
    rw [mem_sub h hn]
    constructor
    · rintro ⟨k, p, hp, he, ha⟩
      rwa [he] at ha
    · intro ha
      exact ⟨j, m, hm, rfl, ha⟩
  simp only [this]

end Go.V

namespace Go.V

abbrev ctrV (l : List Ch) : VVal := .agg [.p (chsP l)]
abbrev ctrF (l : List Ch) : VVal := .agg [.fresh 2 (l.map Ch.pv)]

theorem own_eq (l : List Ch) (id : Int) (hl : l.length < 1000000) : V 29 [ctrV l, .p (.int .i64 id)] [] = some (.p (.int .i64 (ownC l id)), []) := by
  refine V_wp (vf := vf29) rfl ?_
  simp -implicitDefEqProofs (disch := omega) only [vf29, vb29, go_sem, ↓reduceIte, Nat.reduceAdd, Nat.reduceSub, Nat.reduceEqDiff, Nat.reduceLeDiff, reduceCtorEq]
  refine wp_count l.length (fun k s => ownC l id = ownC (l.drop k) id ∧ s.pe 1 = .p (.int .i64 id) ∧ s.pe 8 = .p (chsP l) ∧ s.pe 9 = .p (.int .i64 l.length) ∧ s.pe 10 = .p (.int .i64 k)) ?_ ?_
  · exact ⟨rfl, rfl, rfl, rfl, rfl⟩
  · rintro k s hk ⟨ho, h1, h8, h9, h10⟩
    simp -implicitDefEqProofs (disch := omega) only [h1, h8, h9, h10, go_sem, ↓reduceIte, Nat.reduceAdd, Nat.reduceSub, Nat.reduceEqDiff, Nat.reduceLeDiff, reduceCtorEq]
    refine wp_if_d (fun hlt => ?_) (fun hge => ?_)
    · have hm : l[k]? = some l[k] := List.getElem?_eq_getElem hlt
      have hd : l.drop k = l[k] :: l.drop (k + 1) := List.drop_eq_getElem_cons hlt
      generalize l[k] = c at hm hd
      rw [hd, ownC] at ho
      by_cases he : c.group = id
      · rw [if_pos he] at ho
        simp -implicitDefEqProofs (disch := omega) only [h1, h8, h9, h10, hlt, hm, he, ho, go_sem, ↓reduceIte, Nat.reduceAdd, Nat.reduceSub, Nat.reduceEqDiff, Nat.reduceLeDiff, reduceCtorEq]
      · rw [if_neg he] at ho
        simp -implicitDefEqProofs (disch := omega) only [h1, h8, h9, h10, hlt, hm, he, go_sem, ↓reduceIte, Nat.reduceAdd, Nat.reduceSub, Nat.reduceEqDiff, Nat.reduceLeDiff, reduceCtorEq]
        exact ⟨ho, rfl⟩
    · rw [List.drop_of_length_le (by omega), ownC] at ho
      simp -implicitDefEqProofs (disch := omega) only [h1, h8, h9, h10, hge, ho, go_sem, ↓reduceIte, Nat.reduceAdd, Nat.reduceSub, Nat.reduceEqDiff, Nat.reduceLeDiff, reduceCtorEq]

theorem rown_eq (l : List Ch) (id : Int) (hl : l.length < 1000000) : V 30 [ctrV l, .p (.int .i64 id)] [] = some (.p (.int .i64 (ownC l id)), []) := by
  refine V_wp (vf := vf30) rfl ?_
  simp -implicitDefEqProofs (disch := omega) only [vf30, vb30, go_sem, ↓reduceIte, Nat.reduceAdd, Nat.reduceSub, Nat.reduceEqDiff, Nat.reduceLeDiff, reduceCtorEq]
  refine wp_count l.length (fun k s => ownC l id = ownC (l.drop k) id ∧ s.pe 1 = .p (.int .i64 id) ∧ s.pe 2 = .ptr (.slot 2 0) 0 0 ∧ s.pe 5 = .p (.int .i64 k) ∧ s.h (.slot 2 0) = some (0, .box [.p (chsP l)])) ?_ ?_
  · exact ⟨rfl, rfl, rfl, rfl, rfl⟩
  · rintro k s hk ⟨ho, h1, h2, h5, hh2⟩
    simp -implicitDefEqProofs (disch := omega) only [h1, h2, h5, hh2, go_sem, ↓reduceIte, Nat.reduceAdd, Nat.reduceSub, Nat.reduceEqDiff, Nat.reduceLeDiff, reduceCtorEq]
    refine wp_if_d (fun hlt => ?_) (fun hge => ?_)
    · have hm : l[k]? = some l[k] := List.getElem?_eq_getElem hlt
      have hd : l.drop k = l[k] :: l.drop (k + 1) := List.drop_eq_getElem_cons hlt
      generalize l[k] = c at hm hd
      rw [hd, ownC] at ho
      by_cases he : c.group = id
      · rw [if_pos he] at ho
        simp -implicitDefEqProofs (disch := omega) only [h1, h2, h5, hh2, hlt, hm, he, ho, go_sem, ↓reduceIte, Nat.reduceAdd, Nat.reduceSub, Nat.reduceEqDiff, Nat.reduceLeDiff, reduceCtorEq]
      · rw [if_neg he] at ho
        simp -implicitDefEqProofs (disch := omega) only [h1, h2, h5, hh2, hlt, hm, he, go_sem, ↓reduceIte, Nat.reduceAdd, Nat.reduceSub, Nat.reduceEqDiff, Nat.reduceLeDiff, reduceCtorEq]
        exact ⟨ho, rfl⟩
    · rw [List.drop_of_length_le (by omega), ownC] at ho
      simp -implicitDefEqProofs (disch := omega) only [h1, h2, h5, hh2, hge, ho, go_sem, ↓reduceIte, Nat.reduceAdd, Nat.reduceSub, Nat.reduceEqDiff, Nat.reduceLeDiff, reduceCtorEq]

set_option maxHeartbeats 1000000 in
theorem with_eq (l : List Ch) (id v : Int) (hl : l.length < 1000000) : V 46 [ctrV l, .p (.int .i64 id), .p (.int .i64 v)] [] = some (ctrF (withC l id v), []) := by
  refine V_wp (vf := vf46) rfl ?_
  simp -implicitDefEqProofs (disch := omega) only [vf46, vb46, go_sem, ↓reduceIte, Nat.reduceAdd, Nat.reduceSub, Nat.reduceEqDiff, Nat.reduceLeDiff, reduceCtorEq]
  refine wp_count l.length (fun k s => ∃ (acc : List Ch) (d : Bool) (w : Nat), withC l id v = acc ++ withGo id v d (l.drop k) ∧ acc.length ≤ 2 * k ∧ s.pe 1 = .p (.int .i64 id) ∧ s.pe 2 = .p (.int .i64 v) ∧ s.pe 6 = .ptr (.slot 6 0) 0 0 ∧ s.pe 7 = .ptr (.slot 7 0) 0 0 ∧ s.pe 8 = .p (.bool d) ∧ s.pe 14 = .p (chsP l) ∧ s.pe 15 = .p (.int .i64 l.length) ∧ s.pe 16 = .p (.int .i64 k) ∧ s.h (.slot 6 0) = some (0, .box [.own (.slot 6 1) 0 0 0]) ∧ s.h (.slot 7 0) = some (0, .box [.own (.slot 7 1) w 0 acc.length]) ∧ s.h (.slot 7 1) = some (w, .arr 2 (acc.map Ch.pv))) ?_ ?_
  · exact ⟨[], decide (v = 0), 0, rfl, Nat.le_refl _, rfl, rfl, rfl, rfl, by simp -implicitDefEqProofs (disch := omega) only [go_sem, ↓reduceIte, Nat.reduceAdd, Nat.reduceSub, Nat.reduceEqDiff, Nat.reduceLeDiff, reduceCtorEq], rfl, rfl, rfl, rfl, rfl, rfl⟩
  · rintro k s hk ⟨acc, d, w, hw, hal, h1, h2, h6, h7, h8, h14, h15, h16, hh6, hh7, hh71⟩
    simp -implicitDefEqProofs (disch := omega) only [h1, h2, h6, h7, h8, h14, h15, h16, hh6, hh7, hh71, go_sem, ↓reduceIte, Nat.reduceAdd, Nat.reduceSub, Nat.reduceEqDiff, Nat.reduceLeDiff, reduceCtorEq]
    refine wp_if_d (fun hlt => ?_) (fun hge => ?_)
    · have hm : l[k]? = some l[k] := List.getElem?_eq_getElem hlt
      have hd : l.drop k = l[k] :: l.drop (k + 1) := List.drop_eq_getElem_cons hlt
      generalize l[k] = c at hm hd
      rw [hd, withGo] at hw
      cases d with
      | true =>
        by_cases he : c.group = id
        · simp only [he, Bool.not_true, Bool.false_and, Bool.false_eq_true, if_false, if_true, List.nil_append, List.append_nil, Bool.true_or] at hw
          simp -implicitDefEqProofs (disch := omega) only [h1, h2, h6, h7, h8, h14, h15, h16, hh6, hh7, hh71, hlt, hm, he, go_sem, ↓reduceIte, Nat.reduceAdd, Nat.reduceSub, Nat.reduceEqDiff, Nat.reduceLeDiff, reduceCtorEq]
          refine ⟨acc, true, w, hw, by omega, ?_⟩
          simp
        · simp only [he, Bool.not_true, Bool.false_and, Bool.false_eq_true, if_false, List.nil_append, Bool.true_or, ← List.append_assoc] at hw
          simp -implicitDefEqProofs (disch := omega) only [h1, h2, h6, h7, h8, h14, h15, h16, hh6, hh7, hh71, hlt, hm, he, go_sem, ↓reduceIte, Nat.reduceAdd, Nat.reduceSub, Nat.reduceEqDiff, Nat.reduceLeDiff, reduceCtorEq]
          refine ⟨acc ++ [c], true, w + 1, hw, by simp; omega, rfl, rfl, ?_⟩
          simp [Ch.pv]
      | false =>
        by_cases hge : id ≤ c.group
        · by_cases he : c.group = id
          · simp only [he, Int.le_refl, decide_true, Bool.not_false, Bool.and_self, if_true, List.append_nil, Bool.or_true, ← List.append_assoc] at hw
            simp -implicitDefEqProofs (disch := omega) only [h1, h2, h6, h7, h8, h14, h15, h16, hh6, hh7, hh71, hlt, hm, hge, he, Int.le_refl, decide_true, go_sem, ↓reduceIte, Nat.reduceAdd, Nat.reduceSub, Nat.reduceEqDiff, Nat.reduceLeDiff, reduceCtorEq]
            refine ⟨acc ++ [⟨id, v⟩], true, w + 1, hw, by simp; omega, rfl, rfl, ?_⟩
            simp [Ch.pv]
          · simp only [he, hge, decide_true, Bool.not_false, Bool.and_self, if_true, if_false, Bool.or_true, ← List.append_assoc] at hw
            simp -implicitDefEqProofs (disch := omega) only [h1, h2, h6, h7, h8, h14, h15, h16, hh6, hh7, hh71, hlt, hm, hge, he, go_sem, ↓reduceIte, Nat.reduceAdd, Nat.reduceSub, Nat.reduceEqDiff, Nat.reduceLeDiff, reduceCtorEq]
            refine ⟨acc ++ [⟨id, v⟩] ++ [c], true, w + 1 + 1, hw, by simp; omega, rfl, rfl, ?_⟩
            simp [Ch.pv]
        · have he : ¬ c.group = id := by omega
          simp only [he, hge, decide_false, Bool.not_false, Bool.and_false, Bool.false_eq_true, if_false, List.nil_append, Bool.or_false, ← List.append_assoc] at hw
          simp -implicitDefEqProofs (disch := omega) only [h1, h2, h6, h7, h8, h14, h15, h16, hh6, hh7, hh71, hlt, hm, hge, he, go_sem, ↓reduceIte, Nat.reduceAdd, Nat.reduceSub, Nat.reduceEqDiff, Nat.reduceLeDiff, reduceCtorEq]
          refine ⟨acc ++ [c], false, w + 1, hw, by simp; omega, rfl, rfl, ?_⟩
          simp [Ch.pv]
    · rw [List.drop_of_length_le (by omega), withGo] at hw
      cases d with
      | true =>
        simp only [if_true, List.append_nil] at hw
        simp -implicitDefEqProofs (disch := omega) only [h1, h2, h6, h7, h8, h14, h15, h16, hh6, hh7, hh71, hge, go_sem, ↓reduceIte, Nat.reduceAdd, Nat.reduceSub, Nat.reduceEqDiff, Nat.reduceLeDiff, reduceCtorEq]
        rw [hw]
      | false =>
        simp only [Bool.false_eq_true, if_false] at hw
        simp -implicitDefEqProofs (disch := omega) only [h1, h2, h6, h7, h8, h14, h15, h16, hh6, hh7, hh71, hge, go_sem, ↓reduceIte, Nat.reduceAdd, Nat.reduceSub, Nat.reduceEqDiff, Nat.reduceLeDiff, reduceCtorEq]
        rw [hw]
        simp [Ch.pv]
end Go.V

namespace Go.V

def validK (t : Tr) (l : List Ch) : Bool := treeOk t && chOk t.nodes none 0 l

set_option maxHeartbeats 1000000 in
theorem kvalid_eq (t : Tr) (l : List Ch) (hf : t.Fits) (hn : t.nodes.length < 1000000) (hl : l.length < 1000000) : V 25 [t.vv, .agg [.p (chsP l)]] [] = some (.p (.bool (validK t l)), []) := by
  refine V_wp (vf := vf25) rfl ?_
  have hc := tcheck_eq t hf hn
  unfold validK
  cases ht : treeOk t with
  | false =>
    rw [ht] at hc
    simp -implicitDefEqProofs (disch := omega) only [vf25, vb25, hc, Bool.false_and, go_sem, ↓reduceIte, Nat.reduceAdd, Nat.reduceSub, Nat.reduceEqDiff, Nat.reduceLeDiff, reduceCtorEq]
  | true =>
    rw [ht] at hc
    simp -implicitDefEqProofs (disch := omega) only [vf25, vb25, hc, go_sem, ↓reduceIte, Nat.reduceAdd, Nat.reduceSub, Nat.reduceEqDiff, Nat.reduceLeDiff, reduceCtorEq]
    rw [Bool.true_and]
    refine wp_count l.length (fun k s => ∃ (p : Option Int) (q : Int), chOk t.nodes none 0 l = chOk t.nodes p q (l.drop k) ∧ (k = 0 → p = none) ∧ (∀ j, k = j + 1 → ∃ c, l[j]? = some c ∧ p = some c.group) ∧ 0 ≤ q ∧ q ≤ 16777216 ∧ s.pe 2 = .ptr (.slot 2 0) 0 0 ∧ s.pe 3 = .ptr (.slot 3 0) 0 0 ∧ s.pe 5 = .p (.int .i64 q) ∧ s.pe 14 = .p (chsP l) ∧ s.pe 15 = .p (.int .i64 l.length) ∧ s.pe 16 = .p (.int .i64 k) ∧ s.h (.slot 2 0) = some (0, .box [.p (nodesP t.nodes), .p (.int .i64 t.next)]) ∧ s.h (.slot 3 0) = some (0, .box [.p (chsP l)])) ?_ ?_
    · exact ⟨none, 0, rfl, fun _ => rfl, fun j hj => by omega, by omega, by omega, rfl, rfl, rfl, rfl, rfl, rfl, rfl, rfl⟩
    · rintro k s hk ⟨p, q, hq, hp0, hp1, q0, q1, h2, h3, h5, h14, h15, h16, hh2, hh3⟩
      simp -implicitDefEqProofs (disch := omega) only [h2, h3, h5, h14, h15, h16, hh2, hh3, go_sem, ↓reduceIte, Nat.reduceAdd, Nat.reduceSub, Nat.reduceEqDiff, Nat.reduceLeDiff, reduceCtorEq]
      refine wp_if_d (fun hlt => ?_) (fun hge => ?_)
      · have hm : l[k]? = some l[k] := List.getElem?_eq_getElem hlt
        have hd : l.drop k = l[k] :: l.drop (k + 1) := List.drop_eq_getElem_cons hlt
        generalize l[k] = c at hm hd
        have hfi := ffind_eq t c.group hn
        rw [hd, chOk_cons] at hq
        cases hfs : (findN t.nodes c.group).isSome with
        | false =>
          rw [hfs] at hfi
          simp only [hfs, Bool.false_and] at hq
          generalize (findN t.nodes c.group).getD zeroNd = nd at hfi
          simp -implicitDefEqProofs (disch := omega) only [h2, h3, h5, h14, h15, h16, hh2, hh3, hlt, hm, hfi, Nd.vv, hq, go_sem, ↓reduceIte, Nat.reduceAdd, Nat.reduceSub, Nat.reduceEqDiff, Nat.reduceLeDiff, reduceCtorEq]
        | true =>
          rw [hfs] at hfi
          generalize (findN t.nodes c.group).getD zeroNd = nd at hfi
          have hfin : ∀ (hpc : prevOk p c.group = true) (ho1 : ¬ c.own < 1) (ho2 : ¬ 16777216 - q < c.own), chOk t.nodes none 0 l = chOk t.nodes (some c.group) (q + c.own) (l.drop (k + 1)) := by
            intro hpc ho1 ho2
            rw [hq, hfs, hpc, decide_eq_true (show 1 ≤ c.own by omega), decide_eq_true (show c.own ≤ 16777216 - q by omega)]
            rfl
          have hbad : ∀ (hb : prevOk p c.group = false ∨ c.own < 1 ∨ 16777216 - q < c.own), chOk t.nodes none 0 l = false := by
            rintro (hb | hb | hb)
            · rw [hq, hb]; simp
            · rw [hq, decide_eq_false (show ¬ 1 ≤ c.own by omega)]; simp
            · rw [hq, decide_eq_false (show ¬ c.own ≤ 16777216 - q by omega)]; simp
          have hnx : ∀ j, k + 1 = j + 1 → ∃ c', l[j]? = some c' ∧ some c.group = some c'.group := fun j hj => ⟨c, by rw [show j = k by omega]; exact hm, rfl⟩
          by_cases ho1 : c.own < 1
          · have hb := hbad (Or.inr (Or.inl ho1))
            by_cases hk0 : (0 : Int) < k
            · obtain ⟨e, he, hpe⟩ := hp1 (k - 1) (by omega)
              have he' : l[((k : Int) - 1).toNat]? = some e := by rw [show ((k : Int) - 1).toNat = k - 1 by omega]; exact he
              have hk1 : (0 : Int) ≤ (k : Int) - 1 := by omega
              by_cases hle : c.group ≤ e.group
              · simp -implicitDefEqProofs (disch := omega) only [h2, h3, h5, h14, h15, h16, hh2, hh3, hlt, hm, hfi, Nd.vv, hk0, hk1, he', hle, hb, go_sem, ↓reduceIte, Nat.reduceAdd, Nat.reduceSub, Nat.reduceEqDiff, Nat.reduceLeDiff, reduceCtorEq]
              · simp -implicitDefEqProofs (disch := omega) only [h2, h3, h5, h14, h15, h16, hh2, hh3, hlt, hm, hfi, Nd.vv, hk0, hk1, he', hle, ho1, hb, go_sem, ↓reduceIte, Nat.reduceAdd, Nat.reduceSub, Nat.reduceEqDiff, Nat.reduceLeDiff, reduceCtorEq]
            · simp -implicitDefEqProofs (disch := omega) only [h2, h3, h5, h14, h15, h16, hh2, hh3, hlt, hm, hfi, Nd.vv, hk0, ho1, hb, go_sem, ↓reduceIte, Nat.reduceAdd, Nat.reduceSub, Nat.reduceEqDiff, Nat.reduceLeDiff, reduceCtorEq]
          · by_cases ho2 : 16777216 - q < c.own
            · have hb := hbad (Or.inr (Or.inr ho2))
              by_cases hk0 : (0 : Int) < k
              · obtain ⟨e, he, hpe⟩ := hp1 (k - 1) (by omega)
                have he' : l[((k : Int) - 1).toNat]? = some e := by rw [show ((k : Int) - 1).toNat = k - 1 by omega]; exact he
                have hk1 : (0 : Int) ≤ (k : Int) - 1 := by omega
                by_cases hle : c.group ≤ e.group
                · simp -implicitDefEqProofs (disch := omega) only [h2, h3, h5, h14, h15, h16, hh2, hh3, hlt, hm, hfi, Nd.vv, hk0, hk1, he', hle, hb, go_sem, ↓reduceIte, Nat.reduceAdd, Nat.reduceSub, Nat.reduceEqDiff, Nat.reduceLeDiff, reduceCtorEq]
                · simp -implicitDefEqProofs (disch := omega) only [h2, h3, h5, h14, h15, h16, hh2, hh3, hlt, hm, hfi, Nd.vv, hk0, hk1, he', hle, ho1, ho2, hb, go_sem, ↓reduceIte, Nat.reduceAdd, Nat.reduceSub, Nat.reduceEqDiff, Nat.reduceLeDiff, reduceCtorEq]
              · simp -implicitDefEqProofs (disch := omega) only [h2, h3, h5, h14, h15, h16, hh2, hh3, hlt, hm, hfi, Nd.vv, hk0, ho1, ho2, hb, go_sem, ↓reduceIte, Nat.reduceAdd, Nat.reduceSub, Nat.reduceEqDiff, Nat.reduceLeDiff, reduceCtorEq]
            · by_cases hk0 : (0 : Int) < k
              · obtain ⟨e, he, hpe⟩ := hp1 (k - 1) (by omega)
                have he' : l[((k : Int) - 1).toNat]? = some e := by rw [show ((k : Int) - 1).toNat = k - 1 by omega]; exact he
                have hk1 : (0 : Int) ≤ (k : Int) - 1 := by omega
                subst hpe
                by_cases hle : c.group ≤ e.group
                · have hb := hbad (Or.inl (decide_eq_false (by omega)))
                  simp -implicitDefEqProofs (disch := omega) only [h2, h3, h5, h14, h15, h16, hh2, hh3, hlt, hm, hfi, Nd.vv, hk0, hk1, he', hle, hb, go_sem, ↓reduceIte, Nat.reduceAdd, Nat.reduceSub, Nat.reduceEqDiff, Nat.reduceLeDiff, reduceCtorEq]
                · have hg := hfin (decide_eq_true (by omega)) ho1 ho2
                  simp -implicitDefEqProofs (disch := omega) only [h2, h3, h5, h14, h15, h16, hh2, hh3, hlt, hm, hfi, Nd.vv, hk0, hk1, he', hle, ho1, ho2, go_sem, ↓reduceIte, Nat.reduceAdd, Nat.reduceSub, Nat.reduceEqDiff, Nat.reduceLeDiff, reduceCtorEq]
                  exact ⟨some c.group, q + c.own, hg, by simp, fun j hj => ⟨c, hj ▸ hm, rfl⟩, by omega, by omega, rfl, rfl⟩
              · have hpn := hp0 (by omega)
                subst hpn
                have hg := hfin rfl ho1 ho2
                simp -implicitDefEqProofs (disch := omega) only [h2, h3, h5, h14, h15, h16, hh2, hh3, hlt, hm, hfi, Nd.vv, hk0, ho1, ho2, go_sem, ↓reduceIte, Nat.reduceAdd, Nat.reduceSub, Nat.reduceEqDiff, Nat.reduceLeDiff, reduceCtorEq]
                exact ⟨some c.group, q + c.own, hg, by simp, fun j hj => ⟨c, hj ▸ hm, rfl⟩, by omega, by omega, rfl, rfl⟩
      · rw [List.drop_of_length_le (by omega), chOk_nil] at hq
        simp -implicitDefEqProofs (disch := omega) only [h2, h3, h5, h14, h15, h16, hh2, hh3, hge, hq, go_sem, ↓reduceIte, Nat.reduceAdd, Nat.reduceSub, Nat.reduceEqDiff, Nat.reduceLeDiff, reduceCtorEq]
end Go.V

namespace Go.V

def Rep (ks : List MKey) (vs : List PV) (f : Int → Int) : Prop := ∀ id, (mget ks vs (.int id)).getD (.int .i64 0) = .int .i64 (f id)

theorem mget_mput (x k' : MKey) (v' : PV) : ∀ (ks : List MKey) (vs : List PV), mget (mput ks vs k' v').1 (mput ks vs k' v').2 x = if x = k' then some v' else mget ks vs x
  | [], [] => by simp [mput, mget]
  | [], _ :: _ => by simp [mput, mget]
  | _ :: _, [] => by simp [mput, mget]
  | k :: ks, v :: vs => by
    have ih := mget_mput x k' v' ks vs
    by_cases h : k' = k
    · subst h
      simp only [mput, if_true, mget]
      by_cases hx : x = k' <;> simp [hx]
    · simp only [mput, h, if_false, mget, ih]
      by_cases hx : x = k
      · have : ¬ x = k' := fun hh => h (hh ▸ hx)
        simp [hx, this]
        intro hh
        exact absurd hh.symm h
      · simp [hx]

theorem Rep.put {ks : List MKey} {vs : List PV} {f : Int → Int} (h : Rep ks vs f) (g v : Int) : Rep (mput ks vs (.int g) (.int .i64 v)).1 (mput ks vs (.int g) (.int .i64 v)).2 (fun x => if x = g then v else f x) := by
  intro id
  rw [mget_mput]
  by_cases hg : id = g
  · subst hg
    simp
  · simp [hg]
    exact h id

theorem ownC_snoc (c : Ch) (x : Int) : ∀ (a : List Ch), (∀ d ∈ a, d.group ≠ c.group) → ownC (a ++ [c]) x = if x = c.group then c.own else ownC a x
  | [], _ => by simp only [List.nil_append, ownC, eq_comm]
  | d :: a, h => by
    have ih := ownC_snoc c x a (fun e he => h e (List.mem_cons_of_mem _ he))
    have hd := h d (List.mem_cons_self ..)
    simp only [List.cons_append, ownC, ih]
    by_cases h1 : d.group = x
    · have h2 : ¬ x = c.group := by omega
      simp [h1, h2]
    · simp [h1]

set_option maxHeartbeats 1000000 in
theorem sums_eq {t : Tr} (h : TreeOk t) {l : List Ch} (hl : ChOk t.nodes l) (hn : t.nodes.length < 1000000) (hll : l.length < 1000000) : ∃ ks vs, V 40 [t.vv, .agg [.p (chsP l)]] [] = some (.p (.map (.int .i64) ks vs), []) ∧ ∀ (i : Nat) (n : Nd), t.nodes[i]? = some n → (mget ks vs (.int n.id)).getD (.int .i64 0) = .int .i64 (tot t (ownC l) n.id) := by
  suffices hw : wp (callF V vf40 [t.vv, .agg [.p (chsP l)]] []) (fun r => ∃ ks vs, r = (.p (.map (.int .i64) ks vs), []) ∧ Rep ks vs (part t (ownC l) 1)) by
    obtain ⟨r, hr, ks, vs, rfl, hrep⟩ := hw
    refine ⟨ks, vs, V_fix (vf := vf40) rfl hr, fun i n hi => ?_⟩
    rw [hrep n.id, part_tot h _ hi (by omega)]
  obtain ⟨r0, ns0, hns, _, _⟩ := h.root
  have hpos : 1 ≤ t.nodes.length := by rw [hns]; simp
  have hf0 : ∀ x, 0 ≤ ownC l x := ownC_nonneg hl.pos
  simp -implicitDefEqProofs (disch := omega) only [vf40, vb40, go_sem, ↓reduceIte, Nat.reduceAdd, Nat.reduceSub, Nat.reduceEqDiff, Nat.reduceLeDiff, reduceCtorEq]
  refine wp_count l.length (fun k s => ∃ ks vs, Rep ks vs (ownC (l.take k)) ∧ s.pe 2 = .ptr (.slot 2 0) 0 0 ∧ s.pe 5 = .mref (.slot 9 0) 0 ∧ s.pe 11 = .p (chsP l) ∧ s.pe 12 = .p (.int .i64 l.length) ∧ s.pe 13 = .p (.int .i64 k) ∧ s.h (.slot 2 0) = some (0, .box [.p (nodesP t.nodes), .p (.int .i64 t.next)]) ∧ s.h (.slot 9 0) = some (0, .map (.int .i64) ks vs)) ?_ ?_
  · exact ⟨[], [], fun id => rfl, rfl, rfl, rfl, rfl, rfl, rfl, rfl⟩
  · rintro k s hk ⟨ks, vs, hrep, h2, h5, h11, h12, h13, hh2, hh9⟩
    simp -implicitDefEqProofs (disch := omega) only [h2, h5, h11, h12, h13, hh2, hh9, go_sem, ↓reduceIte, Nat.reduceAdd, Nat.reduceSub, Nat.reduceEqDiff, Nat.reduceLeDiff, reduceCtorEq]
    refine wp_if_d (fun hlt => ?_) (fun hge => ?_)
    · have hm : l[k]? = some l[k] := List.getElem?_eq_getElem hlt
      have hfresh : ∀ d ∈ l.take k, d.group ≠ l[k].group := by
        intro d hd
        obtain ⟨j, hj⟩ := List.getElem?_of_mem hd
        have hjk : j < k := by
          have := (List.getElem?_eq_some_iff.1 hj).1
          simp at this
          omega
        rw [List.getElem?_take_of_lt hjk] at hj
        obtain ⟨hjl, he⟩ := List.getElem?_eq_some_iff.1 hj
        have := List.pairwise_iff_getElem.1 hl.inc j k hjl hlt hjk
        rw [he] at this
        omega
      have htk : l.take (k + 1) = l.take k ++ [l[k]] := by rw [List.take_add_one, hm]; rfl
      generalize l[k] = c at hm hfresh htk
      have hnext := hrep.put c.group c.own
      rw [show (fun x => if x = c.group then c.own else ownC (l.take k) x) = ownC (l.take (k + 1)) from by
        funext x
        rw [htk, ownC_snoc c x _ hfresh]] at hnext
      simp -implicitDefEqProofs (disch := omega) only [h2, h5, h11, h12, h13, hh2, hh9, hlt, hm, go_sem, ↓reduceIte, Nat.reduceAdd, Nat.reduceSub, Nat.reduceEqDiff, Nat.reduceLeDiff, reduceCtorEq]
      exact ⟨_, _, hnext, rfl, rfl⟩
    · rw [List.take_of_length_le (by omega)] at hrep
      simp -implicitDefEqProofs (disch := omega) only [h2, h5, h11, h12, h13, hh2, hh9, hge, go_sem, ↓reduceIte, Nat.reduceAdd, Nat.reduceSub, Nat.reduceEqDiff, Nat.reduceLeDiff, reduceCtorEq]
      refine wp_count (t.nodes.length - 1) (fun k s => ∃ ks vs, Rep ks vs (part t (ownC l) (t.nodes.length - k)) ∧ s.pe 2 = .ptr (.slot 2 0) 0 0 ∧ s.pe 5 = .mref (.slot 9 0) 0 ∧ s.pe 8 = .p (.int .i64 ((t.nodes.length : Int) - 1 - k)) ∧ s.h (.slot 2 0) = some (0, .box [.p (nodesP t.nodes), .p (.int .i64 t.next)]) ∧ s.h (.slot 9 0) = some (0, .map (.int .i64) ks vs)) ?_ ?_
      · refine ⟨ks, vs, ?_, by simp -implicitDefEqProofs (disch := omega) only [h2, go_sem, ↓reduceIte, Nat.reduceAdd, Nat.reduceSub, Nat.reduceEqDiff, Nat.reduceLeDiff, reduceCtorEq], by simp -implicitDefEqProofs (disch := omega) only [h5, go_sem, ↓reduceIte, Nat.reduceAdd, Nat.reduceSub, Nat.reduceEqDiff, Nat.reduceLeDiff, reduceCtorEq], by simp -implicitDefEqProofs (disch := omega) only [go_sem, ↓reduceIte, Nat.reduceAdd, Nat.reduceSub, Nat.reduceEqDiff, Nat.reduceLeDiff, reduceCtorEq]; simp, by simp -implicitDefEqProofs (disch := omega) only [hh2, go_sem, ↓reduceIte, Nat.reduceAdd, Nat.reduceSub, Nat.reduceEqDiff, Nat.reduceLeDiff, reduceCtorEq], by simp -implicitDefEqProofs (disch := omega) only [hh9, go_sem, ↓reduceIte, Nat.reduceAdd, Nat.reduceSub, Nat.reduceEqDiff, Nat.reduceLeDiff, reduceCtorEq]⟩
        rw [Nat.sub_zero, show part t (ownC l) t.nodes.length = ownC l from funext (part_end t _)]
        exact hrep
      · rintro k s hk ⟨ks, vs, hrep, h2, h5, h8, hh2, hh9⟩
        simp -implicitDefEqProofs (disch := omega) only [h2, h5, h8, hh2, hh9, go_sem, ↓reduceIte, Nat.reduceAdd, Nat.reduceSub, Nat.reduceEqDiff, Nat.reduceLeDiff, reduceCtorEq]
        refine wp_if_d (fun hlt => ?_) (fun hge => ?_)
        · have hi : t.nodes.length - 1 - k < t.nodes.length := by omega
          have hm : t.nodes[t.nodes.length - 1 - k]? = some t.nodes[t.nodes.length - 1 - k] := List.getElem?_eq_getElem hi
          have hm' : t.nodes[((t.nodes.length : Int) - 1 - k).toNat]? = some t.nodes[t.nodes.length - 1 - k] := by
            rw [show ((t.nodes.length : Int) - 1 - k).toNat = t.nodes.length - 1 - k by omega]
            exact hm
          generalize t.nodes[t.nodes.length - 1 - k] = n at hm hm'
          obtain ⟨_, hn1, j, p, hj, hp, hpe⟩ := (h.nodeAt hm).resolve_left (by omega)
          have e1 := hrep n.parent
          have e2 := hrep n.id
          rw [show t.nodes.length - k = (t.nodes.length - 1 - k) + 1 by omega] at e1 e2 hrep
          rw [part_tot h _ hm (Nat.le_refl _)] at e2
          have hst := part_step (ownC l) hm n.parent
          rw [if_pos rfl] at hst
          have b1 := part_le h hf0 hp (t.nodes.length - 1 - k)
          have b2 := tot_le h hl hp
          have b3 := hl.all
          have b4 := part_nonneg t hf0 (t.nodes.length - 1 - k + 1) n.parent
          have b5 := tot_nonneg t hf0 n.id
          rw [hpe] at b1 b2
          have hnext := hrep.put n.parent (part t (ownC l) (t.nodes.length - 1 - k + 1) n.parent + tot t (ownC l) n.id)
          rw [show (fun x => if x = n.parent then part t (ownC l) (t.nodes.length - 1 - k + 1) n.parent + tot t (ownC l) n.id else part t (ownC l) (t.nodes.length - 1 - k + 1) x) = part t (ownC l) (t.nodes.length - (k + 1)) from by
            funext x
            rw [show t.nodes.length - (k + 1) = t.nodes.length - 1 - k by omega, part_step (ownC l) hm x]
            by_cases hx : x = n.parent
            · simp [hx]
            · simp [hx]] at hnext
          generalize part t (ownC l) (t.nodes.length - 1 - k + 1) n.parent = A at e1 hst b4 hnext
          generalize tot t (ownC l) n.id = B at e2 hst b5 hnext
          have hwr : IntKind.i64.wrap (A + B) = A + B := wrap64 (by omega) (by omega)
          simp -implicitDefEqProofs (disch := omega) only [h2, h5, h8, hh2, hh9, hlt, hm', e1, e2, hwr, go_sem, ↓reduceIte, Nat.reduceAdd, Nat.reduceSub, Nat.reduceEqDiff, Nat.reduceLeDiff, reduceCtorEq]
          exact ⟨by omega, _, _, hnext, by congr 2; omega, rfl⟩
        · rw [show t.nodes.length - k = 1 by omega] at hrep
          simp -implicitDefEqProofs (disch := omega) only [h2, h5, h8, hh2, hh9, hge, go_sem, ↓reduceIte, Nat.reduceAdd, Nat.reduceSub, Nat.reduceEqDiff, Nat.reduceLeDiff, reduceCtorEq]
          exact ⟨_, _, rfl, hrep⟩
end Go.V

namespace Go.V

def checkK (t : Tr) (l : List Ch) (id : Int) : Int := if validK t l = true then (if (findN t.nodes id).isSome = true then 0 else 4) else 1

theorem kcheck_eq (t : Tr) (l : List Ch) (id : Int) (hf : t.Fits) (hn : t.nodes.length < 1000000) (hl : l.length < 1000000) : V 39 [t.vv, ctrV l, .p (.int .i64 id)] [] = some (.p (.int .i64 (checkK t l id)), []) := by
  refine V_wp (vf := vf39) rfl ?_
  have hv := kvalid_eq t l hf hn hl
  have hfi := ffind_eq t id hn
  unfold checkK
  cases hvv : validK t l with
  | false =>
    rw [hvv] at hv
    simp -implicitDefEqProofs (disch := omega) only [vf39, vb39, hv, go_sem, ↓reduceIte, Nat.reduceAdd, Nat.reduceSub, Nat.reduceEqDiff, Nat.reduceLeDiff, reduceCtorEq]
    try rfl
  | true =>
    rw [hvv] at hv
    generalize (findN t.nodes id).getD zeroNd = nd at hfi
    cases hfs : (findN t.nodes id).isSome with
    | false =>
      rw [hfs] at hfi
      simp -implicitDefEqProofs (disch := omega) only [vf39, vb39, hv, hfi, Nd.vv, go_sem, ↓reduceIte, Nat.reduceAdd, Nat.reduceSub, Nat.reduceEqDiff, Nat.reduceLeDiff, reduceCtorEq]
      try rfl
    | true =>
      rw [hfs] at hfi
      simp -implicitDefEqProofs (disch := omega) only [vf39, vb39, hv, hfi, Nd.vv, go_sem, ↓reduceIte, Nat.reduceAdd, Nat.reduceSub, Nat.reduceEqDiff, Nat.reduceLeDiff, reduceCtorEq]
      try rfl

theorem validK_iff (t : Tr) (l : List Ch) : validK t l = true ↔ TreeOk t ∧ ChOk t.nodes l := by
  unfold validK
  rw [Bool.and_eq_true, treeOk_iff, chOk_iff]
theorem checkK_zero {t : Tr} {l : List Ch} {id : Int} : checkK t l id = 0 ↔ TreeOk t ∧ ChOk t.nodes l ∧ ∃ (i : Nat) (n : Nd), t.nodes[i]? = some n ∧ n.id = id := by
  unfold checkK
  by_cases hv : validK t l = true
  · rw [if_pos hv]
    obtain ⟨h1, h2⟩ := (validK_iff t l).1 hv
    by_cases hs : (findN t.nodes id).isSome = true
    · rw [if_pos hs]
      obtain ⟨n, hn, he⟩ := findN_some hs
      obtain ⟨i, hi⟩ := List.getElem?_of_mem hn
      exact ⟨fun _ => ⟨h1, h2, i, n, hi, he⟩, fun _ => rfl⟩
    · rw [if_neg hs]
      constructor
      · intro h; omega
      · rintro ⟨_, _, i, n, hi, rfl⟩
        rw [findN_unique h1.inc hi] at hs
        simp at hs
  · rw [if_neg hv]
    constructor
    · intro h; omega
    · rintro ⟨h1, h2, _⟩
      exact absurd ((validK_iff t l).2 ⟨h1, h2⟩) hv

def totK (t : Tr) (l : List Ch) (id : Int) : Int := if checkK t l id = 0 then tot t (ownC l) id else 0

theorem total_eq (t : Tr) (l : List Ch) (id : Int) (hf : t.Fits) (hn : t.nodes.length < 1000000) (hl : l.length < 1000000) : V 14 [t.vv, ctrV l, .p (.int .i64 id)] [] = some (.tup [.p (.int .i64 (totK t l id)), .p (.int .i64 (checkK t l id))], []) := by
  refine V_wp (vf := vf14) rfl ?_
  have hc := kcheck_eq t l id hf hn hl
  unfold totK
  by_cases h0 : checkK t l id = 0
  · obtain ⟨h1, h2, i, n, hi, rfl⟩ := checkK_zero.1 h0
    obtain ⟨ks, vs, hs, hg⟩ := sums_eq h1 h2 hn hl
    have hgi := hg i n hi
    rw [h0] at hc
    rw [if_pos h0]
    generalize tot t (ownC l) n.id = T at hgi
    simp -implicitDefEqProofs (disch := omega) only [vf14, vb14, hc, hs, hgi, go_sem, ↓reduceIte, Nat.reduceAdd, Nat.reduceSub, Nat.reduceEqDiff, Nat.reduceLeDiff, reduceCtorEq]
    rw [h0]
  · rw [if_neg h0]
    generalize checkK t l id = e at hc h0
    simp -implicitDefEqProofs (disch := omega) only [vf14, vb14, hc, h0, go_sem, ↓reduceIte, Nat.reduceAdd, Nat.reduceSub, Nat.reduceEqDiff, Nat.reduceLeDiff, reduceCtorEq]

def addK (t : Tr) (l : List Ch) (id n : Int) : List Ch × Int :=
  if n < -16777216 ∨ 16777216 < n ∨ ownC l id + n < 0 then ([], 3) else if 16777216 < tot t (ownC l) 1 + n then ([], 7) else (withC l id (ownC l id + n), 0)

theorem root_at {t : Tr} (h : TreeOk t) : ∃ r, t.nodes[0]? = some r ∧ r.id = 1 := by
  obtain ⟨r, ns, hr, h1, _⟩ := h.root
  exact ⟨r, by rw [hr]; rfl, h1⟩

set_option maxHeartbeats 1000000 in
theorem add_eq {t : Tr} {l : List Ch} (h : TreeOk t) (hc : ChOk t.nodes l) (id n : Int) (hn : t.nodes.length < 1000000) (hl : l.length < 1000000) : V 41 [t.vv, ctrV l, .p (.int .i64 id), .p (.int .i64 n)] [] = some (.tup [ctrF (addK t l id n).1, .p (.int .i64 (addK t l id n).2)], []) := by
  refine V_wp (vf := vf41) rfl ?_
  have ho := own_eq l id hl
  have o0 := ownC_nonneg hc.pos id
  have o1 := ownC_le hc.pos id
  have o2 := hc.all
  obtain ⟨r, hr, hr1⟩ := root_at h
  obtain ⟨ks, vs, hs, hg⟩ := sums_eq h hc hn hl
  have hg1 := hg 0 r hr
  have t0 := tot_nonneg t (ownC_nonneg hc.pos) r.id
  have t1 := tot_le h hc hr
  have hwi := with_eq l id (ownC l id + n) hl
  rw [hr1] at hg1 t0 t1
  unfold addK
  generalize ownC l id = o at ho o0 o1 hwi
  generalize tot t (ownC l) 1 = T at hg1 t0 t1
  generalize withC l id (o + n) = W at hwi
  by_cases n1 : n < -16777216
  · rw [if_pos (Or.inl n1)]
    simp -implicitDefEqProofs (disch := omega) only [vf41, vb41, n1, go_sem, ↓reduceIte, Nat.reduceAdd, Nat.reduceSub, Nat.reduceEqDiff, Nat.reduceLeDiff, reduceCtorEq]
    try rfl
  · by_cases n2 : 16777216 < n
    · rw [if_pos (Or.inr (Or.inl n2))]
      simp -implicitDefEqProofs (disch := omega) only [vf41, vb41, n1, n2, go_sem, ↓reduceIte, Nat.reduceAdd, Nat.reduceSub, Nat.reduceEqDiff, Nat.reduceLeDiff, reduceCtorEq]
      try rfl
    · by_cases n3 : o + n < 0
      · rw [if_pos (Or.inr (Or.inr n3))]
        simp -implicitDefEqProofs (disch := omega) only [vf41, vb41, n1, n2, n3, ho, go_sem, ↓reduceIte, Nat.reduceAdd, Nat.reduceSub, Nat.reduceEqDiff, Nat.reduceLeDiff, reduceCtorEq]
        try rfl
      · rw [if_neg (by omega)]
        by_cases n4 : 16777216 < T + n
        · rw [if_pos n4]
          simp -implicitDefEqProofs (disch := omega) only [vf41, vb41, n1, n2, n3, n4, ho, hs, hg1, go_sem, ↓reduceIte, Nat.reduceAdd, Nat.reduceSub, Nat.reduceEqDiff, Nat.reduceLeDiff, reduceCtorEq]
          try rfl
        · rw [if_neg n4]
          simp -implicitDefEqProofs (disch := omega) only [vf41, vb41, n1, n2, n3, n4, ho, hs, hg1, hwi, go_sem, ↓reduceIte, Nat.reduceAdd, Nat.reduceSub, Nat.reduceEqDiff, Nat.reduceLeDiff, reduceCtorEq]

def AddK (t : Tr) (l : List Ch) (id n : Int) : List Ch × Int := if checkK t l id = 0 then addK t l id n else ([], checkK t l id)

theorem Add_eq (t : Tr) (l : List Ch) (id n : Int) (hf : t.Fits) (hn : t.nodes.length < 1000000) (hl : l.length < 1000000) : V 31 [t.vv, ctrV l, .p (.int .i64 id), .p (.int .i64 n)] [] = some (.tup [ctrF (AddK t l id n).1, .p (.int .i64 (AddK t l id n).2)], []) := by
  refine V_wp (vf := vf31) rfl ?_
  have hc := kcheck_eq t l id hf hn hl
  unfold AddK
  by_cases h0 : checkK t l id = 0
  · obtain ⟨h1, h2, _⟩ := checkK_zero.1 h0
    have ha := add_eq h1 h2 id n hn hl
    rw [h0] at hc
    rw [if_pos h0]
    generalize addK t l id n = r at ha
    simp -implicitDefEqProofs (disch := omega) only [vf31, vb31, hc, ha, go_sem, ↓reduceIte, Nat.reduceAdd, Nat.reduceSub, Nat.reduceEqDiff, Nat.reduceLeDiff, reduceCtorEq]
  · rw [if_neg h0]
    generalize checkK t l id = e at hc h0
    simp -implicitDefEqProofs (disch := omega) only [vf31, vb31, hc, h0, go_sem, ↓reduceIte, Nat.reduceAdd, Nat.reduceSub, Nat.reduceEqDiff, Nat.reduceLeDiff, reduceCtorEq]
    try rfl
end Go.V

namespace Go.V

def ascOk (kn : Int → Bool) (lo hi : Int) : Option Int → List Ch → Bool
  | _, [] => true
  | p, c :: l => kn c.group && prevOk p c.group && decide (lo ≤ c.own ∧ c.own ≤ hi) && ascOk kn lo hi (some c.group) l

def prevG (l : List Ch) (k : Nat) : Option Int := if k = 0 then none else (l[k - 1]?).map (·.group)

structure AscOk (kn : Int → Bool) (lo hi : Int) (l : List Ch) : Prop where
  known : ∀ c ∈ l, kn c.group = true
  inc : l.Pairwise fun a b => a.group < b.group
  range : ∀ c ∈ l, lo ≤ c.own ∧ c.own ≤ hi

theorem ascOk_iff' (kn : Int → Bool) (lo hi : Int) : ∀ (l : List Ch) (p : Option Int), ascOk kn lo hi p l = true ↔ (∀ c ∈ l, kn c.group = true) ∧ (l.Pairwise fun a b => a.group < b.group) ∧ (∀ q, p = some q → ∀ c ∈ l, q < c.group) ∧ ∀ c ∈ l, lo ≤ c.own ∧ c.own ≤ hi
  | [], p => by simp [ascOk]
  | c :: l, p => by
    have hp : prevOk p c.group = true ↔ ∀ q, p = some q → q < c.group := by
      cases p <;> simp [prevOk]
    simp only [ascOk, Bool.and_eq_true, decide_eq_true_eq, hp, List.mem_cons, forall_eq_or_imp, List.pairwise_cons, ascOk_iff' kn lo hi l (some c.group)]
    constructor
    · rintro ⟨⟨⟨h1, h2⟩, h3⟩, a1, a2, a3, a4⟩
      refine ⟨⟨h1, a1⟩, ⟨a3 _ rfl, a2⟩, fun q hq => ⟨h2 q hq, fun d hd => ?_⟩, h3, a4⟩
      have := h2 q hq
      have := a3 _ rfl d hd
      omega
    · rintro ⟨⟨h1, a1⟩, ⟨a3, a2⟩, h2, h3, a4⟩
      refine ⟨⟨⟨h1, fun q hq => (h2 q hq).1⟩, h3⟩, a1, a2, fun q hq => ?_, a4⟩
      cases hq
      exact a3
theorem ascOk_iff (kn : Int → Bool) (lo hi : Int) (l : List Ch) : ascOk kn lo hi none l = true ↔ AscOk kn lo hi l := by
  rw [ascOk_iff' kn lo hi l none]
  constructor
  · rintro ⟨a, b, _, d⟩
    exact ⟨a, b, d⟩
  · rintro ⟨a, b, d⟩
    exact ⟨a, b, fun q hq => by simp at hq, d⟩

/-- What the element at a place must be. -/
def ascAt (kn : Int → Bool) (lo hi : Int) (l : List Ch) (k : Nat) (c : Ch) : Prop := kn c.group = true ∧ (k = 0 ∨ ∃ e, l[k - 1]? = some e ∧ e.group < c.group) ∧ lo ≤ c.own ∧ c.own ≤ hi

theorem prevG_ok {l : List Ch} {k : Nat} {c : Ch} (hm : l[k]? = some c) : prevOk (prevG l k) c.group = true ↔ (k = 0 ∨ ∃ e, l[k - 1]? = some e ∧ e.group < c.group) := by
  unfold prevG
  by_cases hk : k = 0
  · simp [hk, prevOk]
  · have hl := (List.getElem?_eq_some_iff.1 hm).1
    have he : l[k - 1]? = some l[k - 1] := List.getElem?_eq_getElem (by omega)
    rw [if_neg hk, he]
    simp [prevOk, hk]
theorem asc_good {kn : Int → Bool} {lo hi : Int} {l : List Ch} {k : Nat} {c : Ch} (hq : ascOk kn lo hi none l = ascOk kn lo hi (prevG l k) (l.drop k)) (hm : l[k]? = some c) (h : ascAt kn lo hi l k c) : ascOk kn lo hi none l = ascOk kn lo hi (prevG l (k + 1)) (l.drop (k + 1)) := by
  have hl := (List.getElem?_eq_some_iff.1 hm).1
  have hd : l.drop k = c :: l.drop (k + 1) := by
    rw [List.drop_eq_getElem_cons hl]
    rw [List.getElem?_eq_getElem hl] at hm
    cases hm
    rfl
  obtain ⟨h1, h2, h3, h4⟩ := h
  rw [hq, hd, ascOk, h1, (prevG_ok hm).2 h2, decide_eq_true ⟨h3, h4⟩]
  simp [prevG, hm]
theorem asc_bad {kn : Int → Bool} {lo hi : Int} {l : List Ch} {k : Nat} {c : Ch} (hq : ascOk kn lo hi none l = ascOk kn lo hi (prevG l k) (l.drop k)) (hm : l[k]? = some c) (h : ¬ ascAt kn lo hi l k c) : ascOk kn lo hi none l = false := by
  have hl := (List.getElem?_eq_some_iff.1 hm).1
  have hd : l.drop k = c :: l.drop (k + 1) := by
    rw [List.drop_eq_getElem_cons hl]
    rw [List.getElem?_eq_getElem hl] at hm
    cases hm
    rfl
  rw [Bool.eq_false_iff]
  intro ht
  apply h
  rw [hq, hd, ascOk] at ht
  simp only [Bool.and_eq_true, decide_eq_true_eq] at ht
  exact ⟨ht.1.1.1, (prevG_ok hm).1 ht.1.1.2, ht.1.2⟩
theorem asc_end {kn : Int → Bool} {lo hi : Int} {l : List Ch} {k : Nat} (hq : ascOk kn lo hi none l = ascOk kn lo hi (prevG l k) (l.drop k)) (hk : l.length ≤ k) : ascOk kn lo hi none l = true := by
  rw [hq, List.drop_of_length_le hk]
  simp [ascOk]
theorem prev_at {l : List Ch} {k : Nat} {c : Ch} (hm : l[k]? = some c) (hk : (0 : Int) < k) : ∃ e, l[k - 1]? = some e ∧ l[((k : Int) - 1).toNat]? = some e := by
  have hl := (List.getElem?_eq_some_iff.1 hm).1
  have he : l[k - 1]? = some l[k - 1] := List.getElem?_eq_getElem (by omega)
  exact ⟨_, he, by rw [show ((k : Int) - 1).toNat = k - 1 by omega]; exact he⟩
theorem ascAt_zero {kn : Int → Bool} {lo hi : Int} {l : List Ch} {k : Nat} {c : Ch} (hk : ¬ (0 : Int) < k) : ascAt kn lo hi l k c ↔ kn c.group = true ∧ lo ≤ c.own ∧ c.own ≤ hi := by
  have : k = 0 := by omega
  subst this
  simp [ascAt]
theorem ascAt_succ {kn : Int → Bool} {lo hi : Int} {l : List Ch} {k : Nat} {c e : Ch} (hk : (0 : Int) < k) (he : l[k - 1]? = some e) : ascAt kn lo hi l k c ↔ kn c.group = true ∧ e.group < c.group ∧ lo ≤ c.own ∧ c.own ≤ hi := by
  have : ¬ k = 0 := by omega
  simp [ascAt, this, he]
end Go.V

namespace Go.V

theorem ch_ne {c d : Ch} (h : ¬ c = d) : (decide (c.group = d.group) && decide (c.own = d.own)) = false := by
  rw [Bool.eq_false_iff]
  intro hh
  simp at hh
  apply h
  cases c; cases d; simp_all

theorem same_eq (a b : List Ch) (hl : a.length < 1000000) : V 17 [.p (chsP a), .p (chsP b)] [] = some (.p (.bool (decide (a = b))), []) := by
  refine V_wp (vf := vf17) rfl ?_
  by_cases he : a.length = b.length
  · have he' : ((a.length : Int) = b.length) := by omega
    simp -implicitDefEqProofs (disch := omega) only [vf17, vb17, he', go_sem, ↓reduceIte, Nat.reduceAdd, Nat.reduceSub, Nat.reduceEqDiff, Nat.reduceLeDiff, reduceCtorEq]
    obtain ⟨I, hI⟩ : ∃ I : Nat → St → Prop, ∀ k s, I k s ↔ a.take k = b.take k ∧ s.pe 0 = .p (chsP a) ∧ s.pe 1 = .p (chsP b) ∧ s.pe 5 = .p (.int .i64 k) := ⟨_, fun _ _ => Iff.rfl⟩
    refine wp_count (a.length) I ?_ ?_
    · refine (hI _ _).2 ⟨?_, ?_, ?_, ?_⟩
      · exact by first | rfl | omega | (simp; done) | (simp; omega)
      all_goals first | with_reducible rfl | (simp -implicitDefEqProofs (disch := omega) only [List.map_append, go_sem, ↓reduceIte, Nat.reduceAdd, Nat.reduceSub, Nat.reduceEqDiff, Nat.reduceLeDiff, reduceCtorEq]; first | done | rfl | (simp; done) | (congr 2; omega) | (congr 1; omega) | (congr 3; omega) | (simp; omega) | (congr 2; simp; omega) | (refine ⟨_, rfl, ?_⟩; first | rfl | (simp -implicitDefEqProofs (disch := omega) only [List.map_append, go_sem, ↓reduceIte, Nat.reduceAdd, Nat.reduceSub, Nat.reduceEqDiff, Nat.reduceLeDiff, reduceCtorEq]; done))) | rfl | omega | (congr 2; omega)
    intro k s hk hIk
    obtain ⟨ht, h0, h1, h5⟩ := (hI _ _).1 hIk
    clear hIk
    simp -implicitDefEqProofs (disch := omega) only [h0, h1, h5, go_sem, ↓reduceIte, Nat.reduceAdd, Nat.reduceSub, Nat.reduceEqDiff, Nat.reduceLeDiff, reduceCtorEq]
    refine wp_if_d (fun hlt => ?_) (fun hge => ?_)
    · have ha : a[k]? = some a[k] := List.getElem?_eq_getElem hlt
      have hb : b[k]? = some b[k] := List.getElem?_eq_getElem (by omega)
      generalize a[k] = c at ha
      generalize b[k] = d at hb
      by_cases hcd : c = d
      · subst hcd
        simp -implicitDefEqProofs (disch := omega) only [h0, h1, h5, hlt, ha, hb, go_sem, ↓reduceIte, Nat.reduceAdd, Nat.reduceSub, Nat.reduceEqDiff, Nat.reduceLeDiff, reduceCtorEq]
        try refine And.intro (by omega) ?_
        refine (hI _ _).2 ⟨?_, ?_, ?_, ?_⟩
        · exact by rw [List.take_add_one, List.take_add_one, ha, hb, ht]
        all_goals first | with_reducible rfl | (simp -implicitDefEqProofs (disch := omega) only [h0, h1, h5, List.map_append, go_sem, ↓reduceIte, Nat.reduceAdd, Nat.reduceSub, Nat.reduceEqDiff, Nat.reduceLeDiff, reduceCtorEq]; first | done | rfl | (simp; done) | (congr 2; omega) | (congr 1; omega) | (congr 3; omega) | (simp; omega) | (congr 2; simp; omega) | (refine ⟨_, rfl, ?_⟩; first | rfl | (simp -implicitDefEqProofs (disch := omega) only [h0, h1, h5, List.map_append, go_sem, ↓reduceIte, Nat.reduceAdd, Nat.reduceSub, Nat.reduceEqDiff, Nat.reduceLeDiff, reduceCtorEq]; done))) | rfl | omega | (congr 2; omega)
      · have hne : ¬ a = b := by
          intro hab
          subst hab
          rw [ha] at hb
          cases hb
          exact hcd rfl
        have hx := ch_ne hcd
        simp -implicitDefEqProofs (disch := omega) only [h0, h1, h5, hlt, ha, hb, hx, hne, decide_false, go_sem, ↓reduceIte, Nat.reduceAdd, Nat.reduceSub, Nat.reduceEqDiff, Nat.reduceLeDiff, reduceCtorEq]
    · have hab : a = b := by
        rw [List.take_of_length_le (by omega), List.take_of_length_le (by omega)] at ht
        exact ht
      simp -implicitDefEqProofs (disch := omega) only [h0, h1, h5, hge, hab, decide_true, go_sem, ↓reduceIte, Nat.reduceAdd, Nat.reduceSub, Nat.reduceEqDiff, Nat.reduceLeDiff, reduceCtorEq]
  · have he' : ¬ ((a.length : Int) = b.length) := by omega
    have hne : ¬ a = b := fun h => he (by rw [h])
    simp -implicitDefEqProofs (disch := omega) only [vf17, vb17, he', hne, decide_false, go_sem, ↓reduceIte, Nat.reduceAdd, Nat.reduceSub, Nat.reduceEqDiff, Nat.reduceLeDiff, reduceCtorEq]

theorem fkids_eq (t : Tr) (id : Int) (hl : t.nodes.length < 1000000) : V 44 [t.vv, .p (.int .i64 id)] [] = some (.fresh 1 ((kidsN t.nodes id).map (.int .i64)), []) := by
  refine V_wp (vf := vf44) rfl ?_
  simp -implicitDefEqProofs (disch := omega) only [vf44, vb44, go_sem, ↓reduceIte, Nat.reduceAdd, Nat.reduceSub, Nat.reduceEqDiff, Nat.reduceLeDiff, reduceCtorEq]
  obtain ⟨I, hI⟩ : ∃ I : Nat → St → Prop, ∀ k s, I k s ↔ ∃ (acc : List Int) (w : Nat), acc = kidsN (t.nodes.take k) id ∧ acc.length ≤ k ∧ s.pe 1 = .p (.int .i64 id) ∧ s.pe 5 = .own (.slot 5 0) w 0 acc.length ∧ s.pe 9 = .p (nodesP t.nodes) ∧ s.pe 10 = .p (.int .i64 t.nodes.length) ∧ s.pe 11 = .p (.int .i64 k) ∧ s.h (.slot 5 0) = some (w, .arr 1 (acc.map (.int .i64))) := ⟨_, fun _ _ => Iff.rfl⟩
  refine wp_count (t.nodes.length) I ?_ ?_
  · refine (hI _ _).2 ⟨[], 0, ?_, ?_, ?_, ?_, ?_, ?_, ?_, ?_⟩
    · exact by first | rfl | omega | (simp; done) | (simp; omega)
    · exact by first | rfl | omega | (simp; done) | (simp; omega)
    all_goals first | with_reducible rfl | (simp -implicitDefEqProofs (disch := omega) only [h0, h1, h5, List.map_append, go_sem, ↓reduceIte, Nat.reduceAdd, Nat.reduceSub, Nat.reduceEqDiff, Nat.reduceLeDiff, reduceCtorEq]; first | done | rfl | (simp; done) | (congr 2; omega) | (congr 1; omega) | (congr 3; omega) | (simp; omega) | (congr 2; simp; omega) | (refine ⟨_, rfl, ?_⟩; first | rfl | (simp -implicitDefEqProofs (disch := omega) only [h0, h1, h5, List.map_append, go_sem, ↓reduceIte, Nat.reduceAdd, Nat.reduceSub, Nat.reduceEqDiff, Nat.reduceLeDiff, reduceCtorEq]; done))) | rfl | omega | (congr 2; omega)
  intro k s hk hIk
  obtain ⟨acc, w, hacc, hal, h1, h5, h9, h10, h11, hh5_0⟩ := (hI _ _).1 hIk
  clear hIk
  simp -implicitDefEqProofs (disch := omega) only [h1, h5, h9, h10, h11, hh5_0, go_sem, ↓reduceIte, Nat.reduceAdd, Nat.reduceSub, Nat.reduceEqDiff, Nat.reduceLeDiff, reduceCtorEq]
  refine wp_if_d (fun hlt => ?_) (fun hge => ?_)
  · have hm : t.nodes[k]? = some t.nodes[k] := List.getElem?_eq_getElem hlt
    generalize t.nodes[k] = m at hm
    have hst := filter_take (p := fun n : Nd => decide (n.parent = id)) hm
    by_cases hp : m.parent = id
    · simp only [hp, decide_true, if_true] at hst
      simp -implicitDefEqProofs (disch := omega) only [h1, h5, h9, h10, h11, hh5_0, hlt, hm, hp, go_sem, ↓reduceIte, Nat.reduceAdd, Nat.reduceSub, Nat.reduceEqDiff, Nat.reduceLeDiff, reduceCtorEq]
      try refine And.intro (by omega) ?_
      refine (hI _ _).2 ⟨acc ++ [m.id], w + 1, ?_, ?_, ?_, ?_, ?_, ?_, ?_, ?_⟩
      · exact by rw [kidsN, hst, List.map_append, hacc]; rfl
      · exact by simp; omega
      all_goals first | with_reducible rfl | (simp -implicitDefEqProofs (disch := omega) only [h1, h5, h9, h10, h11, hh5_0, List.map_append, go_sem, ↓reduceIte, Nat.reduceAdd, Nat.reduceSub, Nat.reduceEqDiff, Nat.reduceLeDiff, reduceCtorEq]; first | done | rfl | (simp; done) | (congr 2; omega) | (congr 1; omega) | (congr 3; omega) | (simp; omega) | (congr 2; simp; omega) | (refine ⟨_, rfl, ?_⟩; first | rfl | (simp -implicitDefEqProofs (disch := omega) only [h1, h5, h9, h10, h11, hh5_0, List.map_append, go_sem, ↓reduceIte, Nat.reduceAdd, Nat.reduceSub, Nat.reduceEqDiff, Nat.reduceLeDiff, reduceCtorEq]; done))) | rfl | omega | (congr 2; omega)
    · simp only [hp, decide_false, Bool.false_eq_true, if_false] at hst
      simp -implicitDefEqProofs (disch := omega) only [h1, h5, h9, h10, h11, hh5_0, hlt, hm, hp, go_sem, ↓reduceIte, Nat.reduceAdd, Nat.reduceSub, Nat.reduceEqDiff, Nat.reduceLeDiff, reduceCtorEq]
      try refine And.intro (by omega) ?_
      refine (hI _ _).2 ⟨acc, w, ?_, ?_, ?_, ?_, ?_, ?_, ?_, ?_⟩
      · exact by rw [kidsN, hst, hacc]; rfl
      · exact by omega
      all_goals first | with_reducible rfl | (simp -implicitDefEqProofs (disch := omega) only [h1, h5, h9, h10, h11, hh5_0, List.map_append, go_sem, ↓reduceIte, Nat.reduceAdd, Nat.reduceSub, Nat.reduceEqDiff, Nat.reduceLeDiff, reduceCtorEq]; first | done | rfl | (simp; done) | (congr 2; omega) | (congr 1; omega) | (congr 3; omega) | (simp; omega) | (congr 2; simp; omega) | (refine ⟨_, rfl, ?_⟩; first | rfl | (simp -implicitDefEqProofs (disch := omega) only [h1, h5, h9, h10, h11, hh5_0, List.map_append, go_sem, ↓reduceIte, Nat.reduceAdd, Nat.reduceSub, Nat.reduceEqDiff, Nat.reduceLeDiff, reduceCtorEq]; done))) | rfl | omega | (congr 2; omega)
  · rw [List.take_of_length_le (by omega)] at hacc
    simp -implicitDefEqProofs (disch := omega) only [h1, h5, h9, h10, h11, hh5_0, hge, hacc, go_sem, ↓reduceIte, Nat.reduceAdd, Nat.reduceSub, Nat.reduceEqDiff, Nat.reduceLeDiff, reduceCtorEq]

def RemK (t : Tr) (l : List Ch) (id : Int) : List Ch × Int :=
  if checkK t l id = 0 then
    (if id = 1 then ([], 3) else if kidsN t.nodes id ≠ [] then ([], 6)
     else if ownC l id = 0 then (withC l id 0, 0)
     else (withC (withC l id 0) ((findN t.nodes id).getD zeroNd).parent (ownC l ((findN t.nodes id).getD zeroNd).parent + ownC l id), 0))
  else ([], checkK t l id)

theorem withGo_length (id v : Int) : ∀ (l : List Ch) (d : Bool), (withGo id v d l).length ≤ l.length + (if d then 0 else 1)
  | [], d => by cases d <;> simp [withGo]
  | c :: l, d => by
    have ih := withGo_length id v l
    unfold withGo
    have h1 := ih true
    have h2 := ih false
    simp only [if_true, Bool.false_eq_true, if_false] at h1 h2
    cases d <;> by_cases hg : id ≤ c.group <;> by_cases he : c.group = id <;> simp [hg, he] <;> omega
theorem withC_length (l : List Ch) (id v : Int) : (withC l id v).length ≤ l.length + 1 := by
  have := withGo_length id v l (decide (v = 0))
  unfold withC
  split at this <;> omega

theorem zero_lt_zero : ¬ ((0 : Int) < ((0 : Nat) : Int)) := by omega

set_option maxHeartbeats 1000000 in
theorem Rem_eq (t : Tr) (l : List Ch) (id : Int) (hf : t.Fits) (hn : t.nodes.length < 1000000) (hl : l.length < 900000) : V 16 [t.vv, ctrV l, .p (.int .i64 id)] [] = some (.tup [ctrF (RemK t l id).1, .p (.int .i64 (RemK t l id).2)], []) := by
  refine V_wp (vf := vf16) rfl ?_
  have hc := kcheck_eq t l id hf hn (by omega)
  unfold RemK
  by_cases h0 : checkK t l id = 0
  · obtain ⟨h1, h2, i, n, hi, rfl⟩ := checkK_zero.1 h0
    have hfi := ffind_eq t n.id hn
    have hfu := findN_unique h1.inc hi
    rw [hfu] at hfi ⊢
    simp only [Option.getD_some, Option.isSome_some] at hfi ⊢
    rw [h0] at hc
    rw [if_pos h0]
    by_cases hr : n.id = 1
    · rw [if_pos hr]
      rw [hr] at hc ⊢
      simp -implicitDefEqProofs (disch := omega) only [vf16, vb16, hc, go_sem, ↓reduceIte, Nat.reduceAdd, Nat.reduceSub, Nat.reduceEqDiff, Nat.reduceLeDiff, reduceCtorEq]
      try rfl
    · rw [if_neg hr]
      have hk := fkids_eq t n.id hn
      by_cases hz : kidsN t.nodes n.id = []
      · rw [if_neg (by simp [hz])]
        rw [hz] at hk
        have ho := own_eq l n.id (by omega)
        have o0 := ownC_nonneg h2.pos n.id
        have o1 := ownC_le h2.pos n.id
        have o2 := h2.all
        have hw0 := with_eq l n.id 0 (by omega)
        have hwl := withC_length l n.id 0
        by_cases hoz : ownC l n.id = 0
        · rw [if_pos hoz]
          rw [hoz] at ho
          simp -implicitDefEqProofs (disch := omega) only [vf16, vb16, hc, hr, hk, hfi, Nd.vv, ho, hw0, zero_lt_zero, go_sem, ↓reduceIte, Nat.reduceAdd, Nat.reduceSub, Nat.reduceEqDiff, Nat.reduceLeDiff, reduceCtorEq]
        · rw [if_neg hoz]
          have hop := own_eq l n.parent (by omega)
          have p0 := ownC_nonneg h2.pos n.parent
          have p1 := ownC_le h2.pos n.parent
          have hw1 := with_eq (withC l n.id 0) n.parent (ownC l n.parent + ownC l n.id) (by omega)
          generalize ownC l n.id = o at ho o0 o1 hoz hw1
          generalize ownC l n.parent = p at hop p0 p1 hw1
          generalize hG : withC l n.id 0 = G at hw0 hw1 hwl
          generalize withC G n.parent (p + o) = G2 at hw1
          simp -implicitDefEqProofs (disch := omega) only [vf16, vb16, hc, hr, hk, hfi, Nd.vv, ho, hoz, hop, hw0, hw1, zero_lt_zero, go_sem, ↓reduceIte, Nat.reduceAdd, Nat.reduceSub, Nat.reduceEqDiff, Nat.reduceLeDiff, reduceCtorEq]
      · rw [if_pos hz]
        have hz' : (0 : Int) < ((kidsN t.nodes n.id).length : Int) := by
          have := List.length_pos_iff.2 hz
          omega
        generalize kidsN t.nodes n.id = ks at hk hz'
        simp -implicitDefEqProofs (disch := omega) only [vf16, vb16, hc, hr, hk, hz', go_sem, ↓reduceIte, Nat.reduceAdd, Nat.reduceSub, Nat.reduceEqDiff, Nat.reduceLeDiff, reduceCtorEq]
        try rfl
  · rw [if_neg h0]
    generalize checkK t l id = e at hc h0
    simp -implicitDefEqProofs (disch := omega) only [vf16, vb16, hc, h0, go_sem, ↓reduceIte, Nat.reduceAdd, Nat.reduceSub, Nat.reduceEqDiff, Nat.reduceLeDiff, reduceCtorEq]
    try rfl

/-! ### limits -/

def knownN (ns : List Nd) (g : Int) : Bool := (findN ns g).isSome
def validLK (t : Tr) (l : List Ch) : Bool := treeOk t && ascOk (knownN t.nodes) 0 4611686018427387904 none l

set_option maxHeartbeats 1000000 in
theorem klimits_eq (t : Tr) (l : List Ch) (hf : t.Fits) (hn : t.nodes.length < 1000000) (hl : l.length < 1000000) : V 27 [t.vv, .p (chsP l)] [] = some (.p (.bool (validLK t l)), []) := by
  refine V_wp (vf := vf27) rfl ?_
  have hc := tcheck_eq t hf hn
  unfold validLK
  cases ht : treeOk t with
  | false =>
    rw [ht] at hc
    simp -implicitDefEqProofs (disch := omega) only [vf27, vb27, hc, Bool.false_and, go_sem, ↓reduceIte, Nat.reduceAdd, Nat.reduceSub, Nat.reduceEqDiff, Nat.reduceLeDiff, reduceCtorEq]
  | true =>
    rw [ht] at hc
    rw [Bool.true_and]
    simp -implicitDefEqProofs (disch := omega) only [vf27, vb27, hc, go_sem, ↓reduceIte, Nat.reduceAdd, Nat.reduceSub, Nat.reduceEqDiff, Nat.reduceLeDiff, reduceCtorEq]
    obtain ⟨I, hI⟩ : ∃ I : Nat → St → Prop, ∀ k s, I k s ↔ ascOk (knownN t.nodes) 0 4611686018427387904 none l = ascOk (knownN t.nodes) 0 4611686018427387904 (prevG l k) (l.drop k) ∧ s.pe 1 = .p (chsP l) ∧ s.pe 2 = .ptr (.slot 2 0) 0 0 ∧ s.pe 12 = .p (chsP l) ∧ s.pe 13 = .p (.int .i64 l.length) ∧ s.pe 14 = .p (.int .i64 k) ∧ s.h (.slot 2 0) = some (0, .box [.p (nodesP t.nodes), .p (.int .i64 t.next)]) := ⟨_, fun _ _ => Iff.rfl⟩
    refine wp_count (l.length) I ?_ ?_
    · refine (hI _ _).2 ⟨?_, ?_, ?_, ?_, ?_, ?_, ?_⟩
      · exact by first | rfl | omega | (simp; done) | (simp; omega)
      all_goals first | with_reducible rfl | (simp -implicitDefEqProofs (disch := omega) only [h1, h5, h9, h10, h11, hh5_0, List.map_append, go_sem, ↓reduceIte, Nat.reduceAdd, Nat.reduceSub, Nat.reduceEqDiff, Nat.reduceLeDiff, reduceCtorEq]; first | done | rfl | (simp; done) | (congr 2; omega) | (congr 1; omega) | (congr 3; omega) | (simp; omega) | (congr 2; simp; omega) | (refine ⟨_, rfl, ?_⟩; first | rfl | (simp -implicitDefEqProofs (disch := omega) only [h1, h5, h9, h10, h11, hh5_0, List.map_append, go_sem, ↓reduceIte, Nat.reduceAdd, Nat.reduceSub, Nat.reduceEqDiff, Nat.reduceLeDiff, reduceCtorEq]; done))) | rfl | omega | (congr 2; omega)
    intro k s hk hIk
    obtain ⟨hq, h1, h2, h12, h13, h14, hh2_0⟩ := (hI _ _).1 hIk
    clear hIk
    simp -implicitDefEqProofs (disch := omega) only [h1, h2, h12, h13, h14, hh2_0, go_sem, ↓reduceIte, Nat.reduceAdd, Nat.reduceSub, Nat.reduceEqDiff, Nat.reduceLeDiff, reduceCtorEq]
    refine wp_if_d (fun hlt => ?_) (fun hge => ?_)
    · have hm : l[k]? = some l[k] := List.getElem?_eq_getElem hlt
      generalize l[k] = c at hm
      have hg := asc_good hq hm
      have hb' := asc_bad hq hm
      have hfi := ffind_eq t c.group hn
      have hkn : knownN t.nodes c.group = (findN t.nodes c.group).isSome := rfl
      generalize (findN t.nodes c.group).getD zeroNd = nd at hfi
      generalize (findN t.nodes c.group).isSome = kn at hfi hkn
      by_cases hk0 : (0 : Int) < k
      · obtain ⟨e, he, he'⟩ := prev_at hm hk0
        have hk1 : (0 : Int) ≤ (k : Int) - 1 := by omega
        rw [ascAt_succ hk0 he, hkn] at hg hb'
        simp -implicitDefEqProofs (disch := omega) only [h1, h2, h12, h13, h14, hh2_0, hlt, hm, hfi, Nd.vv, hk0, hk1, he', go_sem, ↓reduceIte, Nat.reduceAdd, Nat.reduceSub, Nat.reduceEqDiff, Nat.reduceLeDiff, reduceCtorEq]
        repeat' ((first | refine wp_grn_d (fun hb => ?_) (fun hb => ?_) | refine wp_gtn_d (fun hb => ?_) (fun hb => ?_) | refine wp_gr_d (fun hb => ?_) (fun hb => ?_) | refine wp_gt_d (fun hb => ?_) (fun hb => ?_) | refine wp_gr (fun hb => ?_) (fun hb => ?_) | refine wp_gt (fun hb => ?_) (fun hb => ?_) | refine wp_nt_d (fun hb => ?_) (fun hb => ?_) | refine wp_nt (fun hb => ?_) (fun hb => ?_) | refine wp_if_d (fun hb => ?_) (fun hb => ?_) | refine wp_if (fun hb => ?_) (fun hb => ?_)) <;> simp -implicitDefEqProofs (disch := omega) only [hb, h1, h2, h12, h13, h14, hh2_0, hlt, hm, hfi, Nd.vv, hk0, hk1, he', go_sem, ↓reduceIte, Nat.reduceAdd, Nat.reduceSub, Nat.reduceEqDiff, Nat.reduceLeDiff, reduceCtorEq])
        all_goals first
          | (rw [hb' (by first | (rintro ⟨h1, h2, h3, h4⟩; omega) | simp_all)]; done)
          | skip
        try refine And.intro (by omega) ?_
        refine (hI _ _).2 ⟨?_, ?_, ?_, ?_, ?_, ?_, ?_⟩
        · exact hg ⟨by first | assumption | (cases kn <;> simp_all), by omega, by omega, by omega⟩
        all_goals first | with_reducible rfl | (simp -implicitDefEqProofs (disch := omega) only [h1, h2, h12, h13, h14, hh2_0, List.map_append, go_sem, ↓reduceIte, Nat.reduceAdd, Nat.reduceSub, Nat.reduceEqDiff, Nat.reduceLeDiff, reduceCtorEq]; first | done | rfl | (simp; done) | (congr 2; omega) | (congr 1; omega) | (congr 3; omega) | (simp; omega) | (congr 2; simp; omega) | (refine ⟨_, rfl, ?_⟩; first | rfl | (simp -implicitDefEqProofs (disch := omega) only [h1, h2, h12, h13, h14, hh2_0, List.map_append, go_sem, ↓reduceIte, Nat.reduceAdd, Nat.reduceSub, Nat.reduceEqDiff, Nat.reduceLeDiff, reduceCtorEq]; done))) | rfl | omega | (congr 2; omega)
      · rw [ascAt_zero hk0, hkn] at hg hb'
        simp -implicitDefEqProofs (disch := omega) only [h1, h2, h12, h13, h14, hh2_0, hlt, hm, hfi, Nd.vv, hk0, go_sem, ↓reduceIte, Nat.reduceAdd, Nat.reduceSub, Nat.reduceEqDiff, Nat.reduceLeDiff, reduceCtorEq]
        repeat' ((first | refine wp_grn_d (fun hb => ?_) (fun hb => ?_) | refine wp_gtn_d (fun hb => ?_) (fun hb => ?_) | refine wp_gr_d (fun hb => ?_) (fun hb => ?_) | refine wp_gt_d (fun hb => ?_) (fun hb => ?_) | refine wp_gr (fun hb => ?_) (fun hb => ?_) | refine wp_gt (fun hb => ?_) (fun hb => ?_) | refine wp_nt_d (fun hb => ?_) (fun hb => ?_) | refine wp_nt (fun hb => ?_) (fun hb => ?_) | refine wp_if_d (fun hb => ?_) (fun hb => ?_) | refine wp_if (fun hb => ?_) (fun hb => ?_)) <;> simp -implicitDefEqProofs (disch := omega) only [hb, h1, h2, h12, h13, h14, hh2_0, hlt, hm, hfi, Nd.vv, hk0, go_sem, ↓reduceIte, Nat.reduceAdd, Nat.reduceSub, Nat.reduceEqDiff, Nat.reduceLeDiff, reduceCtorEq])
        all_goals first
          | (rw [hb' (by first | (rintro ⟨h1, h2, h3⟩; omega) | simp_all)]; done)
          | skip
        try refine And.intro (by omega) ?_
        refine (hI _ _).2 ⟨?_, ?_, ?_, ?_, ?_, ?_, ?_⟩
        · exact hg ⟨by first | assumption | (cases kn <;> simp_all), by omega, by omega⟩
        all_goals first | with_reducible rfl | (simp -implicitDefEqProofs (disch := omega) only [h1, h2, h12, h13, h14, hh2_0, List.map_append, go_sem, ↓reduceIte, Nat.reduceAdd, Nat.reduceSub, Nat.reduceEqDiff, Nat.reduceLeDiff, reduceCtorEq]; first | done | rfl | (simp; done) | (congr 2; omega) | (congr 1; omega) | (congr 3; omega) | (simp; omega) | (congr 2; simp; omega) | (refine ⟨_, rfl, ?_⟩; first | rfl | (simp -implicitDefEqProofs (disch := omega) only [h1, h2, h12, h13, h14, hh2_0, List.map_append, go_sem, ↓reduceIte, Nat.reduceAdd, Nat.reduceSub, Nat.reduceEqDiff, Nat.reduceLeDiff, reduceCtorEq]; done))) | rfl | omega | (congr 2; omega)
    · have hT := asc_end hq (by omega)
      simp -implicitDefEqProofs (disch := omega) only [h1, h2, h12, h13, h14, hh2_0, hge, hT, go_sem, ↓reduceIte, Nat.reduceAdd, Nat.reduceSub, Nat.reduceEqDiff, Nat.reduceLeDiff, reduceCtorEq]
end Go.V

namespace Go.V

def lookC : List Ch → Int → Option Int
  | [], _ => none
  | c :: l, id => if c.group = id then some c.own else lookC l id

theorem lookC_snoc (c : Ch) (x : Int) : ∀ (a : List Ch), (∀ d ∈ a, d.group ≠ c.group) → lookC (a ++ [c]) x = if x = c.group then some c.own else lookC a x
  | [], _ => by simp only [List.nil_append, lookC, eq_comm]
  | d :: a, h => by
    have ih := lookC_snoc c x a (fun e he => h e (List.mem_cons_of_mem _ he))
    have hd := h d (List.mem_cons_self ..)
    simp only [List.cons_append, lookC, ih]
    by_cases h1 : d.group = x
    · have h2 : ¬ x = c.group := by omega
      simp [h1, h2]
    · simp [h1]
theorem lookC_mem {l : List Ch} {x m : Int} (h : lookC l x = some m) : ∃ c ∈ l, c.group = x ∧ c.own = m := by
  induction l with
  | nil => cases h
  | cons c l ih =>
    unfold lookC at h
    split at h
    · rename_i hg
      cases h
      exact ⟨c, List.mem_cons_self .., hg, rfl⟩
    · obtain ⟨d, hd, h1⟩ := ih h
      exact ⟨d, List.mem_cons_of_mem _ hd, h1⟩

theorem fresh_at {l : List Ch} (hinc : l.Pairwise fun a b => a.group < b.group) {k : Nat} {c : Ch} (hm : l[k]? = some c) : ∀ d ∈ l.take k, d.group ≠ c.group := by
  intro d hd
  obtain ⟨j, hj⟩ := List.getElem?_of_mem hd
  have hjk : j < k := by
    have := (List.getElem?_eq_some_iff.1 hj).1
    simp at this
    omega
  rw [List.getElem?_take_of_lt hjk] at hj
  obtain ⟨hjl, he⟩ := List.getElem?_eq_some_iff.1 hj
  obtain ⟨hkl, he2⟩ := List.getElem?_eq_some_iff.1 hm
  have := List.pairwise_iff_getElem.1 hinc j k hjl hkl hjk
  rw [he, he2] at this
  omega

def Rep2 (ks : List MKey) (vs : List PV) (f : Int → Option Int) : Prop := ∀ id, mget ks vs (.int id) = (f id).map (.int .i64)
theorem Rep2.put {ks : List MKey} {vs : List PV} {f : Int → Option Int} (h : Rep2 ks vs f) (g v : Int) : Rep2 (mput ks vs (.int g) (.int .i64 v)).1 (mput ks vs (.int g) (.int .i64 v)).2 (fun x => if x = g then some v else f x) := by
  intro id
  rw [mget_mput]
  by_cases hg : id = g
  · subst hg
    simp
  · simp [hg]
    exact h id

set_option maxHeartbeats 1000000 in
theorem limits_eq {l : List Ch} (hinc : l.Pairwise fun a b => a.group < b.group) (hll : l.length < 1000000) : ∃ ks vs, V 42 [.p (chsP l)] [] = some (.p (.map (.int .i64) ks vs), []) ∧ Rep2 ks vs (lookC l) := by
  suffices hw : wp (callF V vf42 [.p (chsP l)] []) (fun r => ∃ ks vs, r = (.p (.map (.int .i64) ks vs), []) ∧ Rep2 ks vs (lookC l)) by
    obtain ⟨r, hr, ks, vs, rfl, hrep⟩ := hw
    exact ⟨ks, vs, V_fix (vf := vf42) rfl hr, hrep⟩
  simp -implicitDefEqProofs (disch := omega) only [vf42, vb42, go_sem, ↓reduceIte, Nat.reduceAdd, Nat.reduceSub, Nat.reduceEqDiff, Nat.reduceLeDiff, reduceCtorEq]
  obtain ⟨I, hI⟩ : ∃ I : Nat → St → Prop, ∀ k s, I k s ↔ ∃ (ks : List MKey) (vs : List PV), Rep2 ks vs (lookC (l.take k)) ∧ s.pe 3 = .mref (.slot 6 0) 0 ∧ s.pe 7 = .p (chsP l) ∧ s.pe 8 = .p (.int .i64 l.length) ∧ s.pe 9 = .p (.int .i64 k) ∧ s.h (.slot 6 0) = some (0, .map (.int .i64) ks vs) := ⟨_, fun _ _ => Iff.rfl⟩
  refine wp_count (l.length) I ?_ ?_
  · refine (hI _ _).2 ⟨[], [], ?_, ?_, ?_, ?_, ?_, ?_⟩
    · exact fun id => rfl
    all_goals first | with_reducible rfl | (simp -implicitDefEqProofs (disch := omega) only [List.map_append, go_sem, ↓reduceIte, Nat.reduceAdd, Nat.reduceSub, Nat.reduceEqDiff, Nat.reduceLeDiff, reduceCtorEq]; first | done | rfl | (simp; done) | (congr 2; omega) | (congr 1; omega) | (congr 3; omega) | (simp; omega) | (congr 2; simp; omega) | (refine ⟨_, rfl, ?_⟩; first | rfl | (simp -implicitDefEqProofs (disch := omega) only [List.map_append, go_sem, ↓reduceIte, Nat.reduceAdd, Nat.reduceSub, Nat.reduceEqDiff, Nat.reduceLeDiff, reduceCtorEq]; done))) | rfl | omega | (congr 2; omega)
  intro k s hk hIk
  obtain ⟨ks, vs, hrep, h3, h7, h8, h9, hh6_0⟩ := (hI _ _).1 hIk
  clear hIk
  simp -implicitDefEqProofs (disch := omega) only [h3, h7, h8, h9, hh6_0, go_sem, ↓reduceIte, Nat.reduceAdd, Nat.reduceSub, Nat.reduceEqDiff, Nat.reduceLeDiff, reduceCtorEq]
  refine wp_if_d (fun hlt => ?_) (fun hge => ?_)
  · have hm : l[k]? = some l[k] := List.getElem?_eq_getElem hlt
    have htk : l.take (k + 1) = l.take k ++ [l[k]] := by rw [List.take_add_one, hm]; rfl
    generalize l[k] = c at hm htk
    have hnext := hrep.put c.group c.own
    rw [show (fun x => if x = c.group then some c.own else lookC (l.take k) x) = lookC (l.take (k + 1)) from by
      funext x
      rw [htk, lookC_snoc c x _ (fresh_at hinc hm)]] at hnext
    simp -implicitDefEqProofs (disch := omega) only [h3, h7, h8, h9, hh6_0, hlt, hm, go_sem, ↓reduceIte, Nat.reduceAdd, Nat.reduceSub, Nat.reduceEqDiff, Nat.reduceLeDiff, reduceCtorEq]
    try refine And.intro (by omega) ?_
    refine (hI _ _).2 ⟨(mput ks vs (.int c.group) (.int .i64 c.own)).1, (mput ks vs (.int c.group) (.int .i64 c.own)).2, ?_, ?_, ?_, ?_, ?_, ?_⟩
    · exact hnext
    all_goals first | with_reducible rfl | (simp -implicitDefEqProofs (disch := omega) only [h3, h7, h8, h9, hh6_0, List.map_append, go_sem, ↓reduceIte, Nat.reduceAdd, Nat.reduceSub, Nat.reduceEqDiff, Nat.reduceLeDiff, reduceCtorEq]; first | done | rfl | (simp; done) | (congr 2; omega) | (congr 1; omega) | (congr 3; omega) | (simp; omega) | (congr 2; simp; omega) | (refine ⟨_, rfl, ?_⟩; first | rfl | (simp -implicitDefEqProofs (disch := omega) only [h3, h7, h8, h9, hh6_0, List.map_append, go_sem, ↓reduceIte, Nat.reduceAdd, Nat.reduceSub, Nat.reduceEqDiff, Nat.reduceLeDiff, reduceCtorEq]; done))) | rfl | omega | (congr 2; omega)
  · rw [List.take_of_length_le (by omega)] at hrep
    simp -implicitDefEqProofs (disch := omega) only [h3, h7, h8, h9, hh6_0, hge, go_sem, ↓reduceIte, Nat.reduceAdd, Nat.reduceSub, Nat.reduceEqDiff, Nat.reduceLeDiff, reduceCtorEq]
    exact ⟨_, _, rfl, hrep⟩

def refuses (t : Tr) (c l : List Ch) (n : Int) (g : Int) : Bool := match lookC l g with
  | some m => decide (m < tot t (ownC c) g + n)
  | none => false

def ChargeK (t : Tr) (c l : List Ch) (id n : Int) : List Ch × Int × Int :=
  if validK t c = true ∧ validLK t l = true then
    (if checkK t c id = 0 then
      (if n < 0 then ([], 0, 3) else if (addK t c id n).2 ≠ 0 ∨ n = 0 then ((addK t c id n).1, 0, (addK t c id n).2)
       else match (ancF t.nodes t.nodes.length id).find? (refuses t c l n) with
        | some g => ([], g, 11)
        | none => ((addK t c id n).1, 0, 0))
     else ([], 0, checkK t c id))
  else ([], 0, 1)

theorem addK_range {t : Tr} {c : List Ch} {id n : Int} (h : (addK t c id n).2 = 0) : n ≤ 16777216 := by
  unfold addK at h
  split at h
  · simp at h
  · omega

theorem find_drop {α : Type} {p : α → Bool} {l : List α} {k : Nat} {x : α} (hm : l[k]? = some x) (h : l.find? p = (l.drop k).find? p) : l.find? p = if p x = true then some x else (l.drop (k + 1)).find? p := by
  have hl := (List.getElem?_eq_some_iff.1 hm).1
  rw [h, List.drop_eq_getElem_cons hl]
  rw [List.getElem?_eq_getElem hl] at hm
  cases hm
  rw [List.find?_cons]
  split <;> simp_all

set_option maxHeartbeats 2000000 in
theorem charge_eq (t : Tr) (c l : List Ch) (id n : Int) (hf : t.Fits) (hn : t.nodes.length < 1000000) (hc : c.length < 1000000) (hl : l.length < 1000000) : V 15 [t.vv, ctrV c, .p (chsP l), .p (.int .i64 id), .p (.int .i64 n)] [] = some (.tup [ctrF (ChargeK t c l id n).1, .p (.int .i64 (ChargeK t c l id n).2.1), .p (.int .i64 (ChargeK t c l id n).2.2)], []) := by
  refine V_wp (vf := vf15) rfl ?_
  have hv := kvalid_eq t c hf hn hc
  have hvl := klimits_eq t l hf hn hl
  have hch := kcheck_eq t c id hf hn hc
  unfold ChargeK
  cases hvv : validK t c with
  | false =>
    rw [hvv] at hv
    simp -implicitDefEqProofs (disch := omega) only [vf15, vb15, hv, go_sem, ↓reduceIte, Nat.reduceAdd, Nat.reduceSub, Nat.reduceEqDiff, Nat.reduceLeDiff, reduceCtorEq]
    simp
  | true =>
    rw [hvv] at hv
    cases hvl' : validLK t l with
    | false =>
      rw [hvl'] at hvl
      simp -implicitDefEqProofs (disch := omega) only [vf15, vb15, hv, hvl, go_sem, ↓reduceIte, Nat.reduceAdd, Nat.reduceSub, Nat.reduceEqDiff, Nat.reduceLeDiff, reduceCtorEq]
      simp
    | true =>
      rw [hvl'] at hvl
      rw [if_pos ⟨rfl, rfl⟩]
      by_cases h0 : checkK t c id = 0
      · rw [if_pos h0]
        rw [h0] at hch
        obtain ⟨h1, h2, i, nd, hi, rfl⟩ := checkK_zero.1 h0
        have hadd := add_eq h1 h2 nd.id n hn hc
        by_cases hn0 : n < 0
        · rw [if_pos hn0]
          simp -implicitDefEqProofs (disch := omega) only [vf15, vb15, hv, hvl, hch, hn0, go_sem, ↓reduceIte, Nat.reduceAdd, Nat.reduceSub, Nat.reduceEqDiff, Nat.reduceLeDiff, reduceCtorEq]
          try rfl
        · rw [if_neg hn0]
          have hrng := addK_range (t := t) (c := c) (id := nd.id) (n := n)
          generalize addK t c nd.id n = r at hadd hrng
          obtain ⟨rl, re⟩ := r
          simp only at hadd hrng
          by_cases he : re = 0
          · subst he
            have hr2 := hrng rfl
            by_cases hz : n = 0
            · subst hz
              simp -implicitDefEqProofs (disch := omega) only [vf15, vb15, hv, hvl, hch, hadd, hn0, go_sem, ↓reduceIte, Nat.reduceAdd, Nat.reduceSub, Nat.reduceEqDiff, Nat.reduceLeDiff, reduceCtorEq]
              try simp
            · rw [if_neg (by simp [hz])]
              obtain ⟨ks, vs, hs, hg⟩ := sums_eq h1 h2 hn hc
              obtain ⟨ks2, vs2, hs2, hrep⟩ := limits_eq (l := l) ((ascOk_iff _ _ _ _).1 (by simpa [validLK, (treeOk_iff t).2 h1] using hvl')).inc hl
              have ha := fanc_eq t nd.id hn
              have hanc := anc_le h1 i nd hi
              have hal := ancF_length t.nodes t.nodes.length nd.id
              generalize ancF t.nodes t.nodes.length nd.id = A at ha hanc hal
              simp -implicitDefEqProofs (disch := omega) only [vf15, vb15, hv, hvl, hch, hn0, hadd, hz, hs, hs2, ha, go_sem, ↓reduceIte, Nat.reduceAdd, Nat.reduceSub, Nat.reduceEqDiff, Nat.reduceLeDiff, reduceCtorEq]
              obtain ⟨I, hI⟩ : ∃ I : Nat → St → Prop, ∀ k s, I k s ↔ A.find? (refuses t c l n) = (A.drop k).find? (refuses t c l n) ∧ s.pe 4 = .p (.int .i64 n) ∧ s.pe 10 = .ptr (.slot 10 0) 0 0 ∧ s.pe 14 = .ptr (.slot 14 0) 0 0 ∧ s.pe 16 = .p (PV.map (KT.int IntKind.i64) ks vs) ∧ s.pe 17 = .p (PV.map (KT.int IntKind.i64) ks2 vs2) ∧ s.pe 67 = .own (.slot 67 1) 0 0 A.length ∧ s.pe 68 = .p (.int .i64 ↑A.length) ∧ s.pe 69 = .p (.int .i64 k) ∧ s.h (.slot 10 0) = some (0, Ob.box [.own (.slot 10 1) 0 0 0]) ∧ s.h (.slot 10 1) = some (0, Ob.arr 2 []) ∧ s.h (.slot 14 0) = some (0, Ob.box [.own (.slot 49 1) 0 0 rl.length]) ∧ s.h (.slot 49 1) = some (0, Ob.arr 2 (List.map Ch.pv rl)) ∧ s.h (.slot 67 1) = some (0, Ob.arr 1 (List.map (.int .i64) A)) := ⟨_, fun _ _ => Iff.rfl⟩
              refine wp_count (A.length) I ?_ ?_
              · refine (hI _ _).2 ⟨?_, ?_, ?_, ?_, ?_, ?_, ?_, ?_, ?_, ?_, ?_, ?_, ?_, ?_⟩
                · exact by first | rfl | omega | (simp; done) | (simp; omega)
                all_goals first | with_reducible rfl | (simp -implicitDefEqProofs (disch := omega) only [h3, h7, h8, h9, hh6_0, List.map_append, go_sem, ↓reduceIte, Nat.reduceAdd, Nat.reduceSub, Nat.reduceEqDiff, Nat.reduceLeDiff, reduceCtorEq]; first | done | rfl | (simp; done) | (congr 2; omega) | (congr 1; omega) | (congr 3; omega) | (simp; omega) | (congr 2; simp; omega) | (refine ⟨_, rfl, ?_⟩; first | rfl | (simp -implicitDefEqProofs (disch := omega) only [h3, h7, h8, h9, hh6_0, List.map_append, go_sem, ↓reduceIte, Nat.reduceAdd, Nat.reduceSub, Nat.reduceEqDiff, Nat.reduceLeDiff, reduceCtorEq]; done))) | rfl | omega | (congr 2; omega)
              intro k s hk hIk
              obtain ⟨hq, h4, h10, h14, h16, h17, h67, h68, h69, hh10_0, hh10_1, hh14_0, hh49_1, hh67_1⟩ := (hI _ _).1 hIk
              clear hIk
              simp -implicitDefEqProofs (disch := omega) only [h4, h10, h14, h16, h17, h67, h68, h69, hh10_0, hh10_1, hh14_0, hh49_1, hh67_1, go_sem, ↓reduceIte, Nat.reduceAdd, Nat.reduceSub, Nat.reduceEqDiff, Nat.reduceLeDiff, reduceCtorEq]
              refine wp_if_d (fun hlt => ?_) (fun hge => ?_)
              · have hm : A[k]? = some A[k] := List.getElem?_eq_getElem hlt
                generalize A[k] = g at hm
                obtain ⟨j, nj, _, hj, rfl⟩ := hanc g (List.mem_of_getElem? hm)
                have hgj := hg j nj hj
                have hrj := hrep nj.id
                have t0 := tot_nonneg t (ownC_nonneg h2.pos) nj.id
                have t1 := tot_le h1 h2 hj
                have t2 := h2.all
                have hst := find_drop hm hq
                unfold refuses at hst
                cases hlk : lookC l nj.id with
                | none =>
                  rw [hlk] at hrj hst
                  simp only [Option.map_none, Bool.false_eq_true, if_false] at hrj hst
                  simp -implicitDefEqProofs (disch := omega) only [h4, h10, h14, h16, h17, h67, h68, h69, hh10_0, hh10_1, hh14_0, hh49_1, hh67_1, hlt, hm, hrj, Option.isSome_none, go_sem, ↓reduceIte, Nat.reduceAdd, Nat.reduceSub, Nat.reduceEqDiff, Nat.reduceLeDiff, reduceCtorEq]
                  try refine And.intro (by omega) ?_
                  refine (hI _ _).2 ⟨?_, ?_, ?_, ?_, ?_, ?_, ?_, ?_, ?_, ?_, ?_, ?_, ?_, ?_⟩
                  · exact hst
                  all_goals first | with_reducible rfl | (simp -implicitDefEqProofs (disch := omega) only [h4, h10, h14, h16, h17, h67, h68, h69, hh10_0, hh10_1, hh14_0, hh49_1, hh67_1, List.map_append, go_sem, ↓reduceIte, Nat.reduceAdd, Nat.reduceSub, Nat.reduceEqDiff, Nat.reduceLeDiff, reduceCtorEq]; first | done | rfl | (simp; done) | (congr 2; omega) | (congr 1; omega) | (congr 3; omega) | (simp; omega) | (congr 2; simp; omega) | (refine ⟨_, rfl, ?_⟩; first | rfl | (simp -implicitDefEqProofs (disch := omega) only [h4, h10, h14, h16, h17, h67, h68, h69, hh10_0, hh10_1, hh14_0, hh49_1, hh67_1, List.map_append, go_sem, ↓reduceIte, Nat.reduceAdd, Nat.reduceSub, Nat.reduceEqDiff, Nat.reduceLeDiff, reduceCtorEq]; done))) | rfl | omega | (congr 2; omega)
                | some M =>
                  rw [hlk] at hrj hst
                  simp only [Option.map_some, decide_eq_true_eq] at hrj hst
                  generalize tot t (ownC c) nj.id = T at hgj t0 t1 hst
                  by_cases hb : M < T + n
                  · rw [if_pos hb] at hst
                    change A.find? (refuses t c l n) = _ at hst
                    simp -implicitDefEqProofs (disch := omega) only [h4, h10, h14, h16, h17, h67, h68, h69, hh10_0, hh10_1, hh14_0, hh49_1, hh67_1, hlt, hm, hrj, hgj, hb, hst, Option.isSome_some, Option.getD_some, go_sem, ↓reduceIte, Nat.reduceAdd, Nat.reduceSub, Nat.reduceEqDiff, Nat.reduceLeDiff, reduceCtorEq]
                    try rfl
                  · rw [if_neg hb] at hst
                    simp -implicitDefEqProofs (disch := omega) only [h4, h10, h14, h16, h17, h67, h68, h69, hh10_0, hh10_1, hh14_0, hh49_1, hh67_1, hlt, hm, hrj, hgj, hb, Option.isSome_some, Option.getD_some, go_sem, ↓reduceIte, Nat.reduceAdd, Nat.reduceSub, Nat.reduceEqDiff, Nat.reduceLeDiff, reduceCtorEq]
                    try refine And.intro (by omega) ?_
                    refine (hI _ _).2 ⟨?_, ?_, ?_, ?_, ?_, ?_, ?_, ?_, ?_, ?_, ?_, ?_, ?_, ?_⟩
                    · exact hst
                    all_goals first | with_reducible rfl | (simp -implicitDefEqProofs (disch := omega) only [h4, h10, h14, h16, h17, h67, h68, h69, hh10_0, hh10_1, hh14_0, hh49_1, hh67_1, List.map_append, go_sem, ↓reduceIte, Nat.reduceAdd, Nat.reduceSub, Nat.reduceEqDiff, Nat.reduceLeDiff, reduceCtorEq]; first | done | rfl | (simp; done) | (congr 2; omega) | (congr 1; omega) | (congr 3; omega) | (simp; omega) | (congr 2; simp; omega) | (refine ⟨_, rfl, ?_⟩; first | rfl | (simp -implicitDefEqProofs (disch := omega) only [h4, h10, h14, h16, h17, h67, h68, h69, hh10_0, hh10_1, hh14_0, hh49_1, hh67_1, List.map_append, go_sem, ↓reduceIte, Nat.reduceAdd, Nat.reduceSub, Nat.reduceEqDiff, Nat.reduceLeDiff, reduceCtorEq]; done))) | rfl | omega | (congr 2; omega)
              · rw [List.drop_of_length_le (by omega)] at hq
                rw [hq]
                simp -implicitDefEqProofs (disch := omega) only [h4, h10, h14, h16, h17, h67, h68, h69, hh10_0, hh10_1, hh14_0, hh49_1, hh67_1, hge, go_sem, ↓reduceIte, Nat.reduceAdd, Nat.reduceSub, Nat.reduceEqDiff, Nat.reduceLeDiff, reduceCtorEq]
                try rfl
          · rw [if_pos (Or.inl he)]
            simp -implicitDefEqProofs (disch := omega) only [vf15, vb15, hv, hvl, hch, hn0, hadd, he, go_sem, ↓reduceIte, Nat.reduceAdd, Nat.reduceSub, Nat.reduceEqDiff, Nat.reduceLeDiff, reduceCtorEq]
            try rfl
      · rw [if_neg h0]
        generalize checkK t c id = e at hch h0
        simp -implicitDefEqProofs (disch := omega) only [vf15, vb15, hv, hvl, hch, h0, go_sem, ↓reduceIte, Nat.reduceAdd, Nat.reduceSub, Nat.reduceEqDiff, Nat.reduceLeDiff, reduceCtorEq]
        try rfl
end Go.V

namespace Go.V

theorem findT_ok {t : Tr} (h : treeOk t = true) (id : Int) : findT t id = findN t.nodes id := by simp [findT, h]

set_option maxHeartbeats 1000000 in
theorem rcharges_eq (t : Tr) (l : List Ch) (lo : Int) (ht : treeOk t = true) (hn : t.nodes.length < 1000000) (hl : l.length < 1000000) : V 56 [t.vv, .p (chsP l), .p (.int .i64 lo)] [] = some (.p (.bool (ascOk (knownN t.nodes) lo 16777216 none l)), []) := by
  refine V_wp (vf := vf56) rfl ?_
  simp -implicitDefEqProofs (disch := omega) only [vf56, vb56, go_sem, ↓reduceIte, Nat.reduceAdd, Nat.reduceSub, Nat.reduceEqDiff, Nat.reduceLeDiff, reduceCtorEq]
  obtain ⟨I, hI⟩ : ∃ I : Nat → St → Prop, ∀ k s, I k s ↔ ascOk (knownN t.nodes) lo 16777216 none l = ascOk (knownN t.nodes) lo 16777216 (prevG l k) (l.drop k) ∧ s.pe 1 = .p (chsP l) ∧ s.pe 2 = .p (.int .i64 lo) ∧ s.pe 3 = .ptr (.slot 3 0) 0 0 ∧ s.pe 7 = .p (.int .i64 k) ∧ s.h (.slot 3 0) = some (0, Ob.box [.p (nodesP t.nodes), .p (.int .i64 t.next)]) := ⟨_, fun _ _ => Iff.rfl⟩
  refine wp_count (l.length) I ?_ ?_
  · refine (hI _ _).2 ⟨?_, ?_, ?_, ?_, ?_, ?_⟩
    · exact by first | rfl | omega | (simp; done) | (simp; omega)
    all_goals first | with_reducible rfl | (simp -implicitDefEqProofs (disch := omega) only [List.map_append, go_sem, ↓reduceIte, Nat.reduceAdd, Nat.reduceSub, Nat.reduceEqDiff, Nat.reduceLeDiff, reduceCtorEq]; first | done | rfl | (simp; done) | (congr 2; omega) | (congr 1; omega) | (congr 3; omega) | (simp; omega) | (congr 2; simp; omega) | (refine ⟨_, rfl, ?_⟩; first | rfl | (simp -implicitDefEqProofs (disch := omega) only [List.map_append, go_sem, ↓reduceIte, Nat.reduceAdd, Nat.reduceSub, Nat.reduceEqDiff, Nat.reduceLeDiff, reduceCtorEq]; done))) | rfl | omega | (congr 2; omega)
  intro k s hk hIk
  obtain ⟨hq, h1, h2, h3, h7, hh3_0⟩ := (hI _ _).1 hIk
  clear hIk
  simp -implicitDefEqProofs (disch := omega) only [h1, h2, h3, h7, hh3_0, go_sem, ↓reduceIte, Nat.reduceAdd, Nat.reduceSub, Nat.reduceEqDiff, Nat.reduceLeDiff, reduceCtorEq]
  refine wp_if_d (fun hlt => ?_) (fun hge => ?_)
  · have hm : l[k]? = some l[k] := List.getElem?_eq_getElem hlt
    generalize l[k] = c at hm
    have hg := asc_good hq hm
    have hb' := asc_bad hq hm
    have hfi := rhas_eq t c.group hn
    rw [findT_ok ht] at hfi
    have hkn : knownN t.nodes c.group = (findN t.nodes c.group).isSome := rfl
    generalize (findN t.nodes c.group).isSome = kn at hfi hkn
    by_cases hk0 : (0 : Int) < k
    · obtain ⟨e, he, he'⟩ := prev_at hm hk0
      have hk1 : (0 : Int) ≤ (k : Int) - 1 := by omega
      rw [ascAt_succ hk0 he, hkn] at hg hb'
      simp -implicitDefEqProofs (disch := omega) only [h1, h2, h3, h7, hh3_0, hlt, hm, hfi, hk0, hk1, he', go_sem, ↓reduceIte, Nat.reduceAdd, Nat.reduceSub, Nat.reduceEqDiff, Nat.reduceLeDiff, reduceCtorEq]
      repeat' ((first | refine wp_grn_d (fun hb => ?_) (fun hb => ?_) | refine wp_gtn_d (fun hb => ?_) (fun hb => ?_) | refine wp_gr_d (fun hb => ?_) (fun hb => ?_) | refine wp_gt_d (fun hb => ?_) (fun hb => ?_) | refine wp_gr (fun hb => ?_) (fun hb => ?_) | refine wp_gt (fun hb => ?_) (fun hb => ?_) | refine wp_nt_d (fun hb => ?_) (fun hb => ?_) | refine wp_nt (fun hb => ?_) (fun hb => ?_) | refine wp_if_d (fun hb => ?_) (fun hb => ?_) | refine wp_if (fun hb => ?_) (fun hb => ?_)) <;> simp -implicitDefEqProofs (disch := omega) only [hb, h1, h2, h3, h7, hh3_0, hlt, hm, hfi, hk0, hk1, he', go_sem, ↓reduceIte, Nat.reduceAdd, Nat.reduceSub, Nat.reduceEqDiff, Nat.reduceLeDiff, reduceCtorEq])
      all_goals first
        | (rw [hb' (by first | (rintro ⟨h1, h2, h3, h4⟩; omega) | simp_all)]; done)
        | skip
      try refine And.intro (by omega) ?_
      refine (hI _ _).2 ⟨?_, ?_, ?_, ?_, ?_, ?_⟩
      · exact hg ⟨by first | assumption | (cases kn <;> simp_all), by omega, by omega, by omega⟩
      all_goals first | with_reducible rfl | (simp -implicitDefEqProofs (disch := omega) only [h1, h2, h3, h7, hh3_0, List.map_append, go_sem, ↓reduceIte, Nat.reduceAdd, Nat.reduceSub, Nat.reduceEqDiff, Nat.reduceLeDiff, reduceCtorEq]; first | done | rfl | (simp; done) | (congr 2; omega) | (congr 1; omega) | (congr 3; omega) | (simp; omega) | (congr 2; simp; omega) | (refine ⟨_, rfl, ?_⟩; first | rfl | (simp -implicitDefEqProofs (disch := omega) only [h1, h2, h3, h7, hh3_0, List.map_append, go_sem, ↓reduceIte, Nat.reduceAdd, Nat.reduceSub, Nat.reduceEqDiff, Nat.reduceLeDiff, reduceCtorEq]; done))) | rfl | omega | (congr 2; omega)
    · rw [ascAt_zero hk0, hkn] at hg hb'
      simp -implicitDefEqProofs (disch := omega) only [h1, h2, h3, h7, hh3_0, hlt, hm, hfi, hk0, go_sem, ↓reduceIte, Nat.reduceAdd, Nat.reduceSub, Nat.reduceEqDiff, Nat.reduceLeDiff, reduceCtorEq]
      repeat' ((first | refine wp_grn_d (fun hb => ?_) (fun hb => ?_) | refine wp_gtn_d (fun hb => ?_) (fun hb => ?_) | refine wp_gr_d (fun hb => ?_) (fun hb => ?_) | refine wp_gt_d (fun hb => ?_) (fun hb => ?_) | refine wp_gr (fun hb => ?_) (fun hb => ?_) | refine wp_gt (fun hb => ?_) (fun hb => ?_) | refine wp_nt_d (fun hb => ?_) (fun hb => ?_) | refine wp_nt (fun hb => ?_) (fun hb => ?_) | refine wp_if_d (fun hb => ?_) (fun hb => ?_) | refine wp_if (fun hb => ?_) (fun hb => ?_)) <;> simp -implicitDefEqProofs (disch := omega) only [hb, h1, h2, h3, h7, hh3_0, hlt, hm, hfi, hk0, go_sem, ↓reduceIte, Nat.reduceAdd, Nat.reduceSub, Nat.reduceEqDiff, Nat.reduceLeDiff, reduceCtorEq])
      all_goals first
        | (rw [hb' (by first | (rintro ⟨h1, h2, h3⟩; omega) | simp_all)]; done)
        | skip
      try refine And.intro (by omega) ?_
      refine (hI _ _).2 ⟨?_, ?_, ?_, ?_, ?_, ?_⟩
      · exact hg ⟨by first | assumption | (cases kn <;> simp_all), by omega, by omega⟩
      all_goals first | with_reducible rfl | (simp -implicitDefEqProofs (disch := omega) only [h1, h2, h3, h7, hh3_0, List.map_append, go_sem, ↓reduceIte, Nat.reduceAdd, Nat.reduceSub, Nat.reduceEqDiff, Nat.reduceLeDiff, reduceCtorEq]; first | done | rfl | (simp; done) | (congr 2; omega) | (congr 1; omega) | (congr 3; omega) | (simp; omega) | (congr 2; simp; omega) | (refine ⟨_, rfl, ?_⟩; first | rfl | (simp -implicitDefEqProofs (disch := omega) only [h1, h2, h3, h7, hh3_0, List.map_append, go_sem, ↓reduceIte, Nat.reduceAdd, Nat.reduceSub, Nat.reduceEqDiff, Nat.reduceLeDiff, reduceCtorEq]; done))) | rfl | omega | (congr 2; omega)
  · have hT := asc_end hq (by omega)
    simp -implicitDefEqProofs (disch := omega) only [h1, h2, h3, h7, hh3_0, hge, hT, go_sem, ↓reduceIte, Nat.reduceAdd, Nat.reduceSub, Nat.reduceEqDiff, Nat.reduceLeDiff, reduceCtorEq]

/-! ### sums of charges -/

theorem nodup_groups {l : List Ch} (h : l.Pairwise fun a b => a.group < b.group) : (l.map (·.group)).Nodup := by
  rw [List.Nodup, List.pairwise_map]
  exact h.imp fun hab => by omega
theorem asc_length {ns : List Nd} {lo hi : Int} {l : List Ch} (h : AscOk (knownN ns) lo hi l) : l.length ≤ ns.length := by
  have := nodup_length_le (l.map (·.group)) (ns.map (·.id)) (nodup_groups h.inc) (fun x hx => by
    obtain ⟨c, hc, rfl⟩ := List.mem_map.1 hx
    obtain ⟨n, hn, he⟩ := findN_some (h.known c hc)
    exact List.mem_map.2 ⟨n, hn, he⟩)
  simpa using this
theorem sum_bound {hi : Int} : ∀ (l : List Ch), (∀ c ∈ l, 0 ≤ c.own ∧ c.own ≤ hi) → 0 ≤ sumI (l.map (·.own)) ∧ sumI (l.map (·.own)) ≤ l.length * hi
  | [], _ => by simp [sumI]
  | c :: l, h => by
    have h0 := h c (List.mem_cons_self ..)
    have h1 := sum_bound l fun d hd => h d (List.mem_cons_of_mem _ hd)
    simp only [List.map_cons, sumI, List.length_cons, Int.natCast_add]
    have : ((l.length : Int) + (1 : Nat)) * hi = l.length * hi + hi := by rw [Int.add_mul]; simp
    omega

theorem validK_asc (t : Tr) (l : List Ch) (ht : treeOk t = true) : validK t l = (ascOk (knownN t.nodes) 1 16777216 none l && decide (sumI (l.map (·.own)) ≤ 16777216)) := by
  rw [Bool.eq_iff_iff, Bool.and_eq_true, ascOk_iff, decide_eq_true_eq, validK_iff]
  constructor
  · rintro ⟨_, h⟩
    refine ⟨⟨h.known, h.inc, fun c hc => ⟨h.pos c hc, ?_⟩⟩, h.all⟩
    have := ownC_le h.pos c.group
    have h3 := h.all
    have h4 : c.own ≤ sumI (l.map (·.own)) := by
      have := sumI_mem_le' l h.pos c hc
      exact this
    omega
  · rintro ⟨h, hs⟩
    exact ⟨(treeOk_iff t).1 ht, ⟨h.known, h.inc, fun c hc => (h.range c hc).1, hs⟩⟩
where
  sumI_mem_le' : ∀ (l : List Ch), (∀ c ∈ l, 1 ≤ c.own) → ∀ c ∈ l, c.own ≤ sumI (l.map (·.own))
  | [], _, _, h => by cases h
  | d :: l, hp, c, h => by
    have h0 := hp d (List.mem_cons_self ..)
    have h1 := sumI_map_nonneg l (f := (·.own)) fun z hz => by have := hp z (List.mem_cons_of_mem _ hz); omega
    simp only [List.map_cons, sumI]
    rcases List.mem_cons.1 h with rfl | h
    · omega
    · have := sumI_mem_le' l (fun z hz => hp z (List.mem_cons_of_mem _ hz)) c h
      omega

set_option maxHeartbeats 1000000 in
theorem rvalidK_eq (t : Tr) (l : List Ch) (hn : t.nodes.length < 1000000) (hl : l.length < 1000000) : V 26 [t.vv, ctrV l] [] = some (.p (.bool (validK t l)), []) := by
  refine V_wp (vf := vf26) rfl ?_
  have hc := rcheck_eq t hn
  cases ht : treeOk t with
  | false =>
    rw [ht] at hc
    have : validK t l = false := by simp [validK, ht]
    simp -implicitDefEqProofs (disch := omega) only [vf26, vb26, hc, this, go_sem, ↓reduceIte, Nat.reduceAdd, Nat.reduceSub, Nat.reduceEqDiff, Nat.reduceLeDiff, reduceCtorEq]
  | true =>
    rw [ht] at hc
    have hch := rcharges_eq t l 1 ht hn hl
    rw [validK_asc t l ht]
    cases ha : ascOk (knownN t.nodes) 1 16777216 none l with
    | false =>
      rw [ha] at hch
      simp -implicitDefEqProofs (disch := omega) only [vf26, vb26, hc, hch, Bool.false_and, go_sem, ↓reduceIte, Nat.reduceAdd, Nat.reduceSub, Nat.reduceEqDiff, Nat.reduceLeDiff, reduceCtorEq]
    | true =>
      rw [ha] at hch
      have hA := (ascOk_iff _ _ _ _).1 ha
      have hlen := asc_length hA
      have h64 := ((treeOk_iff t).1 ht).len
      have hpre : ∀ k, 0 ≤ sumI ((l.take k).map (·.own)) ∧ sumI ((l.take k).map (·.own)) ≤ 64 * 16777216 := fun k => by
        have h1 := sum_bound (hi := 16777216) (l.take k) fun c hc => by have := hA.range c (List.mem_of_mem_take hc); omega
        have h2 : ((l.take k).length : Int) * 16777216 ≤ 64 * 16777216 := Int.mul_le_mul_of_nonneg_right (by simp; omega) (by omega)
        omega
      simp -implicitDefEqProofs (disch := omega) only [vf26, vb26, hc, hch, go_sem, ↓reduceIte, Nat.reduceAdd, Nat.reduceSub, Nat.reduceEqDiff, Nat.reduceLeDiff, reduceCtorEq]
      obtain ⟨I, hI⟩ : ∃ I : Nat → St → Prop, ∀ k s, I k s ↔ s.pe 3 = .ptr (.slot 3 0) 0 0 ∧ s.pe 5 = .p (.int .i64 (sumI ((l.take k).map (·.own)))) ∧ s.pe 6 = .p (.int .i64 k) ∧ s.h (.slot 3 0) = some (0, Ob.box [.p (chsP l)]) := ⟨_, fun _ _ => Iff.rfl⟩
      refine wp_count (l.length) I ?_ ?_
      · refine (hI _ _).2 ⟨?_, ?_, ?_, ?_⟩
        all_goals first | with_reducible rfl | (simp -implicitDefEqProofs (disch := omega) only [h1, h2, h3, h7, hh3_0, List.map_append, go_sem, ↓reduceIte, Nat.reduceAdd, Nat.reduceSub, Nat.reduceEqDiff, Nat.reduceLeDiff, reduceCtorEq]; first | done | rfl | (simp; done) | (congr 2; omega) | (congr 1; omega) | (congr 3; omega) | (simp; omega) | (congr 2; simp; omega) | (refine ⟨_, rfl, ?_⟩; first | rfl | (simp -implicitDefEqProofs (disch := omega) only [h1, h2, h3, h7, hh3_0, List.map_append, go_sem, ↓reduceIte, Nat.reduceAdd, Nat.reduceSub, Nat.reduceEqDiff, Nat.reduceLeDiff, reduceCtorEq]; done))) | rfl | omega | (congr 2; omega)
      intro k s hk hIk
      obtain ⟨h3, h5, h6, hh3_0⟩ := (hI _ _).1 hIk
      clear hIk
      simp -implicitDefEqProofs (disch := omega) only [h3, h5, h6, hh3_0, go_sem, ↓reduceIte, Nat.reduceAdd, Nat.reduceSub, Nat.reduceEqDiff, Nat.reduceLeDiff, reduceCtorEq]
      refine wp_if_d (fun hlt => ?_) (fun hge => ?_)
      · have hm : l[k]? = some l[k] := List.getElem?_eq_getElem hlt
        generalize l[k] = c at hm
        have hs := sumI_take_succ (f := (·.own)) hm
        have p1 := hpre (k + 1)
        have p0 := hpre k
        rw [hs] at p1
        generalize sumI ((l.take k).map (·.own)) = S at h5 hs p0 p1
        simp -implicitDefEqProofs (disch := omega) only [h3, h5, h6, hh3_0, hlt, hm, go_sem, ↓reduceIte, Nat.reduceAdd, Nat.reduceSub, Nat.reduceEqDiff, Nat.reduceLeDiff, reduceCtorEq]
        try refine And.intro (by omega) ?_
        refine (hI _ _).2 ⟨?_, ?_, ?_, ?_⟩
        all_goals first | with_reducible rfl | (simp -implicitDefEqProofs (disch := omega) only [h3, h5, h6, hh3_0, hs, List.map_append, go_sem, ↓reduceIte, Nat.reduceAdd, Nat.reduceSub, Nat.reduceEqDiff, Nat.reduceLeDiff, reduceCtorEq]; first | done | rfl | (simp; done) | (congr 2; omega) | (congr 1; omega) | (congr 3; omega) | (simp; omega) | (congr 2; simp; omega) | (refine ⟨_, rfl, ?_⟩; first | rfl | (simp -implicitDefEqProofs (disch := omega) only [h3, h5, h6, hh3_0, hs, List.map_append, go_sem, ↓reduceIte, Nat.reduceAdd, Nat.reduceSub, Nat.reduceEqDiff, Nat.reduceLeDiff, reduceCtorEq]; done))) | rfl | omega | (congr 2; omega)
      · rw [List.take_of_length_le (by omega)] at h5
        simp -implicitDefEqProofs (disch := omega) only [h3, h5, h6, hh3_0, hge, Bool.true_and, go_sem, ↓reduceIte, Nat.reduceAdd, Nat.reduceSub, Nat.reduceEqDiff, Nat.reduceLeDiff, reduceCtorEq]

theorem subT_len {t : Tr} (h : TreeOk t) (id : Int) : (subT t id).length ≤ t.nodes.length := by
  unfold subT
  split
  · rename_i hs
    rw [findT_ok ((treeOk_iff t).2 h)] at hs
    obtain ⟨n, hn, rfl⟩ := findN_some hs
    obtain ⟨i, hi⟩ := List.getElem?_of_mem hn
    exact subF_length h hi (by omega)
  · exact Nat.zero_le _

set_option maxHeartbeats 1000000 in
theorem rsum_eq {t : Tr} (h : TreeOk t) {l : List Ch} (hl : ChOk t.nodes l) (hll : l.length < 1000000) {i : Nat} {n : Nd} (hi : t.nodes[i]? = some n) : V 53 [t.vv, ctrV l, .p (.int .i64 n.id)] [] = some (.p (.int .i64 (tot t (ownC l) n.id)), []) := by
  refine V_wp (vf := vf53) rfl ?_
  have hlen := h.len
  have hs := rsub_eq (t := t) n.id (by omega)
  have hsl := subT_len h n.id
  have hst : subT t n.id = subF t.nodes t.nodes.length n.id := by
    rw [subT, findT_ok ((treeOk_iff t).2 h), findN_unique h.inc hi]; rfl
  have htot : tot t (ownC l) n.id = sumI ((subT t n.id).map (ownC l)) := by rw [hst]; rfl
  have hle := tot_le h hl hi
  have hall := hl.all
  rw [htot] at hle ⊢
  generalize subT t n.id = A at hs hsl hle
  simp -implicitDefEqProofs (disch := omega) only [vf53, vb53, hs, go_sem, ↓reduceIte, Nat.reduceAdd, Nat.reduceSub, Nat.reduceEqDiff, Nat.reduceLeDiff, reduceCtorEq]
  obtain ⟨I, hI⟩ : ∃ I : Nat → St → Prop, ∀ k s, I k s ↔ s.pe 4 = .ptr (.slot 4 0) 0 0 ∧ s.pe 7 = .p (.int .i64 (sumI ((A.take k).map (ownC l)))) ∧ s.pe 8 = .own (.slot 12 1) 0 0 A.length ∧ s.pe 9 = .p (.int .i64 k) ∧ s.h (.slot 4 0) = some (0, Ob.box [.p (chsP l)]) ∧ s.h (.slot 12 1) = some (0, Ob.arr 1 (List.map (.int .i64) A)) := ⟨_, fun _ _ => Iff.rfl⟩
  refine wp_count (A.length) I ?_ ?_
  · refine (hI _ _).2 ⟨?_, ?_, ?_, ?_, ?_, ?_⟩
    all_goals first | with_reducible rfl | (simp -implicitDefEqProofs (disch := omega) only [h3, h5, h6, hh3_0, List.map_append, go_sem, ↓reduceIte, Nat.reduceAdd, Nat.reduceSub, Nat.reduceEqDiff, Nat.reduceLeDiff, reduceCtorEq]; first | done | rfl | (simp; done) | (congr 2; omega) | (congr 1; omega) | (congr 3; omega) | (simp; omega) | (congr 2; simp; omega) | (refine ⟨_, rfl, ?_⟩; first | rfl | (simp -implicitDefEqProofs (disch := omega) only [h3, h5, h6, hh3_0, List.map_append, go_sem, ↓reduceIte, Nat.reduceAdd, Nat.reduceSub, Nat.reduceEqDiff, Nat.reduceLeDiff, reduceCtorEq]; done))) | rfl | omega | (congr 2; omega)
  intro k s hk hIk
  obtain ⟨h4, h7, h8, h9, hh4_0, hh12_1⟩ := (hI _ _).1 hIk
  clear hIk
  simp -implicitDefEqProofs (disch := omega) only [h4, h7, h8, h9, hh4_0, hh12_1, go_sem, ↓reduceIte, Nat.reduceAdd, Nat.reduceSub, Nat.reduceEqDiff, Nat.reduceLeDiff, reduceCtorEq]
  refine wp_if_d (fun hlt => ?_) (fun hge => ?_)
  · have hm : A[k]? = some A[k] := List.getElem?_eq_getElem hlt
    generalize A[k] = g at hm
    have hst := sumI_take_succ (f := ownC l) hm
    have ho := rown_eq l g hll
    have o0 := ownC_nonneg hl.pos g
    have p0 := sumI_map_nonneg (A.take k) (f := ownC l) fun x _ => ownC_nonneg hl.pos x
    have p1 := sumI_take_le A (k + 1) (f := ownC l) fun x _ => ownC_nonneg hl.pos x
    rw [hst] at p1
    generalize sumI ((A.take k).map (ownC l)) = S at h7 hst p0 p1
    generalize ownC l g = o at ho o0 hst p1
    simp -implicitDefEqProofs (disch := omega) only [h4, h7, h8, h9, hh4_0, hh12_1, hlt, hm, ho, go_sem, ↓reduceIte, Nat.reduceAdd, Nat.reduceSub, Nat.reduceEqDiff, Nat.reduceLeDiff, reduceCtorEq]
    try refine And.intro (by omega) ?_
    refine (hI _ _).2 ⟨?_, ?_, ?_, ?_, ?_, ?_⟩
    all_goals first | with_reducible rfl | (simp -implicitDefEqProofs (disch := omega) only [h4, h7, h8, h9, hh4_0, hh12_1, hst, List.map_append, go_sem, ↓reduceIte, Nat.reduceAdd, Nat.reduceSub, Nat.reduceEqDiff, Nat.reduceLeDiff, reduceCtorEq]; first | done | rfl | (simp; done) | (congr 2; omega) | (congr 1; omega) | (congr 3; omega) | (simp; omega) | (congr 2; simp; omega) | (refine ⟨_, rfl, ?_⟩; first | rfl | (simp -implicitDefEqProofs (disch := omega) only [h4, h7, h8, h9, hh4_0, hh12_1, hst, List.map_append, go_sem, ↓reduceIte, Nat.reduceAdd, Nat.reduceSub, Nat.reduceEqDiff, Nat.reduceLeDiff, reduceCtorEq]; done))) | rfl | omega | (congr 2; omega)
  · rw [List.take_of_length_le (by omega)] at h7
    simp -implicitDefEqProofs (disch := omega) only [h4, h7, h8, h9, hh4_0, hh12_1, hge, go_sem, ↓reduceIte, Nat.reduceAdd, Nat.reduceSub, Nat.reduceEqDiff, Nat.reduceLeDiff, reduceCtorEq]

set_option maxHeartbeats 1000000 in
theorem rput_eq (l : List Ch) (id v : Int) (hl : l.length < 1000000) : V 54 [ctrV l, .p (.int .i64 id), .p (.int .i64 v)] [] = some (ctrF (withC l id v), []) := by
  refine V_wp (vf := vf54) rfl ?_
  unfold withC
  simp -implicitDefEqProofs (disch := omega) only [vf54, vb54, go_sem, ↓reduceIte, Nat.reduceAdd, Nat.reduceSub, Nat.reduceEqDiff, Nat.reduceLeDiff, reduceCtorEq]
  obtain ⟨I, hI⟩ : ∃ I : Nat → St → Prop, ∀ k s, I k s ↔ ∃ (acc : List Ch) (d : Bool) (w : Nat), withGo id v (decide (v = 0)) l = acc ++ withGo id v d (l.drop k) ∧ acc.length ≤ 2 * k ∧ s.pe 1 = .p (.int .i64 id) ∧ s.pe 2 = .p (.int .i64 v) ∧ s.pe 3 = .ptr (.slot 3 0) 0 0 ∧ s.pe 6 = .ptr (.slot 6 0) 0 0 ∧ s.pe 7 = .own (.slot 7 0) w 0 acc.length ∧ s.pe 8 = .p (.bool d) ∧ s.pe 9 = .p (.int .i64 k) ∧ s.h (.slot 3 0) = some (0, Ob.box [.p (chsP l)]) ∧ s.h (.slot 6 0) = some (0, Ob.box [.own (.slot 6 1) 0 0 0]) ∧ s.h (.slot 6 1) = some (0, Ob.arr 2 []) ∧ s.h (.slot 7 0) = some (w, Ob.arr 2 (acc.map Ch.pv)) := ⟨_, fun _ _ => Iff.rfl⟩
  refine wp_count (l.length) I ?_ ?_
  · refine (hI _ _).2 ⟨[], decide (v = 0), 0, ?_, ?_, ?_, ?_, ?_, ?_, ?_, ?_, ?_, ?_, ?_, ?_, ?_⟩
    · exact rfl
    · exact by first | rfl | omega | (simp; done) | (simp; omega)
    all_goals first | with_reducible rfl | (simp -implicitDefEqProofs (disch := omega) only [h4, h7, h8, h9, hh4_0, hh12_1, List.map_append, go_sem, ↓reduceIte, Nat.reduceAdd, Nat.reduceSub, Nat.reduceEqDiff, Nat.reduceLeDiff, reduceCtorEq]; first | done | rfl | (simp; done) | (congr 2; omega) | (congr 1; omega) | (congr 3; omega) | (simp; omega) | (congr 2; simp; omega) | (refine ⟨_, rfl, ?_⟩; first | rfl | (simp -implicitDefEqProofs (disch := omega) only [h4, h7, h8, h9, hh4_0, hh12_1, List.map_append, go_sem, ↓reduceIte, Nat.reduceAdd, Nat.reduceSub, Nat.reduceEqDiff, Nat.reduceLeDiff, reduceCtorEq]; done))) | rfl | omega | (congr 2; omega)
  intro k s hk hIk
  obtain ⟨acc, d, w, hw, hal, h1, h2, h3, h6, h7, h8, h9, hh3_0, hh6_0, hh6_1, hh7_0⟩ := (hI _ _).1 hIk
  clear hIk
  simp -implicitDefEqProofs (disch := omega) only [h1, h2, h3, h6, h7, h8, h9, hh3_0, hh6_0, hh6_1, hh7_0, go_sem, ↓reduceIte, Nat.reduceAdd, Nat.reduceSub, Nat.reduceEqDiff, Nat.reduceLeDiff, reduceCtorEq]
  refine wp_if_d (fun hlt => ?_) (fun hge => ?_)
  · have hm : l[k]? = some l[k] := List.getElem?_eq_getElem hlt
    have hd : l.drop k = l[k] :: l.drop (k + 1) := List.drop_eq_getElem_cons hlt
    generalize l[k] = c at hm hd
    rw [hd, withGo] at hw
    cases d with
    | true =>
      by_cases he : c.group = id
      · simp only [he, Bool.not_true, Bool.false_and, Bool.false_eq_true, if_false, if_true, List.nil_append, List.append_nil, Bool.true_or] at hw
        simp -implicitDefEqProofs (disch := omega) only [h1, h2, h3, h6, h7, h8, h9, hh3_0, hh6_0, hh6_1, hh7_0, hlt, hm, he, go_sem, ↓reduceIte, Nat.reduceAdd, Nat.reduceSub, Nat.reduceEqDiff, Nat.reduceLeDiff, reduceCtorEq]
        try refine And.intro (by omega) ?_
        refine (hI _ _).2 ⟨acc, true, w, ?_, ?_, ?_, ?_, ?_, ?_, ?_, ?_, ?_, ?_, ?_, ?_, ?_⟩
        · exact hw
        · exact by omega
        all_goals first | with_reducible rfl | (simp -implicitDefEqProofs (disch := omega) only [h1, h2, h3, h6, h7, h8, h9, hh3_0, hh6_0, hh6_1, hh7_0, List.map_append, go_sem, ↓reduceIte, Nat.reduceAdd, Nat.reduceSub, Nat.reduceEqDiff, Nat.reduceLeDiff, reduceCtorEq]; first | done | rfl | (simp; done) | (congr 2; omega) | (congr 1; omega) | (congr 3; omega) | (simp; omega) | (congr 2; simp; omega) | (refine ⟨_, rfl, ?_⟩; first | rfl | (simp -implicitDefEqProofs (disch := omega) only [h1, h2, h3, h6, h7, h8, h9, hh3_0, hh6_0, hh6_1, hh7_0, List.map_append, go_sem, ↓reduceIte, Nat.reduceAdd, Nat.reduceSub, Nat.reduceEqDiff, Nat.reduceLeDiff, reduceCtorEq]; done))) | rfl | omega | (congr 2; omega)
      · simp only [he, Bool.not_true, Bool.false_and, Bool.false_eq_true, if_false, List.nil_append, Bool.true_or, ← List.append_assoc] at hw
        simp -implicitDefEqProofs (disch := omega) only [h1, h2, h3, h6, h7, h8, h9, hh3_0, hh6_0, hh6_1, hh7_0, hlt, hm, he, go_sem, ↓reduceIte, Nat.reduceAdd, Nat.reduceSub, Nat.reduceEqDiff, Nat.reduceLeDiff, reduceCtorEq]
        try refine And.intro (by omega) ?_
        refine (hI _ _).2 ⟨acc ++ [c], true, w + 1, ?_, ?_, ?_, ?_, ?_, ?_, ?_, ?_, ?_, ?_, ?_, ?_, ?_⟩
        · exact hw
        · exact by simp; omega
        all_goals first | with_reducible rfl | (simp -implicitDefEqProofs (disch := omega) only [h1, h2, h3, h6, h7, h8, h9, hh3_0, hh6_0, hh6_1, hh7_0, List.map_append, go_sem, ↓reduceIte, Nat.reduceAdd, Nat.reduceSub, Nat.reduceEqDiff, Nat.reduceLeDiff, reduceCtorEq]; first | done | rfl | (simp; done) | (congr 2; omega) | (congr 1; omega) | (congr 3; omega) | (simp; omega) | (congr 2; simp; omega) | (refine ⟨_, rfl, ?_⟩; first | rfl | (simp -implicitDefEqProofs (disch := omega) only [h1, h2, h3, h6, h7, h8, h9, hh3_0, hh6_0, hh6_1, hh7_0, List.map_append, go_sem, ↓reduceIte, Nat.reduceAdd, Nat.reduceSub, Nat.reduceEqDiff, Nat.reduceLeDiff, reduceCtorEq]; done))) | rfl | omega | (congr 2; omega)
    | false =>
      by_cases hge : id ≤ c.group
      · by_cases he : c.group = id
        · simp only [he, Int.le_refl, decide_true, Bool.not_false, Bool.and_self, if_true, List.append_nil, Bool.or_true, ← List.append_assoc] at hw
          simp -implicitDefEqProofs (disch := omega) only [h1, h2, h3, h6, h7, h8, h9, hh3_0, hh6_0, hh6_1, hh7_0, hlt, hm, hge, he, Int.le_refl, decide_true, go_sem, ↓reduceIte, Nat.reduceAdd, Nat.reduceSub, Nat.reduceEqDiff, Nat.reduceLeDiff, reduceCtorEq]
          try refine And.intro (by omega) ?_
          refine (hI _ _).2 ⟨acc ++ [⟨id, v⟩], true, w + 1, ?_, ?_, ?_, ?_, ?_, ?_, ?_, ?_, ?_, ?_, ?_, ?_, ?_⟩
          · exact hw
          · exact by simp; omega
          all_goals first | with_reducible rfl | (simp -implicitDefEqProofs (disch := omega) only [h1, h2, h3, h6, h7, h8, h9, hh3_0, hh6_0, hh6_1, hh7_0, List.map_append, go_sem, ↓reduceIte, Nat.reduceAdd, Nat.reduceSub, Nat.reduceEqDiff, Nat.reduceLeDiff, reduceCtorEq]; first | done | rfl | (simp; done) | (congr 2; omega) | (congr 1; omega) | (congr 3; omega) | (simp; omega) | (congr 2; simp; omega) | (refine ⟨_, rfl, ?_⟩; first | rfl | (simp -implicitDefEqProofs (disch := omega) only [h1, h2, h3, h6, h7, h8, h9, hh3_0, hh6_0, hh6_1, hh7_0, List.map_append, go_sem, ↓reduceIte, Nat.reduceAdd, Nat.reduceSub, Nat.reduceEqDiff, Nat.reduceLeDiff, reduceCtorEq]; done))) | rfl | omega | (congr 2; omega)
        · simp only [he, hge, decide_true, Bool.not_false, Bool.and_self, if_true, if_false, Bool.or_true, ← List.append_assoc] at hw
          simp -implicitDefEqProofs (disch := omega) only [h1, h2, h3, h6, h7, h8, h9, hh3_0, hh6_0, hh6_1, hh7_0, hlt, hm, hge, he, go_sem, ↓reduceIte, Nat.reduceAdd, Nat.reduceSub, Nat.reduceEqDiff, Nat.reduceLeDiff, reduceCtorEq]
          try refine And.intro (by omega) ?_
          refine (hI _ _).2 ⟨acc ++ [⟨id, v⟩] ++ [c], true, w + 1 + 1, ?_, ?_, ?_, ?_, ?_, ?_, ?_, ?_, ?_, ?_, ?_, ?_, ?_⟩
          · exact hw
          · exact by simp; omega
          all_goals first | with_reducible rfl | (simp -implicitDefEqProofs (disch := omega) only [h1, h2, h3, h6, h7, h8, h9, hh3_0, hh6_0, hh6_1, hh7_0, List.map_append, go_sem, ↓reduceIte, Nat.reduceAdd, Nat.reduceSub, Nat.reduceEqDiff, Nat.reduceLeDiff, reduceCtorEq]; first | done | rfl | (simp; done) | (congr 2; omega) | (congr 1; omega) | (congr 3; omega) | (simp; omega) | (congr 2; simp; omega) | (refine ⟨_, rfl, ?_⟩; first | rfl | (simp -implicitDefEqProofs (disch := omega) only [h1, h2, h3, h6, h7, h8, h9, hh3_0, hh6_0, hh6_1, hh7_0, List.map_append, go_sem, ↓reduceIte, Nat.reduceAdd, Nat.reduceSub, Nat.reduceEqDiff, Nat.reduceLeDiff, reduceCtorEq]; done))) | rfl | omega | (congr 2; omega)
      · have he : ¬ c.group = id := by omega
        simp only [he, hge, decide_false, Bool.not_false, Bool.and_false, Bool.false_eq_true, if_false, List.nil_append, Bool.or_false, ← List.append_assoc] at hw
        simp -implicitDefEqProofs (disch := omega) only [h1, h2, h3, h6, h7, h8, h9, hh3_0, hh6_0, hh6_1, hh7_0, hlt, hm, hge, he, go_sem, ↓reduceIte, Nat.reduceAdd, Nat.reduceSub, Nat.reduceEqDiff, Nat.reduceLeDiff, reduceCtorEq]
        try refine And.intro (by omega) ?_
        refine (hI _ _).2 ⟨acc ++ [c], false, w + 1, ?_, ?_, ?_, ?_, ?_, ?_, ?_, ?_, ?_, ?_, ?_, ?_, ?_⟩
        · exact hw
        · exact by simp; omega
        all_goals first | with_reducible rfl | (simp -implicitDefEqProofs (disch := omega) only [h1, h2, h3, h6, h7, h8, h9, hh3_0, hh6_0, hh6_1, hh7_0, List.map_append, go_sem, ↓reduceIte, Nat.reduceAdd, Nat.reduceSub, Nat.reduceEqDiff, Nat.reduceLeDiff, reduceCtorEq]; first | done | rfl | (simp; done) | (congr 2; omega) | (congr 1; omega) | (congr 3; omega) | (simp; omega) | (congr 2; simp; omega) | (refine ⟨_, rfl, ?_⟩; first | rfl | (simp -implicitDefEqProofs (disch := omega) only [h1, h2, h3, h6, h7, h8, h9, hh3_0, hh6_0, hh6_1, hh7_0, List.map_append, go_sem, ↓reduceIte, Nat.reduceAdd, Nat.reduceSub, Nat.reduceEqDiff, Nat.reduceLeDiff, reduceCtorEq]; done))) | rfl | omega | (congr 2; omega)
  · rw [List.drop_of_length_le (by omega), withGo] at hw
    cases d with
    | true =>
      simp only [if_true, List.append_nil] at hw
      simp -implicitDefEqProofs (disch := omega) only [h1, h2, h3, h6, h7, h8, h9, hh3_0, hh6_0, hh6_1, hh7_0, hge, go_sem, ↓reduceIte, Nat.reduceAdd, Nat.reduceSub, Nat.reduceEqDiff, Nat.reduceLeDiff, reduceCtorEq]
      rw [hw]
    | false =>
      simp only [Bool.false_eq_true, if_false] at hw
      simp -implicitDefEqProofs (disch := omega) only [h1, h2, h3, h6, h7, h8, h9, hh3_0, hh6_0, hh6_1, hh7_0, hge, go_sem, ↓reduceIte, Nat.reduceAdd, Nat.reduceSub, Nat.reduceEqDiff, Nat.reduceLeDiff, reduceCtorEq]
      rw [hw]
      simp [Ch.pv]

set_option maxHeartbeats 1000000 in
theorem rAdd_eq (t : Tr) (l : List Ch) (id n : Int) (hn : t.nodes.length < 1000000) (hl : l.length < 1000000) : V 23 [t.vv, ctrV l, .p (.int .i64 id), .p (.int .i64 n)] [] = some (.tup [ctrF (AddK t l id n).1, .p (.int .i64 (AddK t l id n).2)], []) := by
  refine V_wp (vf := vf23) rfl ?_
  have hv := rvalidK_eq t l hn hl
  have hh := rhas_eq t id hn
  unfold AddK checkK
  cases hvv : validK t l with
  | false =>
    rw [hvv] at hv
    simp -implicitDefEqProofs (disch := omega) only [vf23, vb23, hv, go_sem, ↓reduceIte, Nat.reduceAdd, Nat.reduceSub, Nat.reduceEqDiff, Nat.reduceLeDiff, reduceCtorEq]
    try rfl
  | true =>
    rw [hvv] at hv
    obtain ⟨h1, h2⟩ := (validK_iff t l).1 hvv
    rw [findT_ok ((treeOk_iff t).2 h1)] at hh
    cases hs : (findN t.nodes id).isSome with
    | false =>
      rw [hs] at hh
      simp -implicitDefEqProofs (disch := omega) only [vf23, vb23, hv, hh, go_sem, ↓reduceIte, Nat.reduceAdd, Nat.reduceSub, Nat.reduceEqDiff, Nat.reduceLeDiff, reduceCtorEq]
      try rfl
    | true =>
      rw [hs] at hh
      have ho := rown_eq l id hl
      have o0 := ownC_nonneg h2.pos id
      have o1 := ownC_le h2.pos id
      have o2 := h2.all
      obtain ⟨r, hr, hr1⟩ := root_at h1
      have hsum := rsum_eq h1 h2 hl hr
      have t0 := tot_nonneg t (ownC_nonneg h2.pos) r.id
      have t1 := tot_le h1 h2 hr
      have hwi := rput_eq l id (ownC l id + n) hl
      rw [hr1] at hsum t0 t1
      rw [if_pos (by simp)]
      unfold addK
      generalize ownC l id = o at ho o0 o1 hwi
      generalize tot t (ownC l) 1 = T at hsum t0 t1
      generalize withC l id (o + n) = W at hwi
      by_cases n1 : n < -16777216
      · rw [if_pos (Or.inl n1)]
        simp -implicitDefEqProofs (disch := omega) only [vf23, vb23, hv, hh, n1, go_sem, ↓reduceIte, Nat.reduceAdd, Nat.reduceSub, Nat.reduceEqDiff, Nat.reduceLeDiff, reduceCtorEq]
        try rfl
      · by_cases n2 : 16777216 < n
        · rw [if_pos (Or.inr (Or.inl n2))]
          simp -implicitDefEqProofs (disch := omega) only [vf23, vb23, hv, hh, n1, n2, go_sem, ↓reduceIte, Nat.reduceAdd, Nat.reduceSub, Nat.reduceEqDiff, Nat.reduceLeDiff, reduceCtorEq]
          try rfl
        · by_cases n3 : o + n < 0
          · rw [if_pos (Or.inr (Or.inr n3))]
            simp -implicitDefEqProofs (disch := omega) only [vf23, vb23, hv, hh, n1, n2, n3, ho, go_sem, ↓reduceIte, Nat.reduceAdd, Nat.reduceSub, Nat.reduceEqDiff, Nat.reduceLeDiff, reduceCtorEq]
            try rfl
          · rw [if_neg (by omega)]
            by_cases n4 : 16777216 < T + n
            · rw [if_pos n4]
              simp -implicitDefEqProofs (disch := omega) only [vf23, vb23, hv, hh, n1, n2, n3, n4, ho, hsum, go_sem, ↓reduceIte, Nat.reduceAdd, Nat.reduceSub, Nat.reduceEqDiff, Nat.reduceLeDiff, reduceCtorEq]
              try rfl
            · rw [if_neg n4]
              simp -implicitDefEqProofs (disch := omega) only [vf23, vb23, hv, hh, n1, n2, n3, n4, ho, hsum, hwi, go_sem, ↓reduceIte, Nat.reduceAdd, Nat.reduceSub, Nat.reduceEqDiff, Nat.reduceLeDiff, reduceCtorEq]

/-! ### made counters -/

def pickV (L : List Int) (a : Nat) (xs : List Int) : Int := xs.getD (nextV L a xs.length).toNat 0
theorem pick_eq (L : List Int) (a : Nat) (xs : List Int) (hL : L.length < 4611686018427387904) (h0 : 1 ≤ xs.length) (h1 : xs.length < 1000000) : V 11 [.ptr (.arg 0 0) 0 0, .p (intsP xs)] [diceB L a] = some (.p (.int .i64 (pickV L a xs)), [diceB L (nextA L a xs.length)]) := by
  refine V_wp (vf := vf11) rfl ?_
  have hn := next_eq L a xs.length hL (by omega)
  have n0 := nextV_nonneg L a xs.length
  have n1 := nextV_lt L a (n := xs.length) (by omega)
  unfold pickV
  generalize nextV L a xs.length = x at hn n0 n1
  generalize nextA L a xs.length = a' at hn
  have hm : xs[x.toNat]? = some (xs.getD x.toNat 0) := by
    rw [List.getD_eq_getElem?_getD, List.getElem?_eq_getElem (by omega)]; rfl
  generalize xs.getD x.toNat 0 = y at hm
  simp -implicitDefEqProofs (disch := omega) only [vf11, vb11, hn, hm, go_sem, ↓reduceIte, Nat.reduceAdd, Nat.reduceSub, Nat.reduceEqDiff, Nat.reduceLeDiff, reduceCtorEq]
theorem pickV_mem (L : List Int) (a : Nat) {xs : List Int} (h0 : 1 ≤ xs.length) : pickV L a xs ∈ xs := by
  have n0 := nextV_nonneg L a xs.length
  have n1 := nextV_lt L a (n := xs.length) (by omega)
  unfold pickV
  rw [List.getD_eq_getElem?_getD, List.getElem?_eq_getElem (by omega)]
  exact List.getElem_mem _

def dCounter (L : List Int) (t : Tr) : List Nd → Nat → List Ch → List Ch × Nat
  | [], a, c => (c, a)
  | n :: ns, a, c => dCounter L t ns (nextA L a 6) (if (AddK t c n.id (pickV L a [0, 1, 5, 40, 100, 1000])).2 = 0 then (AddK t c n.id (pickV L a [0, 1, 5, 40, 100, 1000])).1 else c)
end Go.V

namespace Go.V

theorem AddK_ok {t : Tr} {c : List Ch} {id n : Int} (h : (AddK t c id n).2 = 0) : ChOk t.nodes (AddK t c id n).1 := by
  unfold AddK at h ⊢
  split at h
  · rename_i h0
    rw [if_pos h0]
    obtain ⟨h1, h2, i, nd, hi, rfl⟩ := checkK_zero.1 h0
    unfold addK at h ⊢
    split at h
    · simp at h
    · rename_i ha
      split at h
      · simp at h
      · rename_i hb
        rw [if_neg ha, if_neg hb]
        have o0 := ownC_nonneg h2.pos nd.id
        obtain ⟨r, hr, hr1⟩ := root_at h1
        have hT : tot t (ownC c) 1 = sumI (c.map (·.own)) := by
          rw [← hr1]
          refine sum_own_eq h2.inc _ (subF_nodup h1 hr) fun d hd => ?_
          obtain ⟨m, hm, he⟩ := findN_some (h2.known d hd)
          obtain ⟨j, hj⟩ := List.getElem?_of_mem hm
          rw [← he]
          exact (mem_sub h1 hr _).2 ⟨j, m, hj, rfl, by rw [hr1]; exact root_anc h1 j m hj⟩
        exact h2.with (by rw [findN_unique h1.inc hi]; rfl) (by omega) (by omega)
  · rename_i h0
    exact absurd h h0
where
  root_anc {t : Tr} (h : TreeOk t) : ∀ (j : Nat) (m : Nd), t.nodes[j]? = some m → (1 : Int) ∈ ancF t.nodes t.nodes.length m.id := by
    intro j
    induction j using Nat.strongRecOn with
    | _ j ih =>
      intro m hm
      rcases h.nodeAt hm with ⟨_, h1, _⟩ | ⟨_, _, i, p, hi, hp, hpe⟩
      · rw [← h1]; exact anc_self h hm
      · exact (anc_iff h hm _).2 (Or.inr ⟨by omega, by rw [← hpe]; exact ih i hi p hp⟩)

theorem ChOk.nil (ns : List Nd) : ChOk ns [] := ⟨fun c h => by simp at h, List.Pairwise.nil, fun c h => by simp at h, by simp [sumI]⟩
theorem ChOk.length {t : Tr} {l : List Ch} (h : ChOk t.nodes l) : l.length ≤ t.nodes.length := by
  have := nodup_length_le (l.map (·.group)) (t.nodes.map (·.id)) (nodup_groups h.inc) (fun x hx => by
    obtain ⟨c, hc, rfl⟩ := List.mem_map.1 hx
    obtain ⟨n, hn, he⟩ := findN_some (h.known c hc)
    exact List.mem_map.2 ⟨n, hn, he⟩)
  simpa using this

theorem dCounter_ok (L : List Int) (t : Tr) : ∀ (ns : List Nd) (a : Nat) (c : List Ch), ChOk t.nodes c → ChOk t.nodes (dCounter L t ns a c).1
  | [], _, _, h => h
  | n :: ns, a, c, h => by
    unfold dCounter
    refine dCounter_ok L t ns _ _ ?_
    split
    · rename_i h0; exact AddK_ok h0
    · exact h

theorem addStep_ok {L : List Int} {t : Tr} {a : Nat} {n : Nd} {c : List Ch} (h : ChOk t.nodes c) : ChOk t.nodes (if (AddK t c n.id (pickV L a [0, 1, 5, 40, 100, 1000])).2 = 0 then (AddK t c n.id (pickV L a [0, 1, 5, 40, 100, 1000])).1 else c) := by
  split
  · rename_i h0; exact AddK_ok h0
  · exact h

set_option maxHeartbeats 2000000 in
theorem counter_eq (L : List Int) (a : Nat) {t : Tr} (h : TreeOk t) (hL : L.length < 4611686018427387904) : V 8 [.ptr (.arg 0 0) 0 0, t.vv] [diceB L a] = some (ctrF (dCounter L t t.nodes a []).1, [diceB L (dCounter L t t.nodes a []).2]) := by
  refine V_wp (vf := vf8) rfl ?_
  have hlen := h.len
  simp -implicitDefEqProofs (disch := omega) only [vf8, vb8, go_sem, ↓reduceIte, Nat.reduceAdd, Nat.reduceSub, Nat.reduceEqDiff, Nat.reduceLeDiff, reduceCtorEq]
  obtain ⟨I, hI⟩ : ∃ I : Nat → St → Prop, ∀ k s, I k s ↔ ∃ (b : Nat) (c : List Ch) (ww : Nat), ChOk t.nodes c ∧ dCounter L t t.nodes a [] = dCounter L t (t.nodes.drop k) b c ∧ s.pe 0 = .ptr (Id.arg 0 0) 0 0 ∧ s.pe 3 = .ptr (.slot 3 0) 0 0 ∧ s.pe 4 = .ptr (.slot 4 0) 0 0 ∧ s.pe 5 = .ptr (.slot 5 0) 0 0 ∧ s.pe 6 = .p (.int .i64 k) ∧ s.h (.arg 0 0) = some (0, diceB L b) ∧ s.h (.slot 3 0) = some (0, Ob.box [.p (nodesP t.nodes), .p (.int .i64 t.next)]) ∧ s.h (.slot 4 0) = some (0, Ob.box [.own (.slot 4 1) 0 0 0]) ∧ s.h (.slot 4 1) = some (0, Ob.arr 2 []) ∧ s.h (.slot 5 0) = some (0, Ob.box [.own (.slot 5 1) ww 0 c.length]) ∧ s.h (.slot 5 1) = some (ww, Ob.arr 2 (c.map Ch.pv)) := ⟨_, fun _ _ => Iff.rfl⟩
  refine wp_count (t.nodes.length) I ?_ ?_
  · refine (hI _ _).2 ⟨a, [], 0, ?_, ?_, ?_, ?_, ?_, ?_, ?_, ?_, ?_, ?_, ?_, ?_, ?_⟩
    · exact ChOk.nil _
    · exact rfl
    all_goals first | with_reducible rfl | (simp -implicitDefEqProofs (disch := omega) only [List.map_append, go_sem, ↓reduceIte, Nat.reduceAdd, Nat.reduceSub, Nat.reduceEqDiff, Nat.reduceLeDiff, reduceCtorEq]; first | done | rfl | (simp; done) | (congr 2; omega) | (congr 1; omega) | (congr 3; omega) | (simp; omega) | (congr 2; simp; omega) | (refine ⟨_, rfl, ?_⟩; first | rfl | (simp -implicitDefEqProofs (disch := omega) only [List.map_append, go_sem, ↓reduceIte, Nat.reduceAdd, Nat.reduceSub, Nat.reduceEqDiff, Nat.reduceLeDiff, reduceCtorEq]; done))) | rfl | omega | (congr 2; omega)
  intro k s hk hIk
  obtain ⟨b, c, ww, hc, hd, h0, h3, h4, h5, h6, ha0, hh3_0, hh4_0, hh4_1, hh5_0, hh5_1⟩ := (hI _ _).1 hIk
  clear hIk
  have hcl := hc.length
  simp -implicitDefEqProofs (disch := omega) only [h0, h3, h4, h5, h6, ha0, hh3_0, hh4_0, hh4_1, hh5_0, hh5_1, go_sem, ↓reduceIte, Nat.reduceAdd, Nat.reduceSub, Nat.reduceEqDiff, Nat.reduceLeDiff, reduceCtorEq]
  refine wp_if_d (fun hlt => ?_) (fun hge => ?_)
  · have hm : t.nodes[k]? = some t.nodes[k] := List.getElem?_eq_getElem hlt
    have hdr : t.nodes.drop k = t.nodes[k] :: t.nodes.drop (k + 1) := List.drop_eq_getElem_cons hlt
    generalize t.nodes[k] = m at hm hdr
    rw [hdr, dCounter] at hd
    have hp := pick_eq L b [0, 1, 5, 40, 100, 1000] hL (by simp) (by simp)
    have hadd := rAdd_eq t c m.id (pickV L b [0, 1, 5, 40, 100, 1000]) (by omega) (by omega)
    have hok := AddK_ok (t := t) (c := c) (id := m.id) (n := pickV L b [0, 1, 5, 40, 100, 1000])
    simp only [intsP, List.length_cons, List.length_nil, Nat.reduceAdd, List.map_cons, List.map_nil] at hp
    generalize pickV L b [0, 1, 5, 40, 100, 1000] = pv at hp hadd hok hd
    have hnA : nextA L b ((6 : Nat) : Int) = nextA L b 6 := rfl
    rw [hnA] at hp
    generalize nextA L b 6 = b' at hp hd
    generalize AddK t c m.id pv = r at hadd hok hd
    obtain ⟨rl, re⟩ := r
    simp only at hadd hok hd
    by_cases he : re = 0
    · subst he
      rw [if_pos rfl] at hd
      simp -implicitDefEqProofs (disch := omega) only [h0, h3, h4, h5, h6, ha0, hh3_0, hh4_0, hh4_1, hh5_0, hh5_1, hlt, hm, hp, hadd, go_sem, ↓reduceIte, Nat.reduceAdd, Nat.reduceSub, Nat.reduceEqDiff, Nat.reduceLeDiff, reduceCtorEq]
      try refine And.intro (by omega) ?_
      refine (hI _ _).2 ⟨b', rl, ww + 1, ?_, ?_, ?_, ?_, ?_, ?_, ?_, ?_, ?_, ?_, ?_, ?_, ?_⟩
      · exact hok rfl
      · exact hd
      all_goals first | with_reducible rfl | (simp -implicitDefEqProofs (disch := omega) only [h0, h3, h4, h5, h6, ha0, hh3_0, hh4_0, hh4_1, hh5_0, hh5_1, List.map_append, go_sem, ↓reduceIte, Nat.reduceAdd, Nat.reduceSub, Nat.reduceEqDiff, Nat.reduceLeDiff, reduceCtorEq]; first | done | rfl | (simp; done) | (congr 2; omega) | (congr 1; omega) | (congr 3; omega) | (simp; omega) | (congr 2; simp; omega) | (refine ⟨_, rfl, ?_⟩; first | rfl | (simp -implicitDefEqProofs (disch := omega) only [h0, h3, h4, h5, h6, ha0, hh3_0, hh4_0, hh4_1, hh5_0, hh5_1, List.map_append, go_sem, ↓reduceIte, Nat.reduceAdd, Nat.reduceSub, Nat.reduceEqDiff, Nat.reduceLeDiff, reduceCtorEq]; done))) | rfl | omega | (congr 2; omega)
    · rw [if_neg he] at hd
      simp -implicitDefEqProofs (disch := omega) only [h0, h3, h4, h5, h6, ha0, hh3_0, hh4_0, hh4_1, hh5_0, hh5_1, hlt, hm, hp, hadd, he, go_sem, ↓reduceIte, Nat.reduceAdd, Nat.reduceSub, Nat.reduceEqDiff, Nat.reduceLeDiff, reduceCtorEq]
      try refine And.intro (by omega) ?_
      refine (hI _ _).2 ⟨b', c, ww, ?_, ?_, ?_, ?_, ?_, ?_, ?_, ?_, ?_, ?_, ?_, ?_, ?_⟩
      · exact hc
      · exact hd
      all_goals first | with_reducible rfl | (simp -implicitDefEqProofs (disch := omega) only [h0, h3, h4, h5, h6, ha0, hh3_0, hh4_0, hh4_1, hh5_0, hh5_1, List.map_append, go_sem, ↓reduceIte, Nat.reduceAdd, Nat.reduceSub, Nat.reduceEqDiff, Nat.reduceLeDiff, reduceCtorEq]; first | done | rfl | (simp; done) | (congr 2; omega) | (congr 1; omega) | (congr 3; omega) | (simp; omega) | (congr 2; simp; omega) | (refine ⟨_, rfl, ?_⟩; first | rfl | (simp -implicitDefEqProofs (disch := omega) only [h0, h3, h4, h5, h6, ha0, hh3_0, hh4_0, hh4_1, hh5_0, hh5_1, List.map_append, go_sem, ↓reduceIte, Nat.reduceAdd, Nat.reduceSub, Nat.reduceEqDiff, Nat.reduceLeDiff, reduceCtorEq]; done))) | rfl | omega | (congr 2; omega)
  · rw [List.drop_of_length_le (by omega), dCounter] at hd
    rw [hd]
    simp -implicitDefEqProofs (disch := omega) only [h0, h3, h4, h5, h6, ha0, hh3_0, hh4_0, hh4_1, hh5_0, hh5_1, hge, go_sem, ↓reduceIte, Nat.reduceAdd, Nat.reduceSub, Nat.reduceEqDiff, Nat.reduceLeDiff, reduceCtorEq]
end Go.V

namespace Go.V

def exT : Tr := ⟨[⟨1, 0, ⟨#[]⟩, 0, 0, 0⟩, ⟨2, 1, ⟨#[97]⟩, 0, 0, 0⟩, ⟨3, 2, ⟨#[98]⟩, 0, 0, 0⟩], 4⟩
theorem exT_fits : exT.Fits := by
  intro n hn
  simp only [exT, List.mem_cons, List.not_mem_nil, or_false] at hn
  rcases hn with rfl | rfl | rfl <;> exact ⟨by decide, by decide⟩
theorem ex1 : totK exT [⟨2, 5⟩, ⟨3, 7⟩] 2 = 12 := by rfl
theorem ex1c : checkK exT [⟨2, 5⟩, ⟨3, 7⟩] 2 = 0 := by rfl
theorem ex2 : ChargeK exT [⟨2, 5⟩, ⟨3, 7⟩] [⟨1, 100⟩, ⟨2, 15⟩] 3 4 = ([], 2, 11) := by rfl
theorem ex3 : RemK exT [⟨2, 5⟩, ⟨3, 7⟩] 3 = ([⟨2, 12⟩], 0) := by rfl

set_option maxHeartbeats 2000000 in
theorem sane22_eq : V 5 [] [] = some (.p (.bool true), []) := by
  refine V_wp (vf := vf5) rfl ?_
  have c1 := total_eq exT [⟨2, 5⟩, ⟨3, 7⟩] 2 exT_fits (by decide) (by decide)
  have c2 := charge_eq exT [⟨2, 5⟩, ⟨3, 7⟩] [⟨1, 100⟩, ⟨2, 15⟩] 3 4 exT_fits (by decide) (by decide) (by decide)
  have c3 := Rem_eq exT [⟨2, 5⟩, ⟨3, 7⟩] 3 exT_fits (by decide) (by decide)
  have c4 := same_eq [⟨2, 12⟩] [⟨2, 12⟩] (by decide)
  rw [ex1, ex1c] at c1
  rw [ex2] at c2
  rw [ex3] at c3
  simp only [exT, Tr.vv, nodesP, chsP, ctrV, ctrF, List.map_cons, List.map_nil, Nd.pv, Ch.pv, decide_true] at c1 c2 c3 c4
  simp -implicitDefEqProofs (disch := omega) only [vf5, vb5, c1, c2, c3, c4, go_sem, ↓reduceIte, Nat.reduceAdd, Nat.reduceSub, Nat.reduceEqDiff, Nat.reduceLeDiff, reduceCtorEq]
end Go.V

namespace Go.V
-- closer: sumI

theorem filter_step {α : Type} {p : α → Bool} {l : List α} {k : Nat} {m : α} (hm : l[k]? = some m) : (l.take (k + 1)).filter p = if p m = true then (l.take k).filter p ++ [m] else (l.take k).filter p := by
  rw [List.take_add_one, hm]
  simp only [Option.toList, List.filter_append, List.filter_cons, List.filter_nil]
  split <;> simp
theorem filter_len {α : Type} {p : α → Bool} (l : List α) (k : Nat) : ((l.take k).filter p).length ≤ k := by
  have h1 := List.length_filter_le p (l.take k)
  rw [List.length_take] at h1
  omega

def totCh (t : Tr) (c : List Ch) (n : Nd) : Ch := ⟨n.id, tot t (ownC c) n.id⟩
def TotalsK (t : Tr) (c : List Ch) : List Ch × Int := if validK t c = true then ((t.nodes.filter fun n => decide (0 < tot t (ownC c) n.id)).map (totCh t c), 0) else ([], 1)

set_option maxHeartbeats 1000000 in
theorem totals_eq (t : Tr) (c : List Ch) (hf : t.Fits) (hn : t.nodes.length < 1000000) (hl : c.length < 1000000) : V 35 [t.vv, ctrV c] [] = some (.tup [.fresh 2 ((TotalsK t c).1.map Ch.pv), .p (.int .i64 (TotalsK t c).2)], []) := by
  refine V_wp (vf := vf35) rfl ?_
  have hv := kvalid_eq t c hf hn hl
  unfold TotalsK
  cases hvv : validK t c with
  | false =>
    rw [hvv] at hv
    simp -implicitDefEqProofs (disch := omega) only [vf35, vb35, hv, go_sem, ↓reduceIte, Nat.reduceAdd, Nat.reduceSub, Nat.reduceEqDiff, Nat.reduceLeDiff, reduceCtorEq]
    try rfl
  | true =>
    rw [hvv] at hv
    rw [if_pos rfl]
    obtain ⟨h1, h2⟩ := (validK_iff t c).1 hvv
    obtain ⟨ks, vs, hs, hg⟩ := sums_eq h1 h2 hn hl
    simp -implicitDefEqProofs (disch := omega) only [vf35, vb35, hv, hs, go_sem, ↓reduceIte, Nat.reduceAdd, Nat.reduceSub, Nat.reduceEqDiff, Nat.reduceLeDiff, reduceCtorEq]
    obtain ⟨I, hI⟩ : ∃ I : Nat → St → Prop, ∀ k s, I k s ↔ ∃ (acc : List Ch) (w : Nat), acc = ((t.nodes.take k).filter fun n => decide (0 < tot t (ownC c) n.id)).map (totCh t c) ∧ acc.length ≤ k ∧ s.pe 6 = .own (.slot 6 0) w 0 acc.length ∧ s.pe 7 = .p (PV.map (KT.int IntKind.i64) ks vs) ∧ s.pe 18 = .p (nodesP t.nodes) ∧ s.pe 19 = .p (.int .i64 ↑t.nodes.length) ∧ s.pe 20 = .p (.int .i64 k) ∧ s.h (.slot 6 0) = some (w, Ob.arr 2 (acc.map Ch.pv)) := ⟨_, fun _ _ => Iff.rfl⟩
    refine wp_count (t.nodes.length) I ?_ ?_
    · refine (hI _ _).2 ⟨[], 0, ?_, ?_, ?_, ?_, ?_, ?_, ?_, ?_⟩
      · exact by first | rfl | omega | (simp; done) | (simp; omega)
      · exact by first | rfl | omega | (simp; done) | (simp; omega)
      all_goals first | with_reducible rfl | (simp -implicitDefEqProofs (disch := omega) only [List.map_append, go_sem, ↓reduceIte, Nat.reduceAdd, Nat.reduceSub, Nat.reduceEqDiff, Nat.reduceLeDiff, reduceCtorEq]; first | done | rfl | (simp; done) | (congr 2; omega) | (congr 1; omega) | (congr 3; omega) | (simp; omega) | (congr 2; simp; omega) | (simp [sumI]; done) | (simp [sumI]; omega) | (refine ⟨_, rfl, ?_⟩; first | rfl | (simp -implicitDefEqProofs (disch := omega) only [List.map_append, go_sem, ↓reduceIte, Nat.reduceAdd, Nat.reduceSub, Nat.reduceEqDiff, Nat.reduceLeDiff, reduceCtorEq]; done))) | rfl | omega | (congr 2; omega)
    intro k s hk hIk
    obtain ⟨acc, w, hacc, hal, h6, h7, h18, h19, h20, hh6_0⟩ := (hI _ _).1 hIk
    clear hIk
    simp -implicitDefEqProofs (disch := omega) only [h6, h7, h18, h19, h20, hh6_0, go_sem, ↓reduceIte, Nat.reduceAdd, Nat.reduceSub, Nat.reduceEqDiff, Nat.reduceLeDiff, reduceCtorEq]
    refine wp_if_d (fun hlt => ?_) (fun hge => ?_)
    · have hm : t.nodes[k]? = some t.nodes[k] := List.getElem?_eq_getElem hlt
      generalize t.nodes[k] = m at hm
      have hgm := hg k m hm
      have hst := filter_step (p := fun n : Nd => decide (0 < tot t (ownC c) n.id)) hm
      by_cases hp : 0 < tot t (ownC c) m.id
      · simp only [hp, decide_true, if_true] at hst
        have htc : totCh t c m = ⟨m.id, tot t (ownC c) m.id⟩ := rfl
        generalize tot t (ownC c) m.id = T at hgm hp htc
        simp -implicitDefEqProofs (disch := omega) only [h6, h7, h18, h19, h20, hh6_0, hlt, hm, hgm, hp, go_sem, ↓reduceIte, Nat.reduceAdd, Nat.reduceSub, Nat.reduceEqDiff, Nat.reduceLeDiff, reduceCtorEq]
        try refine And.intro (by omega) ?_
        refine (hI _ _).2 ⟨acc ++ [⟨m.id, T⟩], w + 1, ?_, ?_, ?_, ?_, ?_, ?_, ?_, ?_⟩
        · exact by rw [hst, List.map_append, hacc, List.map_cons, List.map_nil, htc]
        · exact by simp; omega
        all_goals first | with_reducible rfl | (simp -implicitDefEqProofs (disch := omega) only [h6, h7, h18, h19, h20, hh6_0, List.map_append, go_sem, ↓reduceIte, Nat.reduceAdd, Nat.reduceSub, Nat.reduceEqDiff, Nat.reduceLeDiff, reduceCtorEq]; first | done | rfl | (simp; done) | (congr 2; omega) | (congr 1; omega) | (congr 3; omega) | (simp; omega) | (congr 2; simp; omega) | (simp [sumI]; done) | (simp [sumI]; omega) | (refine ⟨_, rfl, ?_⟩; first | rfl | (simp -implicitDefEqProofs (disch := omega) only [h6, h7, h18, h19, h20, hh6_0, List.map_append, go_sem, ↓reduceIte, Nat.reduceAdd, Nat.reduceSub, Nat.reduceEqDiff, Nat.reduceLeDiff, reduceCtorEq]; done))) | rfl | omega | (congr 2; omega)
      · simp only [hp, decide_false, Bool.false_eq_true, if_false] at hst
        generalize tot t (ownC c) m.id = T at hgm hp
        simp -implicitDefEqProofs (disch := omega) only [h6, h7, h18, h19, h20, hh6_0, hlt, hm, hgm, hp, go_sem, ↓reduceIte, Nat.reduceAdd, Nat.reduceSub, Nat.reduceEqDiff, Nat.reduceLeDiff, reduceCtorEq]
        try refine And.intro (by omega) ?_
        refine (hI _ _).2 ⟨acc, w, ?_, ?_, ?_, ?_, ?_, ?_, ?_, ?_⟩
        · exact by rw [hst, hacc]
        · exact by omega
        all_goals first | with_reducible rfl | (simp -implicitDefEqProofs (disch := omega) only [h6, h7, h18, h19, h20, hh6_0, List.map_append, go_sem, ↓reduceIte, Nat.reduceAdd, Nat.reduceSub, Nat.reduceEqDiff, Nat.reduceLeDiff, reduceCtorEq]; first | done | rfl | (simp; done) | (congr 2; omega) | (congr 1; omega) | (congr 3; omega) | (simp; omega) | (congr 2; simp; omega) | (simp [sumI]; done) | (simp [sumI]; omega) | (refine ⟨_, rfl, ?_⟩; first | rfl | (simp -implicitDefEqProofs (disch := omega) only [h6, h7, h18, h19, h20, hh6_0, List.map_append, go_sem, ↓reduceIte, Nat.reduceAdd, Nat.reduceSub, Nat.reduceEqDiff, Nat.reduceLeDiff, reduceCtorEq]; done))) | rfl | omega | (congr 2; omega)
    · rw [List.take_of_length_le (by omega)] at hacc
      rw [← hacc]
      simp -implicitDefEqProofs (disch := omega) only [h6, h7, h18, h19, h20, hh6_0, hge, go_sem, ↓reduceIte, Nat.reduceAdd, Nat.reduceSub, Nat.reduceEqDiff, Nat.reduceLeDiff, reduceCtorEq]
      try rfl

def OverK (t : Tr) (c l : List Ch) : List Int × Int := if validK t c = true ∧ validLK t l = true then ((l.filter fun x => decide (x.own < tot t (ownC c) x.group)).map (·.group), 0) else ([], 1)

set_option maxHeartbeats 1000000 in
theorem over_eq (t : Tr) (c l : List Ch) (hf : t.Fits) (hn : t.nodes.length < 1000000) (hc : c.length < 1000000) (hl : l.length < 1000000) : V 33 [t.vv, ctrV c, .p (chsP l)] [] = some (.tup [.fresh 1 ((OverK t c l).1.map (.int .i64)), .p (.int .i64 (OverK t c l).2)], []) := by
  refine V_wp (vf := vf33) rfl ?_
  have hv := kvalid_eq t c hf hn hc
  have hvl := klimits_eq t l hf hn hl
  unfold OverK
  cases hvv : validK t c with
  | false =>
    rw [hvv] at hv
    simp -implicitDefEqProofs (disch := omega) only [vf33, vb33, hv, go_sem, ↓reduceIte, Nat.reduceAdd, Nat.reduceSub, Nat.reduceEqDiff, Nat.reduceLeDiff, reduceCtorEq]
    try simp
  | true =>
    rw [hvv] at hv
    cases hvl' : validLK t l with
    | false =>
      rw [hvl'] at hvl
      simp -implicitDefEqProofs (disch := omega) only [vf33, vb33, hv, hvl, go_sem, ↓reduceIte, Nat.reduceAdd, Nat.reduceSub, Nat.reduceEqDiff, Nat.reduceLeDiff, reduceCtorEq]
      try simp
    | true =>
      rw [hvl'] at hvl
      rw [if_pos ⟨rfl, rfl⟩]
      obtain ⟨h1, h2⟩ := (validK_iff t c).1 hvv
      obtain ⟨ks, vs, hs, hg⟩ := sums_eq h1 h2 hn hc
      have hA := (ascOk_iff _ _ _ _).1 (show ascOk (knownN t.nodes) 0 4611686018427387904 none l = true by simpa [validLK, (treeOk_iff t).2 h1] using hvl')
      simp -implicitDefEqProofs (disch := omega) only [vf33, vb33, hv, hvl, hs, go_sem, ↓reduceIte, Nat.reduceAdd, Nat.reduceSub, Nat.reduceEqDiff, Nat.reduceLeDiff, reduceCtorEq]
      obtain ⟨I, hI⟩ : ∃ I : Nat → St → Prop, ∀ k s, I k s ↔ ∃ (acc : List Int) (w : Nat), acc = ((l.take k).filter fun x => decide (x.own < tot t (ownC c) x.group)).map (·.group) ∧ acc.length ≤ k ∧ s.pe 8 = .own (.slot 8 0) w 0 acc.length ∧ s.pe 9 = .p (PV.map (KT.int IntKind.i64) ks vs) ∧ s.pe 25 = .p (chsP l) ∧ s.pe 26 = .p (.int .i64 ↑l.length) ∧ s.pe 27 = .p (.int .i64 k) ∧ s.h (.slot 8 0) = some (w, Ob.arr 1 (acc.map (.int .i64))) := ⟨_, fun _ _ => Iff.rfl⟩
      refine wp_count (l.length) I ?_ ?_
      · refine (hI _ _).2 ⟨[], 0, ?_, ?_, ?_, ?_, ?_, ?_, ?_, ?_⟩
        · exact by first | rfl | omega | (simp; done) | (simp; omega)
        · exact by first | rfl | omega | (simp; done) | (simp; omega)
        all_goals first | with_reducible rfl | (simp -implicitDefEqProofs (disch := omega) only [h6, h7, h18, h19, h20, hh6_0, List.map_append, go_sem, ↓reduceIte, Nat.reduceAdd, Nat.reduceSub, Nat.reduceEqDiff, Nat.reduceLeDiff, reduceCtorEq]; first | done | rfl | (simp; done) | (congr 2; omega) | (congr 1; omega) | (congr 3; omega) | (simp; omega) | (congr 2; simp; omega) | (simp [sumI]; done) | (simp [sumI]; omega) | (refine ⟨_, rfl, ?_⟩; first | rfl | (simp -implicitDefEqProofs (disch := omega) only [h6, h7, h18, h19, h20, hh6_0, List.map_append, go_sem, ↓reduceIte, Nat.reduceAdd, Nat.reduceSub, Nat.reduceEqDiff, Nat.reduceLeDiff, reduceCtorEq]; done))) | rfl | omega | (congr 2; omega)
      intro k s hk hIk
      obtain ⟨acc, w, hacc, hal, h8, h9, h25, h26, h27, hh8_0⟩ := (hI _ _).1 hIk
      clear hIk
      simp -implicitDefEqProofs (disch := omega) only [h8, h9, h25, h26, h27, hh8_0, go_sem, ↓reduceIte, Nat.reduceAdd, Nat.reduceSub, Nat.reduceEqDiff, Nat.reduceLeDiff, reduceCtorEq]
      refine wp_if_d (fun hlt => ?_) (fun hge => ?_)
      · have hm : l[k]? = some l[k] := List.getElem?_eq_getElem hlt
        generalize l[k] = m at hm
        obtain ⟨nd, hnd, hne⟩ := findN_some (hA.known m (List.mem_of_getElem? hm))
        obtain ⟨i, hi⟩ := List.getElem?_of_mem hnd
        have hgm := hg i nd hi
        rw [hne] at hgm
        have hst := filter_step (p := fun x : Ch => decide (x.own < tot t (ownC c) x.group)) hm
        by_cases hp : m.own < tot t (ownC c) m.group
        · simp only [hp, decide_true, if_true] at hst
          generalize tot t (ownC c) m.group = T at hgm hp
          simp -implicitDefEqProofs (disch := omega) only [h8, h9, h25, h26, h27, hh8_0, hlt, hm, hgm, hp, go_sem, ↓reduceIte, Nat.reduceAdd, Nat.reduceSub, Nat.reduceEqDiff, Nat.reduceLeDiff, reduceCtorEq]
          try refine And.intro (by omega) ?_
          refine (hI _ _).2 ⟨acc ++ [m.group], w + 1, ?_, ?_, ?_, ?_, ?_, ?_, ?_, ?_⟩
          · exact by rw [hst, List.map_append, hacc]; rfl
          · exact by simp; omega
          all_goals first | with_reducible rfl | (simp -implicitDefEqProofs (disch := omega) only [h8, h9, h25, h26, h27, hh8_0, List.map_append, go_sem, ↓reduceIte, Nat.reduceAdd, Nat.reduceSub, Nat.reduceEqDiff, Nat.reduceLeDiff, reduceCtorEq]; first | done | rfl | (simp; done) | (congr 2; omega) | (congr 1; omega) | (congr 3; omega) | (simp; omega) | (congr 2; simp; omega) | (simp [sumI]; done) | (simp [sumI]; omega) | (refine ⟨_, rfl, ?_⟩; first | rfl | (simp -implicitDefEqProofs (disch := omega) only [h8, h9, h25, h26, h27, hh8_0, List.map_append, go_sem, ↓reduceIte, Nat.reduceAdd, Nat.reduceSub, Nat.reduceEqDiff, Nat.reduceLeDiff, reduceCtorEq]; done))) | rfl | omega | (congr 2; omega)
        · simp only [hp, decide_false, Bool.false_eq_true, if_false] at hst
          generalize tot t (ownC c) m.group = T at hgm hp
          simp -implicitDefEqProofs (disch := omega) only [h8, h9, h25, h26, h27, hh8_0, hlt, hm, hgm, hp, go_sem, ↓reduceIte, Nat.reduceAdd, Nat.reduceSub, Nat.reduceEqDiff, Nat.reduceLeDiff, reduceCtorEq]
          try refine And.intro (by omega) ?_
          refine (hI _ _).2 ⟨acc, w, ?_, ?_, ?_, ?_, ?_, ?_, ?_, ?_⟩
          · exact by rw [hst, hacc]
          · exact by omega
          all_goals first | with_reducible rfl | (simp -implicitDefEqProofs (disch := omega) only [h8, h9, h25, h26, h27, hh8_0, List.map_append, go_sem, ↓reduceIte, Nat.reduceAdd, Nat.reduceSub, Nat.reduceEqDiff, Nat.reduceLeDiff, reduceCtorEq]; first | done | rfl | (simp; done) | (congr 2; omega) | (congr 1; omega) | (congr 3; omega) | (simp; omega) | (congr 2; simp; omega) | (simp [sumI]; done) | (simp [sumI]; omega) | (refine ⟨_, rfl, ?_⟩; first | rfl | (simp -implicitDefEqProofs (disch := omega) only [h8, h9, h25, h26, h27, hh8_0, List.map_append, go_sem, ↓reduceIte, Nat.reduceAdd, Nat.reduceSub, Nat.reduceEqDiff, Nat.reduceLeDiff, reduceCtorEq]; done))) | rfl | omega | (congr 2; omega)
      · rw [List.take_of_length_le (by omega)] at hacc
        rw [← hacc]
        simp -implicitDefEqProofs (disch := omega) only [h8, h9, h25, h26, h27, hh8_0, hge, go_sem, ↓reduceIte, Nat.reduceAdd, Nat.reduceSub, Nat.reduceEqDiff, Nat.reduceLeDiff, reduceCtorEq]
        try rfl

def mostK (l : List Ch) (id : Int) : Int := (lookC l id).getD 4611686018427387904
theorem lookC_drop {l : List Ch} {k : Nat} {c : Ch} {id : Int} (hm : l[k]? = some c) (h : lookC l id = lookC (l.drop k) id) : lookC l id = if c.group = id then some c.own else lookC (l.drop (k + 1)) id := by
  have hl := (List.getElem?_eq_some_iff.1 hm).1
  rw [h, List.drop_eq_getElem_cons hl]
  rw [List.getElem?_eq_getElem hl] at hm
  cases hm
  rfl

theorem most_eq (l : List Ch) (id : Int) (hl : l.length < 1000000) : V 58 [.p (chsP l), .p (.int .i64 id)] [] = some (.p (.int .i64 (mostK l id)), []) := by
  refine V_wp (vf := vf58) rfl ?_
  unfold mostK
  simp -implicitDefEqProofs (disch := omega) only [vf58, vb58, go_sem, ↓reduceIte, Nat.reduceAdd, Nat.reduceSub, Nat.reduceEqDiff, Nat.reduceLeDiff, reduceCtorEq]
  obtain ⟨I, hI⟩ : ∃ I : Nat → St → Prop, ∀ k s, I k s ↔ lookC l id = lookC (l.drop k) id ∧ s.pe 0 = .p (chsP l) ∧ s.pe 1 = .p (.int .i64 id) ∧ s.pe 5 = .p (.int .i64 k) := ⟨_, fun _ _ => Iff.rfl⟩
  refine wp_count (l.length) I ?_ ?_
  · refine (hI _ _).2 ⟨?_, ?_, ?_, ?_⟩
    · exact by first | rfl | omega | (simp; done) | (simp; omega)
    all_goals first | with_reducible rfl | (simp -implicitDefEqProofs (disch := omega) only [h8, h9, h25, h26, h27, hh8_0, List.map_append, go_sem, ↓reduceIte, Nat.reduceAdd, Nat.reduceSub, Nat.reduceEqDiff, Nat.reduceLeDiff, reduceCtorEq]; first | done | rfl | (simp; done) | (congr 2; omega) | (congr 1; omega) | (congr 3; omega) | (simp; omega) | (congr 2; simp; omega) | (simp [sumI]; done) | (simp [sumI]; omega) | (refine ⟨_, rfl, ?_⟩; first | rfl | (simp -implicitDefEqProofs (disch := omega) only [h8, h9, h25, h26, h27, hh8_0, List.map_append, go_sem, ↓reduceIte, Nat.reduceAdd, Nat.reduceSub, Nat.reduceEqDiff, Nat.reduceLeDiff, reduceCtorEq]; done))) | rfl | omega | (congr 2; omega)
  intro k s hk hIk
  obtain ⟨hq, h0, h1, h5⟩ := (hI _ _).1 hIk
  clear hIk
  simp -implicitDefEqProofs (disch := omega) only [h0, h1, h5, go_sem, ↓reduceIte, Nat.reduceAdd, Nat.reduceSub, Nat.reduceEqDiff, Nat.reduceLeDiff, reduceCtorEq]
  refine wp_if_d (fun hlt => ?_) (fun hge => ?_)
  · have hm : l[k]? = some l[k] := List.getElem?_eq_getElem hlt
    generalize l[k] = c at hm
    have hst := lookC_drop hm hq
    by_cases hp : c.group = id
    · rw [if_pos hp] at hst
      simp -implicitDefEqProofs (disch := omega) only [h0, h1, h5, hlt, hm, hp, hst, Option.getD_some, go_sem, ↓reduceIte, Nat.reduceAdd, Nat.reduceSub, Nat.reduceEqDiff, Nat.reduceLeDiff, reduceCtorEq]
    · rw [if_neg hp] at hst
      simp -implicitDefEqProofs (disch := omega) only [h0, h1, h5, hlt, hm, hp, go_sem, ↓reduceIte, Nat.reduceAdd, Nat.reduceSub, Nat.reduceEqDiff, Nat.reduceLeDiff, reduceCtorEq]
      try refine And.intro (by omega) ?_
      refine (hI _ _).2 ⟨?_, ?_, ?_, ?_⟩
      · exact hst
      all_goals first | with_reducible rfl | (simp -implicitDefEqProofs (disch := omega) only [h0, h1, h5, List.map_append, go_sem, ↓reduceIte, Nat.reduceAdd, Nat.reduceSub, Nat.reduceEqDiff, Nat.reduceLeDiff, reduceCtorEq]; first | done | rfl | (simp; done) | (congr 2; omega) | (congr 1; omega) | (congr 3; omega) | (simp; omega) | (congr 2; simp; omega) | (simp [sumI]; done) | (simp [sumI]; omega) | (refine ⟨_, rfl, ?_⟩; first | rfl | (simp -implicitDefEqProofs (disch := omega) only [h0, h1, h5, List.map_append, go_sem, ↓reduceIte, Nat.reduceAdd, Nat.reduceSub, Nat.reduceEqDiff, Nat.reduceLeDiff, reduceCtorEq]; done))) | rfl | omega | (congr 2; omega)
  · rw [List.drop_of_length_le (by omega)] at hq
    simp -implicitDefEqProofs (disch := omega) only [h0, h1, h5, hge, hq, lookC, Option.getD_none, go_sem, ↓reduceIte, Nat.reduceAdd, Nat.reduceSub, Nat.reduceEqDiff, Nat.reduceLeDiff, reduceCtorEq]

def limPicks : List Int := [0, 10, 60, 150, 1000, 1099511627776, 4611686018427387904]
def dLimits (L : List Int) : List Nd → Nat → List Ch × Nat
  | [], a => ([], a)
  | n :: ns, a => if nextV L a 2 = 1 then (⟨n.id, pickV L (nextA L a 2) limPicks⟩ :: (dLimits L ns (nextA L (nextA L a 2) 7)).1, (dLimits L ns (nextA L (nextA L a 2) 7)).2) else dLimits L ns (nextA L a 2)

set_option maxHeartbeats 1000000 in
theorem dlimits_eq (L : List Int) (a : Nat) (t : Tr) (hL : L.length < 4611686018427387904) (hl : t.nodes.length < 1000000) : V 9 [.ptr (.arg 0 0) 0 0, t.vv] [diceB L a] = some (.fresh 2 ((dLimits L t.nodes a).1.map Ch.pv), [diceB L (dLimits L t.nodes a).2]) := by
  refine V_wp (vf := vf9) rfl ?_
  simp -implicitDefEqProofs (disch := omega) only [vf9, vb9, go_sem, ↓reduceIte, Nat.reduceAdd, Nat.reduceSub, Nat.reduceEqDiff, Nat.reduceLeDiff, reduceCtorEq]
  obtain ⟨I, hI⟩ : ∃ I : Nat → St → Prop, ∀ k s, I k s ↔ ∃ (b : Nat) (acc : List Ch) (w : Nat), dLimits L t.nodes a = (acc ++ (dLimits L (t.nodes.drop k) b).1, (dLimits L (t.nodes.drop k) b).2) ∧ acc.length ≤ k ∧ s.pe 0 = .ptr (Id.arg 0 0) 0 0 ∧ s.pe 3 = .ptr (.slot 3 0) 0 0 ∧ s.pe 5 = .own (.slot 5 0) w 0 acc.length ∧ s.pe 6 = .p (.int .i64 k) ∧ s.h (.arg 0 0) = some (0, diceB L b) ∧ s.h (.slot 3 0) = some (0, Ob.box [.p (nodesP t.nodes), .p (.int .i64 t.next)]) ∧ s.h (.slot 5 0) = some (w, Ob.arr 2 (acc.map Ch.pv)) := ⟨_, fun _ _ => Iff.rfl⟩
  refine wp_count (t.nodes.length) I ?_ ?_
  · refine (hI _ _).2 ⟨a, [], 0, ?_, ?_, ?_, ?_, ?_, ?_, ?_, ?_, ?_⟩
    · exact rfl
    · exact by first | rfl | omega | (simp; done) | (simp; omega)
    all_goals first | with_reducible rfl | (simp -implicitDefEqProofs (disch := omega) only [h0, h1, h5, List.map_append, go_sem, ↓reduceIte, Nat.reduceAdd, Nat.reduceSub, Nat.reduceEqDiff, Nat.reduceLeDiff, reduceCtorEq]; first | done | rfl | (simp; done) | (congr 2; omega) | (congr 1; omega) | (congr 3; omega) | (simp; omega) | (congr 2; simp; omega) | (simp [sumI]; done) | (simp [sumI]; omega) | (refine ⟨_, rfl, ?_⟩; first | rfl | (simp -implicitDefEqProofs (disch := omega) only [h0, h1, h5, List.map_append, go_sem, ↓reduceIte, Nat.reduceAdd, Nat.reduceSub, Nat.reduceEqDiff, Nat.reduceLeDiff, reduceCtorEq]; done))) | rfl | omega | (congr 2; omega)
  intro k s hk hIk
  obtain ⟨b, acc, w, hd, hal, h0, h3, h5, h6, ha0, hh3_0, hh5_0⟩ := (hI _ _).1 hIk
  clear hIk
  simp -implicitDefEqProofs (disch := omega) only [h0, h3, h5, h6, ha0, hh3_0, hh5_0, go_sem, ↓reduceIte, Nat.reduceAdd, Nat.reduceSub, Nat.reduceEqDiff, Nat.reduceLeDiff, reduceCtorEq]
  refine wp_if_d (fun hlt => ?_) (fun hge => ?_)
  · have hm : t.nodes[k]? = some t.nodes[k] := List.getElem?_eq_getElem hlt
    have hdr : t.nodes.drop k = t.nodes[k] :: t.nodes.drop (k + 1) := List.drop_eq_getElem_cons hlt
    generalize t.nodes[k] = m at hm hdr
    rw [hdr, dLimits] at hd
    have hb : V 21 [.ptr (.arg 0 0) 0 0, .p (.int .i64 2)] [diceB L b] = some (.p (.bool (decide (nextV L b 2 = 1))), [diceB L (nextA L b 2)]) := bool_eq L b 2 hL (by omega) (by omega)
    have hp := pick_eq L (nextA L b 2) limPicks hL (by decide) (by decide)
    simp only [limPicks, intsP, List.length_cons, List.length_nil, Nat.reduceAdd, List.map_cons, List.map_nil] at hp
    rw [← limPicks] at hp
    rw [show nextA L (nextA L b 2) ((7 : Nat) : Int) = nextA L (nextA L b 2) 7 from rfl] at hp
    generalize pickV L (nextA L b 2) limPicks = pv at hp hd
    generalize nextA L (nextA L b 2) 7 = b2 at hp hd
    generalize nextA L b 2 = b1 at hb hp hd
    by_cases hx : nextV L b 2 = 1
    · rw [if_pos hx] at hd
      rw [hx] at hb
      simp -implicitDefEqProofs (disch := omega) only [h0, h3, h5, h6, ha0, hh3_0, hh5_0, hlt, hm, hb, hp, decide_true, go_sem, ↓reduceIte, Nat.reduceAdd, Nat.reduceSub, Nat.reduceEqDiff, Nat.reduceLeDiff, reduceCtorEq]
      try refine And.intro (by omega) ?_
      refine (hI _ _).2 ⟨b2, acc ++ [⟨m.id, pv⟩], w + 1, ?_, ?_, ?_, ?_, ?_, ?_, ?_, ?_, ?_⟩
      · exact by rw [hd]; simp
      · exact by simp; omega
      all_goals first | with_reducible rfl | (simp -implicitDefEqProofs (disch := omega) only [h0, h3, h5, h6, ha0, hh3_0, hh5_0, List.map_append, go_sem, ↓reduceIte, Nat.reduceAdd, Nat.reduceSub, Nat.reduceEqDiff, Nat.reduceLeDiff, reduceCtorEq]; first | done | rfl | (simp; done) | (congr 2; omega) | (congr 1; omega) | (congr 3; omega) | (simp; omega) | (congr 2; simp; omega) | (simp [sumI]; done) | (simp [sumI]; omega) | (refine ⟨_, rfl, ?_⟩; first | rfl | (simp -implicitDefEqProofs (disch := omega) only [h0, h3, h5, h6, ha0, hh3_0, hh5_0, List.map_append, go_sem, ↓reduceIte, Nat.reduceAdd, Nat.reduceSub, Nat.reduceEqDiff, Nat.reduceLeDiff, reduceCtorEq]; done))) | rfl | omega | (congr 2; omega)
    · rw [if_neg hx] at hd
      simp -implicitDefEqProofs (disch := omega) only [h0, h3, h5, h6, ha0, hh3_0, hh5_0, hlt, hm, hb, hx, go_sem, ↓reduceIte, Nat.reduceAdd, Nat.reduceSub, Nat.reduceEqDiff, Nat.reduceLeDiff, reduceCtorEq]
      try refine And.intro (by omega) ?_
      refine (hI _ _).2 ⟨b1, acc, w, ?_, ?_, ?_, ?_, ?_, ?_, ?_, ?_, ?_⟩
      · exact hd
      · exact by omega
      all_goals first | with_reducible rfl | (simp -implicitDefEqProofs (disch := omega) only [h0, h3, h5, h6, ha0, hh3_0, hh5_0, List.map_append, go_sem, ↓reduceIte, Nat.reduceAdd, Nat.reduceSub, Nat.reduceEqDiff, Nat.reduceLeDiff, reduceCtorEq]; first | done | rfl | (simp; done) | (congr 2; omega) | (congr 1; omega) | (congr 3; omega) | (simp; omega) | (congr 2; simp; omega) | (simp [sumI]; done) | (simp [sumI]; omega) | (refine ⟨_, rfl, ?_⟩; first | rfl | (simp -implicitDefEqProofs (disch := omega) only [h0, h3, h5, h6, ha0, hh3_0, hh5_0, List.map_append, go_sem, ↓reduceIte, Nat.reduceAdd, Nat.reduceSub, Nat.reduceEqDiff, Nat.reduceLeDiff, reduceCtorEq]; done))) | rfl | omega | (congr 2; omega)
  · rw [List.drop_of_length_le (by omega), dLimits] at hd
    rw [hd]
    simp -implicitDefEqProofs (disch := omega) only [h0, h3, h5, h6, ha0, hh3_0, hh5_0, hge, go_sem, ↓reduceIte, Nat.reduceAdd, Nat.reduceSub, Nat.reduceEqDiff, Nat.reduceLeDiff, reduceCtorEq]
    try simp
end Go.V

namespace Go.V

theorem up_anc' {t : Tr} (h : TreeOk t) : ∀ (i : Nat) (n : Nd), t.nodes[i]? = some n → ∀ m, i < m → m ≤ t.nodes.length → upR ((t.nodes.take m).reverse) n.id = ancF t.nodes t.nodes.length n.id := by
  intro i
  induction i using Nat.strongRecOn with
  | _ i ih =>
    intro n hn m
    induction m with
    | zero => intro hi; omega
    | succ m ihm =>
      intro hi hm
      have hx : t.nodes[m]? = some t.nodes[m] := List.getElem?_eq_getElem (by omega)
      have htk : t.nodes.take (m + 1) = t.nodes.take m ++ [t.nodes[m]] := by rw [List.take_add_one, hx]; rfl
      generalize t.nodes[m] = x at hx htk
      rw [htk, List.reverse_append]
      simp only [List.reverse_cons, List.reverse_nil, List.nil_append, List.cons_append, upR]
      by_cases he : x.id = n.id
      · obtain ⟨rfl, rfl⟩ := h.idx hx hn he
        rw [if_pos rfl, ancF_cons h hn]
        congr 1
        rcases h.nodeAt hn with ⟨h0, _⟩ | ⟨h0, _, j, p, hj, hp, hpe⟩
        · subst h0
          simp [upR]
        · rw [if_neg (by omega), ← hpe]
          exact ih j hj p hp m hj (by omega)
      · rw [if_neg he]
        have : i ≠ m := by
          rintro rfl
          rw [hx] at hn
          cases hn
          exact he rfl
        exact ihm (by omega) (by omega)
theorem ancR_anc {t : Tr} (h : TreeOk t) {i : Nat} {n : Nd} (hn : t.nodes[i]? = some n) : ancR t n.id = ancF t.nodes t.nodes.length n.id := by
  rw [ancR, show findT t n.id = findN t.nodes n.id by simp [findT, (treeOk_iff t).2 h], findN_unique h.inc hn]
  simp only [Option.isSome_some, if_true]
  unfold up
  have := up_anc' h i n hn t.nodes.length (List.getElem?_eq_some_iff.1 hn).1 (Nat.le_refl _)
  rwa [List.take_length] at this


theorem root_anc {t : Tr} (h : TreeOk t) : ∀ (j : Nat) (m : Nd), t.nodes[j]? = some m → (1 : Int) ∈ ancF t.nodes t.nodes.length m.id := by
  intro j
  induction j using Nat.strongRecOn with
  | _ j ih =>
    intro m hm
    rcases h.nodeAt hm with ⟨_, h1, _⟩ | ⟨_, _, i, p, hi, hp, hpe⟩
    · rw [← h1]; exact anc_self h hm
    · exact (anc_iff h hm _).2 (Or.inr ⟨by omega, by rw [← hpe]; exact ih i hi p hp⟩)

theorem treeStep_next (L : List Int) (a : Nat) {t : Tr} : (treeStep L a t).1.next ≤ t.next + 1 := by
  have h1 : ∀ p s, (if (addT t p s).2.2 = 0 then (addT t p s).1 else t).next ≤ t.next + 1 := fun p s => by
    split
    · rw [(addT_ok (by assumption)).2.2]
      exact Int.le_refl _
    · omega
  have h2 : ∀ (u : Tr) (q : Int), (if (removeT u q).2 = 0 then (removeT u q).1 else u).next = u.next := fun u q => by
    split
    · rw [(removeT_ok (by assumption)).2.2]
    · rfl
  unfold treeStep
  simp only
  split
  · rw [h2]
    exact h1 _ _
  · exact h1 _ _
theorem treeLoop_next (L : List Int) : ∀ (k a : Nat) (t : Tr), (treeLoop L k a t).1.next ≤ t.next + k
  | 0, _, t => by simp [treeLoop]
  | k + 1, a, t => by
    have h1 := treeLoop_next L k (treeStep L a t).2 (treeStep L a t).1
    have h2 := treeStep_next L a (t := t)
    unfold treeLoop
    simp only [Int.natCast_add]
    omega
theorem dTree_next (L : List Int) (a n : Nat) : (dTree L a n).1.next ≤ n + 2 := by
  have h1 := treeLoop_next L (nextV L a (n + 1)).toNat (nextA L a (n + 1)) newT
  have h2 := nextV_nonneg L a (n + 1)
  have h3 := nextV_lt L a (n := (n : Int) + 1) (by omega)
  have h4 : newT.next = 2 := rfl
  unfold dTree
  omega
theorem ancF_none {ns : List Nd} {id : Int} (h : findN ns id = none) : ∀ k, ancF ns k id = []
  | 0 => rfl
  | k + 1 => by unfold ancF; rw [h]
end Go.V

