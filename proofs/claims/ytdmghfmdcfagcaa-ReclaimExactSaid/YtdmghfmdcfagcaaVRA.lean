/- The value machine V at work: lists of numbers, sorted, each once. -/
/- The value machine V at work: made parts. -/
/- The value machine V at work: subtrees by the code. -/
/- The value machine V at work: valid parts, capacities. -/
/- The value machine V at work: the parts of a list by their groups, capacities. -/
/- The value machine V at work: capacities by the code. -/
/- The value machine V at work: pages divided among shares. -/
/- The value machine V at work: what valid parts are, the capacity of a group. -/
import Derived.Test.YtdmghfmdcfagcaaVU
import Derived.Test.YtdmghfmdcfagcaaVKX
set_option linter.unusedSimpArgs false
set_option linter.unusedVariables false
namespace Go.V

def insU (x : Int) : List Int → List Int
  | [] => [x]
  | y :: ys => if x < y then x :: y :: ys else if x = y then y :: ys else y :: insU x ys
def sortU (l : List Int) : List Int := l.foldl (fun acc x => insU x acc) []

theorem mem_insU {x z : Int} : ∀ (l : List Int), z ∈ insU x l ↔ z = x ∨ z ∈ l
  | [] => by simp [insU]
  | y :: ys => by
    unfold insU
    split
    · simp
    · split
      · rename_i h
        subst h
        simp
      · simp only [List.mem_cons, mem_insU ys]
        constructor
        · rintro (h | h | h)
          · exact Or.inr (Or.inl h)
          · exact Or.inl h
          · exact Or.inr (Or.inr h)
        · rintro (h | h | h)
          · exact Or.inr (Or.inl h)
          · exact Or.inl h
          · exact Or.inr (Or.inr h)
theorem insU_inc {x : Int} : ∀ (l : List Int), (l.Pairwise fun a b => a < b) → (insU x l).Pairwise fun a b => a < b
  | [], _ => by simp [insU]
  | y :: ys, h => by
    obtain ⟨h1, h2⟩ := List.pairwise_cons.1 h
    unfold insU
    split
    · rename_i hlt
      refine List.pairwise_cons.2 ⟨fun z hz => ?_, h⟩
      rcases List.mem_cons.1 hz with rfl | hz
      · exact hlt
      · have := h1 z hz
        omega
    · split
      · exact h
      · refine List.pairwise_cons.2 ⟨fun z hz => ?_, insU_inc ys h2⟩
        rcases (mem_insU ys).1 hz with rfl | hz
        · omega
        · exact h1 z hz
theorem insU_length {x : Int} : ∀ (l : List Int), (insU x l).length ≤ l.length + 1
  | [] => by simp [insU]
  | y :: ys => by
    have := insU_length (x := x) ys
    unfold insU
    split
    · simp
    · split <;> simp <;> omega

theorem sortU_snoc (l : List Int) (x : Int) : sortU (l ++ [x]) = insU x (sortU l) := by simp [sortU]
theorem sortU_foldl {z : Int} : ∀ (l acc : List Int), z ∈ l.foldl (fun acc x => insU x acc) acc ↔ z ∈ l ∨ z ∈ acc
  | [], acc => by simp
  | x :: l, acc => by
    rw [List.foldl_cons, sortU_foldl l, mem_insU, List.mem_cons]
    constructor
    · rintro (h | h | h)
      · exact Or.inl (Or.inr h)
      · exact Or.inl (Or.inl h)
      · exact Or.inr h
    · rintro ((h | h) | h)
      · exact Or.inr (Or.inl h)
      · exact Or.inl h
      · exact Or.inr (Or.inr h)
theorem mem_sortU {l : List Int} {z : Int} : z ∈ sortU l ↔ z ∈ l := by
  rw [sortU, sortU_foldl]
  simp
theorem sortU_incl : ∀ (l acc : List Int), (acc.Pairwise fun a b => a < b) → (l.foldl (fun acc x => insU x acc) acc).Pairwise fun a b => a < b
  | [], _, h => h
  | x :: l, acc, h => sortU_incl l _ (insU_inc acc h)
theorem sortU_inc (l : List Int) : (sortU l).Pairwise fun a b => a < b := sortU_incl l [] List.Pairwise.nil
theorem sortU_len : ∀ (l acc : List Int), (l.foldl (fun acc x => insU x acc) acc).length ≤ l.length + acc.length
  | [], acc => by simp
  | x :: l, acc => by
    have h1 := sortU_len l (insU x acc)
    have h2 := insU_length (x := x) acc
    rw [List.foldl_cons, List.length_cons]
    omega
theorem sortU_length (l : List Int) : (sortU l).length ≤ l.length := by
  have := sortU_len l []
  simpa [sortU] using this

/-- Where a number is laid. -/
theorem insU_at {x : Int} : ∀ (out : List Int) (k : Nat), (out.Pairwise fun a b => a < b) → (∀ y ∈ out.take k, y < x) → (∀ y ∈ out.drop k, x < y) → insU x out = out.take k ++ x :: out.drop k
  | [], k, _, _, _ => by simp [insU]
  | y :: ys, 0, h, _, h2 => by
    have := h2 y (by simp)
    simp [insU, this]
  | y :: ys, k + 1, h, h1, h2 => by
    have hy := h1 y (by simp)
    have ih := insU_at ys k (List.pairwise_cons.1 h).2 (fun z hz => h1 z (by simp [hz])) (fun z hz => h2 z (by simpa using hz))
    unfold insU
    rw [if_neg (by omega), if_neg (by omega), ih]
    simp
theorem insU_in {x : Int} : ∀ (out : List Int), (out.Pairwise fun a b => a < b) → x ∈ out → insU x out = out
  | [], _, h => by simp at h
  | y :: ys, h, hx => by
    obtain ⟨h1, h2⟩ := List.pairwise_cons.1 h
    unfold insU
    rcases List.mem_cons.1 hx with rfl | hx
    · simp
    · have := h1 x hx
      rw [if_neg (by omega), if_neg (by omega), insU_in ys h2 hx]

/-- The array behind 'append' and 'copy'. -/
theorem ins_mid (out : List Int) (p : Nat) (hp : p ≤ out.length) : ∃ z, (List.take (↑p + 1 : Int).toNat (List.map (PV.int IntKind.i64) out ++ [PV.int IntKind.i64 0]) ++ List.take (min (out.length + 1 - (↑p + 1 : Int).toNat) (min (out.length + 1 - p) (List.drop p (List.map (PV.int IntKind.i64) out ++ [PV.int IntKind.i64 0])).length)) (List.take (out.length + 1 - p) (List.drop p (List.map (PV.int IntKind.i64) out ++ [PV.int IntKind.i64 0]))) ++ List.drop ((↑p + 1 : Int).toNat + min (min (out.length + 1 - (↑p + 1 : Int).toNat) (min (out.length + 1 - p) (List.drop p (List.map (PV.int IntKind.i64) out ++ [PV.int IntKind.i64 0])).length)) (min (out.length + 1 - p) (List.drop p (List.map (PV.int IntKind.i64) out ++ [PV.int IntKind.i64 0])).length)) (List.map (PV.int IntKind.i64) out ++ [PV.int IntKind.i64 0])) = List.map (PV.int IntKind.i64) (out.take p ++ z :: out.drop p) := by
  have e0 : List.map (PV.int IntKind.i64) out ++ [PV.int IntKind.i64 0] = List.map (PV.int IntKind.i64) (out ++ [0]) := by simp
  have e1 : (↑p + 1 : Int).toNat = p + 1 := by omega
  have e2 : (List.drop p (List.map (PV.int IntKind.i64) (out ++ [0]))).length = out.length + 1 - p := by simp
  have e3 : min (out.length + 1 - (p + 1)) (min (out.length + 1 - p) (out.length + 1 - p)) = out.length - p := by omega
  have e4 : min (out.length - p) (min (out.length + 1 - p) (out.length + 1 - p)) = out.length - p := by omega
  rw [e0, e1, e2, e3]
  have e5 : min (out.length - p) (out.length + 1 - p) = out.length - p := by omega
  have e6 : p + 1 + min (out.length - p) (min (out.length + 1 - p) (out.length + 1 - p)) = out.length + 1 := by omega
  refine ⟨(out ++ [0])[p]'(by simp; omega), ?_⟩
  rw [e6, List.take_take, e5, List.drop_of_length_le (i := out.length + 1) (by simp), List.append_nil, ← List.map_take, ← List.map_drop, ← List.map_take, ← List.map_append]
  congr 1
  rw [List.take_succ_eq_append_getElem (by simp; omega), List.take_append_of_le_length hp, List.drop_append_of_le_length hp, List.take_left' (by simp)]
  simp
theorem ins_get (out : List Int) (p : Nat) (z : Int) (hp : p ≤ out.length) : (List.map (PV.int IntKind.i64) (out.take p ++ z :: out.drop p))[p]? = some (PV.int .i64 z) := by
  rw [List.getElem?_map, List.getElem?_append_right (by simp; omega)]
  simp [Nat.min_eq_left hp]
theorem ins_set (out : List Int) (p : Nat) (x z : Int) (hp : p ≤ out.length) : (List.map (PV.int IntKind.i64) (out.take p ++ z :: out.drop p)).set p (PV.int .i64 x) = List.map (PV.int IntKind.i64) (out.take p ++ x :: out.drop p) := by
  rw [List.map_append, List.set_append_right _ _ (by simp; omega)]
  simp [Nat.min_eq_left hp]
theorem ins_len (out : List Int) (p : Nat) (x : Int) (hp : p ≤ out.length) : (out.take p ++ x :: out.drop p).length = out.length + 1 := by
  simp
  omega

set_option maxHeartbeats 2000000 in
theorem rsorted_eq (l : List Int) (hl : l.length < 1000000) : V 29 [.p (intsP l)] [] = some (.fresh 1 ((sortU l).map (.int .i64)), []) := by
  refine V_wp (vf := vf29) rfl ?_
  simp -implicitDefEqProofs (disch := omega) only [vf29, vb29, go_sem, ↓reduceIte, Nat.reduceAdd, Nat.reduceSub, Nat.reduceEqDiff, Nat.reduceLeDiff, reduceCtorEq]
  obtain ⟨I, hI⟩ : ∃ I : Nat → St → Prop, ∀ k s, I k s ↔ ∃ (out : List Int) (ww : Nat), out = sortU (l.take k) ∧ s.pe 0 = .p (intsP l) ∧ s.pe 3 = .own (.slot 3 0) ww 0 out.length ∧ s.pe 4 = .p (.int .i64 k) ∧ s.h (.slot 3 0) = some (ww, Ob.arr 1 (out.map (.int .i64))) := ⟨_, fun _ _ => Iff.rfl⟩
  refine wp_count (l.length) I ?_ ?_
  · refine (hI _ _).2 ⟨[], 0, ?_, ?_, ?_, ?_, ?_⟩
    · exact by first | rfl | omega | (simp; done) | (simp; omega)
    all_goals first | with_reducible rfl | (simp -implicitDefEqProofs (disch := omega) only [List.map_append, go_sem, ↓reduceIte, Nat.reduceAdd, Nat.reduceSub, Nat.reduceEqDiff, Nat.reduceLeDiff, reduceCtorEq]; first | done | rfl | (simp; done) | (congr 2; omega) | (congr 1; omega) | (congr 3; omega) | (simp; omega) | (congr 2; simp; omega) | (refine ⟨_, rfl, ?_⟩; first | rfl | (simp -implicitDefEqProofs (disch := omega) only [List.map_append, go_sem, ↓reduceIte, Nat.reduceAdd, Nat.reduceSub, Nat.reduceEqDiff, Nat.reduceLeDiff, reduceCtorEq]; done))) | rfl | omega | (congr 2; omega)
  intro k s hk hIk
  obtain ⟨out, ww, hout, h0, h3, h4, hh3_0⟩ := (hI _ _).1 hIk
  clear hIk
  have hinc : out.Pairwise fun a b => a < b := hout ▸ sortU_inc _
  have holen : out.length ≤ k := by
    have := sortU_length (l.take k)
    rw [List.length_take] at this
    rw [hout]
    omega
  simp -implicitDefEqProofs (disch := omega) only [h0, h3, h4, hh3_0, go_sem, ↓reduceIte, Nat.reduceAdd, Nat.reduceSub, Nat.reduceEqDiff, Nat.reduceLeDiff, reduceCtorEq]
  refine wp_if_d (fun hlt => ?_) (fun hge => ?_)
  · have hm : l[k]? = some l[k] := List.getElem?_eq_getElem hlt
    have htk := take_snoc hm
    generalize l[k] = x at hm htk
    have hst : sortU (l.take (k + 1)) = insU x out := by rw [htk, sortU_snoc, hout]
    simp -implicitDefEqProofs (disch := omega) only [h0, h3, h4, hh3_0, hlt, go_sem, ↓reduceIte, Nat.reduceAdd, Nat.reduceSub, Nat.reduceEqDiff, Nat.reduceLeDiff, reduceCtorEq]
    obtain ⟨J, hJ⟩ : ∃ I : Nat → St → Prop, ∀ j s, I j s ↔ (∀ y ∈ out.drop (out.length - j), x < y) ∧ s.pe 0 = .p (intsP l) ∧ s.pe 3 = .own (.slot 3 0) ww 0 out.length ∧ s.pe 4 = .p (.int .i64 ↑k) ∧ s.pe 5 = .p (.int .i64 ((out.length - j : Nat) : Int)) ∧ s.h (.slot 3 0) = some (ww, Ob.arr 1 (List.map (.int .i64) out)) := ⟨_, fun _ _ => Iff.rfl⟩
    refine wp_count (out.length) J ?_ ?_
    · refine (hJ _ _).2 ⟨?_, ?_, ?_, ?_, ?_, ?_⟩
      · exact by simp
      all_goals first | with_reducible rfl | (simp -implicitDefEqProofs (disch := omega) only [h0, h3, h4, hh3_0, List.map_append, go_sem, ↓reduceIte, Nat.reduceAdd, Nat.reduceSub, Nat.reduceEqDiff, Nat.reduceLeDiff, reduceCtorEq]; first | done | rfl | (simp; done) | (congr 2; omega) | (congr 1; omega) | (congr 3; omega) | (simp; omega) | (congr 2; simp; omega) | (refine ⟨_, rfl, ?_⟩; first | rfl | (simp -implicitDefEqProofs (disch := omega) only [h0, h3, h4, hh3_0, List.map_append, go_sem, ↓reduceIte, Nat.reduceAdd, Nat.reduceSub, Nat.reduceEqDiff, Nat.reduceLeDiff, reduceCtorEq]; done))) | rfl | omega | (congr 2; omega)
    intro j s hj hJk
    obtain ⟨hgt, h0, h3, h4, h5, hh3_0⟩ := (hJ _ _).1 hJk
    clear hJk
    generalize hp : out.length - j = p at hgt h5
    by_cases hp0 : 0 < p
    · have hy : out[p - 1]? = some out[p - 1] := List.getElem?_eq_getElem (by omega)
      have hdr : out.drop (p - 1) = out[p - 1] :: out.drop p := by
        rw [List.drop_eq_getElem_cons (by omega), show p - 1 + 1 = p by omega]
      have htp : out.take p = out.take (p - 1) ++ [out[p - 1]] := by
        have := take_snoc hy
        rwa [show p - 1 + 1 = p by omega] at this
      generalize out[p - 1] = y at hy hdr htp
      have hy' : out[((p : Int) - 1).toNat]? = some y := by rw [← hy]; congr 1; omega
      have hp1 : (0 : Int) < p := by omega
      have hp2 : (0 : Int) ≤ (p : Int) - 1 := by omega
      by_cases hxy : x < y
      · simp -implicitDefEqProofs (disch := omega) only [h0, h3, h4, h5, hh3_0, hm, hp1, hp2, hy', hxy, go_sem, ↓reduceIte, Nat.reduceAdd, Nat.reduceSub, Nat.reduceEqDiff, Nat.reduceLeDiff, reduceCtorEq]
        have hj' : ∀ z ∈ out.drop (out.length - (j + 1)), x < z := by
          intro z hz
          rw [show out.length - (j + 1) = p - 1 by omega, hdr] at hz
          rcases List.mem_cons.1 hz with rfl | hz
          · exact hxy
          · exact hgt z hz
        try refine And.intro (by omega) ?_
        refine (hJ _ _).2 ⟨?_, ?_, ?_, ?_, ?_, ?_⟩
        · exact hj'
        all_goals first | with_reducible rfl | (simp -implicitDefEqProofs (disch := omega) only [h0, h3, h4, h5, hh3_0, List.map_append, go_sem, ↓reduceIte, Nat.reduceAdd, Nat.reduceSub, Nat.reduceEqDiff, Nat.reduceLeDiff, reduceCtorEq]; first | done | rfl | (simp; done) | (congr 2; omega) | (congr 1; omega) | (congr 3; omega) | (simp; omega) | (congr 2; simp; omega) | (refine ⟨_, rfl, ?_⟩; first | rfl | (simp -implicitDefEqProofs (disch := omega) only [h0, h3, h4, h5, hh3_0, List.map_append, go_sem, ↓reduceIte, Nat.reduceAdd, Nat.reduceSub, Nat.reduceEqDiff, Nat.reduceLeDiff, reduceCtorEq]; done))) | rfl | omega | (congr 2; omega)
      · by_cases he : y = x
        · subst he
          have hyy : ¬ y < y := by omega
          have hs' : out = sortU (l.take (k + 1)) := by
            rw [hst, insU_in out hinc (List.mem_of_getElem? hy)]
          simp -implicitDefEqProofs (disch := omega) only [h0, h3, h4, h5, hh3_0, hm, hp1, hp2, hy', hyy, go_sem, ↓reduceIte, Nat.reduceAdd, Nat.reduceSub, Nat.reduceEqDiff, Nat.reduceLeDiff, reduceCtorEq]
          try refine And.intro (by omega) ?_
          refine (hI _ _).2 ⟨out, ww, ?_, ?_, ?_, ?_, ?_⟩
          · exact hs'
          all_goals first | with_reducible rfl | (simp -implicitDefEqProofs (disch := omega) only [h0, h3, h4, h5, hh3_0, List.map_append, go_sem, ↓reduceIte, Nat.reduceAdd, Nat.reduceSub, Nat.reduceEqDiff, Nat.reduceLeDiff, reduceCtorEq]; first | done | rfl | (simp; done) | (congr 2; omega) | (congr 1; omega) | (congr 3; omega) | (simp; omega) | (congr 2; simp; omega) | (refine ⟨_, rfl, ?_⟩; first | rfl | (simp -implicitDefEqProofs (disch := omega) only [h0, h3, h4, h5, hh3_0, List.map_append, go_sem, ↓reduceIte, Nat.reduceAdd, Nat.reduceSub, Nat.reduceEqDiff, Nat.reduceLeDiff, reduceCtorEq]; done))) | rfl | omega | (congr 2; omega)
        · have hlow : ∀ w ∈ out.take p, w < x := by
            intro w hw
            rw [htp] at hw
            have := hinc.sublist (List.take_sublist p out)
            rw [htp] at this
            rcases List.mem_append.1 hw with h | h
            · have := (List.pairwise_append.1 this).2.2 w h y (by simp)
              omega
            · have : w = y := by simpa using h
              omega
          obtain ⟨z, hz⟩ := ins_mid out p (by omega)
          obtain ⟨o', ho'⟩ : ∃ o', o' = out.take p ++ x :: out.drop p := ⟨_, rfl⟩
          have hlen : o'.length = out.length + 1 := by rw [ho']; exact ins_len out p x (by omega)
          have hset : ∀ z, (List.map (PV.int IntKind.i64) (out.take p ++ z :: out.drop p)).set p (PV.int .i64 x) = List.map (PV.int IntKind.i64) o' := by
            intro z
            rw [ho']
            exact ins_set out p x z (by omega)
          have hs' : o' = sortU (l.take (k + 1)) := by
            rw [ho', hst, insU_at out p hinc ?_ hgt]
            exact hlow
          simp -implicitDefEqProofs (disch := omega) only [h0, h3, h4, h5, hh3_0, hm, hp1, hp2, hy', hxy, he, hz, ins_get, hset, List.headD_cons, go_sem, ↓reduceIte, Nat.reduceAdd, Nat.reduceSub, Nat.reduceEqDiff, Nat.reduceLeDiff, reduceCtorEq]
          try refine And.intro (by omega) ?_
          refine (hI _ _).2 ⟨o', ww + 1, ?_, ?_, ?_, ?_, ?_⟩
          · exact hs'
          all_goals first | with_reducible rfl | (simp -implicitDefEqProofs (disch := omega) only [h0, h3, h4, h5, hh3_0, List.map_append, go_sem, ↓reduceIte, Nat.reduceAdd, Nat.reduceSub, Nat.reduceEqDiff, Nat.reduceLeDiff, reduceCtorEq]; first | done | rfl | (simp; done) | (congr 2; omega) | (congr 1; omega) | (congr 3; omega) | (simp; omega) | (congr 2; simp; omega) | (refine ⟨_, rfl, ?_⟩; first | rfl | (simp -implicitDefEqProofs (disch := omega) only [h0, h3, h4, h5, hh3_0, List.map_append, go_sem, ↓reduceIte, Nat.reduceAdd, Nat.reduceSub, Nat.reduceEqDiff, Nat.reduceLeDiff, reduceCtorEq]; done))) | rfl | omega | (congr 2; omega)
    · have hp1 : ¬ (0 : Int) < p := by omega
      obtain ⟨z, hz⟩ := ins_mid out p (by omega)
      obtain ⟨o', ho'⟩ : ∃ o', o' = out.take p ++ x :: out.drop p := ⟨_, rfl⟩
      have hlen : o'.length = out.length + 1 := by rw [ho']; exact ins_len out p x (by omega)
      have hset : ∀ z, (List.map (PV.int IntKind.i64) (out.take p ++ z :: out.drop p)).set p (PV.int .i64 x) = List.map (PV.int IntKind.i64) o' := by
        intro z
        rw [ho']
        exact ins_set out p x z (by omega)
      have hs' : o' = sortU (l.take (k + 1)) := by
        rw [ho', hst, insU_at out p hinc ?_ hgt]
        intro w hw
        rw [show p = 0 by omega] at hw
        simp at hw
      simp -implicitDefEqProofs (disch := omega) only [h0, h3, h4, h5, hh3_0, hm, hp1, hz, ins_get, hset, List.headD_cons, go_sem, ↓reduceIte, Nat.reduceAdd, Nat.reduceSub, Nat.reduceEqDiff, Nat.reduceLeDiff, reduceCtorEq]
      try refine And.intro (by omega) ?_
      refine (hI _ _).2 ⟨o', ww + 1, ?_, ?_, ?_, ?_, ?_⟩
      · exact hs'
      all_goals first | with_reducible rfl | (simp -implicitDefEqProofs (disch := omega) only [h0, h3, h4, h5, hh3_0, List.map_append, go_sem, ↓reduceIte, Nat.reduceAdd, Nat.reduceSub, Nat.reduceEqDiff, Nat.reduceLeDiff, reduceCtorEq]; first | done | rfl | (simp; done) | (congr 2; omega) | (congr 1; omega) | (congr 3; omega) | (simp; omega) | (congr 2; simp; omega) | (refine ⟨_, rfl, ?_⟩; first | rfl | (simp -implicitDefEqProofs (disch := omega) only [h0, h3, h4, h5, hh3_0, List.map_append, go_sem, ↓reduceIte, Nat.reduceAdd, Nat.reduceSub, Nat.reduceEqDiff, Nat.reduceLeDiff, reduceCtorEq]; done))) | rfl | omega | (congr 2; omega)
  · rw [List.take_of_length_le (by omega)] at hout
    simp -implicitDefEqProofs (disch := omega) only [h0, h3, h4, hh3_0, hge, go_sem, ↓reduceIte, Nat.reduceAdd, Nat.reduceSub, Nat.reduceEqDiff, Nat.reduceLeDiff, reduceCtorEq]
    rw [hout]

end Go.V

namespace Go.V

structure Pt where
  group : Int
  usage : Int
  protect : Int
  own : Int
  room : Int
  deriving DecidableEq
def Pt.pv (c : Pt) : PV := .agg [.int .i64 c.group, .int .i64 c.usage, .int .i64 c.protect, .int .i64 c.own, .int .i64 c.room]
abbrev Pt.vv (c : Pt) : VVal := .agg [.p (.int .i64 c.group), .p (.int .i64 c.usage), .p (.int .i64 c.protect), .p (.int .i64 c.own), .p (.int .i64 c.room)]
abbrev ptsP (l : List Pt) : PV := .slice 5 (l.map Pt.pv)
attribute [go_sem] Pt.pv
theorem pts_flat (l : List Pt) : (l.map Pt.pv).all PV.flat = true := by
  rw [List.all_eq_true]
  intro x hx
  obtain ⟨n, _, rfl⟩ := List.mem_map.1 hx
  rfl
attribute [go_sem] pts_flat

/-- How parts are made. -/
def dPart (L : List Int) (x : Int) (a : Nat) : Pt × Nat :=
  let a1 := nextA L a 5
  let a2 := nextA L a1 5
  let a3 := nextA L a2 5
  (⟨x, pickV L a [0, 7, 60, 100, 300], pickV L a1 [0, 0, 5, 50, 100], pickV L a2 [0, 1, 6, 40, 100], pickV L a3 [4611686018427387904, 4611686018427387904, 0, 9, 55]⟩, nextA L a3 5)
def dParts (L : List Int) : List Int → Nat → List Pt × Nat
  | [], a => ([], a)
  | x :: xs, a => ((dPart L x a).1 :: (dParts L xs (dPart L x a).2).1, (dParts L xs (dPart L x a).2).2)

set_option maxHeartbeats 2000000 in
theorem parts_eq (L : List Int) (a : Nat) {t : Tr} (id : Int) (h : TreeOk t) (hL : L.length < 4611686018427387904) : V 12 [.ptr (.arg 0 0) 0 0, t.vv, .p (.int .i64 id)] [diceB L a] = some (.fresh 5 ((dParts L (sortU (subT t id)) a).1.map Pt.pv), [diceB L (dParts L (sortU (subT t id)) a).2]) := by
  refine V_wp (vf := vf12) rfl ?_
  have hlen := h.len
  have hsub := rsub_eq (t := t) id (by omega)
  have hsl := subT_len h id
  generalize subT t id = S at hsub hsl
  have hsort := rsorted_eq S (by omega)
  have hil := sortU_length S
  generalize hids : sortU S = ids at hsort hil
  simp -implicitDefEqProofs (disch := omega) only [vf12, vb12, hsub, hsort, go_sem, ↓reduceIte, Nat.reduceAdd, Nat.reduceSub, Nat.reduceEqDiff, Nat.reduceLeDiff, reduceCtorEq]
  obtain ⟨I, hI⟩ : ∃ I : Nat → St → Prop, ∀ k s, I k s ↔ ∃ (b : Nat) (out : List Pt) (ww : Nat), dParts L ids a = (out ++ (dParts L (ids.drop k) b).1, (dParts L (ids.drop k) b).2) ∧ out.length = k ∧ s.pe 0 = .ptr (Id.arg 0 0) 0 0 ∧ s.pe 7 = .own (.slot 7 0) ww 0 out.length ∧ s.pe 8 = .own (.slot 13 1) 0 0 ids.length ∧ s.pe 9 = .p (.int .i64 k) ∧ s.h (.arg 0 0) = some (0, diceB L b) ∧ s.h (.slot 7 0) = some (ww, Ob.arr 5 (out.map Pt.pv)) ∧ s.h (.slot 13 1) = some (0, Ob.arr 1 (List.map (.int .i64) ids)) := ⟨_, fun _ _ => Iff.rfl⟩
  refine wp_count (ids.length) I ?_ ?_
  · refine (hI _ _).2 ⟨a, [], 0, ?_, ?_, ?_, ?_, ?_, ?_, ?_, ?_, ?_⟩
    · exact rfl
    · exact rfl
    all_goals first | with_reducible rfl | (simp -implicitDefEqProofs (disch := omega) only [List.map_append, go_sem, ↓reduceIte, Nat.reduceAdd, Nat.reduceSub, Nat.reduceEqDiff, Nat.reduceLeDiff, reduceCtorEq]; first | done | rfl | (simp; done) | (congr 2; omega) | (congr 1; omega) | (congr 3; omega) | (simp; omega) | (congr 2; simp; omega) | (refine ⟨_, rfl, ?_⟩; first | rfl | (simp -implicitDefEqProofs (disch := omega) only [List.map_append, go_sem, ↓reduceIte, Nat.reduceAdd, Nat.reduceSub, Nat.reduceEqDiff, Nat.reduceLeDiff, reduceCtorEq]; done))) | rfl | omega | (congr 2; omega)
  intro k s hk hIk
  obtain ⟨b, out, ww, hd, hol, h0, h7, h8, h9, ha0, hh7_0, hh13_1⟩ := (hI _ _).1 hIk
  clear hIk
  simp -implicitDefEqProofs (disch := omega) only [h0, h7, h8, h9, ha0, hh7_0, hh13_1, go_sem, ↓reduceIte, Nat.reduceAdd, Nat.reduceSub, Nat.reduceEqDiff, Nat.reduceLeDiff, reduceCtorEq]
  refine wp_if_d (fun hlt => ?_) (fun hge => ?_)
  · have hm : ids[k]? = some ids[k] := List.getElem?_eq_getElem hlt
    have hdr : ids.drop k = ids[k] :: ids.drop (k + 1) := List.drop_eq_getElem_cons hlt
    generalize ids[k] = x at hm hdr
    rw [hdr, dParts] at hd
    have p1 := pick_eq L b [0, 7, 60, 100, 300] hL (by simp) (by simp)
    have p2 := pick_eq L (nextA L b 5) [0, 0, 5, 50, 100] hL (by simp) (by simp)
    have p3 := pick_eq L (nextA L (nextA L b 5) 5) [0, 1, 6, 40, 100] hL (by simp) (by simp)
    have p4 := pick_eq L (nextA L (nextA L (nextA L b 5) 5) 5) [4611686018427387904, 4611686018427387904, 0, 9, 55] hL (by simp) (by simp)
    simp only [intsP, List.length_cons, List.length_nil, Nat.reduceAdd, List.map_cons, List.map_nil] at p1 p2 p3 p4
    have hnA : ∀ a, nextA L a ((5 : Nat) : Int) = nextA L a 5 := fun _ => rfl
    rw [hnA] at p1 p2 p3 p4
    have hq : (dPart L x b).1 = ⟨x, pickV L b [0, 7, 60, 100, 300], pickV L (nextA L b 5) [0, 0, 5, 50, 100], pickV L (nextA L (nextA L b 5) 5) [0, 1, 6, 40, 100], pickV L (nextA L (nextA L (nextA L b 5) 5) 5) [4611686018427387904, 4611686018427387904, 0, 9, 55]⟩ := rfl
    have hq2 : (dPart L x b).2 = nextA L (nextA L (nextA L (nextA L b 5) 5) 5) 5 := rfl
    rw [hq, hq2] at hd
    clear hq hq2
    generalize pickV L b [0, 7, 60, 100, 300] = v1 at p1 hd
    generalize nextA L b 5 = b1 at p1 p2 p3 p4 hd
    generalize pickV L b1 [0, 0, 5, 50, 100] = v2 at p2 hd
    generalize nextA L b1 5 = b2 at p2 p3 p4 hd
    generalize pickV L b2 [0, 1, 6, 40, 100] = v3 at p3 hd
    generalize nextA L b2 5 = b3 at p3 p4 hd
    generalize pickV L b3 [4611686018427387904, 4611686018427387904, 0, 9, 55] = v4 at p4 hd
    generalize nextA L b3 5 = b4 at p4 hd
    simp -implicitDefEqProofs (disch := omega) only [h0, h7, h8, h9, ha0, hh7_0, hh13_1, hlt, hm, p1, p2, p3, p4, go_sem, ↓reduceIte, Nat.reduceAdd, Nat.reduceSub, Nat.reduceEqDiff, Nat.reduceLeDiff, reduceCtorEq]
    have hd' : dParts L ids a = (out ++ [⟨x, v1, v2, v3, v4⟩] ++ (dParts L (ids.drop (k + 1)) b4).1, (dParts L (ids.drop (k + 1)) b4).2) := by
      rw [hd, List.append_assoc]
      rfl
    try refine And.intro (by omega) ?_
    refine (hI _ _).2 ⟨b4, out ++ [⟨x, v1, v2, v3, v4⟩], ww + 1, ?_, ?_, ?_, ?_, ?_, ?_, ?_, ?_, ?_⟩
    · exact hd'
    · exact by simp [hol]
    all_goals first | with_reducible rfl | (simp -implicitDefEqProofs (disch := omega) only [h0, h7, h8, h9, ha0, hh7_0, hh13_1, List.map_append, go_sem, ↓reduceIte, Nat.reduceAdd, Nat.reduceSub, Nat.reduceEqDiff, Nat.reduceLeDiff, reduceCtorEq]; first | done | rfl | (simp; done) | (congr 2; omega) | (congr 1; omega) | (congr 3; omega) | (simp; omega) | (congr 2; simp; omega) | (refine ⟨_, rfl, ?_⟩; first | rfl | (simp -implicitDefEqProofs (disch := omega) only [h0, h7, h8, h9, ha0, hh7_0, hh13_1, List.map_append, go_sem, ↓reduceIte, Nat.reduceAdd, Nat.reduceSub, Nat.reduceEqDiff, Nat.reduceLeDiff, reduceCtorEq]; done))) | rfl | omega | (congr 2; omega)
  · rw [List.drop_of_length_le (by omega), dParts] at hd
    rw [hd]
    simp -implicitDefEqProofs (disch := omega) only [h0, h7, h8, h9, ha0, hh7_0, hh13_1, hge, go_sem, ↓reduceIte, Nat.reduceAdd, Nat.reduceSub, Nat.reduceEqDiff, Nat.reduceLeDiff, reduceCtorEq]

end Go.V

namespace Go.V

def InN (ns : List Nd) (x : Int) : Prop := ∃ (i : Nat) (n : Nd), ns[i]? = some n ∧ n.id = x
theorem subF_step {t : Tr} (h : TreeOk t) {x : Int} (hx : InN t.nodes x) : subF t.nodes t.nodes.length x = x :: (kidsN t.nodes x).flatMap (subF t.nodes t.nodes.length) := by
  obtain ⟨i, n, hn, rfl⟩ := hx
  have hi := (List.getElem?_eq_some_iff.1 hn).1
  obtain ⟨N, hN⟩ : ∃ N, t.nodes.length = N + 1 := ⟨t.nodes.length - 1, by omega⟩
  have e1 : subF t.nodes t.nodes.length n.id = subF t.nodes (N + 1) n.id := by rw [hN]
  rw [e1, subF]
  congr 1
  refine flatMap_congr_mem fun y hy => ?_
  obtain ⟨j, m, hm, hp, rfl⟩ := mem_kidsN.1 hy
  have := h.kid hn hm hp
  exact subF_fuel h _ _ j m hm (by omega) (by omega)
theorem subF_mem {t : Tr} (h : TreeOk t) {x : Int} (hx : InN t.nodes x) : subF t.nodes t.nodes.length x ≠ [] := by
  rw [subF_step h hx]
  simp

theorem flat_len {t : Tr} (h : TreeOk t) : ∀ (l : List Int), (∀ x ∈ l, InN t.nodes x) → l.length ≤ (l.flatMap (subF t.nodes t.nodes.length)).length
  | [], _ => by simp
  | x :: l, hl => by
    have h1 := flat_len h l (fun y hy => hl y (by simp [hy]))
    have h2 := List.length_pos_iff.2 (subF_mem h (hl x (by simp)))
    rw [List.flatMap_cons, List.length_append, List.length_cons]
    omega
theorem kidsN_len (ns : List Nd) (x : Int) : (kidsN ns x).length ≤ ns.length := by
  rw [kidsN, List.length_map]
  exact List.length_filter_le _ _

set_option maxHeartbeats 2000000 in
theorem fsub_eq {t : Tr} (id : Int) (h : TreeOk t) : V 50 [t.vv, .p (.int .i64 id)] [] = some (.fresh 1 ((subT t id).map (.int .i64)), []) := by
  refine V_wp (vf := vf50) rfl ?_
  have hlen := h.len
  have hat := at_eq t id (by omega)
  by_cases hneg : idxOf t.nodes id < 0
  · have hfn := (idxOf_lt t.nodes id)
    have hemp : subT t id = [] := by
      rcases hfn with ⟨_, h2⟩ | ⟨k, _, h2, _⟩
      · simp [subT, findT, h2]
      · omega
    simp -implicitDefEqProofs (disch := omega) only [vf50, vb50, hat, hneg, hemp, go_sem, ↓reduceIte, Nat.reduceAdd, Nat.reduceSub, Nat.reduceEqDiff, Nat.reduceLeDiff, reduceCtorEq]
  · have hin : InN t.nodes id := by
      obtain ⟨k, m, _, hkm, hfm, hme⟩ := (idxOf_lt t.nodes id).resolve_left (fun h => hneg h.1)
      exact ⟨k, m, hkm, hme⟩
    have hsub : subT t id = subF t.nodes t.nodes.length id := by
      obtain ⟨k, m, _, hkm, hfm, hme⟩ := (idxOf_lt t.nodes id).resolve_left (fun h => hneg h.1)
      simp [subT, findT, (treeOk_iff t).2 h, hfm]
    have hsl := subT_len h id
    rw [hsub] at hsl
    rw [hsub]
    simp -implicitDefEqProofs (disch := omega) only [vf50, vb50, hat, hneg, go_sem, ↓reduceIte, Nat.reduceAdd, Nat.reduceSub, Nat.reduceEqDiff, Nat.reduceLeDiff, reduceCtorEq]
    obtain ⟨I, hI⟩ : ∃ I : Nat → St → Prop, ∀ k s, I k s ↔ ∃ (out : List Int) (nx : List Int) (ww : Nat) (d : Nat) (e : Nat), out.length = k ∧ (∀ x ∈ nx, InN t.nodes x) ∧ out ++ nx.flatMap (subF t.nodes t.nodes.length) = subF t.nodes t.nodes.length id ∧ ((d = 12 ∧ e = 0) ∨ (d = 34 ∧ e = 1)) ∧ s.pe 2 = .ptr (.slot 2 0) 0 0 ∧ s.pe 5 = .own (.slot 5 0) ww 0 out.length ∧ (∃ v, s.pe 6 = .own (.slot d e) v 0 (nx.length) ∧ s.h (.slot d e) = some (v, Ob.arr 1 (nx.map (.int .i64)))) ∧ s.h (.slot 2 0) = some (0, Ob.box [.p (nodesP t.nodes), .p (.int .i64 t.next)]) ∧ s.h (.slot 5 0) = some (ww, Ob.arr 1 (out.map (.int .i64))) := ⟨_, fun _ _ => Iff.rfl⟩
    refine wp_count (t.nodes.length) I ?_ ?_
    · refine (hI _ _).2 ⟨[], [id], 0, 12, 0, ?_, ?_, ?_, ?_, ?_, ?_, ?_, ?_, ?_⟩
      · exact rfl
      · exact by simpa using hin
      · exact by simp
      · exact Or.inl ⟨rfl, rfl⟩
      all_goals first | with_reducible rfl | (simp -implicitDefEqProofs (disch := omega) only [List.map_append, go_sem, ↓reduceIte, Nat.reduceAdd, Nat.reduceSub, Nat.reduceEqDiff, Nat.reduceLeDiff, reduceCtorEq]; first | done | rfl | (simp; done) | (congr 2; omega) | (congr 1; omega) | (congr 3; omega) | (simp; omega) | (congr 2; simp; omega) | (refine ⟨_, rfl, ?_⟩; first | rfl | (simp -implicitDefEqProofs (disch := omega) only [List.map_append, go_sem, ↓reduceIte, Nat.reduceAdd, Nat.reduceSub, Nat.reduceEqDiff, Nat.reduceLeDiff, reduceCtorEq]; done))) | rfl | omega | (congr 2; omega)
    intro k s hk hIk
    obtain ⟨out, nx, ww, d, e, hol, hall, hall', hde, h2, h5, ⟨v6, h6, hhd_e⟩, hh2_0, hh5_0⟩ := (hI _ _).1 hIk
    clear hIk
    rcases hde with ⟨rfl, rfl⟩ | ⟨rfl, rfl⟩
    · rcases nx with - | ⟨x, rest⟩
      · rw [List.flatMap_nil, List.append_nil] at hall'
        simp -implicitDefEqProofs (disch := omega) only [h2, h5, h6, hhd_e, hh2_0, hh5_0, zero_lt_zero, go_sem, ↓reduceIte, Nat.reduceAdd, Nat.reduceSub, Nat.reduceEqDiff, Nat.reduceLeDiff, reduceCtorEq]
        rw [hall']
      have hpos : (0 : Int) < ((rest.length + 1 : Nat) : Int) := by omega
      by_cases hlt : out.length < t.nodes.length
      · have hx := hall x (by simp)
        have hkids := fkids_eq t x (by omega)
        have hkl := kidsN_len t.nodes x
        have hrl : rest.length ≤ 64 := by
          have h1 := congrArg List.length hall'
          have h2 := flat_len h (x :: rest) hall
          rw [List.length_append] at h1
          rw [List.length_cons] at h2
          omega
        simp -implicitDefEqProofs (disch := omega) only [h2, h5, h6, hhd_e, hh2_0, hh5_0, hlt, hkids, hpos, Int.toNat_zero, List.getElem?_cons_zero, Int.toNat_one, List.drop_succ_cons, List.drop_zero, List.length_map, Nat.add_sub_cancel, Nat.min_self, go_sem, ↓reduceIte, Nat.reduceAdd, Nat.reduceSub, Nat.reduceEqDiff, Nat.reduceLeDiff, reduceCtorEq]
        have hnx : ∀ y ∈ kidsN t.nodes x ++ rest, InN t.nodes y := by
          intro y hy
          rcases List.mem_append.1 hy with hy | hy
          · obtain ⟨j, m, hm, _, hme⟩ := mem_kidsN.1 hy
            exact ⟨j, m, hm, hme⟩
          · exact hall y (by simp [hy])
        have hnx' : (out ++ [x]) ++ (kidsN t.nodes x ++ rest).flatMap (subF t.nodes t.nodes.length) = subF t.nodes t.nodes.length id := by
          rw [← hall', List.flatMap_cons, subF_step h hx, List.flatMap_append]
          simp
        try refine And.intro (by omega) ?_
        refine (hI _ _).2 ⟨out ++ [x], kidsN t.nodes x ++ rest, ww + 1, 34, 1, ?_, ?_, ?_, ?_, ?_, ?_, ?_, ?_, ?_⟩
        · exact by simp [hol]
        · exact hnx
        · exact hnx'
        · exact Or.inr ⟨rfl, rfl⟩
        all_goals first | with_reducible rfl | (simp -implicitDefEqProofs (disch := omega) only [h2, h5, h6, hhd_e, hh2_0, hh5_0, List.map_append, go_sem, ↓reduceIte, Nat.reduceAdd, Nat.reduceSub, Nat.reduceEqDiff, Nat.reduceLeDiff, reduceCtorEq]; first | done | rfl | (simp; done) | (congr 2; omega) | (congr 1; omega) | (congr 3; omega) | (simp; omega) | (congr 2; simp; omega) | (refine ⟨_, rfl, ?_⟩; first | rfl | (simp -implicitDefEqProofs (disch := omega) only [h2, h5, h6, hhd_e, hh2_0, hh5_0, List.map_append, go_sem, ↓reduceIte, Nat.reduceAdd, Nat.reduceSub, Nat.reduceEqDiff, Nat.reduceLeDiff, reduceCtorEq]; done))) | rfl | omega | (congr 2; omega)
      · have hz : (x :: rest).flatMap (subF t.nodes t.nodes.length) = [] := by
          have h1 := congrArg List.length hall'
          rw [List.length_append] at h1
          exact List.eq_nil_of_length_eq_zero (by omega)
        rw [hz, List.append_nil] at hall'
        simp -implicitDefEqProofs (disch := omega) only [h2, h5, h6, hhd_e, hh2_0, hh5_0, hlt, hpos, go_sem, ↓reduceIte, Nat.reduceAdd, Nat.reduceSub, Nat.reduceEqDiff, Nat.reduceLeDiff, reduceCtorEq]
        rw [hall']
    · rcases nx with - | ⟨x, rest⟩
      · rw [List.flatMap_nil, List.append_nil] at hall'
        simp -implicitDefEqProofs (disch := omega) only [h2, h5, h6, hhd_e, hh2_0, hh5_0, zero_lt_zero, go_sem, ↓reduceIte, Nat.reduceAdd, Nat.reduceSub, Nat.reduceEqDiff, Nat.reduceLeDiff, reduceCtorEq]
        rw [hall']
      have hpos : (0 : Int) < ((rest.length + 1 : Nat) : Int) := by omega
      by_cases hlt : out.length < t.nodes.length
      · have hx := hall x (by simp)
        have hkids := fkids_eq t x (by omega)
        have hkl := kidsN_len t.nodes x
        have hrl : rest.length ≤ 64 := by
          have h1 := congrArg List.length hall'
          have h2 := flat_len h (x :: rest) hall
          rw [List.length_append] at h1
          rw [List.length_cons] at h2
          omega
        simp -implicitDefEqProofs (disch := omega) only [h2, h5, h6, hhd_e, hh2_0, hh5_0, hlt, hkids, hpos, Int.toNat_zero, List.getElem?_cons_zero, Int.toNat_one, List.drop_succ_cons, List.drop_zero, List.length_map, Nat.add_sub_cancel, Nat.min_self, go_sem, ↓reduceIte, Nat.reduceAdd, Nat.reduceSub, Nat.reduceEqDiff, Nat.reduceLeDiff, reduceCtorEq]
        have hnx : ∀ y ∈ kidsN t.nodes x ++ rest, InN t.nodes y := by
          intro y hy
          rcases List.mem_append.1 hy with hy | hy
          · obtain ⟨j, m, hm, _, hme⟩ := mem_kidsN.1 hy
            exact ⟨j, m, hm, hme⟩
          · exact hall y (by simp [hy])
        have hnx' : (out ++ [x]) ++ (kidsN t.nodes x ++ rest).flatMap (subF t.nodes t.nodes.length) = subF t.nodes t.nodes.length id := by
          rw [← hall', List.flatMap_cons, subF_step h hx, List.flatMap_append]
          simp
        try refine And.intro (by omega) ?_
        refine (hI _ _).2 ⟨out ++ [x], kidsN t.nodes x ++ rest, ww + 1, 34, 1, ?_, ?_, ?_, ?_, ?_, ?_, ?_, ?_, ?_⟩
        · exact by simp [hol]
        · exact hnx
        · exact hnx'
        · exact Or.inr ⟨rfl, rfl⟩
        all_goals first | with_reducible rfl | (simp -implicitDefEqProofs (disch := omega) only [h2, h5, h6, hhd_e, hh2_0, hh5_0, List.map_append, go_sem, ↓reduceIte, Nat.reduceAdd, Nat.reduceSub, Nat.reduceEqDiff, Nat.reduceLeDiff, reduceCtorEq]; first | done | rfl | (simp; done) | (congr 2; omega) | (congr 1; omega) | (congr 3; omega) | (simp; omega) | (congr 2; simp; omega) | (refine ⟨_, rfl, ?_⟩; first | rfl | (simp -implicitDefEqProofs (disch := omega) only [h2, h5, h6, hhd_e, hh2_0, hh5_0, List.map_append, go_sem, ↓reduceIte, Nat.reduceAdd, Nat.reduceSub, Nat.reduceEqDiff, Nat.reduceLeDiff, reduceCtorEq]; done))) | rfl | omega | (congr 2; omega)
      · have hz : (x :: rest).flatMap (subF t.nodes t.nodes.length) = [] := by
          have h1 := congrArg List.length hall'
          rw [List.length_append] at h1
          exact List.eq_nil_of_length_eq_zero (by omega)
        rw [hz, List.append_nil] at hall'
        simp -implicitDefEqProofs (disch := omega) only [h2, h5, h6, hhd_e, hh2_0, hh5_0, hlt, hpos, go_sem, ↓reduceIte, Nat.reduceAdd, Nat.reduceSub, Nat.reduceEqDiff, Nat.reduceLeDiff, reduceCtorEq]
        rw [hall']

end Go.V

namespace Go.V

def pagesB (n : Int) : Bool := decide (0 ≤ n) && decide (n ≤ 16777216)
theorem pages_eq (n : Int) : V 37 [.p (.int .i64 n)] [] = some (.p (.bool (pagesB n)), []) := by
  refine V_wp (vf := vf37) rfl ?_
  by_cases h0 : 0 ≤ n
  · by_cases h1 : n ≤ 16777216
    · simp -implicitDefEqProofs (disch := omega) only [vf37, vb37, h0, h1, pagesB, decide_true, Bool.and_self, ge_iff_le, go_sem, ↓reduceIte, Nat.reduceAdd, Nat.reduceSub, Nat.reduceEqDiff, Nat.reduceLeDiff, reduceCtorEq]
    · simp -implicitDefEqProofs (disch := omega) only [vf37, vb37, h0, h1, pagesB, decide_true, decide_false, Bool.and_false, ge_iff_le, go_sem, ↓reduceIte, Nat.reduceAdd, Nat.reduceSub, Nat.reduceEqDiff, Nat.reduceLeDiff, reduceCtorEq]
  · simp -implicitDefEqProofs (disch := omega) only [vf37, vb37, h0, pagesB, decide_false, Bool.false_and, ge_iff_le, go_sem, ↓reduceIte, Nat.reduceAdd, Nat.reduceSub, Nat.reduceEqDiff, Nat.reduceLeDiff, reduceCtorEq]

def msort (l : List Int) : List Int := l.mergeSort fun x y => decide (x ≤ y)
theorem mapO_unI : ∀ (l : List Int), mapO unI (l.map (.int .i64)) = some l
  | [] => rfl
  | x :: l => by
    have := mapO_unI l
    rw [List.map_cons]
    show ob (some x) (fun y => ob (mapO unI (List.map (PV.int .i64) l)) fun ys => some (y :: ys)) = _
    rw [this, ob_some, ob_some]
theorem sort_eq (l : List Int) (hl : l.length < 1000000) : V 51 [.own (.arg 0 0) 0 0 l.length] [.arr 1 (l.map (.int .i64))] = some (.tup [], [.arr 1 ((msort l).map (.int .i64))]) := by
  refine V_x ?_
  have h1 : l.length = (l.map (PV.int .i64)).length := by simp
  have h2 : l.length < 4611686018427387904 := by omega
  simp only [XS, if_pos, XI, gd, if_pos h1, if_pos h2, mapO_unI, ob_some, msort]
theorem msort_length (l : List Int) : (msort l).length = l.length := List.length_mergeSort l

def partOk (x : Pt) (g : Int) : Bool := decide (x.group = g) && pagesB x.usage && pagesB x.protect && pagesB x.own && (decide (0 ≤ x.room) && decide (x.room ≤ 4611686018427387904))
def partsOk : List Pt → List Int → Bool
  | [], [] => true
  | x :: l, g :: gs => partOk x g && partsOk l gs
  | _, _ => false
def validP (t : Tr) (l : List Pt) (root : Int) : Bool := treeOk t && (!(subT t root).isEmpty && partsOk l (msort (subT t root)))

theorem partsOk_length : ∀ (l : List Pt) (g : List Int), partsOk l g = true → l.length = g.length
  | [], [], _ => rfl
  | x :: l, y :: g, h => by
    simp only [partsOk, Bool.and_eq_true] at h
    simp [partsOk_length l g h.2]
  | [], _ :: _, h => by simp [partsOk] at h
  | _ :: _, [], h => by simp [partsOk] at h

set_option maxHeartbeats 2000000 in
theorem pvalid_parts (t : Tr) (l : List Pt) (root : Int) (hf : t.Fits) (hn : t.nodes.length < 1000000) (hl : l.length < 1000000) : V 31 [t.vv, .p (ptsP l), .p (.int .i64 root)] [] = some (.p (.bool (validP t l root)), []) := by
  refine V_wp (vf := vf31) rfl ?_
  have htc := tcheck_eq t hf hn
  unfold validP
  by_cases ht : treeOk t = true
  · have hT := (treeOk_iff t).1 ht
    have hsub := fsub_eq root hT
    have hsl := subT_len hT root
    have hlen := hT.len
    generalize subT t root = S at hsub hsl
    have hsort := sort_eq S (by omega)
    have hml := msort_length S
    rw [ht] at htc ⊢
    generalize hG : msort S = G at hsort hml
    rw [Bool.true_and]
    rcases S with - | ⟨s0, S'⟩
    · simp only [List.map_nil, List.length_nil] at hsub hsort hml
      have hGn : G = [] := List.eq_nil_of_length_eq_zero hml
      subst hGn
      have hz : ((0 : Nat) : Int) = 0 := rfl
      simp -implicitDefEqProofs (disch := omega) only [vf31, vb31, htc, hsub, hsort, List.isEmpty_nil, Bool.not_true, Bool.false_and, hz, go_sem, ↓reduceIte, Nat.reduceAdd, Nat.reduceSub, Nat.reduceEqDiff, Nat.reduceLeDiff, reduceCtorEq]
    · have hne : (!(s0 :: S').isEmpty) = true := rfl
      rw [hne, Bool.true_and]
      generalize s0 :: S' = S at hsub hsl hsort hml hne
      have hnz : ¬ ((S.length : Nat) : Int) = 0 := by
        intro h
        have : S = [] := List.eq_nil_of_length_eq_zero (by omega)
        subst this
        simp at hne
      by_cases hlg : l.length = S.length
      · simp -implicitDefEqProofs (disch := omega) only [vf31, vb31, htc, hsub, hsort, hnz, hlg, go_sem, ↓reduceIte, Nat.reduceAdd, Nat.reduceSub, Nat.reduceEqDiff, Nat.reduceLeDiff, reduceCtorEq]
        obtain ⟨I, hI⟩ : ∃ I : Nat → St → Prop, ∀ k s, I k s ↔ partsOk l G = partsOk (l.drop k) (G.drop k) ∧ s.pe 7 = .own (.slot 15 1) 0 0 S.length ∧ s.pe 28 = .p (ptsP l) ∧ s.pe 29 = .p (.int .i64 ↑S.length) ∧ s.pe 30 = .p (.int .i64 k) ∧ s.h (.slot 15 1) = some (0, Ob.arr 1 (List.map (.int .i64) G)) := ⟨_, fun _ _ => Iff.rfl⟩
        refine wp_count (S.length) I ?_ ?_
        · refine (hI _ _).2 ⟨?_, ?_, ?_, ?_, ?_, ?_⟩
          · exact rfl
          all_goals first | with_reducible rfl | (simp -implicitDefEqProofs (disch := omega) only [List.map_append, go_sem, ↓reduceIte, Nat.reduceAdd, Nat.reduceSub, Nat.reduceEqDiff, Nat.reduceLeDiff, reduceCtorEq]; first | done | rfl | (simp; done) | (congr 2; omega) | (congr 1; omega) | (congr 3; omega) | (simp; omega) | (congr 2; simp; omega) | (refine ⟨_, rfl, ?_⟩; first | rfl | (simp -implicitDefEqProofs (disch := omega) only [List.map_append, go_sem, ↓reduceIte, Nat.reduceAdd, Nat.reduceSub, Nat.reduceEqDiff, Nat.reduceLeDiff, reduceCtorEq]; done))) | rfl | omega | (congr 2; omega)
        intro k s hk hIk
        obtain ⟨hp, h7, h28, h29, h30, hh15_1⟩ := (hI _ _).1 hIk
        clear hIk
        simp -implicitDefEqProofs (disch := omega) only [h7, h28, h29, h30, hh15_1, go_sem, ↓reduceIte, Nat.reduceAdd, Nat.reduceSub, Nat.reduceEqDiff, Nat.reduceLeDiff, reduceCtorEq]
        refine wp_if_d (fun hlt => ?_) (fun hge => ?_)
        · have hlt' : k < l.length := by omega
          have hm : l[k]? = some l[k] := List.getElem?_eq_getElem hlt'
          have hg : G[k]? = some G[k] := List.getElem?_eq_getElem (by omega)
          have hdr : l.drop k = l[k] :: l.drop (k + 1) := List.drop_eq_getElem_cons hlt'
          have hdg : G.drop k = G[k] :: G.drop (k + 1) := List.drop_eq_getElem_cons (by omega)
          generalize l[k] = x at hm hdr
          generalize G[k] = y at hg hdg
          rw [hdr, hdg, partsOk] at hp
          by_cases hc1 : x.group = y
          · have hq1 := pages_eq x.usage
            by_cases hc2 : pagesB x.usage = true
            · rw [hc2] at hq1
              have hq2 := pages_eq x.protect
              by_cases hc3 : pagesB x.protect = true
              · rw [hc3] at hq2
                have hq3 := pages_eq x.own
                by_cases hc4 : pagesB x.own = true
                · rw [hc4] at hq3
                  by_cases hc5 : 0 ≤ x.room
                  · have hc5' : ¬ x.room < 0 := by omega
                    by_cases hc6 : x.room ≤ 4611686018427387904
                    · have hc6' : ¬ 4611686018427387904 < x.room := by omega
                      have hp' : partsOk l G = partsOk (l.drop (k + 1)) (G.drop (k + 1)) := by
                        rw [hp]
                        simp [partOk, hc1, hc2, hc3, hc4, hc5, hc6]
                      simp -implicitDefEqProofs (disch := omega) only [h7, h28, h29, h30, hh15_1, hlt', hlt, hm, hg, hc1, hq1, hq2, hq3, hc5, hc6, Bool.not_true, Bool.not_false, hc5', hc6', go_sem, ↓reduceIte, Nat.reduceAdd, Nat.reduceSub, Nat.reduceEqDiff, Nat.reduceLeDiff, reduceCtorEq]
                      try refine And.intro (by omega) ?_
                      refine (hI _ _).2 ⟨?_, ?_, ?_, ?_, ?_, ?_⟩
                      · exact hp'
                      all_goals first | with_reducible rfl | (simp -implicitDefEqProofs (disch := omega) only [h7, h28, h29, h30, hh15_1, List.map_append, go_sem, ↓reduceIte, Nat.reduceAdd, Nat.reduceSub, Nat.reduceEqDiff, Nat.reduceLeDiff, reduceCtorEq]; first | done | rfl | (simp; done) | (congr 2; omega) | (congr 1; omega) | (congr 3; omega) | (simp; omega) | (congr 2; simp; omega) | (refine ⟨_, rfl, ?_⟩; first | rfl | (simp -implicitDefEqProofs (disch := omega) only [h7, h28, h29, h30, hh15_1, List.map_append, go_sem, ↓reduceIte, Nat.reduceAdd, Nat.reduceSub, Nat.reduceEqDiff, Nat.reduceLeDiff, reduceCtorEq]; done))) | rfl | omega | (congr 2; omega)
                    · have hc6' : 4611686018427387904 < x.room := by omega
                      have hpf : partsOk l G = false := by
                        rw [hp]
                        simp [partOk, hc6]
                      simp -implicitDefEqProofs (disch := omega) only [h7, h28, h29, h30, hh15_1, hlt', hlt, hm, hg, hc1, hq1, hq2, hq3, hc5, hc5', hc6', Bool.not_true, Bool.not_false, go_sem, ↓reduceIte, Nat.reduceAdd, Nat.reduceSub, Nat.reduceEqDiff, Nat.reduceLeDiff, reduceCtorEq]
                      rw [hpf]
                  · have hc5' : x.room < 0 := by omega
                    have hpf : partsOk l G = false := by
                      rw [hp]
                      simp [partOk, hc5]
                    simp -implicitDefEqProofs (disch := omega) only [h7, h28, h29, h30, hh15_1, hlt', hlt, hm, hg, hc1, hq1, hq2, hq3, hc5', Bool.not_true, Bool.not_false, go_sem, ↓reduceIte, Nat.reduceAdd, Nat.reduceSub, Nat.reduceEqDiff, Nat.reduceLeDiff, reduceCtorEq]
                    rw [hpf]
                · have hc4' : pagesB x.own = false := by simpa using hc4
                  rw [hc4'] at hq3
                  have hpf : partsOk l G = false := by
                    rw [hp]
                    simp [partOk, hc4']
                  simp -implicitDefEqProofs (disch := omega) only [h7, h28, h29, h30, hh15_1, hlt', hlt, hm, hg, hc1, hq1, hq2, hq3, Bool.not_true, Bool.not_false, go_sem, ↓reduceIte, Nat.reduceAdd, Nat.reduceSub, Nat.reduceEqDiff, Nat.reduceLeDiff, reduceCtorEq]
                  rw [hpf]
              · have hc3' : pagesB x.protect = false := by simpa using hc3
                rw [hc3'] at hq2
                have hpf : partsOk l G = false := by
                  rw [hp]
                  simp [partOk, hc3']
                simp -implicitDefEqProofs (disch := omega) only [h7, h28, h29, h30, hh15_1, hlt', hlt, hm, hg, hc1, hq1, hq2, Bool.not_true, Bool.not_false, go_sem, ↓reduceIte, Nat.reduceAdd, Nat.reduceSub, Nat.reduceEqDiff, Nat.reduceLeDiff, reduceCtorEq]
                rw [hpf]
            · have hc2' : pagesB x.usage = false := by simpa using hc2
              rw [hc2'] at hq1
              have hpf : partsOk l G = false := by
                rw [hp]
                simp [partOk, hc2']
              simp -implicitDefEqProofs (disch := omega) only [h7, h28, h29, h30, hh15_1, hlt', hlt, hm, hg, hc1, hq1, Bool.not_true, Bool.not_false, go_sem, ↓reduceIte, Nat.reduceAdd, Nat.reduceSub, Nat.reduceEqDiff, Nat.reduceLeDiff, reduceCtorEq]
              rw [hpf]
          · have hpf : partsOk l G = false := by
              rw [hp]
              simp [partOk, hc1]
            simp -implicitDefEqProofs (disch := omega) only [h7, h28, h29, h30, hh15_1, hlt', hlt, hm, hg, hc1, Bool.not_true, Bool.not_false, go_sem, ↓reduceIte, Nat.reduceAdd, Nat.reduceSub, Nat.reduceEqDiff, Nat.reduceLeDiff, reduceCtorEq]
            rw [hpf]
        · rw [List.drop_of_length_le (by omega), List.drop_of_length_le (by omega)] at hp
          rw [hp, partsOk]
          simp -implicitDefEqProofs (disch := omega) only [h7, h28, h29, h30, hh15_1, hge, go_sem, ↓reduceIte, Nat.reduceAdd, Nat.reduceSub, Nat.reduceEqDiff, Nat.reduceLeDiff, reduceCtorEq]
      · have hpf : partsOk l G = false := by
          cases h : partsOk l G
          · rfl
          · exact absurd (partsOk_length _ _ h) (by omega)
        have hlg' : ¬ ((l.length : Nat) : Int) = ((S.length : Nat) : Int) := by omega
        simp -implicitDefEqProofs (disch := omega) only [vf31, vb31, htc, hsub, hsort, hnz, hlg', hpf, go_sem, ↓reduceIte, Nat.reduceAdd, Nat.reduceSub, Nat.reduceEqDiff, Nat.reduceLeDiff, reduceCtorEq]
  · have ht' : treeOk t = false := by simpa using ht
    rw [ht'] at htc ⊢
    rw [Bool.false_and]
    simp -implicitDefEqProofs (disch := omega) only [vf31, vb31, htc, go_sem, ↓reduceIte, Nat.reduceAdd, Nat.reduceSub, Nat.reduceEqDiff, Nat.reduceLeDiff, reduceCtorEq]

end Go.V

namespace Go.V

abbrev keysP (l : List Pt) : List MKey := l.map fun x => MKey.int x.group
abbrev mapP (l : List Pt) : PV := .map (.int .i64) (keysP l) (l.map Pt.pv)
theorem mput_new (k : MKey) (v : PV) : ∀ (ks : List MKey) (vs : List PV), ks.length = vs.length → k ∉ ks → mput ks vs k v = (ks ++ [k], vs ++ [v])
  | [], [], _, _ => rfl
  | a :: ks, b :: vs, hl, hk => by
    have := mput_new k v ks vs (by simpa using hl) (fun h => hk (by simp [h]))
    have hne : ¬ k = a := fun h => hk (by simp [h])
    simp [mput, hne, this]
  | [], _ :: _, h, _ => by simp at h
  | _ :: _, [], h, _ => by simp at h

set_option maxHeartbeats 2000000 in
theorem mparts_eq (l : List Pt) (hl : l.length < 1000000) (hnd : (l.map (·.group)).Nodup) : V 33 [.p (ptsP l)] [] = some (.p (mapP l), []) := by
  refine V_wp (vf := vf33) rfl ?_
  simp -implicitDefEqProofs (disch := omega) only [vf33, vb33, go_sem, ↓reduceIte, Nat.reduceAdd, Nat.reduceSub, Nat.reduceEqDiff, Nat.reduceLeDiff, reduceCtorEq]
  obtain ⟨I, hI⟩ : ∃ I : Nat → St → Prop, ∀ k s, I k s ↔ s.pe 3 = .mref (.slot 6 0) 0 ∧ s.pe 7 = .p (ptsP l) ∧ s.pe 8 = .p (.int .i64 ↑l.length) ∧ s.pe 9 = .p (.int .i64 k) ∧ s.h (.slot 6 0) = some (0, Ob.map (KT.int IntKind.i64) (keysP (l.take k)) ((l.take k).map Pt.pv)) := ⟨_, fun _ _ => Iff.rfl⟩
  refine wp_count (l.length) I ?_ ?_
  · refine (hI _ _).2 ⟨?_, ?_, ?_, ?_, ?_⟩
    all_goals first | with_reducible rfl | (simp -implicitDefEqProofs (disch := omega) only [List.map_append, go_sem, ↓reduceIte, Nat.reduceAdd, Nat.reduceSub, Nat.reduceEqDiff, Nat.reduceLeDiff, reduceCtorEq]; first | done | rfl | (simp; done) | (congr 2; omega) | (congr 1; omega) | (congr 3; omega) | (simp; omega) | (congr 2; simp; omega) | (refine ⟨_, rfl, ?_⟩; first | rfl | (simp -implicitDefEqProofs (disch := omega) only [List.map_append, go_sem, ↓reduceIte, Nat.reduceAdd, Nat.reduceSub, Nat.reduceEqDiff, Nat.reduceLeDiff, reduceCtorEq]; done))) | rfl | omega | (congr 2; omega)
  intro k s hk hIk
  obtain ⟨h3, h7, h8, h9, hh6_0⟩ := (hI _ _).1 hIk
  clear hIk
  simp -implicitDefEqProofs (disch := omega) only [h3, h7, h8, h9, hh6_0, go_sem, ↓reduceIte, Nat.reduceAdd, Nat.reduceSub, Nat.reduceEqDiff, Nat.reduceLeDiff, reduceCtorEq]
  refine wp_if_d (fun hlt => ?_) (fun hge => ?_)
  · have hm : l[k]? = some l[k] := List.getElem?_eq_getElem hlt
    have htk := take_snoc hm
    have hnew : MKey.int l[k].group ∉ keysP (l.take k) := by
      intro h
      obtain ⟨y, hy, he⟩ := List.mem_map.1 h
      have he' : y.group = l[k].group := by simpa using he
      obtain ⟨i, hi, rfl⟩ := List.mem_take_iff_getElem.1 hy
      have h1 : i < k := by
        have := (Nat.lt_min.1 hi).1
        exact this
      have hnd' := List.pairwise_iff_getElem.1 hnd i k (by simp; omega) (by simpa using hlt) h1
      simp only [List.getElem_map] at hnd'
      exact hnd' he'
    generalize l[k] = x at hm htk hnew
    have hput := mput_new (MKey.int x.group) x.pv (keysP (l.take k)) ((l.take k).map Pt.pv) (by simp) hnew
    have e1 : keysP (l.take (k + 1)) = keysP (l.take k) ++ [MKey.int x.group] := by rw [htk]; simp
    have e2 : (l.take (k + 1)).map Pt.pv = (l.take k).map Pt.pv ++ [x.pv] := by rw [htk]; simp
    simp only [Pt.pv] at hput e2
    simp -implicitDefEqProofs (disch := omega) only [h3, h7, h8, h9, hh6_0, hlt, hm, hput, go_sem, ↓reduceIte, Nat.reduceAdd, Nat.reduceSub, Nat.reduceEqDiff, Nat.reduceLeDiff, reduceCtorEq]
    try refine And.intro (by omega) ?_
    refine (hI _ _).2 ⟨?_, ?_, ?_, ?_, ?_⟩
    all_goals first | with_reducible rfl | (simp -implicitDefEqProofs (disch := omega) only [h3, h7, h8, h9, hh6_0, e1, e2, List.map_append, go_sem, ↓reduceIte, Nat.reduceAdd, Nat.reduceSub, Nat.reduceEqDiff, Nat.reduceLeDiff, reduceCtorEq]; first | done | rfl | (simp; done) | (congr 2; omega) | (congr 1; omega) | (congr 3; omega) | (simp; omega) | (congr 2; simp; omega) | (refine ⟨_, rfl, ?_⟩; first | rfl | (simp -implicitDefEqProofs (disch := omega) only [h3, h7, h8, h9, hh6_0, e1, e2, List.map_append, go_sem, ↓reduceIte, Nat.reduceAdd, Nat.reduceSub, Nat.reduceEqDiff, Nat.reduceLeDiff, reduceCtorEq]; done))) | rfl | omega | (congr 2; omega)
  · simp -implicitDefEqProofs (disch := omega) only [h3, h7, h8, h9, hh6_0, hge, go_sem, ↓reduceIte, Nat.reduceAdd, Nat.reduceSub, Nat.reduceEqDiff, Nat.reduceLeDiff, reduceCtorEq]
    rw [List.take_of_length_le (by omega)]
end Go.V

namespace Go.V

def zeroPt : Pt := ⟨0, 0, 0, 0, 0⟩
def partOf (l : List Pt) (g : Int) : Pt := (l.find? fun x => decide (x.group = g)).getD zeroPt
structure PtOk (x : Pt) : Prop where
  u0 : 0 ≤ x.usage
  u1 : x.usage ≤ 16777216
  p0 : 0 ≤ x.protect
  p1 : x.protect ≤ 16777216
  o0 : 0 ≤ x.own
  o1 : x.own ≤ 16777216
  r0 : 0 ≤ x.room
  r1 : x.room ≤ 4611686018427387904
theorem zeroPt_ok : PtOk zeroPt := ⟨by decide, by decide, by decide, by decide, by decide, by decide, by decide, by decide⟩
theorem partOf_ok {l : List Pt} (h : ∀ x ∈ l, PtOk x) (g : Int) : PtOk (partOf l g) := by
  unfold partOf
  cases he : l.find? fun x => decide (x.group = g) with
  | none => exact zeroPt_ok
  | some x => exact h x (List.mem_of_find?_eq_some he)
theorem mget_parts (g : Int) : ∀ (l : List Pt), mget (keysP l) (l.map Pt.pv) (.int g) = (l.find? fun x => decide (x.group = g)).map Pt.pv
  | [] => rfl
  | x :: l => by
    have := mget_parts g l
    by_cases he : x.group = g
    · simp [mget, List.find?_cons, he]
    · have he' : ¬ g = x.group := fun h => he h.symm
      simp only [List.map_cons, mget, List.find?_cons, he, decide_false, MKey.int.injEq, he', if_false]
      exact this
theorem getD_parts (g : Int) (l : List Pt) : ((l.find? fun x => decide (x.group = g)).map Pt.pv).getD (.agg [.int .i64 0, .int .i64 0, .int .i64 0, .int .i64 0, .int .i64 0]) = (partOf l g).pv := by
  unfold partOf
  cases l.find? fun x => decide (x.group = g) <;> rfl

/-- The capacity of a group. -/
def capN (ns : List Nd) (l : List Pt) : Nat → Int → Int
  | 0, _ => 0
  | k + 1, g => min (min (max 0 ((partOf l g).usage - (partOf l g).protect)) (partOf l g).room) ((partOf l g).own + sumI ((kidsN ns g).map (capN ns l k)))
theorem capN_bound {ns : List Nd} {l : List Pt} (h : ∀ x ∈ l, PtOk x) : ∀ (k : Nat) (g : Int), 0 ≤ capN ns l k g ∧ capN ns l k g ≤ 16777216
  | 0, _ => by simp [capN]
  | k + 1, g => by
    have h1 := partOf_ok h g
    have h2 := sumI_nonneg ((kidsN ns g).map (capN ns l k)) (by
      intro x hx
      obtain ⟨y, _, rfl⟩ := List.mem_map.1 hx
      exact (capN_bound h k y).1)
    have := h1.u0; have := h1.u1; have := h1.p0; have := h1.o0; have := h1.r0
    simp only [capN]
    omega

set_option maxHeartbeats 2000000 in
theorem mcap_eq0 {t : Tr} (h : TreeOk t) {l : List Pt} (hp : ∀ x ∈ l, PtOk x) : ∀ (k i : Nat) (n : Nd), t.nodes[i]? = some n → t.nodes.length ≤ i + k → V 32 [t.vv, .p (mapP l), .p (.int .i64 n.id)] [] = some (.p (.int .i64 (capN t.nodes l k n.id)), []) := by
  intro k
  induction k with
  | zero => intro i n hn hk; have := (List.getElem?_eq_some_iff.1 hn).1; omega
  | succ k ih =>
    intro i n hn hk
    have hlen := h.len
    refine V_wp (vf := vf32) rfl ?_
    have hkd := fkids_eq t n.id (by omega)
    have hkl := kidsN_len t.nodes n.id
    have hkm : ∀ c ∈ kidsN t.nodes n.id, V 32 [t.vv, .p (mapP l), .p (.int .i64 c)] [] = some (.p (.int .i64 (capN t.nodes l k c)), []) := by
      intro c hc
      obtain ⟨j, m, hj, hp, rfl⟩ := mem_kidsN.1 hc
      have hij := h.kid hn hj hp
      exact ih j m hj (by omega)
    rw [show capN t.nodes l (k + 1) n.id = min (min (max 0 ((partOf l n.id).usage - (partOf l n.id).protect)) (partOf l n.id).room) ((partOf l n.id).own + sumI ((kidsN t.nodes n.id).map (capN t.nodes l k))) from rfl]
    have hx := partOf_ok hp n.id
    have hu0 := hx.u0; have hu1 := hx.u1; have hp0 := hx.p0; have hp1 := hx.p1; have ho0 := hx.o0; have ho1 := hx.o1; have hr0 := hx.r0; have hr1 := hx.r1
    clear hx
    have hget := mget_parts n.id l
    have hgd := getD_parts n.id l
    generalize partOf l n.id = x at hgd hu0 hu1 hp0 hp1 ho0 ho1 hr0 hr1
    generalize kidsN t.nodes n.id = ks at hkd hkl hkm
    simp -implicitDefEqProofs (disch := omega) only [vf32, vb32, hkd, hget, hgd, go_sem, ↓reduceIte, Nat.reduceAdd, Nat.reduceSub, Nat.reduceEqDiff, Nat.reduceLeDiff, reduceCtorEq]
    obtain ⟨J, hJ⟩ : ∃ I : Nat → St → Prop, ∀ j s, I j s ↔ ∃ (s0 : Int), s0 = x.own + sumI ((ks.take j).map (capN t.nodes l k)) ∧ 0 ≤ s0 ∧ s0 ≤ 16777216 * (j + 1) ∧ s.pe 1 = .p (mapP l) ∧ s.pe 3 = .ptr (.slot 3 0) 0 0 ∧ s.pe 7 = .ptr (.slot 7 0) 0 0 ∧ s.pe 8 = .p (.int .i64 s0) ∧ s.pe 18 = .own (.slot 18 1) 0 0 ks.length ∧ s.pe 19 = .p (.int .i64 ↑ks.length) ∧ s.pe 20 = .p (.int .i64 j) ∧ s.h (.slot 3 0) = some (0, Ob.box [.p (nodesP t.nodes), .p (.int .i64 t.next)]) ∧ s.h (.slot 7 0) = some (0, Ob.box [.p (.int .i64 x.group), .p (.int .i64 x.usage), .p (.int .i64 x.protect), .p (.int .i64 x.own), .p (.int .i64 x.room)]) ∧ s.h (.slot 18 1) = some (0, Ob.arr 1 (List.map (.int .i64) ks)) := ⟨_, fun _ _ => Iff.rfl⟩
    refine wp_count (ks.length) J ?_ ?_
    · refine (hJ _ _).2 ⟨x.own, ?_, ?_, ?_, ?_, ?_, ?_, ?_, ?_, ?_, ?_, ?_, ?_, ?_⟩
      · exact by simp [sumI]
      · exact by first | rfl | omega | (simp; done) | (simp; omega)
      · exact by first | rfl | omega | (simp; done) | (simp; omega)
      all_goals first | with_reducible rfl | (simp -implicitDefEqProofs (disch := omega) only [List.map_append, go_sem, ↓reduceIte, Nat.reduceAdd, Nat.reduceSub, Nat.reduceEqDiff, Nat.reduceLeDiff, reduceCtorEq]; first | done | rfl | (simp; done) | (congr 2; omega) | (congr 1; omega) | (congr 3; omega) | (simp; omega) | (congr 2; simp; omega) | (refine ⟨_, rfl, ?_⟩; first | rfl | (simp -implicitDefEqProofs (disch := omega) only [List.map_append, go_sem, ↓reduceIte, Nat.reduceAdd, Nat.reduceSub, Nat.reduceEqDiff, Nat.reduceLeDiff, reduceCtorEq]; done))) | rfl | omega | (congr 2; omega)
    intro j s hj hJk
    obtain ⟨s0, hs0, hs1, hs2, h1, h3, h7, h8, h18, h19, h20, hh3_0, hh7_0, hh18_1⟩ := (hJ _ _).1 hJk
    clear hJk
    simp -implicitDefEqProofs (disch := omega) only [h1, h3, h7, h8, h18, h19, h20, hh3_0, hh7_0, hh18_1, go_sem, ↓reduceIte, Nat.reduceAdd, Nat.reduceSub, Nat.reduceEqDiff, Nat.reduceLeDiff, reduceCtorEq]
    refine wp_if_d (fun hlt => ?_) (fun hge => ?_)
    · have hm : ks[j]? = some ks[j] := List.getElem?_eq_getElem hlt
      have htk := sumI_take_succ (f := capN t.nodes l k) hm
      generalize ks[j] = c at hm htk
      have hc := hkm c (List.mem_of_getElem? hm)
      have hb := capN_bound (ns := t.nodes) hp k c
      generalize capN t.nodes l k c = v at hc hb htk
      have hb0 := hb.1
      have hb1 := hb.2
      simp -implicitDefEqProofs (disch := omega) only [h1, h3, h7, h8, h18, h19, h20, hh3_0, hh7_0, hh18_1, hlt, hm, hc, go_sem, ↓reduceIte, Nat.reduceAdd, Nat.reduceSub, Nat.reduceEqDiff, Nat.reduceLeDiff, reduceCtorEq]
      try refine And.intro (by omega) ?_
      refine (hJ _ _).2 ⟨s0 + v, ?_, ?_, ?_, ?_, ?_, ?_, ?_, ?_, ?_, ?_, ?_, ?_, ?_⟩
      · exact by rw [htk, hs0]; omega
      · exact by omega
      · exact by omega
      all_goals first | with_reducible rfl | (simp -implicitDefEqProofs (disch := omega) only [h1, h3, h7, h8, h18, h19, h20, hh3_0, hh7_0, hh18_1, List.map_append, go_sem, ↓reduceIte, Nat.reduceAdd, Nat.reduceSub, Nat.reduceEqDiff, Nat.reduceLeDiff, reduceCtorEq]; first | done | rfl | (simp; done) | (congr 2; omega) | (congr 1; omega) | (congr 3; omega) | (simp; omega) | (congr 2; simp; omega) | (refine ⟨_, rfl, ?_⟩; first | rfl | (simp -implicitDefEqProofs (disch := omega) only [h1, h3, h7, h8, h18, h19, h20, hh3_0, hh7_0, hh18_1, List.map_append, go_sem, ↓reduceIte, Nat.reduceAdd, Nat.reduceSub, Nat.reduceEqDiff, Nat.reduceLeDiff, reduceCtorEq]; done))) | rfl | omega | (congr 2; omega)
    · rw [List.take_of_length_le (by omega)] at hs0
      simp -implicitDefEqProofs (disch := omega) only [h1, h3, h7, h8, h18, h19, h20, hh3_0, hh7_0, hh18_1, hge, go_sem, ↓reduceIte, Nat.reduceAdd, Nat.reduceSub, Nat.reduceEqDiff, Nat.reduceLeDiff, reduceCtorEq]
      rw [hs0]
end Go.V

namespace Go.V

def baseD (k y : Int) (w : List Int) : List Int := w.map fun x => k * x / y
def bumpD : Int → List Int → List Int → List Int
  | left, o :: os, w :: ws => if 0 < left ∧ o < w then (o + 1) :: bumpD (left - 1) os ws else o :: bumpD left os ws
  | _, os, _ => os
def splitP (k : Int) (w : List Int) : List Int := if sumI w = 0 then w.map (fun _ => 0) else bumpD (k - sumI (baseD k (sumI w) w)) (baseD k (sumI w) w) w
theorem bumpD_length : ∀ (left : Int) (o w : List Int), (bumpD left o w).length = o.length
  | left, o :: os, w :: ws => by
    have h1 := bumpD_length (left - 1) os ws
    have h2 := bumpD_length left os ws
    unfold bumpD
    split <;> simp [h1, h2]
  | _, [], _ => by unfold bumpD; rfl
  | _, _ :: _, [] => by unfold bumpD; rfl
theorem splitP_length (k : Int) (w : List Int) : (splitP k w).length = w.length := by
  unfold splitP
  split
  · simp
  · simp [bumpD_length, baseD]
theorem map_set_int (l : List Int) (i : Nat) (v : Int) : (List.map (PV.int .i64) l).set i (.int .i64 v) = List.map (PV.int .i64) (l.set i v) := List.map_set.symm
theorem map_get_int {l : List Int} {i : Nat} {v : Int} (h : l[i]? = some v) : (List.map (PV.int .i64) l)[i]? = some (.int .i64 v) := by rw [List.getElem?_map, h]; rfl

theorem zeros_map : ∀ (w : List Int), List.replicate w.length (PV.int .i64 0) = List.map (PV.int .i64) (w.map fun _ => 0)
  | [] => rfl
  | x :: w => by
    have := zeros_map w
    simp only [List.length_cons, List.replicate_succ, List.map_cons, this]
theorem take_set_succ {l : List Int} {i : Nat} {v : Int} (h : i < l.length) : (l.set i v).take (i + 1) = l.take i ++ [v] := by
  rw [List.take_succ_eq_append_getElem (by simpa using h), List.take_set_of_le (Nat.le_refl _)]
  simp
theorem sumI_snoc (l : List Int) (x : Int) : sumI (l ++ [x]) = sumI l + x := by
  rw [sumI_append]
  simp [sumI]

set_option maxHeartbeats 4000000 in
theorem split_eq (K : Int) (w : List Int) (hk0 : 0 ≤ K) (hk1 : K ≤ 16777216) (hl : w.length < 1000) (hw : ∀ x ∈ w, 0 ≤ x ∧ x ≤ 16777216) : V 40 [.p (.int .i64 K), .p (intsP w)] [] = some (.fresh 1 ((splitP K w).map (.int .i64)), []) := by
  refine V_wp (vf := vf40) rfl ?_
  simp -implicitDefEqProofs (disch := omega) only [vf40, vb40, go_sem, ↓reduceIte, Nat.reduceAdd, Nat.reduceSub, Nat.reduceEqDiff, Nat.reduceLeDiff, reduceCtorEq]
  obtain ⟨I, hI⟩ : ∃ I : Nat → St → Prop, ∀ k s, I k s ↔ ∃ (y : Int), y = sumI (w.take k) ∧ 0 ≤ y ∧ y ≤ 16777216 * k ∧ s.pe 0 = .p (.int .i64 K) ∧ s.pe 1 = .p (intsP w) ∧ s.pe 5 = .p (.int .i64 y) ∧ s.pe 14 = .p (intsP w) ∧ s.pe 15 = .p (.int .i64 ↑w.length) ∧ s.pe 16 = .p (.int .i64 k) := ⟨_, fun _ _ => Iff.rfl⟩
  refine wp_count (w.length) I ?_ ?_
  · refine (hI _ _).2 ⟨0, ?_, ?_, ?_, ?_, ?_, ?_, ?_, ?_, ?_⟩
    · exact by simp [sumI]
    · exact by first | rfl | omega | (simp; done) | (simp; omega)
    · exact by first | rfl | omega | (simp; done) | (simp; omega)
    all_goals first | with_reducible rfl | (simp -implicitDefEqProofs (disch := omega) only [List.map_append, go_sem, ↓reduceIte, Nat.reduceAdd, Nat.reduceSub, Nat.reduceEqDiff, Nat.reduceLeDiff, reduceCtorEq]; first | done | rfl | (simp; done) | (congr 2; omega) | (congr 1; omega) | (congr 3; omega) | (simp; omega) | (congr 2; simp; omega) | (refine ⟨_, rfl, ?_⟩; first | rfl | (simp -implicitDefEqProofs (disch := omega) only [List.map_append, go_sem, ↓reduceIte, Nat.reduceAdd, Nat.reduceSub, Nat.reduceEqDiff, Nat.reduceLeDiff, reduceCtorEq]; done))) | rfl | omega | (congr 2; omega)
  intro k s hk hIk
  obtain ⟨y, hy, hy0, hy1, h0, h1, h5, h14, h15, h16⟩ := (hI _ _).1 hIk
  clear hIk
  simp -implicitDefEqProofs (disch := omega) only [h0, h1, h5, h14, h15, h16, go_sem, ↓reduceIte, Nat.reduceAdd, Nat.reduceSub, Nat.reduceEqDiff, Nat.reduceLeDiff, reduceCtorEq]
  refine wp_if_d (fun hlt => ?_) (fun hge => ?_)
  · have hm : w[k]? = some w[k] := List.getElem?_eq_getElem hlt
    have htk := sumI_take_succ (f := fun x => x) hm
    rw [List.map_id', List.map_id'] at htk
    have hb := hw _ (List.mem_of_getElem? hm)
    generalize w[k] = x at hm htk hb
    have hb0 := hb.1
    have hb1 := hb.2
    simp -implicitDefEqProofs (disch := omega) only [h0, h1, h5, h14, h15, h16, hlt, hm, go_sem, ↓reduceIte, Nat.reduceAdd, Nat.reduceSub, Nat.reduceEqDiff, Nat.reduceLeDiff, reduceCtorEq]
    try refine And.intro (by omega) ?_
    refine (hI _ _).2 ⟨y + x, ?_, ?_, ?_, ?_, ?_, ?_, ?_, ?_, ?_⟩
    · exact by rw [htk, hy]
    · exact by omega
    · exact by omega
    all_goals first | with_reducible rfl | (simp -implicitDefEqProofs (disch := omega) only [h0, h1, h5, h14, h15, h16, List.map_append, go_sem, ↓reduceIte, Nat.reduceAdd, Nat.reduceSub, Nat.reduceEqDiff, Nat.reduceLeDiff, reduceCtorEq]; first | done | rfl | (simp; done) | (congr 2; omega) | (congr 1; omega) | (congr 3; omega) | (simp; omega) | (congr 2; simp; omega) | (refine ⟨_, rfl, ?_⟩; first | rfl | (simp -implicitDefEqProofs (disch := omega) only [h0, h1, h5, h14, h15, h16, List.map_append, go_sem, ↓reduceIte, Nat.reduceAdd, Nat.reduceSub, Nat.reduceEqDiff, Nat.reduceLeDiff, reduceCtorEq]; done))) | rfl | omega | (congr 2; omega)
  · rw [List.take_of_length_le (by omega)] at hy
    unfold splitP
    rw [← hy]
    by_cases hyz : y = 0
    · rw [if_pos hyz]
      simp -implicitDefEqProofs (disch := omega) only [h0, h1, h5, h14, h15, h16, hge, hyz, go_sem, ↓reduceIte, Nat.reduceAdd, Nat.reduceSub, Nat.reduceEqDiff, Nat.reduceLeDiff, reduceCtorEq]
      rw [List.take_of_length_le (by simp)]
      congr 2
      exact zeros_map w
    · rw [if_neg hyz]
      simp -implicitDefEqProofs (disch := omega) only [h0, h1, h5, h14, h15, h16, hge, hyz, zeros_map, go_sem, ↓reduceIte, Nat.reduceAdd, Nat.reduceSub, Nat.reduceEqDiff, Nat.reduceLeDiff, reduceCtorEq]
      obtain ⟨J, hJ⟩ : ∃ I : Nat → St → Prop, ∀ j s, I j s ↔ ∃ (v26_0 : Nat) (arr : List Int) (left : Int), arr.length = w.length ∧ arr.take j = baseD K y (w.take j) ∧ left = K - sumI (arr.take j) ∧ -(281474976710656 * j : Int) ≤ left ∧ left ≤ 16777216 ∧ s.pe 0 = .p (.int .i64 K) ∧ s.pe 1 = .p (intsP w) ∧ s.pe 5 = .p (.int .i64 y) ∧ s.pe 8 = .own (.slot 26 0) v26_0 0 w.length ∧ s.pe 9 = .p (.int .i64 left) ∧ s.pe 31 = .p (intsP w) ∧ s.pe 32 = .p (.int .i64 ↑w.length) ∧ s.pe 33 = .p (.int .i64 j) ∧ s.h (.slot 26 0) = some (v26_0, Ob.arr 1 (arr.map (.int .i64))) := ⟨_, fun _ _ => Iff.rfl⟩
      refine wp_count (w.length) J ?_ ?_
      · refine (hJ _ _).2 ⟨nv (s.h (.slot 26 0)), w.map fun _ => 0, K, ?_, ?_, ?_, ?_, ?_, ?_, ?_, ?_, ?_, ?_, ?_, ?_, ?_, ?_⟩
        · exact by simp
        · exact rfl
        · exact by simp [sumI]
        · exact by first | rfl | omega | (simp; done) | (simp; omega)
        · exact by first | rfl | omega | (simp; done) | (simp; omega)
        all_goals first | with_reducible rfl | (simp -implicitDefEqProofs (disch := omega) only [h0, h1, h5, h14, h15, h16, List.map_append, go_sem, ↓reduceIte, Nat.reduceAdd, Nat.reduceSub, Nat.reduceEqDiff, Nat.reduceLeDiff, reduceCtorEq]; first | done | rfl | (simp; done) | (congr 2; omega) | (congr 1; omega) | (congr 3; omega) | (simp; omega) | (congr 2; simp; omega) | (refine ⟨_, rfl, ?_⟩; first | rfl | (simp -implicitDefEqProofs (disch := omega) only [h0, h1, h5, h14, h15, h16, List.map_append, go_sem, ↓reduceIte, Nat.reduceAdd, Nat.reduceSub, Nat.reduceEqDiff, Nat.reduceLeDiff, reduceCtorEq]; done))) | rfl | omega | (congr 2; omega)
      intro j s hj hJk
      obtain ⟨v26_0, arr, left, harl, hpre, hlf, hl0, hl1, h0, h1, h5, h8, h9, h31, h32, h33, hh26_0⟩ := (hJ _ _).1 hJk
      clear hJk
      simp -implicitDefEqProofs (disch := omega) only [h0, h1, h5, h8, h9, h31, h32, h33, hh26_0, go_sem, ↓reduceIte, Nat.reduceAdd, Nat.reduceSub, Nat.reduceEqDiff, Nat.reduceLeDiff, reduceCtorEq]
      refine wp_if_d (fun hlt => ?_) (fun hge => ?_)
      · have hm : w[j]? = some w[j] := List.getElem?_eq_getElem hlt
        have htk := take_snoc hm
        have hb := hw _ (List.mem_of_getElem? hm)
        generalize w[j] = x at hm htk hb
        have hb0 := hb.1
        have hb1 := hb.2
        have hm0 : 0 ≤ K * x := Int.mul_nonneg hk0 hb0
        have hm1 : K * x ≤ 281474976710656 := by
          have := Int.mul_le_mul hk1 hb1 hb0 (by omega)
          omega
        have hq : (K * x).tdiv y = K * x / y := Int.tdiv_eq_ediv_of_nonneg hm0
        have hq0 : 0 ≤ K * x / y := Int.ediv_nonneg hm0 hy0
        have hq1 : K * x / y ≤ K * x := Int.ediv_le_self _ hm0
        have hbd : baseD K y (w.take (j + 1)) = baseD K y (w.take j) ++ [K * x / y] := by rw [htk]; simp [baseD]
        generalize K * x / y = q at hq hq0 hq1 hbd
        obtain ⟨p, hp⟩ : ∃ p, K * x = p := ⟨_, rfl⟩
        rw [hp] at hm0 hm1 hq hq1
        have hset := map_set_int arr j q
        have hget : (List.map (PV.int .i64) (arr.set j q))[j]? = some (.int .i64 q) := map_get_int (by rw [List.getElem?_set_self (by omega)])
        have hga : arr[j]? = some arr[j] := List.getElem?_eq_getElem (by omega)
        generalize arr[j] = z at hga
        simp -implicitDefEqProofs (disch := omega) only [h0, h1, h5, h8, h9, h31, h32, h33, hh26_0, hlt, hm, hyz, hp, hq, hset, hget, hga, List.headD_cons, go_sem, ↓reduceIte, Nat.reduceAdd, Nat.reduceSub, Nat.reduceEqDiff, Nat.reduceLeDiff, reduceCtorEq]
        try refine And.intro (by omega) ?_
        refine (hJ _ _).2 ⟨v26_0, arr.set j q, left - q, ?_, ?_, ?_, ?_, ?_, ?_, ?_, ?_, ?_, ?_, ?_, ?_, ?_, ?_⟩
        · exact by rw [List.length_set, harl]
        · exact by rw [take_set_succ (by omega), hpre, hbd]
        · exact by rw [take_set_succ (by omega), sumI_snoc, hlf]; omega
        · exact by omega
        · exact by omega
        all_goals first | with_reducible rfl | (simp -implicitDefEqProofs (disch := omega) only [h0, h1, h5, h8, h9, h31, h32, h33, hh26_0, List.map_append, go_sem, ↓reduceIte, Nat.reduceAdd, Nat.reduceSub, Nat.reduceEqDiff, Nat.reduceLeDiff, reduceCtorEq]; first | done | rfl | (simp; done) | (congr 2; omega) | (congr 1; omega) | (congr 3; omega) | (simp; omega) | (congr 2; simp; omega) | (refine ⟨_, rfl, ?_⟩; first | rfl | (simp -implicitDefEqProofs (disch := omega) only [h0, h1, h5, h8, h9, h31, h32, h33, hh26_0, List.map_append, go_sem, ↓reduceIte, Nat.reduceAdd, Nat.reduceSub, Nat.reduceEqDiff, Nat.reduceLeDiff, reduceCtorEq]; done))) | rfl | omega | (congr 2; omega)
      · have hjw : j = w.length := by omega
        subst hjw
        rw [List.take_length] at hpre
        rw [List.take_of_length_le (by omega)] at hpre hlf
        rw [← hpre, ← hlf]
        have hl0' : -(281474976710656000 : Int) ≤ left := by omega
        clear hl0
        have hnn : ∀ o ∈ arr, 0 ≤ o := by
          rw [hpre]
          intro o ho
          obtain ⟨x, hx, rfl⟩ := List.mem_map.1 ho
          exact Int.ediv_nonneg (Int.mul_nonneg hk0 (hw x hx).1) hy0
        simp -implicitDefEqProofs (disch := omega) only [h0, h1, h5, h8, h9, h31, h32, h33, hh26_0, hge, go_sem, ↓reduceIte, Nat.reduceAdd, Nat.reduceSub, Nat.reduceEqDiff, Nat.reduceLeDiff, reduceCtorEq]
        obtain ⟨M, hM⟩ : ∃ I : Nat → St → Prop, ∀ m s, I m s ↔ ∃ (a2 : List Int) (lf : Int), a2.length = w.length ∧ a2.take m ++ bumpD lf (arr.drop m) (w.drop m) = bumpD left arr w ∧ a2.drop m = arr.drop m ∧ -(281474976710656000 : Int) - m ≤ lf ∧ lf ≤ 16777216 ∧ s.pe 8 = .own (.slot 26 0) v26_0 0 w.length ∧ s.pe 9 = .p (.int .i64 lf) ∧ s.pe 53 = .p (intsP w) ∧ s.pe 54 = .p (.int .i64 ↑w.length) ∧ s.pe 55 = .p (.int .i64 m) ∧ s.h (.slot 26 0) = some (v26_0, Ob.arr 1 (a2.map (.int .i64))) := ⟨_, fun _ _ => Iff.rfl⟩
        refine wp_count (w.length) M ?_ ?_
        · refine (hM _ _).2 ⟨arr, left, ?_, ?_, ?_, ?_, ?_, ?_, ?_, ?_, ?_, ?_, ?_⟩
          · exact by first | rfl | omega | (simp; done) | (simp; omega)
          · exact by simp
          · exact rfl
          · exact by first | rfl | omega | (simp; done) | (simp; omega)
          · exact by first | rfl | omega | (simp; done) | (simp; omega)
          all_goals first | with_reducible rfl | (simp -implicitDefEqProofs (disch := omega) only [h0, h1, h5, h8, h9, h31, h32, h33, hh26_0, List.map_append, go_sem, ↓reduceIte, Nat.reduceAdd, Nat.reduceSub, Nat.reduceEqDiff, Nat.reduceLeDiff, reduceCtorEq]; first | done | rfl | (simp; done) | (congr 2; omega) | (congr 1; omega) | (congr 3; omega) | (simp; omega) | (congr 2; simp; omega) | (refine ⟨_, rfl, ?_⟩; first | rfl | (simp -implicitDefEqProofs (disch := omega) only [h0, h1, h5, h8, h9, h31, h32, h33, hh26_0, List.map_append, go_sem, ↓reduceIte, Nat.reduceAdd, Nat.reduceSub, Nat.reduceEqDiff, Nat.reduceLeDiff, reduceCtorEq]; done))) | rfl | omega | (congr 2; omega)
        intro m s hm hMk
        obtain ⟨a2, lf, hal, hbp, hdd, hm0, hm1, h8, h9, h53, h54, h55, hh26_0⟩ := (hM _ _).1 hMk
        clear hMk
        simp -implicitDefEqProofs (disch := omega) only [h8, h9, h53, h54, h55, hh26_0, go_sem, ↓reduceIte, Nat.reduceAdd, Nat.reduceSub, Nat.reduceEqDiff, Nat.reduceLeDiff, reduceCtorEq]
        refine wp_if_d (fun hlt => ?_) (fun hge => ?_)
        · have hm : w[m]? = some w[m] := List.getElem?_eq_getElem hlt
          have hga : arr[m]? = some arr[m] := List.getElem?_eq_getElem (by omega)
          have hdw : w.drop m = w[m] :: w.drop (m + 1) := List.drop_eq_getElem_cons hlt
          have hda : arr.drop m = arr[m] :: arr.drop (m + 1) := List.drop_eq_getElem_cons (by omega)
          have hb := hw _ (List.mem_of_getElem? hm)
          generalize w[m] = x at hm hdw hb
          generalize arr[m] = o at hga hda
          have hb1 := hb.2
          have hga2 : a2[m]? = some o := by
            have : (a2.drop m)[0]? = (arr.drop m)[0]? := by rw [hdd]
            rw [List.getElem?_drop, List.getElem?_drop] at this
            simpa [hga] using this
          have htk2 := take_snoc hga2
          have hdd' : a2.drop (m + 1) = arr.drop (m + 1) := by
            have := congrArg (List.drop 1) hdd
            simpa [List.drop_drop, Nat.add_comm] using this
          rw [hdw, hda, bumpD] at hbp
          by_cases hlf0 : 0 < lf
          · by_cases hox : o < x
            · rw [if_pos ⟨hlf0, hox⟩] at hbp
              have ho0 := hnn o (List.mem_of_getElem? hga)
              have hset := map_set_int a2 m (o + 1)
              simp -implicitDefEqProofs (disch := omega) only [h8, h9, h53, h54, h55, hh26_0, hlt, hm, hga2, hlf0, hox, hset, List.headD_cons, go_sem, ↓reduceIte, Nat.reduceAdd, Nat.reduceSub, Nat.reduceEqDiff, Nat.reduceLeDiff, reduceCtorEq]
              try refine And.intro (by omega) ?_
              refine (hM _ _).2 ⟨a2.set m (o + 1), lf - 1, ?_, ?_, ?_, ?_, ?_, ?_, ?_, ?_, ?_, ?_, ?_⟩
              · exact by rw [List.length_set, hal]
              · exact by rw [take_set_succ (by omega), List.append_assoc]; exact hbp
              · exact by rw [List.drop_set_of_lt (by omega), hdd']
              · exact by omega
              · exact by omega
              all_goals first | with_reducible rfl | (simp -implicitDefEqProofs (disch := omega) only [h8, h9, h53, h54, h55, hh26_0, List.map_append, go_sem, ↓reduceIte, Nat.reduceAdd, Nat.reduceSub, Nat.reduceEqDiff, Nat.reduceLeDiff, reduceCtorEq]; first | done | rfl | (simp; done) | (congr 2; omega) | (congr 1; omega) | (congr 3; omega) | (simp; omega) | (congr 2; simp; omega) | (refine ⟨_, rfl, ?_⟩; first | rfl | (simp -implicitDefEqProofs (disch := omega) only [h8, h9, h53, h54, h55, hh26_0, List.map_append, go_sem, ↓reduceIte, Nat.reduceAdd, Nat.reduceSub, Nat.reduceEqDiff, Nat.reduceLeDiff, reduceCtorEq]; done))) | rfl | omega | (congr 2; omega)
            · rw [if_neg (fun h => hox h.2)] at hbp
              simp -implicitDefEqProofs (disch := omega) only [h8, h9, h53, h54, h55, hh26_0, hlt, hm, hga2, hlf0, hox, go_sem, ↓reduceIte, Nat.reduceAdd, Nat.reduceSub, Nat.reduceEqDiff, Nat.reduceLeDiff, reduceCtorEq]
              try refine And.intro (by omega) ?_
              refine (hM _ _).2 ⟨a2, lf, ?_, ?_, ?_, ?_, ?_, ?_, ?_, ?_, ?_, ?_, ?_⟩
              · exact hal
              · exact by rw [htk2, List.append_assoc]; exact hbp
              · exact hdd'
              · exact by omega
              · exact by omega
              all_goals first | with_reducible rfl | (simp -implicitDefEqProofs (disch := omega) only [h8, h9, h53, h54, h55, hh26_0, List.map_append, go_sem, ↓reduceIte, Nat.reduceAdd, Nat.reduceSub, Nat.reduceEqDiff, Nat.reduceLeDiff, reduceCtorEq]; first | done | rfl | (simp; done) | (congr 2; omega) | (congr 1; omega) | (congr 3; omega) | (simp; omega) | (congr 2; simp; omega) | (refine ⟨_, rfl, ?_⟩; first | rfl | (simp -implicitDefEqProofs (disch := omega) only [h8, h9, h53, h54, h55, hh26_0, List.map_append, go_sem, ↓reduceIte, Nat.reduceAdd, Nat.reduceSub, Nat.reduceEqDiff, Nat.reduceLeDiff, reduceCtorEq]; done))) | rfl | omega | (congr 2; omega)
          · rw [if_neg (fun h => hlf0 h.1)] at hbp
            simp -implicitDefEqProofs (disch := omega) only [h8, h9, h53, h54, h55, hh26_0, hlt, hm, hga2, hlf0, go_sem, ↓reduceIte, Nat.reduceAdd, Nat.reduceSub, Nat.reduceEqDiff, Nat.reduceLeDiff, reduceCtorEq]
            try refine And.intro (by omega) ?_
            refine (hM _ _).2 ⟨a2, lf, ?_, ?_, ?_, ?_, ?_, ?_, ?_, ?_, ?_, ?_, ?_⟩
            · exact hal
            · exact by rw [htk2, List.append_assoc]; exact hbp
            · exact hdd'
            · exact by omega
            · exact by omega
            all_goals first | with_reducible rfl | (simp -implicitDefEqProofs (disch := omega) only [h8, h9, h53, h54, h55, hh26_0, List.map_append, go_sem, ↓reduceIte, Nat.reduceAdd, Nat.reduceSub, Nat.reduceEqDiff, Nat.reduceLeDiff, reduceCtorEq]; first | done | rfl | (simp; done) | (congr 2; omega) | (congr 1; omega) | (congr 3; omega) | (simp; omega) | (congr 2; simp; omega) | (refine ⟨_, rfl, ?_⟩; first | rfl | (simp -implicitDefEqProofs (disch := omega) only [h8, h9, h53, h54, h55, hh26_0, List.map_append, go_sem, ↓reduceIte, Nat.reduceAdd, Nat.reduceSub, Nat.reduceEqDiff, Nat.reduceLeDiff, reduceCtorEq]; done))) | rfl | omega | (congr 2; omega)
        · rw [List.drop_of_length_le (by omega), List.drop_of_length_le (by omega), List.take_of_length_le (by omega)] at hbp
          have hbn : bumpD lf [] [] = [] := by unfold bumpD; rfl
          rw [hbn, List.append_nil] at hbp
          simp -implicitDefEqProofs (disch := omega) only [h8, h9, h53, h54, h55, hh26_0, hge, go_sem, ↓reduceIte, Nat.reduceAdd, Nat.reduceSub, Nat.reduceEqDiff, Nat.reduceLeDiff, reduceCtorEq]
          rw [List.take_of_length_le (by rw [List.length_map]; omega), hbp]
end Go.V

namespace Go.V

theorem partOk_iff (x : Pt) (g : Int) : partOk x g = true ↔ x.group = g ∧ PtOk x := by
  simp only [partOk, pagesB, Bool.and_eq_true, decide_eq_true_eq]
  constructor
  · rintro ⟨⟨⟨⟨h1, h2⟩, h3⟩, h4⟩, h5⟩
    exact ⟨h1, h2.1, h2.2, h3.1, h3.2, h4.1, h4.2, h5.1, h5.2⟩
  · rintro ⟨h1, h⟩
    exact ⟨⟨⟨⟨h1, h.u0, h.u1⟩, h.p0, h.p1⟩, h.o0, h.o1⟩, h.r0, h.r1⟩
theorem partsOk_iff : ∀ (l : List Pt) (g : List Int), partsOk l g = true ↔ l.map (·.group) = g ∧ ∀ x ∈ l, PtOk x
  | [], [] => by simp [partsOk]
  | x :: l, y :: g => by
    simp only [partsOk, Bool.and_eq_true, partOk_iff, partsOk_iff l g, List.map_cons, List.cons.injEq, List.mem_cons, forall_eq_or_imp]
    constructor
    · rintro ⟨⟨a, b⟩, c, d⟩; exact ⟨⟨a, c⟩, b, d⟩
    · rintro ⟨⟨a, c⟩, b, d⟩; exact ⟨⟨a, b⟩, c, d⟩
  | [], _ :: _ => by simp [partsOk]
  | _ :: _, [] => by simp [partsOk]

structure PartsOk (t : Tr) (l : List Pt) (root : Int) : Prop where
  tree : TreeOk t
  top : InN t.nodes root
  groups : l.map (·.group) = msort (subT t root)
  ok : ∀ x ∈ l, PtOk x
theorem subT_some {t : Tr} (h : TreeOk t) {i : Nat} {n : Nd} (hn : t.nodes[i]? = some n) : subT t n.id = subF t.nodes t.nodes.length n.id := by
  rw [subT, if_pos]
  rw [findT_ok ((treeOk_iff t).2 h), findN_unique h.inc hn]
  rfl
theorem subT_ne {t : Tr} (h : TreeOk t) {root : Int} : subT t root ≠ [] ↔ InN t.nodes root := by
  constructor
  · intro hne
    unfold subT at hne
    by_cases hf : (findT t root).isSome = true
    · rw [findT_ok ((treeOk_iff t).2 h)] at hf
      obtain ⟨n, hn, he⟩ := findN_some hf
      obtain ⟨i, hi⟩ := List.getElem?_of_mem hn
      exact ⟨i, n, hi, he⟩
    · rw [if_neg hf] at hne
      exact absurd rfl hne
  · rintro ⟨i, n, hn, rfl⟩
    rw [subT_some h hn]
    exact subF_mem h ⟨i, n, hn, rfl⟩
theorem validP_iff (t : Tr) (l : List Pt) (root : Int) : validP t l root = true ↔ PartsOk t l root := by
  simp only [validP, Bool.and_eq_true, treeOk_iff, partsOk_iff, Bool.not_eq_true', List.isEmpty_eq_false_iff]
  constructor
  · rintro ⟨h, h2, h3, h4⟩
    exact ⟨h, (subT_ne h).1 h2, h3, h4⟩
  · rintro ⟨h1, h2, h3, h4⟩
    exact ⟨h1, (subT_ne h1).2 h2, h3, h4⟩
theorem msort_perm (l : List Int) : (msort l).Perm l := List.mergeSort_perm _ _
theorem nodup_subT {t : Tr} (h : TreeOk t) (root : Int) : (subT t root).Nodup := by
  by_cases hr : InN t.nodes root
  · obtain ⟨i, n, hn, rfl⟩ := hr
    rw [subT_some h hn]
    exact nodup_subF h _ i n hn (by omega)
  · have : subT t root = [] := by
      cases hs : subT t root with
      | nil => rfl
      | cons a b => exact absurd ((subT_ne h).1 (by rw [hs]; simp)) hr
    rw [this]
    exact List.nodup_nil
theorem PartsOk.nodup {t : Tr} {l : List Pt} {root : Int} (h : PartsOk t l root) : (l.map (·.group)).Nodup := by
  rw [h.groups]
  exact (msort_perm _).nodup_iff.2 (nodup_subT h.tree root)
theorem PartsOk.length {t : Tr} {l : List Pt} {root : Int} (h : PartsOk t l root) : l.length ≤ 64 := by
  have h1 := congrArg List.length h.groups
  have h2 := subT_len h.tree root
  have h3 := h.tree.len
  rw [List.length_map, msort_length] at h1
  omega

abbrev capR (t : Tr) (l : List Pt) (g : Int) : Int := capN t.nodes l t.nodes.length g
theorem mcap_eq {t : Tr} (h : TreeOk t) {l : List Pt} (hp : ∀ x ∈ l, PtOk x) {g : Int} (hg : InN t.nodes g) : V 32 [t.vv, .p (mapP l), .p (.int .i64 g)] [] = some (.p (.int .i64 (capR t l g)), []) := by
  obtain ⟨i, n, hn, rfl⟩ := hg
  exact mcap_eq0 h hp _ i n hn (by omega)
def CapP (t : Tr) (l : List Pt) (root : Int) : Int × Int := if validP t l root = true then (capR t l root, 0) else (0, 1)

set_option maxHeartbeats 2000000 in
theorem capacity_eq (t : Tr) (l : List Pt) (root : Int) (hf : t.Fits) (hn : t.nodes.length < 1000000) (hl : l.length < 1000000) : V 13 [t.vv, .p (ptsP l), .p (.int .i64 root)] [] = some (.tup [.p (.int .i64 (CapP t l root).1), .p (.int .i64 (CapP t l root).2)], []) := by
  refine V_wp (vf := vf13) rfl ?_
  have hv := pvalid_parts t l root hf hn hl
  unfold CapP
  by_cases h : validP t l root = true
  · have hP := (validP_iff t l root).1 h
    have hm := mparts_eq l hl hP.nodup
    have hc := mcap_eq hP.tree hP.ok hP.top
    rw [h] at hv
    rw [if_pos h]
    simp -implicitDefEqProofs (disch := omega) only [vf13, vb13, hv, hm, hc, go_sem, ↓reduceIte, Nat.reduceAdd, Nat.reduceSub, Nat.reduceEqDiff, Nat.reduceLeDiff, reduceCtorEq]
  · have h' : validP t l root = false := by simpa using h
    rw [h'] at hv
    rw [if_neg h]
    simp -implicitDefEqProofs (disch := omega) only [vf13, vb13, hv, go_sem, ↓reduceIte, Nat.reduceAdd, Nat.reduceSub, Nat.reduceEqDiff, Nat.reduceLeDiff, reduceCtorEq]
end Go.V

