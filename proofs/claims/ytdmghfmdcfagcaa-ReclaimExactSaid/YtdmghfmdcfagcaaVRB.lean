/- The value machine V at work: pages taken from the groups of a subtree. -/
/- The value machine V at work: a round. -/
/- The value machine V at work: whether two lists of takes are the same. -/
/- The value machine V at work: pages taken from a group and those below it. -/
/- How a capacity grows with one part. Plain. -/
/- Made parts are valid. Plain. -/
/- The chapter's example. -/
/- The value machine V at work: the chapter's example. -/
import Derived.Test.YtdmghfmdcfagcaaVRA
set_option linter.unusedSimpArgs false
set_option linter.unusedVariables false
namespace Go.V

theorem bumpD_bound {B : Int} : ∀ (left : Int) (o w : List Int), (∀ z ∈ o, 0 ≤ z ∧ z ≤ B) → (∀ x ∈ w, x ≤ B) → ∀ z ∈ bumpD left o w, 0 ≤ z ∧ z ≤ B
  | left, o :: os, w :: ws, ho, hw, z, hz => by
    have h1 := bumpD_bound (B := B) (left - 1) os ws (fun z hz => ho z (by simp [hz])) (fun z hz => hw z (by simp [hz]))
    have h2 := bumpD_bound (B := B) left os ws (fun z hz => ho z (by simp [hz])) (fun z hz => hw z (by simp [hz]))
    have h3 := ho o (by simp)
    have h4 := hw w (by simp)
    unfold bumpD at hz
    split at hz
    · rename_i hc
      rcases List.mem_cons.1 hz with rfl | hz
      · omega
      · exact h1 z hz
    · rcases List.mem_cons.1 hz with rfl | hz
      · exact h3
      · exact h2 z hz
  | left, [], w, ho, _, z, hz => by unfold bumpD at hz; exact ho z hz
  | left, o :: os, [], ho, _, z, hz => by unfold bumpD at hz; exact ho z hz
theorem mem_le_sumI {x : Int} : ∀ (l : List Int), (∀ y ∈ l, 0 ≤ y) → x ∈ l → x ≤ sumI l
  | [], _, h => by simp at h
  | y :: l, h, hx => by
    have h1 := sumI_nonneg l (fun z hz => h z (by simp [hz]))
    have h2 := h y (by simp)
    simp only [sumI]
    rcases List.mem_cons.1 hx with rfl | hx
    · omega
    · have := mem_le_sumI l (fun z hz => h z (by simp [hz])) hx
      omega
theorem splitP_bound {K : Int} {w : List Int} (h0 : 0 ≤ K) (h1 : K ≤ 16777216) (hw : ∀ x ∈ w, 0 ≤ x ∧ x ≤ 16777216) : ∀ z ∈ splitP K w, 0 ≤ z ∧ z ≤ 16777216 := by
  unfold splitP
  split
  · intro z hz
    obtain ⟨_, _, rfl⟩ := List.mem_map.1 hz
    omega
  · rename_i hy
    have hs := sumI_nonneg w (fun x hx => (hw x hx).1)
    refine bumpD_bound _ _ _ (fun z hz => ?_) (fun x hx => (hw x hx).2)
    obtain ⟨x, hx, rfl⟩ := List.mem_map.1 hz
    have hxy := mem_le_sumI w (fun x hx => (hw x hx).1) hx
    refine ⟨Int.ediv_nonneg (Int.mul_nonneg h0 (hw x hx).1) hs, ?_⟩
    have : K * x / sumI w ≤ K := Int.ediv_le_of_le_mul (by omega) (Int.mul_le_mul_of_nonneg_left hxy h0)
    omega

/-- What is taken from a group and those below it. -/
def takeN (ns : List Nd) (l : List Pt) (cap : Int → Int) : Nat → Int → Int → List (Int × Int)
  | 0, _, _ => []
  | k + 1, g, K => (if 0 < (splitP K ((partOf l g).own :: (kidsN ns g).map cap)).headD 0 then [(g, (splitP K ((partOf l g).own :: (kidsN ns g).map cap)).headD 0)] else []) ++ ((kidsN ns g).zip (splitP K ((partOf l g).own :: (kidsN ns g).map cap)).tail).flatMap fun p => if 0 < p.2 then takeN ns l cap k p.1 p.2 else []

theorem zip_flat_le {f : Int → Int → List (Int × Int)} {g : Int → List Int} (h : ∀ a b, (f a b).length ≤ (g a).length) : ∀ (xs ys : List Int), ((xs.zip ys).flatMap fun p => if 0 < p.2 then f p.1 p.2 else []).length ≤ (xs.flatMap g).length
  | [], _ => by simp
  | _ :: _, [] => by simp
  | x :: xs, y :: ys => by
    have h1 := zip_flat_le h xs ys
    have h2 := h x y
    rw [List.zip_cons_cons, List.flatMap_cons, List.flatMap_cons, List.length_append, List.length_append]
    show (if 0 < y then f x y else []).length + _ ≤ _
    split
    · omega
    · simp only [List.length_nil]
      omega
theorem take_zip' : ∀ (m : Nat) (xs ys : List Int), (xs.zip ys).take m = (xs.take m).zip (ys.take m)
  | 0, _, _ => by simp
  | _ + 1, [], _ => by simp
  | _ + 1, _ :: _, [] => by simp
  | m + 1, x :: xs, y :: ys => by simp [take_zip' m xs ys]
theorem flat_take {f : Int → List Int} {ks : List Int} {m : Nat} {c : Int} (h : ks[m]? = some c) : ((ks.take m).flatMap f).length + (f c).length ≤ (ks.flatMap f).length := by
  have h1 : ks = ks.take (m + 1) ++ ks.drop (m + 1) := (List.take_append_drop _ _).symm
  have h2 : (ks.flatMap f).length = ((ks.take (m + 1)).flatMap f).length + ((ks.drop (m + 1)).flatMap f).length := by
    rw [← List.length_append, ← List.flatMap_append, ← h1]
  rw [h2, take_snoc h, List.flatMap_append, List.length_append, List.flatMap_singleton]
  omega
theorem takeN_length (ns : List Nd) (l : List Pt) (cap : Int → Int) : ∀ (k : Nat) (g K : Int), (takeN ns l cap k g K).length ≤ (subF ns k g).length
  | 0, _, _ => by simp [takeN]
  | k + 1, g, K => by
    have h1 := zip_flat_le (f := takeN ns l cap k) (g := subF ns k) (takeN_length ns l cap k) (kidsN ns g) (splitP K ((partOf l g).own :: (kidsN ns g).map cap)).tail
    rw [takeN, subF, List.length_append, List.length_cons]
    split
    · simp only [List.length_singleton]
      omega
    · simp only [List.length_nil]
      omega

abbrev tkP (p : Int × Int) : PV := .agg [.int .i64 p.1, .int .i64 p.2]
abbrev capsR : List VVal := [.ptr (.arg 0 0) 0 0, .ptr (.arg 1 0) 0 0, .ptr (.arg 2 0) 0 0, .ptr (.arg 3 0) 0 0]
/-- The objects that the function that takes is handed, and what becomes of them. -/
abbrev HR (t : Tr) (l : List Pt) (out : List (Int × Int)) : List Ob := [.box [.p (nodesP t.nodes), .p (.int .i64 t.next)], .box [.p (mapP l)], .box [.own (.arg 4 0) 0 0 out.length], .box [.fn 38 capsR], .arr 2 (out.map tkP)]
def HR' (t : Tr) (l : List Pt) (out more : List (Int × Int)) : List Ob := if more = [] then HR t l out else [.box [.p (nodesP t.nodes), .p (.int .i64 t.next)], .box [.p (mapP l)], .box [.own (.arg 4 0) 1 0 (out ++ more).length], .box [.fn 38 capsR], .box [.undef, .fresh 2 ((out ++ more).map tkP)]]

set_option maxHeartbeats 4000000 in
theorem take_eq0 {t : Tr} (h : TreeOk t) {l : List Pt} (hp : ∀ x ∈ l, PtOk x) : ∀ (k i : Nat) (n : Nd) (K : Int) (out : List (Int × Int)), t.nodes[i]? = some n → t.nodes.length ≤ i + k → 0 ≤ K → K ≤ 16777216 → out.length + (subF t.nodes k n.id).length ≤ 1000 →
    V 38 ([.p (.int .i64 n.id), .p (.int .i64 K)] ++ capsR) (HR t l out) = some (.tup [], HR' t l out (takeN t.nodes l (capR t l) k n.id K)) := by
  intro k
  induction k with
  | zero => intro i n K out hn hk; have := (List.getElem?_eq_some_iff.1 hn).1; omega
  | succ k ih =>
    intro i n K out hn hk hK0 hK1 hol
    have hlen := h.len
    refine V_wp (vf := vf38) rfl ?_
    have hkd := fkids_eq t n.id (by omega)
    have hkl := kidsN_len t.nodes n.id
    have hkm : ∀ c ∈ kidsN t.nodes n.id, V 32 [t.vv, .p (mapP l), .p (.int .i64 c)] [] = some (.p (.int .i64 (capR t l c)), []) := by
      intro c hc
      obtain ⟨j, m, hj, hp', rfl⟩ := mem_kidsN.1 hc
      exact mcap_eq h hp ⟨j, m, hj, rfl⟩
    have hcb : ∀ c, 0 ≤ capR t l c ∧ capR t l c ≤ 16777216 := fun c => capN_bound hp _ c
    have hsl : (subF t.nodes (k + 1) n.id).length = 1 + ((kidsN t.nodes n.id).flatMap (subF t.nodes k)).length := by rw [subF, List.length_cons]; omega
    rw [hsl] at hol
    have hrec : ∀ c ∈ kidsN t.nodes n.id, ∀ (K' : Int) (out' : List (Int × Int)), 0 ≤ K' → K' ≤ 16777216 → out'.length + (subF t.nodes k c).length ≤ 1000 → V 38 ([.p (.int .i64 c), .p (.int .i64 K')] ++ capsR) (HR t l out') = some (.tup [], HR' t l out' (takeN t.nodes l (capR t l) k c K')) := by
      intro c hc K' out' h0 h1 h2
      obtain ⟨j, m, hj, hp', rfl⟩ := mem_kidsN.1 hc
      have hij := h.kid hn hj hp'
      exact ih j m K' out' hj (by omega) h0 h1 h2
    rw [takeN]
    have hx := partOf_ok hp n.id
    have hget := mget_parts n.id l
    have hgd := getD_parts n.id l
    generalize partOf l n.id = x at hgd hx
    generalize kidsN t.nodes n.id = ks at hkd hkl hkm hrec hol
    simp -implicitDefEqProofs (disch := omega) only [vf38, vb38, hkd, hget, hgd, HR, capsR, List.cons_append, List.nil_append, go_sem, ↓reduceIte, Nat.reduceAdd, Nat.reduceSub, Nat.reduceEqDiff, Nat.reduceLeDiff, reduceCtorEq]
    obtain ⟨J, hJ⟩ : ∃ I : Nat → St → Prop, ∀ j s, I j s ↔ ∃ (w : List Int) (ww : Nat), w = x.own :: (ks.take j).map (capR t l) ∧ w.length = j + 1 ∧ s.pe 0 = .p (.int .i64 n.id) ∧ s.pe 1 = .p (.int .i64 K) ∧ s.pe 2 = .ptr (Id.arg 0 0) 0 0 ∧ s.pe 3 = .ptr (Id.arg 1 0) 0 0 ∧ s.pe 4 = .ptr (Id.arg 2 0) 0 0 ∧ s.pe 5 = .ptr (Id.arg 3 0) 0 0 ∧ s.pe 8 = .own (.slot 17 1) 0 0 ks.length ∧ s.pe 9 = .own (.slot 22 0) ww 0 w.length ∧ s.pe 23 = .own (.slot 17 1) 0 0 ks.length ∧ s.pe 24 = .p (.int .i64 ↑ks.length) ∧ s.pe 25 = .p (.int .i64 j) ∧ s.h (.arg 0 0) = some (0, Ob.box [.p (nodesP t.nodes), .p (.int .i64 t.next)]) ∧ s.h (.arg 1 0) = some (0, Ob.box [.p (mapP l)]) ∧ s.h (.arg 2 0) = some (0, Ob.box [VVal.own (Id.arg 4 0) 0 0 out.length]) ∧ s.h (.arg 3 0) = some (0, Ob.box [VVal.fn 38 [.ptr (Id.arg 0 0) 0 0, .ptr (Id.arg 1 0) 0 0, .ptr (Id.arg 2 0) 0 0, .ptr (Id.arg 3 0) 0 0]]) ∧ s.h (.arg 4 0) = some (0, Ob.arr 2 (List.map tkP out)) ∧ s.h (.slot 17 1) = some (0, Ob.arr 1 (List.map (.int .i64) ks)) ∧ s.h (.slot 22 0) = some (ww, Ob.arr 1 (w.map (.int .i64))) := ⟨_, fun _ _ => Iff.rfl⟩
    refine wp_count (ks.length) J ?_ ?_
    · refine (hJ _ _).2 ⟨[x.own], 0, ?_, ?_, ?_, ?_, ?_, ?_, ?_, ?_, ?_, ?_, ?_, ?_, ?_, ?_, ?_, ?_, ?_, ?_, ?_, ?_⟩
      · exact by simp
      · exact rfl
      all_goals first | with_reducible rfl | (simp -implicitDefEqProofs (disch := omega) only [List.map_append, go_sem, ↓reduceIte, Nat.reduceAdd, Nat.reduceSub, Nat.reduceEqDiff, Nat.reduceLeDiff, reduceCtorEq]; first | done | rfl | (simp; done) | (congr 2; omega) | (congr 1; omega) | (congr 3; omega) | (simp; omega) | (congr 2; simp; omega) | (refine ⟨_, rfl, ?_⟩; first | rfl | (simp -implicitDefEqProofs (disch := omega) only [List.map_append, go_sem, ↓reduceIte, Nat.reduceAdd, Nat.reduceSub, Nat.reduceEqDiff, Nat.reduceLeDiff, reduceCtorEq]; done))) | rfl | omega | (congr 2; omega)
    intro j s hj hJk
    obtain ⟨w, ww, hw, hwl, h0, h1, h2, h3, h4, h5, h8, h9, h23, h24, h25, ha0, ha1, ha2, ha3, ha4, hh17_1, hh22_0⟩ := (hJ _ _).1 hJk
    clear hJk
    simp -implicitDefEqProofs (disch := omega) only [h0, h1, h2, h3, h4, h5, h8, h9, h23, h24, h25, ha0, ha1, ha2, ha3, ha4, hh17_1, hh22_0, go_sem, ↓reduceIte, Nat.reduceAdd, Nat.reduceSub, Nat.reduceEqDiff, Nat.reduceLeDiff, reduceCtorEq]
    refine wp_if_d (fun hlt => ?_) (fun hge => ?_)
    · have hm : ks[j]? = some ks[j] := List.getElem?_eq_getElem hlt
      have htk := take_snoc hm
      generalize ks[j] = c at hm htk
      have hc := hkm c (List.mem_of_getElem? hm)
      simp -implicitDefEqProofs (disch := omega) only [h0, h1, h2, h3, h4, h5, h8, h9, h23, h24, h25, ha0, ha1, ha2, ha3, ha4, hh17_1, hh22_0, hlt, hm, hc, go_sem, ↓reduceIte, Nat.reduceAdd, Nat.reduceSub, Nat.reduceEqDiff, Nat.reduceLeDiff, reduceCtorEq]
      try refine And.intro (by omega) ?_
      refine (hJ _ _).2 ⟨w ++ [capR t l c], ww + 1, ?_, ?_, ?_, ?_, ?_, ?_, ?_, ?_, ?_, ?_, ?_, ?_, ?_, ?_, ?_, ?_, ?_, ?_, ?_, ?_⟩
      · exact by rw [hw, htk]; simp
      · exact by simp [hwl]
      all_goals first | with_reducible rfl | (simp -implicitDefEqProofs (disch := omega) only [h0, h1, h2, h3, h4, h5, h8, h9, h23, h24, h25, ha0, ha1, ha2, ha3, ha4, hh17_1, hh22_0, List.map_append, go_sem, ↓reduceIte, Nat.reduceAdd, Nat.reduceSub, Nat.reduceEqDiff, Nat.reduceLeDiff, reduceCtorEq]; first | done | rfl | (simp; done) | (congr 2; omega) | (congr 1; omega) | (congr 3; omega) | (simp; omega) | (congr 2; simp; omega) | (refine ⟨_, rfl, ?_⟩; first | rfl | (simp -implicitDefEqProofs (disch := omega) only [h0, h1, h2, h3, h4, h5, h8, h9, h23, h24, h25, ha0, ha1, ha2, ha3, ha4, hh17_1, hh22_0, List.map_append, go_sem, ↓reduceIte, Nat.reduceAdd, Nat.reduceSub, Nat.reduceEqDiff, Nat.reduceLeDiff, reduceCtorEq]; done))) | rfl | omega | (congr 2; omega)
    · have hjl : j = ks.length := by omega
      subst hjl
      rw [List.take_length] at hw
      have hwb : ∀ x ∈ w, 0 ≤ x ∧ x ≤ 16777216 := by
        rw [hw]
        intro y hy
        rcases List.mem_cons.1 hy with rfl | hy
        · exact ⟨hx.o0, hx.o1⟩
        · obtain ⟨c, _, rfl⟩ := List.mem_map.1 hy
          exact hcb c
      rw [← hw]
      have hsp := split_eq K w hK0 hK1 (by omega) hwb
      have hgl := splitP_length K w
      have hgb := splitP_bound hK0 hK1 hwb
      generalize splitP K w = got at hsp hgl hgb
      rcases got with - | ⟨g0, gs⟩
      · simp only [List.length_nil] at hgl
        omega
      have hgs : gs.length = ks.length := by
        rw [List.length_cons] at hgl
        omega
      have hg00 := (hgb g0 (by simp)).1
      have hg01 := (hgb g0 (by simp)).2
      have hgb' : ∀ z ∈ gs, 0 ≤ z ∧ z ≤ 16777216 := fun z hz => hgb z (by simp [hz])
      rw [List.headD_cons, List.tail_cons]
      obtain ⟨F, hFd⟩ : ∃ F : Int × Int → List (Int × Int), F = fun p => if 0 < p.2 then takeN t.nodes l (capR t l) k p.1 p.2 else [] := ⟨_, rfl⟩
      have hF0 : ∀ a b, 0 < b → F (a, b) = takeN t.nodes l (capR t l) k a b := fun a b hb => by rw [hFd]; exact if_pos hb
      have hF1 : ∀ a b, ¬ 0 < b → F (a, b) = [] := fun a b hb => by rw [hFd]; exact if_neg hb
      have hFl : ∀ (xs ys : List Int), ((xs.zip ys).flatMap F).length ≤ (xs.flatMap (subF t.nodes k)).length := by
        rw [hFd]
        exact zip_flat_le (f := takeN t.nodes l (capR t l) k) (g := subF t.nodes k) (takeN_length t.nodes l (capR t l) k)
      rw [← hFd]
      clear hFd
      by_cases hpos : 0 < g0
      · rw [if_pos hpos]
        obtain ⟨res, hres⟩ : ∃ res, [(n.id, g0)] ++ (ks.zip gs).flatMap F = res := ⟨_, rfl⟩
        rw [hres]
        simp -implicitDefEqProofs (disch := omega) only [h0, h1, h2, h3, h4, h5, h8, h9, h23, h24, h25, ha0, ha1, ha2, ha3, ha4, hh17_1, hh22_0, hge, hsp, hpos, Int.toNat_zero, List.getElem?_cons_zero, go_sem, ↓reduceIte, Nat.reduceAdd, Nat.reduceSub, Nat.reduceEqDiff, Nat.reduceLeDiff, reduceCtorEq]
        obtain ⟨M, hM⟩ : ∃ I : Nat → St → Prop, ∀ m s, I m s ↔ ∃ (v39_1 : Nat) (acc : List (Int × Int)) (v : Nat) (cur : List (Int × Int)), cur = out ++ acc ∧ acc = [(n.id, g0)] ++ ((ks.zip gs).take m).flatMap F ∧ (v = 0 ↔ acc = []) ∧ s.pe 5 = .ptr (Id.arg 3 0) 0 0 ∧ s.pe 12 = .own (.slot 39 1) v39_1 0 (gs.length + 1) ∧ s.pe 52 = .own (.slot 17 1) 0 0 ks.length ∧ s.pe 53 = .p (.int .i64 ↑ks.length) ∧ s.pe 54 = .p (.int .i64 m) ∧ s.h (.arg 0 0) = some (0, Ob.box [.p (nodesP t.nodes), .p (.int .i64 t.next)]) ∧ s.h (.arg 1 0) = some (0, Ob.box [.p (mapP l)]) ∧ s.h (.arg 2 0) = some (0, Ob.box [VVal.own (Id.arg 4 0) v 0 cur.length]) ∧ s.h (.arg 3 0) = some (0, Ob.box [VVal.fn 38 [.ptr (Id.arg 0 0) 0 0, .ptr (Id.arg 1 0) 0 0, .ptr (Id.arg 2 0) 0 0, .ptr (Id.arg 3 0) 0 0]]) ∧ s.h (.arg 4 0) = some (v, Ob.arr 2 (List.map tkP cur)) ∧ s.h (.slot 17 1) = some (0, Ob.arr 1 (List.map (.int .i64) ks)) ∧ s.h (.slot 39 1) = some (v39_1, Ob.arr 1 (PV.int IntKind.i64 g0 :: List.map (.int .i64) gs)) := ⟨_, fun _ _ => Iff.rfl⟩
        refine wp_count (ks.length) M ?_ ?_
        · refine (hM _ _).2 ⟨nv (s.h (.slot 39 1)), [(n.id, g0)], 1, out ++ [(n.id, g0)], ?_, ?_, ?_, ?_, ?_, ?_, ?_, ?_, ?_, ?_, ?_, ?_, ?_, ?_, ?_⟩
          · exact by simp
          · exact by simp
          · exact by simp
          all_goals first | with_reducible rfl | (simp -implicitDefEqProofs (disch := omega) only [h0, h1, h2, h3, h4, h5, h8, h9, h23, h24, h25, ha0, ha1, ha2, ha3, ha4, hh17_1, hh22_0, List.map_append, go_sem, ↓reduceIte, Nat.reduceAdd, Nat.reduceSub, Nat.reduceEqDiff, Nat.reduceLeDiff, reduceCtorEq]; first | done | rfl | (simp; done) | (congr 2; omega) | (congr 1; omega) | (congr 3; omega) | (simp; omega) | (congr 2; simp; omega) | (refine ⟨_, rfl, ?_⟩; first | rfl | (simp -implicitDefEqProofs (disch := omega) only [h0, h1, h2, h3, h4, h5, h8, h9, h23, h24, h25, ha0, ha1, ha2, ha3, ha4, hh17_1, hh22_0, List.map_append, go_sem, ↓reduceIte, Nat.reduceAdd, Nat.reduceSub, Nat.reduceEqDiff, Nat.reduceLeDiff, reduceCtorEq]; done))) | rfl | omega | (congr 2; omega)
        intro m s hm hMk
        obtain ⟨v39_1, acc, v, cur, hcur, hacc, hav, h5, h12, h52, h53, h54, ha0, ha1, ha2, ha3, ha4, hh17_1, hh39_1⟩ := (hM _ _).1 hMk
        clear hMk
        subst hcur
        simp -implicitDefEqProofs (disch := omega) only [h5, h12, h52, h53, h54, ha0, ha1, ha2, ha3, ha4, hh17_1, hh39_1, go_sem, ↓reduceIte, Nat.reduceAdd, Nat.reduceSub, Nat.reduceEqDiff, Nat.reduceLeDiff, reduceCtorEq]
        refine wp_if_d (fun hlt => ?_) (fun hge => ?_)
        · have hm : ks[m]? = some ks[m] := List.getElem?_eq_getElem hlt
          have hgm : gs[m]? = some gs[m] := List.getElem?_eq_getElem (by omega)
          have hzm : (ks.zip gs)[m]? = some (ks[m], gs[m]) := by rw [List.getElem?_zip_eq_some]; exact ⟨hm, hgm⟩
          have htz := take_snoc hzm
          generalize ks[m] = c at hm htz hzm
          generalize gs[m] = gk at hgm htz hzm
          have hgk := hgb' gk (List.mem_of_getElem? hgm)
          have hidx : (PV.int IntKind.i64 g0 :: List.map (PV.int .i64) gs)[(↑m + 1 : Int).toNat]? = some (.int .i64 gk) := by
            rw [show (↑m + 1 : Int).toNat = m + 1 by omega, List.getElem?_cons_succ]
            exact map_get_int hgm
          by_cases hk0 : 0 < gk
          · have hlen' : (out ++ acc).length + (subF t.nodes k c).length ≤ 1000 := by
              have e1 := congrArg List.length hacc
              have e2 := hFl (ks.take m) (gs.take m)
              have e3 := flat_take (f := subF t.nodes k) hm
              rw [← take_zip'] at e2
              rw [List.length_append] at e1 ⊢
              simp only [List.length_singleton] at e1
              omega
            have hr := hrec c (List.mem_of_getElem? hm) gk (out ++ acc) hgk.1 hgk.2 hlen'
            have hF : F (c, gk) = takeN t.nodes l (capR t l) k c gk := hF0 _ _ hk0
            generalize takeN t.nodes l (capR t l) k c gk = more at hr hF
            unfold HR' at hr
            by_cases hmore : more = []
            · rw [if_pos hmore] at hr
              simp only [HR, capsR, List.cons_append, List.nil_append, List.length_append] at hr
              have hacc' : acc = [(n.id, g0)] ++ ((ks.zip gs).take (m + 1)).flatMap F := by
                rw [htz, List.flatMap_append, List.flatMap_singleton, hF, hmore, List.append_nil]
                exact hacc
              simp -implicitDefEqProofs (disch := omega) only [h5, h12, h52, h53, h54, ha0, ha1, ha2, ha3, ha4, hh17_1, hh39_1, hlt, hm, hidx, hk0, hr, go_sem, ↓reduceIte, Nat.reduceAdd, Nat.reduceSub, Nat.reduceEqDiff, Nat.reduceLeDiff, reduceCtorEq]
              try refine And.intro (by omega) ?_
              refine (hM _ _).2 ⟨v39_1, acc, v, out ++ acc, ?_, ?_, ?_, ?_, ?_, ?_, ?_, ?_, ?_, ?_, ?_, ?_, ?_, ?_, ?_⟩
              · exact rfl
              · exact hacc'
              · exact hav
              all_goals first | with_reducible rfl | (simp -implicitDefEqProofs (disch := omega) only [h5, h12, h52, h53, h54, ha0, ha1, ha2, ha3, ha4, hh17_1, hh39_1, List.map_append, go_sem, ↓reduceIte, Nat.reduceAdd, Nat.reduceSub, Nat.reduceEqDiff, Nat.reduceLeDiff, reduceCtorEq]; first | done | rfl | (simp; done) | (congr 2; omega) | (congr 1; omega) | (congr 3; omega) | (simp; omega) | (congr 2; simp; omega) | (refine ⟨_, rfl, ?_⟩; first | rfl | (simp -implicitDefEqProofs (disch := omega) only [h5, h12, h52, h53, h54, ha0, ha1, ha2, ha3, ha4, hh17_1, hh39_1, List.map_append, go_sem, ↓reduceIte, Nat.reduceAdd, Nat.reduceSub, Nat.reduceEqDiff, Nat.reduceLeDiff, reduceCtorEq]; done))) | rfl | omega | (congr 2; omega)
            · rw [if_neg hmore] at hr
              simp only [HR, capsR, List.cons_append, List.nil_append, List.length_append] at hr
              have hacc' : acc ++ more = [(n.id, g0)] ++ ((ks.zip gs).take (m + 1)).flatMap F := by
                rw [htz, List.flatMap_append, List.flatMap_singleton, hF, ← List.append_assoc, ← hacc]
              have hass : out ++ acc ++ more = out ++ (acc ++ more) := List.append_assoc _ _ _
              rw [hass] at hr
              simp -implicitDefEqProofs (disch := omega) only [h5, h12, h52, h53, h54, ha0, ha1, ha2, ha3, ha4, hh17_1, hh39_1, hlt, hm, hidx, hk0, hr, go_sem, ↓reduceIte, Nat.reduceAdd, Nat.reduceSub, Nat.reduceEqDiff, Nat.reduceLeDiff, reduceCtorEq]
              try refine And.intro (by omega) ?_
              refine (hM _ _).2 ⟨v39_1, acc ++ more, v + 1, out ++ (acc ++ more), ?_, ?_, ?_, ?_, ?_, ?_, ?_, ?_, ?_, ?_, ?_, ?_, ?_, ?_, ?_⟩
              · exact rfl
              · exact hacc'
              · exact by simp [hmore]
              all_goals first | with_reducible rfl | (simp -implicitDefEqProofs (disch := omega) only [h5, h12, h52, h53, h54, ha0, ha1, ha2, ha3, ha4, hh17_1, hh39_1, List.map_append, go_sem, ↓reduceIte, Nat.reduceAdd, Nat.reduceSub, Nat.reduceEqDiff, Nat.reduceLeDiff, reduceCtorEq]; first | done | rfl | (simp; done) | (congr 2; omega) | (congr 1; omega) | (congr 3; omega) | (simp; omega) | (congr 2; simp; omega) | (refine ⟨_, rfl, ?_⟩; first | rfl | (simp -implicitDefEqProofs (disch := omega) only [h5, h12, h52, h53, h54, ha0, ha1, ha2, ha3, ha4, hh17_1, hh39_1, List.map_append, go_sem, ↓reduceIte, Nat.reduceAdd, Nat.reduceSub, Nat.reduceEqDiff, Nat.reduceLeDiff, reduceCtorEq]; done))) | rfl | omega | (congr 2; omega)
          · have hF : F (c, gk) = [] := hF1 _ _ hk0
            have hacc' : acc = [(n.id, g0)] ++ ((ks.zip gs).take (m + 1)).flatMap F := by
              rw [htz, List.flatMap_append, List.flatMap_singleton, hF, List.append_nil]
              exact hacc
            simp -implicitDefEqProofs (disch := omega) only [h5, h12, h52, h53, h54, ha0, ha1, ha2, ha3, ha4, hh17_1, hh39_1, hlt, hm, hidx, hk0, go_sem, ↓reduceIte, Nat.reduceAdd, Nat.reduceSub, Nat.reduceEqDiff, Nat.reduceLeDiff, reduceCtorEq]
            try refine And.intro (by omega) ?_
            refine (hM _ _).2 ⟨v39_1, acc, v, out ++ acc, ?_, ?_, ?_, ?_, ?_, ?_, ?_, ?_, ?_, ?_, ?_, ?_, ?_, ?_, ?_⟩
            · exact rfl
            · exact hacc'
            · exact hav
            all_goals first | with_reducible rfl | (simp -implicitDefEqProofs (disch := omega) only [h5, h12, h52, h53, h54, ha0, ha1, ha2, ha3, ha4, hh17_1, hh39_1, List.map_append, go_sem, ↓reduceIte, Nat.reduceAdd, Nat.reduceSub, Nat.reduceEqDiff, Nat.reduceLeDiff, reduceCtorEq]; first | done | rfl | (simp; done) | (congr 2; omega) | (congr 1; omega) | (congr 3; omega) | (simp; omega) | (congr 2; simp; omega) | (refine ⟨_, rfl, ?_⟩; first | rfl | (simp -implicitDefEqProofs (disch := omega) only [h5, h12, h52, h53, h54, ha0, ha1, ha2, ha3, ha4, hh17_1, hh39_1, List.map_append, go_sem, ↓reduceIte, Nat.reduceAdd, Nat.reduceSub, Nat.reduceEqDiff, Nat.reduceLeDiff, reduceCtorEq]; done))) | rfl | omega | (congr 2; omega)
        · rw [List.take_of_length_le (by rw [List.length_zip]; omega)] at hacc
          rw [hres] at hacc
          subst hacc
          by_cases hvz : v = 0
          · have hn := hav.1 hvz
            subst hvz
            subst hn
            simp -implicitDefEqProofs (disch := omega) only [h5, h12, h52, h53, h54, ha0, ha1, ha2, ha3, ha4, hh17_1, hh39_1, hge, go_sem, ↓reduceIte, Nat.reduceAdd, Nat.reduceSub, Nat.reduceEqDiff, Nat.reduceLeDiff, reduceCtorEq]
            rw [HR', if_pos rfl]
          · have hn : ¬ acc = [] := fun h => hvz (hav.2 h)
            simp -implicitDefEqProofs (disch := omega) only [h5, h12, h52, h53, h54, ha0, ha1, ha2, ha3, ha4, hh17_1, hh39_1, hge, hvz, go_sem, ↓reduceIte, Nat.reduceAdd, Nat.reduceSub, Nat.reduceEqDiff, Nat.reduceLeDiff, reduceCtorEq]
            rw [HR', if_neg hn, List.length_append]
      · rw [if_neg hpos]
        obtain ⟨res, hres⟩ : ∃ res, [] ++ (ks.zip gs).flatMap F = res := ⟨_, rfl⟩
        rw [hres]
        simp -implicitDefEqProofs (disch := omega) only [h0, h1, h2, h3, h4, h5, h8, h9, h23, h24, h25, ha0, ha1, ha2, ha3, ha4, hh17_1, hh22_0, hge, hsp, hpos, Int.toNat_zero, List.getElem?_cons_zero, go_sem, ↓reduceIte, Nat.reduceAdd, Nat.reduceSub, Nat.reduceEqDiff, Nat.reduceLeDiff, reduceCtorEq]
        obtain ⟨M, hM⟩ : ∃ I : Nat → St → Prop, ∀ m s, I m s ↔ ∃ (v39_1 : Nat) (acc : List (Int × Int)) (v : Nat) (cur : List (Int × Int)), cur = out ++ acc ∧ acc = [] ++ ((ks.zip gs).take m).flatMap F ∧ (v = 0 ↔ acc = []) ∧ s.pe 5 = .ptr (Id.arg 3 0) 0 0 ∧ s.pe 12 = .own (.slot 39 1) v39_1 0 (gs.length + 1) ∧ s.pe 52 = .own (.slot 17 1) 0 0 ks.length ∧ s.pe 53 = .p (.int .i64 ↑ks.length) ∧ s.pe 54 = .p (.int .i64 m) ∧ s.h (.arg 0 0) = some (0, Ob.box [.p (nodesP t.nodes), .p (.int .i64 t.next)]) ∧ s.h (.arg 1 0) = some (0, Ob.box [.p (mapP l)]) ∧ s.h (.arg 2 0) = some (0, Ob.box [VVal.own (Id.arg 4 0) v 0 cur.length]) ∧ s.h (.arg 3 0) = some (0, Ob.box [VVal.fn 38 [.ptr (Id.arg 0 0) 0 0, .ptr (Id.arg 1 0) 0 0, .ptr (Id.arg 2 0) 0 0, .ptr (Id.arg 3 0) 0 0]]) ∧ s.h (.arg 4 0) = some (v, Ob.arr 2 (List.map tkP cur)) ∧ s.h (.slot 17 1) = some (0, Ob.arr 1 (List.map (.int .i64) ks)) ∧ s.h (.slot 39 1) = some (v39_1, Ob.arr 1 (PV.int IntKind.i64 g0 :: List.map (.int .i64) gs)) := ⟨_, fun _ _ => Iff.rfl⟩
        refine wp_count (ks.length) M ?_ ?_
        · refine (hM _ _).2 ⟨nv (s.h (.slot 39 1)), [], 0, out, ?_, ?_, ?_, ?_, ?_, ?_, ?_, ?_, ?_, ?_, ?_, ?_, ?_, ?_, ?_⟩
          · exact by simp
          · exact by simp
          · exact by simp
          all_goals first | with_reducible rfl | (simp -implicitDefEqProofs (disch := omega) only [h0, h1, h2, h3, h4, h5, h8, h9, h23, h24, h25, ha0, ha1, ha2, ha3, ha4, hh17_1, hh22_0, List.map_append, go_sem, ↓reduceIte, Nat.reduceAdd, Nat.reduceSub, Nat.reduceEqDiff, Nat.reduceLeDiff, reduceCtorEq]; first | done | rfl | (simp; done) | (congr 2; omega) | (congr 1; omega) | (congr 3; omega) | (simp; omega) | (congr 2; simp; omega) | (refine ⟨_, rfl, ?_⟩; first | rfl | (simp -implicitDefEqProofs (disch := omega) only [h0, h1, h2, h3, h4, h5, h8, h9, h23, h24, h25, ha0, ha1, ha2, ha3, ha4, hh17_1, hh22_0, List.map_append, go_sem, ↓reduceIte, Nat.reduceAdd, Nat.reduceSub, Nat.reduceEqDiff, Nat.reduceLeDiff, reduceCtorEq]; done))) | rfl | omega | (congr 2; omega)
        intro m s hm hMk
        obtain ⟨v39_1, acc, v, cur, hcur, hacc, hav, h5, h12, h52, h53, h54, ha0, ha1, ha2, ha3, ha4, hh17_1, hh39_1⟩ := (hM _ _).1 hMk
        clear hMk
        subst hcur
        simp -implicitDefEqProofs (disch := omega) only [h5, h12, h52, h53, h54, ha0, ha1, ha2, ha3, ha4, hh17_1, hh39_1, go_sem, ↓reduceIte, Nat.reduceAdd, Nat.reduceSub, Nat.reduceEqDiff, Nat.reduceLeDiff, reduceCtorEq]
        refine wp_if_d (fun hlt => ?_) (fun hge => ?_)
        · have hm : ks[m]? = some ks[m] := List.getElem?_eq_getElem hlt
          have hgm : gs[m]? = some gs[m] := List.getElem?_eq_getElem (by omega)
          have hzm : (ks.zip gs)[m]? = some (ks[m], gs[m]) := by rw [List.getElem?_zip_eq_some]; exact ⟨hm, hgm⟩
          have htz := take_snoc hzm
          generalize ks[m] = c at hm htz hzm
          generalize gs[m] = gk at hgm htz hzm
          have hgk := hgb' gk (List.mem_of_getElem? hgm)
          have hidx : (PV.int IntKind.i64 g0 :: List.map (PV.int .i64) gs)[(↑m + 1 : Int).toNat]? = some (.int .i64 gk) := by
            rw [show (↑m + 1 : Int).toNat = m + 1 by omega, List.getElem?_cons_succ]
            exact map_get_int hgm
          by_cases hk0 : 0 < gk
          · have hlen' : (out ++ acc).length + (subF t.nodes k c).length ≤ 1000 := by
              have e1 := congrArg List.length hacc
              have e2 := hFl (ks.take m) (gs.take m)
              have e3 := flat_take (f := subF t.nodes k) hm
              rw [← take_zip'] at e2
              rw [List.length_append] at e1 ⊢
              simp only [List.length_nil] at e1
              omega
            have hr := hrec c (List.mem_of_getElem? hm) gk (out ++ acc) hgk.1 hgk.2 hlen'
            have hF : F (c, gk) = takeN t.nodes l (capR t l) k c gk := hF0 _ _ hk0
            generalize takeN t.nodes l (capR t l) k c gk = more at hr hF
            unfold HR' at hr
            by_cases hmore : more = []
            · rw [if_pos hmore] at hr
              simp only [HR, capsR, List.cons_append, List.nil_append, List.length_append] at hr
              have hacc' : acc = [] ++ ((ks.zip gs).take (m + 1)).flatMap F := by
                rw [htz, List.flatMap_append, List.flatMap_singleton, hF, hmore, List.append_nil]
                exact hacc
              simp -implicitDefEqProofs (disch := omega) only [h5, h12, h52, h53, h54, ha0, ha1, ha2, ha3, ha4, hh17_1, hh39_1, hlt, hm, hidx, hk0, hr, go_sem, ↓reduceIte, Nat.reduceAdd, Nat.reduceSub, Nat.reduceEqDiff, Nat.reduceLeDiff, reduceCtorEq]
              try refine And.intro (by omega) ?_
              refine (hM _ _).2 ⟨v39_1, acc, v, out ++ acc, ?_, ?_, ?_, ?_, ?_, ?_, ?_, ?_, ?_, ?_, ?_, ?_, ?_, ?_, ?_⟩
              · exact rfl
              · exact hacc'
              · exact hav
              all_goals first | with_reducible rfl | (simp -implicitDefEqProofs (disch := omega) only [h5, h12, h52, h53, h54, ha0, ha1, ha2, ha3, ha4, hh17_1, hh39_1, List.map_append, go_sem, ↓reduceIte, Nat.reduceAdd, Nat.reduceSub, Nat.reduceEqDiff, Nat.reduceLeDiff, reduceCtorEq]; first | done | rfl | (simp; done) | (congr 2; omega) | (congr 1; omega) | (congr 3; omega) | (simp; omega) | (congr 2; simp; omega) | (refine ⟨_, rfl, ?_⟩; first | rfl | (simp -implicitDefEqProofs (disch := omega) only [h5, h12, h52, h53, h54, ha0, ha1, ha2, ha3, ha4, hh17_1, hh39_1, List.map_append, go_sem, ↓reduceIte, Nat.reduceAdd, Nat.reduceSub, Nat.reduceEqDiff, Nat.reduceLeDiff, reduceCtorEq]; done))) | rfl | omega | (congr 2; omega)
            · rw [if_neg hmore] at hr
              simp only [HR, capsR, List.cons_append, List.nil_append, List.length_append] at hr
              have hacc' : acc ++ more = [] ++ ((ks.zip gs).take (m + 1)).flatMap F := by
                rw [htz, List.flatMap_append, List.flatMap_singleton, hF, ← List.append_assoc, ← hacc]
              have hass : out ++ acc ++ more = out ++ (acc ++ more) := List.append_assoc _ _ _
              rw [hass] at hr
              simp -implicitDefEqProofs (disch := omega) only [h5, h12, h52, h53, h54, ha0, ha1, ha2, ha3, ha4, hh17_1, hh39_1, hlt, hm, hidx, hk0, hr, go_sem, ↓reduceIte, Nat.reduceAdd, Nat.reduceSub, Nat.reduceEqDiff, Nat.reduceLeDiff, reduceCtorEq]
              try refine And.intro (by omega) ?_
              refine (hM _ _).2 ⟨v39_1, acc ++ more, v + 1, out ++ (acc ++ more), ?_, ?_, ?_, ?_, ?_, ?_, ?_, ?_, ?_, ?_, ?_, ?_, ?_, ?_, ?_⟩
              · exact rfl
              · exact hacc'
              · exact by simp [hmore]
              all_goals first | with_reducible rfl | (simp -implicitDefEqProofs (disch := omega) only [h5, h12, h52, h53, h54, ha0, ha1, ha2, ha3, ha4, hh17_1, hh39_1, List.map_append, go_sem, ↓reduceIte, Nat.reduceAdd, Nat.reduceSub, Nat.reduceEqDiff, Nat.reduceLeDiff, reduceCtorEq]; first | done | rfl | (simp; done) | (congr 2; omega) | (congr 1; omega) | (congr 3; omega) | (simp; omega) | (congr 2; simp; omega) | (refine ⟨_, rfl, ?_⟩; first | rfl | (simp -implicitDefEqProofs (disch := omega) only [h5, h12, h52, h53, h54, ha0, ha1, ha2, ha3, ha4, hh17_1, hh39_1, List.map_append, go_sem, ↓reduceIte, Nat.reduceAdd, Nat.reduceSub, Nat.reduceEqDiff, Nat.reduceLeDiff, reduceCtorEq]; done))) | rfl | omega | (congr 2; omega)
          · have hF : F (c, gk) = [] := hF1 _ _ hk0
            have hacc' : acc = [] ++ ((ks.zip gs).take (m + 1)).flatMap F := by
              rw [htz, List.flatMap_append, List.flatMap_singleton, hF, List.append_nil]
              exact hacc
            simp -implicitDefEqProofs (disch := omega) only [h5, h12, h52, h53, h54, ha0, ha1, ha2, ha3, ha4, hh17_1, hh39_1, hlt, hm, hidx, hk0, go_sem, ↓reduceIte, Nat.reduceAdd, Nat.reduceSub, Nat.reduceEqDiff, Nat.reduceLeDiff, reduceCtorEq]
            try refine And.intro (by omega) ?_
            refine (hM _ _).2 ⟨v39_1, acc, v, out ++ acc, ?_, ?_, ?_, ?_, ?_, ?_, ?_, ?_, ?_, ?_, ?_, ?_, ?_, ?_, ?_⟩
            · exact rfl
            · exact hacc'
            · exact hav
            all_goals first | with_reducible rfl | (simp -implicitDefEqProofs (disch := omega) only [h5, h12, h52, h53, h54, ha0, ha1, ha2, ha3, ha4, hh17_1, hh39_1, List.map_append, go_sem, ↓reduceIte, Nat.reduceAdd, Nat.reduceSub, Nat.reduceEqDiff, Nat.reduceLeDiff, reduceCtorEq]; first | done | rfl | (simp; done) | (congr 2; omega) | (congr 1; omega) | (congr 3; omega) | (simp; omega) | (congr 2; simp; omega) | (refine ⟨_, rfl, ?_⟩; first | rfl | (simp -implicitDefEqProofs (disch := omega) only [h5, h12, h52, h53, h54, ha0, ha1, ha2, ha3, ha4, hh17_1, hh39_1, List.map_append, go_sem, ↓reduceIte, Nat.reduceAdd, Nat.reduceSub, Nat.reduceEqDiff, Nat.reduceLeDiff, reduceCtorEq]; done))) | rfl | omega | (congr 2; omega)
        · rw [List.take_of_length_le (by rw [List.length_zip]; omega)] at hacc
          rw [hres] at hacc
          subst hacc
          by_cases hvz : v = 0
          · have hn := hav.1 hvz
            subst hvz
            subst hn
            simp -implicitDefEqProofs (disch := omega) only [h5, h12, h52, h53, h54, ha0, ha1, ha2, ha3, ha4, hh17_1, hh39_1, hge, go_sem, ↓reduceIte, Nat.reduceAdd, Nat.reduceSub, Nat.reduceEqDiff, Nat.reduceLeDiff, reduceCtorEq]
            rw [HR', if_pos rfl]
          · have hn : ¬ acc = [] := fun h => hvz (hav.2 h)
            simp -implicitDefEqProofs (disch := omega) only [h5, h12, h52, h53, h54, ha0, ha1, ha2, ha3, ha4, hh17_1, hh39_1, hge, hvz, go_sem, ↓reduceIte, Nat.reduceAdd, Nat.reduceSub, Nat.reduceEqDiff, Nat.reduceLeDiff, reduceCtorEq]
            rw [HR', if_neg hn, List.length_append]
end Go.V

namespace Go.V

theorem zip_sub {f : Int → Int → List (Int × Int)} {g : Int → List Int} (h : ∀ a b, List.Sublist ((f a b).map Prod.fst) (g a)) : ∀ (xs ys : List Int), List.Sublist (((xs.zip ys).flatMap fun p => if 0 < p.2 then f p.1 p.2 else []).map Prod.fst) (xs.flatMap g)
  | [], _ => by simp
  | _ :: _, [] => by simp
  | x :: xs, y :: ys => by
    have h1 := zip_sub h xs ys
    rw [List.zip_cons_cons, List.flatMap_cons, List.flatMap_cons, List.map_append]
    refine List.Sublist.append ?_ h1
    show List.Sublist ((if 0 < y then f x y else []).map Prod.fst) (g x)
    split
    · exact h x y
    · simp
theorem takeN_sub (ns : List Nd) (l : List Pt) (cap : Int → Int) : ∀ (k : Nat) (g K : Int), List.Sublist ((takeN ns l cap k g K).map Prod.fst) (subF ns k g)
  | 0, _, _ => by simp [takeN]
  | k + 1, g, K => by
    have h1 := zip_sub (f := takeN ns l cap k) (g := subF ns k) (takeN_sub ns l cap k) (kidsN ns g) (splitP K ((partOf l g).own :: (kidsN ns g).map cap)).tail
    rw [takeN, subF, List.map_append]
    split
    · exact List.Sublist.cons_cons _ h1
    · exact List.Sublist.cons _ h1

def tsort (ps : List (Int × Int)) : List (Int × Int) := ps.mergeSort fun x y => decide (x.1 ≤ y.1)
theorem mapO_unPair : ∀ (l : List (Int × Int)), mapO unPair (l.map tkP) = some l
  | [] => rfl
  | x :: l => by
    rw [List.map_cons]
    show ob (some (x.1, x.2)) (fun y => ob (mapO unPair (List.map tkP l)) fun ys => some (y :: ys)) = _
    rw [mapO_unPair l, ob_some, ob_some]
theorem sortF_eq (l : List (Int × Int)) (hl : l.length < 1000000) (hb : ∀ p ∈ l, 0 ≤ p.1 ∧ p.1 < 4611686018427387904) (hn : (l.map Prod.fst).Nodup) : V 41 [.own (.arg 0 0) 0 0 l.length, .p (.fn 42)] [.arr 2 (l.map tkP)] = some (.tup [], [.arr 2 ((tsort l).map tkP)]) := by
  refine V_x ?_
  have h1 : l.length = (l.map tkP).length := by simp
  have h2 : l.length < 4611686018427387904 := by omega
  have hne : ¬ 41 = 51 := by decide
  simp only [XS, if_neg hne, if_pos, XP, gd, if_pos h1, if_pos h2, mapO_unPair, ob_some, if_pos hb, if_pos hn, tsort]

abbrev takeR (t : Tr) (l : List Pt) (g K : Int) : List (Int × Int) := takeN t.nodes l (capR t l) t.nodes.length g K
def RoundP (t : Tr) (l : List Pt) (root n : Int) : List (Int × Int) × Int := if validP t l root = true then (if pagesB n = true then (tsort (takeR t l root (min n (capR t l root))), 0) else ([], 3)) else ([], 1)

theorem takeR_ok {t : Tr} (h : TreeOk t) {l : List Pt} {g : Int} (hg : InN t.nodes g) (K : Int) : (takeR t l g K).length ≤ 64 ∧ (∀ p ∈ takeR t l g K, 0 ≤ p.1 ∧ p.1 < 4611686018427387904) ∧ ((takeR t l g K).map Prod.fst).Nodup := by
  obtain ⟨i, n, hn, rfl⟩ := hg
  have hs := takeN_sub t.nodes l (capR t l) t.nodes.length n.id K
  have hl : (takeR t l n.id K).length ≤ _ := takeN_length t.nodes l (capR t l) t.nodes.length n.id K
  have hl2 := subF_length h hn (k := t.nodes.length) (by omega)
  have hlen := h.len
  refine ⟨by omega, fun p hp => ?_, hs.nodup (nodup_subF h _ i n hn (by omega))⟩
  have h1 := hs.subset (List.mem_map.2 ⟨p, hp, rfl⟩)
  obtain ⟨j, m, hm, he, _⟩ := (mem_subF h _ i n hn (by omega) _).1 h1
  have hmm := List.mem_of_getElem? hm
  have h2 := h.lt_next m hmm
  obtain ⟨_, _, _, h3⟩ := h.next
  have h4 := h.pos m hmm
  omega

set_option maxHeartbeats 4000000 in
theorem round_eq (t : Tr) (l : List Pt) (root n : Int) (hf : t.Fits) (hn : t.nodes.length < 1000000) (hl : l.length < 1000000) : V 18 [t.vv, .p (ptsP l), .p (.int .i64 root), .p (.int .i64 n)] [] = some (.tup [.fresh 2 ((RoundP t l root n).1.map tkP), .p (.int .i64 (RoundP t l root n).2)], []) := by
  refine V_wp (vf := vf18) rfl ?_
  have hv := pvalid_parts t l root hf hn hl
  have hpg := pages_eq n
  unfold RoundP
  by_cases h : validP t l root = true
  · have hP := (validP_iff t l root).1 h
    have hm := mparts_eq l hl hP.nodup
    have hc := mcap_eq hP.tree hP.ok hP.top
    rw [h] at hv
    rw [if_pos h]
    by_cases hpn : pagesB n = true
    · rw [if_pos hpn]
      rw [hpn] at hpg
      have hnb : 0 ≤ n ∧ n ≤ 16777216 := by simpa [pagesB] using hpn
      have hcb : 0 ≤ capR t l root ∧ capR t l root ≤ 16777216 := capN_bound (ns := t.nodes) hP.ok t.nodes.length root
      have htk : V 38 ([.p (.int .i64 root), .p (.int .i64 (min n (capR t l root)))] ++ capsR) (HR t l []) = some (.tup [], HR' t l [] (takeR t l root (min n (capR t l root)))) := by
        obtain ⟨i, r, hr, he⟩ := hP.top
        subst he
        have hl2 := subF_length hP.tree hr (k := t.nodes.length) (by omega)
        have hlen := hP.tree.len
        exact take_eq0 hP.tree hP.ok _ i r _ [] hr (by omega) (by omega) (by omega) (by simp only [List.length_nil]; omega)
      obtain ⟨hr1, hr2, hr3⟩ := takeR_ok (l := l) hP.tree hP.top (min n (capR t l root))
      generalize takeR t l root (min n (capR t l root)) = res at htk hr1 hr2 hr3
      have hso := sortF_eq res (by omega) hr2 hr3
      unfold HR' at htk
      by_cases hre : res = []
      · rw [if_pos hre] at htk
        simp only [HR, capsR, List.cons_append, List.nil_append, List.length_nil, List.map_nil] at htk
        subst hre
        simp only [List.length_nil, List.map_nil] at hso
        simp -implicitDefEqProofs (disch := omega) only [vf18, vb18, hv, hpg, hm, hc, htk, hso, go_sem, ↓reduceIte, Nat.reduceAdd, Nat.reduceSub, Nat.reduceEqDiff, Nat.reduceLeDiff, reduceCtorEq]
        simp [tsort]
      · rw [if_neg hre] at htk
        simp only [HR, capsR, List.cons_append, List.nil_append, List.length_nil, List.map_nil] at htk
        simp -implicitDefEqProofs (disch := omega) only [vf18, vb18, hv, hpg, hm, hc, htk, hso, go_sem, ↓reduceIte, Nat.reduceAdd, Nat.reduceSub, Nat.reduceEqDiff, Nat.reduceLeDiff, reduceCtorEq]
        rw [List.take_of_length_le (by simp [tsort])]
    · have hpn' : pagesB n = false := by simpa using hpn
      rw [if_neg hpn]
      rw [hpn'] at hpg
      simp -implicitDefEqProofs (disch := omega) only [vf18, vb18, hv, hpg, go_sem, ↓reduceIte, Nat.reduceAdd, Nat.reduceSub, Nat.reduceEqDiff, Nat.reduceLeDiff, reduceCtorEq]
  · have h' : validP t l root = false := by simpa using h
    rw [h'] at hv
    rw [if_neg h]
    simp -implicitDefEqProofs (disch := omega) only [vf18, vb18, hv, go_sem, ↓reduceIte, Nat.reduceAdd, Nat.reduceSub, Nat.reduceEqDiff, Nat.reduceLeDiff, reduceCtorEq]

end Go.V

namespace Go.V

theorem tk_ne {c d : Int × Int} (h : ¬ c = d) : (decide (c.1 = d.1) && decide (c.2 = d.2)) = false := by
  by_cases h1 : c.1 = d.1
  · by_cases h2 : c.2 = d.2
    · exact absurd (Prod.ext h1 h2) h
    · simp [h2]
  · simp [h1]
abbrev tksP (l : List (Int × Int)) : PV := .slice 2 (l.map tkP)
theorem sameT_eq (a b : List (Int × Int)) (hl : a.length < 1000000) : V 23 [.p (tksP a), .p (tksP b)] [] = some (.p (.bool (decide (a = b))), []) := by
  refine V_wp (vf := vf23) rfl ?_
  by_cases he : a.length = b.length
  · have he' : ((a.length : Int) = b.length) := by omega
    simp -implicitDefEqProofs (disch := omega) only [vf23, vb23, he', go_sem, ↓reduceIte, Nat.reduceAdd, Nat.reduceSub, Nat.reduceEqDiff, Nat.reduceLeDiff, reduceCtorEq]
    obtain ⟨I, hI⟩ : ∃ I : Nat → St → Prop, ∀ k s, I k s ↔ a.take k = b.take k ∧ s.pe 0 = .p (tksP a) ∧ s.pe 1 = .p (tksP b) ∧ s.pe 5 = .p (.int .i64 k) := ⟨_, fun _ _ => Iff.rfl⟩
    refine wp_count (a.length) I ?_ ?_
    · refine (hI _ _).2 ⟨?_, ?_, ?_, ?_⟩
      · exact by first | rfl | omega | (simp; done) | (simp; omega)
      all_goals first | with_reducible rfl | (simp -implicitDefEqProofs (disch := omega) only [List.map_append, go_sem, ↓reduceIte, Nat.reduceAdd, Nat.reduceSub, Nat.reduceEqDiff, Nat.reduceLeDiff, reduceCtorEq]; first | done | rfl | (simp; done) | (congr 2; omega) | (congr 1; omega) | (congr 3; omega) | (simp; omega) | (congr 2; simp; omega) | (refine ⟨_, rfl, ?_⟩; first | rfl | (simp -implicitDefEqProofs (disch := omega) only [List.map_append, go_sem, ↓reduceIte, Nat.reduceAdd, Nat.reduceSub, Nat.reduceEqDiff, Nat.reduceLeDiff, reduceCtorEq]; done))) | rfl | omega | (congr 2; omega)
    intro k s hk hIk
    obtain ⟨ht, h0, h1, h5⟩ := (hI _ _).1 hIk
    clear hIk
    simp -implicitDefEqProofs (disch := omega) only [h0, h1, h5, go_sem, ↓reduceIte, Nat.reduceAdd, Nat.reduceSub, Nat.reduceEqDiff, Nat.reduceLeDiff, reduceCtorEq]
    refine wp_if_d (fun hlt => ?_) (fun hge => ?_)
    · have ha : a[k]? = some a[k] := List.getElem?_eq_getElem hlt
      have hb : b[k]? = some b[k] := List.getElem?_eq_getElem (by omega)
      generalize a[k] = c at ha
      generalize b[k] = d at hb
      by_cases hcd : c = d
      · subst hcd
        simp -implicitDefEqProofs (disch := omega) only [h0, h1, h5, hlt, ha, hb, go_sem, ↓reduceIte, Nat.reduceAdd, Nat.reduceSub, Nat.reduceEqDiff, Nat.reduceLeDiff, reduceCtorEq]
        try refine And.intro (by omega) ?_
        refine (hI _ _).2 ⟨?_, ?_, ?_, ?_⟩
        · exact by rw [List.take_add_one, List.take_add_one, ha, hb, ht]
        all_goals first | with_reducible rfl | (simp -implicitDefEqProofs (disch := omega) only [h0, h1, h5, List.map_append, go_sem, ↓reduceIte, Nat.reduceAdd, Nat.reduceSub, Nat.reduceEqDiff, Nat.reduceLeDiff, reduceCtorEq]; first | done | rfl | (simp; done) | (congr 2; omega) | (congr 1; omega) | (congr 3; omega) | (simp; omega) | (congr 2; simp; omega) | (refine ⟨_, rfl, ?_⟩; first | rfl | (simp -implicitDefEqProofs (disch := omega) only [h0, h1, h5, List.map_append, go_sem, ↓reduceIte, Nat.reduceAdd, Nat.reduceSub, Nat.reduceEqDiff, Nat.reduceLeDiff, reduceCtorEq]; done))) | rfl | omega | (congr 2; omega)
      · have hne : ¬ a = b := by
          intro hab
          subst hab
          rw [ha] at hb
          cases hb
          exact hcd rfl
        have hx := tk_ne hcd
        simp -implicitDefEqProofs (disch := omega) only [h0, h1, h5, hlt, ha, hb, hx, hne, decide_false, go_sem, ↓reduceIte, Nat.reduceAdd, Nat.reduceSub, Nat.reduceEqDiff, Nat.reduceLeDiff, reduceCtorEq]
    · have hab : a = b := by
        rw [List.take_of_length_le (by omega), List.take_of_length_le (by omega)] at ht
        exact ht
      simp -implicitDefEqProofs (disch := omega) only [h0, h1, h5, hge, hab, decide_true, go_sem, ↓reduceIte, Nat.reduceAdd, Nat.reduceSub, Nat.reduceEqDiff, Nat.reduceLeDiff, reduceCtorEq]
  · have he' : ¬ ((a.length : Int) = b.length) := by omega
    have hne : ¬ a = b := fun h => he (by rw [h])
    simp -implicitDefEqProofs (disch := omega) only [vf23, vb23, he', hne, decide_false, go_sem, ↓reduceIte, Nat.reduceAdd, Nat.reduceSub, Nat.reduceEqDiff, Nat.reduceLeDiff, reduceCtorEq]

end Go.V

namespace Go.V

def takenP (t : Tr) (l : List (Int × Int)) (id : Int) : Int := sumI (l.map fun p => if id ∈ ancR t p.1 then p.2 else 0)
theorem ancR_len (t : Tr) (id : Int) : (ancR t id).length ≤ t.nodes.length := by
  unfold ancR
  split
  · unfold up
    have := upR_length t.nodes.reverse id
    simpa using this
  · simp
set_option maxHeartbeats 2000000 in
theorem taken_eq (t : Tr) (l : List (Int × Int)) (id : Int) (hn : t.nodes.length < 1000000) (hl : l.length < 1000000) (hb : ∀ p ∈ l, 0 ≤ p.2 ∧ p.2 ≤ 4294967296) : V 19 [t.vv, .p (tksP l), .p (.int .i64 id)] [] = some (.p (.int .i64 (takenP t l id)), []) := by
  refine V_wp (vf := vf19) rfl ?_
  unfold takenP
  simp -implicitDefEqProofs (disch := omega) only [vf19, vb19, go_sem, ↓reduceIte, Nat.reduceAdd, Nat.reduceSub, Nat.reduceEqDiff, Nat.reduceLeDiff, reduceCtorEq]
  obtain ⟨I, hI⟩ : ∃ I : Nat → St → Prop, ∀ k s, I k s ↔ ∃ (n : Int), n = sumI ((l.take k).map fun p => if id ∈ ancR t p.1 then p.2 else 0) ∧ 0 ≤ n ∧ n ≤ 4294967296 * k ∧ s.pe 1 = .p (tksP l) ∧ s.pe 2 = .p (.int .i64 id) ∧ s.pe 3 = .ptr (.slot 3 0) 0 0 ∧ s.pe 7 = .p (.int .i64 n) ∧ s.pe 8 = .p (.int .i64 k) ∧ s.h (.slot 3 0) = some (0, Ob.box [.p (nodesP t.nodes), .p (.int .i64 t.next)]) := ⟨_, fun _ _ => Iff.rfl⟩
  refine wp_count (l.length) I ?_ ?_
  · refine (hI _ _).2 ⟨0, ?_, ?_, ?_, ?_, ?_, ?_, ?_, ?_, ?_⟩
    · exact by simp [sumI]
    · exact by first | rfl | omega | (simp; done) | (simp; omega)
    · exact by first | rfl | omega | (simp; done) | (simp; omega)
    all_goals first | with_reducible rfl | (simp -implicitDefEqProofs (disch := omega) only [List.map_append, go_sem, ↓reduceIte, Nat.reduceAdd, Nat.reduceSub, Nat.reduceEqDiff, Nat.reduceLeDiff, reduceCtorEq]; first | done | rfl | (simp; done) | (congr 2; omega) | (congr 1; omega) | (congr 3; omega) | (simp; omega) | (congr 2; simp; omega) | (refine ⟨_, rfl, ?_⟩; first | rfl | (simp -implicitDefEqProofs (disch := omega) only [List.map_append, go_sem, ↓reduceIte, Nat.reduceAdd, Nat.reduceSub, Nat.reduceEqDiff, Nat.reduceLeDiff, reduceCtorEq]; done))) | rfl | omega | (congr 2; omega)
  intro k s hk hIk
  obtain ⟨n, hs, hn0, hn1, h1, h2, h3, h7, h8, hh3_0⟩ := (hI _ _).1 hIk
  clear hIk
  simp -implicitDefEqProofs (disch := omega) only [h1, h2, h3, h7, h8, hh3_0, go_sem, ↓reduceIte, Nat.reduceAdd, Nat.reduceSub, Nat.reduceEqDiff, Nat.reduceLeDiff, reduceCtorEq]
  refine wp_if_d (fun hlt => ?_) (fun hge => ?_)
  · have hm : l[k]? = some l[k] := List.getElem?_eq_getElem hlt
    have htk := sumI_take_succ (f := fun p : Int × Int => if id ∈ ancR t p.1 then p.2 else 0) hm
    have hbx := hb _ (List.mem_of_getElem? hm)
    generalize l[k] = x at hm htk hbx
    have hx0 := hbx.1
    have hx1 := hbx.2
    have ha := ranc_eq t x.1 hn
    have hal := ancR_len t x.1
    have hh := has3_eq (ancR t x.1) id (by omega)
    by_cases hin : id ∈ ancR t x.1
    · rw [decide_eq_true hin] at hh
      simp only [if_pos hin] at htk
      simp -implicitDefEqProofs (disch := omega) only [h1, h2, h3, h7, h8, hh3_0, hlt, hm, ha, hh, go_sem, ↓reduceIte, Nat.reduceAdd, Nat.reduceSub, Nat.reduceEqDiff, Nat.reduceLeDiff, reduceCtorEq]
      try refine And.intro (by omega) ?_
      refine (hI _ _).2 ⟨n + x.2, ?_, ?_, ?_, ?_, ?_, ?_, ?_, ?_, ?_⟩
      · exact by rw [htk, hs]
      · exact by omega
      · exact by omega
      all_goals first | with_reducible rfl | (simp -implicitDefEqProofs (disch := omega) only [h1, h2, h3, h7, h8, hh3_0, List.map_append, go_sem, ↓reduceIte, Nat.reduceAdd, Nat.reduceSub, Nat.reduceEqDiff, Nat.reduceLeDiff, reduceCtorEq]; first | done | rfl | (simp; done) | (congr 2; omega) | (congr 1; omega) | (congr 3; omega) | (simp; omega) | (congr 2; simp; omega) | (refine ⟨_, rfl, ?_⟩; first | rfl | (simp -implicitDefEqProofs (disch := omega) only [h1, h2, h3, h7, h8, hh3_0, List.map_append, go_sem, ↓reduceIte, Nat.reduceAdd, Nat.reduceSub, Nat.reduceEqDiff, Nat.reduceLeDiff, reduceCtorEq]; done))) | rfl | omega | (congr 2; omega)
    · rw [decide_eq_false hin] at hh
      simp only [if_neg hin, Int.add_zero] at htk
      simp -implicitDefEqProofs (disch := omega) only [h1, h2, h3, h7, h8, hh3_0, hlt, hm, ha, hh, go_sem, ↓reduceIte, Nat.reduceAdd, Nat.reduceSub, Nat.reduceEqDiff, Nat.reduceLeDiff, reduceCtorEq]
      try refine And.intro (by omega) ?_
      refine (hI _ _).2 ⟨n, ?_, ?_, ?_, ?_, ?_, ?_, ?_, ?_, ?_⟩
      · exact by rw [htk, hs]
      · exact by omega
      · exact by omega
      all_goals first | with_reducible rfl | (simp -implicitDefEqProofs (disch := omega) only [h1, h2, h3, h7, h8, hh3_0, List.map_append, go_sem, ↓reduceIte, Nat.reduceAdd, Nat.reduceSub, Nat.reduceEqDiff, Nat.reduceLeDiff, reduceCtorEq]; first | done | rfl | (simp; done) | (congr 2; omega) | (congr 1; omega) | (congr 3; omega) | (simp; omega) | (congr 2; simp; omega) | (refine ⟨_, rfl, ?_⟩; first | rfl | (simp -implicitDefEqProofs (disch := omega) only [h1, h2, h3, h7, h8, hh3_0, List.map_append, go_sem, ↓reduceIte, Nat.reduceAdd, Nat.reduceSub, Nat.reduceEqDiff, Nat.reduceLeDiff, reduceCtorEq]; done))) | rfl | omega | (congr 2; omega)
  · rw [List.take_of_length_le (by omega)] at hs
    simp -implicitDefEqProofs (disch := omega) only [h1, h2, h3, h7, h8, hh3_0, hge, go_sem, ↓reduceIte, Nat.reduceAdd, Nat.reduceSub, Nat.reduceEqDiff, Nat.reduceLeDiff, reduceCtorEq]
    rw [hs]
end Go.V

namespace Go.V

def capF (x : Pt) (s : Int) : Int := min (min (max 0 (x.usage - x.protect)) x.room) (x.own + s)
theorem capN_succ (ns : List Nd) (l : List Pt) (k : Nat) (g : Int) : capN ns l (k + 1) g = capF (partOf l g) (sumI ((kidsN ns g).map (capN ns l k))) := rfl
/-- One part is greater by at most n, all others are the same. -/
structure Grows (p q : List Pt) (g0 n : Int) : Prop where
  same : ∀ g, g ≠ g0 → partOf q g = partOf p g
  low : ∀ s, capF (partOf p g0) s ≤ capF (partOf q g0) s
  high : ∀ s, capF (partOf q g0) s ≤ capF (partOf p g0) s + n
theorem capF_mono (x : Pt) {s s' n : Int} (h : s ≤ s') (h' : s' ≤ s + n) (hn : 0 ≤ n) : capF x s ≤ capF x s' ∧ capF x s' ≤ capF x s + n := by
  unfold capF
  omega
theorem sum_one {f f' : Int → Int} {S : Int → List Int} {g0 n : Int} (hn : 0 ≤ n) : ∀ (ks : List Int), (ks.flatMap S).Nodup → (∀ c ∈ ks, f c ≤ f' c ∧ f' c ≤ f c + n ∧ (g0 ∉ S c → f' c = f c)) → sumI (ks.map f) ≤ sumI (ks.map f') ∧ sumI (ks.map f') ≤ sumI (ks.map f) + n ∧ (g0 ∉ ks.flatMap S → sumI (ks.map f') = sumI (ks.map f))
  | [], _, _ => by simp [sumI, hn]
  | c :: ks, hnd, h => by
    rw [List.flatMap_cons, List.nodup_append] at hnd
    obtain ⟨_, h2, h3⟩ := hnd
    have ih := sum_one hn ks h2 (fun d hd => h d (by simp [hd]))
    have hc := h c (by simp)
    simp only [List.map_cons, sumI, List.flatMap_cons, List.mem_append, not_or]
    by_cases hg : g0 ∈ S c
    · have : g0 ∉ ks.flatMap S := fun hh => h3 g0 hg g0 hh rfl
      have e := ih.2.2 this
      refine ⟨by omega, by omega, fun hh => absurd hg hh.1⟩
    · have e := hc.2.2 hg
      refine ⟨by omega, by omega, fun hh => ?_⟩
      have := ih.2.2 hh.2
      omega
theorem capN_grows {t : Tr} (h : TreeOk t) {p q : List Pt} {g0 n : Int} (hn : 0 ≤ n) (hg : Grows p q g0 n) : ∀ (k i : Nat) (m : Nd), t.nodes[i]? = some m → t.nodes.length ≤ i + k → capN t.nodes p k m.id ≤ capN t.nodes q k m.id ∧ capN t.nodes q k m.id ≤ capN t.nodes p k m.id + n ∧ (g0 ∉ subF t.nodes k m.id → capN t.nodes q k m.id = capN t.nodes p k m.id) := by
  intro k
  induction k with
  | zero => intro i m hm hk; have := (List.getElem?_eq_some_iff.1 hm).1; omega
  | succ k ih =>
    intro i m hm hk
    have hnd := nodup_subF h (k + 1) i m hm hk
    rw [subF, List.nodup_cons] at hnd
    rw [capN_succ, capN_succ, subF]
    have hs := sum_one (f := capN t.nodes p k) (f' := capN t.nodes q k) (S := subF t.nodes k) (g0 := g0) hn (kidsN t.nodes m.id) hnd.2 (fun c hc => by
      obtain ⟨j, m', hj, hp', rfl⟩ := mem_kidsN.1 hc
      have hij := h.kid hm hj hp'
      exact ih j m' hj (by omega))
    generalize sumI ((kidsN t.nodes m.id).map (capN t.nodes p k)) = a at hs
    generalize sumI ((kidsN t.nodes m.id).map (capN t.nodes q k)) = b at hs
    by_cases he : m.id = g0
    · have hno : g0 ∉ (kidsN t.nodes m.id).flatMap (subF t.nodes k) := he ▸ hnd.1
      rw [hs.2.2 hno, he]
      exact ⟨hg.low a, hg.high a, fun hh => absurd (by simp) hh⟩
    · rw [hg.same m.id he]
      have := capF_mono (partOf p m.id) hs.1 hs.2.1 hn
      refine ⟨this.1, this.2, fun hh => ?_⟩
      rw [hs.2.2 (fun hx => hh (by simp [hx]))]
end Go.V

namespace Go.V

theorem dParts_groups (L : List Int) : ∀ (ids : List Int) (a : Nat), (dParts L ids a).1.map (·.group) = ids
  | [], _ => rfl
  | x :: ids, a => by
    have := dParts_groups L ids (dPart L x a).2
    rw [dParts, List.map_cons, this]
    rfl
theorem dPart_ok (L : List Int) (x : Int) (a : Nat) : PtOk (dPart L x a).1 := by
  have h1 := pickV_mem L a (xs := [0, 7, 60, 100, 300]) (by simp)
  have h2 := pickV_mem L (nextA L a 5) (xs := [0, 0, 5, 50, 100]) (by simp)
  have h3 := pickV_mem L (nextA L (nextA L a 5) 5) (xs := [0, 1, 6, 40, 100]) (by simp)
  have h4 := pickV_mem L (nextA L (nextA L (nextA L a 5) 5) 5) (xs := [4611686018427387904, 4611686018427387904, 0, 9, 55]) (by simp)
  simp only [List.mem_cons, List.not_mem_nil, or_false] at h1 h2 h3 h4
  constructor <;> simp only [dPart] <;> omega
theorem dParts_ok (L : List Int) : ∀ (ids : List Int) (a : Nat), ∀ x ∈ (dParts L ids a).1, PtOk x
  | [], _, x, h => by simp [dParts] at h
  | y :: ids, a, x, h => by
    rw [dParts] at h
    rcases List.mem_cons.1 h with rfl | h
    · exact dPart_ok L y a
    · exact dParts_ok L ids _ x h
theorem inc_ext' : ∀ (a b : List Int), (a.Pairwise fun x y => x < y) → (b.Pairwise fun x y => x < y) → (∀ x, x ∈ a ↔ x ∈ b) → a = b
  | [], [], _, _, _ => rfl
  | [], y :: b, _, _, h => by have := (h y).2 (List.mem_cons_self ..); simp at this
  | x :: a, [], _, _, h => by have := (h x).1 (List.mem_cons_self ..); simp at this
  | x :: a, y :: b, ha, hb, h => by
    obtain ⟨ha1, ha2⟩ := List.pairwise_cons.1 ha
    obtain ⟨hb1, hb2⟩ := List.pairwise_cons.1 hb
    have hxy : x = y := by
      rcases List.mem_cons.1 ((h x).1 (List.mem_cons_self ..)) with h1 | h1
      · exact h1
      · rcases List.mem_cons.1 ((h y).2 (List.mem_cons_self ..)) with h2 | h2
        · exact h2.symm
        · have := hb1 x h1
          have := ha1 y h2
          omega
    subst hxy
    refine congrArg (x :: ·) (inc_ext' a b ha2 hb2 fun z => ?_)
    constructor
    · intro hz
      rcases List.mem_cons.1 ((h z).1 (List.mem_cons_of_mem _ hz)) with h1 | h1
      · subst h1
        have := ha1 z hz
        omega
      · exact h1
    · intro hz
      rcases List.mem_cons.1 ((h z).2 (List.mem_cons_of_mem _ hz)) with h1 | h1
      · subst h1
        have := hb1 z hz
        omega
      · exact h1


theorem msort_inc {S : List Int} (h : S.Nodup) : (msort S).Pairwise fun a b => a < b := by
  have h1 : (msort S).Pairwise fun a b => decide (a ≤ b) = true := List.pairwise_mergeSort (fun a b c h1 h2 => by simp only [decide_eq_true_eq] at *; omega) (fun a b => by simp only [Bool.or_eq_true, decide_eq_true_eq]; omega) S
  have h2 : (msort S).Nodup := (msort_perm S).nodup_iff.2 h
  refine (h1.and h2).imp ?_
  rintro a b ⟨h1, h2⟩
  simp only [decide_eq_true_eq] at h1
  omega
theorem sortU_msort {S : List Int} (h : S.Nodup) : sortU S = msort S :=
  inc_ext' _ _ (sortU_inc S) (msort_inc h) fun x => by rw [mem_sortU, (msort_perm S).mem_iff]
/-- Made parts are valid. -/
theorem dParts_valid (L : List Int) (a : Nat) {t : Tr} (h : TreeOk t) {root : Int} (hr : InN t.nodes root) : PartsOk t (dParts L (sortU (subT t root)) a).1 root :=
  ⟨h, hr, by rw [dParts_groups, sortU_msort (nodup_subT h root)], dParts_ok L _ a⟩
end Go.V

namespace Go.V

def tS : Tr := ⟨[⟨1, 0, ⟨#[]⟩, 0, 0, 0⟩, ⟨2, 1, ⟨#[97]⟩, 0, 0, 0⟩, ⟨3, 1, ⟨#[98]⟩, 0, 0, 0⟩], 4⟩
def lS : List Pt := [⟨1, 100, 0, 0, 4611686018427387904⟩, ⟨2, 60, 30, 60, 4611686018427387904⟩, ⟨3, 40, 0, 40, 4611686018427387904⟩]
theorem tS_ok : treeOk tS = true := by decide
theorem subT_S : subT tS 1 = [1, 2, 3] := by decide
theorem msort_of {l : List Int} (h : l.Pairwise fun a b => a ≤ b) : msort l = l := List.mergeSort_of_pairwise (h.imp fun h => decide_eq_true h)
theorem tsort_of {l : List (Int × Int)} (h : l.Pairwise fun a b => a.1 ≤ b.1) : tsort l = l := List.mergeSort_of_pairwise (h.imp fun h => decide_eq_true h)
theorem validP_S : validP tS lS 1 = true := by
  rw [validP, tS_ok, subT_S, msort_of (by decide)]
  decide
theorem CapP_S : CapP tS lS 1 = (70, 0) := by
  rw [CapP, if_pos validP_S]
  decide
theorem takeR_S1 : takeR tS lS 1 35 = [(2, 15), (3, 20)] := by decide
theorem takeR_S2 : takeR tS lS 1 1 = [(2, 1)] := by decide
theorem takeR_S3 : takeR tS lS 1 70 = [(2, 30), (3, 40)] := by decide
theorem capR_S : capR tS lS 1 = 70 := by decide
theorem RoundP_S1 : RoundP tS lS 1 35 = ([(2, 15), (3, 20)], 0) := by
  rw [RoundP, if_pos validP_S, if_pos (by decide), capR_S, show min (35 : Int) 70 = 35 by decide, takeR_S1, tsort_of (by decide)]
theorem RoundP_S2 : RoundP tS lS 1 1 = ([(2, 1)], 0) := by
  rw [RoundP, if_pos validP_S, if_pos (by decide), capR_S, show min (1 : Int) 70 = 1 by decide, takeR_S2, tsort_of (by decide)]
theorem RoundP_S3 : RoundP tS lS 1 100 = ([(2, 30), (3, 40)], 0) := by
  rw [RoundP, if_pos validP_S, if_pos (by decide), capR_S, show min (100 : Int) 70 = 70 by decide, takeR_S3, tsort_of (by decide)]
end Go.V

namespace Go.V

set_option maxHeartbeats 4000000 in
theorem sane_eq : V 9 [] [] = some (.p (.bool true), []) := by
  refine V_wp (vf := vf9) rfl ?_
  have hf : tS.Fits := by
    intro n hn
    simp only [tS, List.mem_cons, List.not_mem_nil, or_false] at hn
    rcases hn with rfl | rfl | rfl <;> exact ⟨by decide, by decide⟩
  have h1 := capacity_eq tS lS 1 hf (by decide) (by decide)
  have h2 := round_eq tS lS 1 35 hf (by decide) (by decide)
  have h3 := round_eq tS lS 1 1 hf (by decide) (by decide)
  have h4 := round_eq tS lS 1 100 hf (by decide) (by decide)
  have s1 := sameT_eq [(2, 15), (3, 20)] [(2, 15), (3, 20)] (by decide)
  have s2 := sameT_eq [(2, 1)] [(2, 1)] (by decide)
  have s3 := sameT_eq [(2, 30), (3, 40)] [(2, 30), (3, 40)] (by decide)
  rw [CapP_S] at h1
  rw [RoundP_S1] at h2
  rw [RoundP_S2] at h3
  rw [RoundP_S3] at h4
  simp only [tS, lS, Tr.vv, nodesP, ptsP, tksP, tkP, List.map_cons, List.map_nil, Nd.pv, Pt.pv, decide_true] at h1 h2 h3 h4 s1 s2 s3
  simp -implicitDefEqProofs (disch := omega) only [vf9, vb9, h1, h2, h3, h4, s1, s2, s3, go_sem, ↓reduceIte, Nat.reduceAdd, Nat.reduceSub, Nat.reduceEqDiff, Nat.reduceLeDiff, reduceCtorEq]
end Go.V

