/- Part 7 of what the row stands on: the value machine and its walks. Nothing is assumed. -/
import Derived.Test.YthmbpjnpcjfdiaaGreatA4
import Derived.Test.YthmbpjnpcjfdiaaGreatA5
set_option linter.unusedSimpArgs false
set_option linter.unusedVariables false
open Nat (reduceAdd reduceSub reduceEqDiff reduceLeDiff)
namespace Go.V
def prPicks : List Int := [0, 0, 3, 50, 100, 1000, 4611686018427387904]
def prPicks2 : List Int := [0, 3, 30, 100, 150, 1099511627776, 4611686018427387904]
def dProts (L : List Int) : List Nd → Nat → List Pr × Nat
 | [], a => ([], a)
 | n :: ns, a => if 0 < nextV L a 3 then (⟨n.id, pickV L (nextA L a 3) prPicks, pickV L (nextA L (nextA L a 3) 7) prPicks2⟩ :: (dProts L ns (nextA L (nextA L (nextA L a 3) 7) 7)).1, (dProts L ns (nextA L (nextA L (nextA L a 3) 7) 7)).2) else dProts L ns (nextA L a 3)
set_option maxHeartbeats 1000000 in
theorem dprots_eq (L : List Int) (a : Nat) (t : Tr) (hL : L.length < 4611686018427387904) (hl : t.nodes.length < 1000000) : V 30 [.ptr (.arg 0 0) 0 0, t.vv] [diceB L a] = some (.fresh 3 ((dProts L t.nodes a).1.map Pr.pv), [diceB L (dProts L t.nodes a).2]) := by
 refine V_wp (vf := vf30) rfl ?_
 simp -implicitDefEqProofs (disch := omega) only [vf30, vb30, go_sem, ↓reduceIte, reduceAdd, reduceSub, reduceEqDiff, reduceLeDiff, reduceCtorEq]
 obtain ⟨I, hI⟩ : ∃ I : Nat → St → Prop, ∀ k s, I k s ↔ ∃ (b : Nat) (acc : List Pr) (w : Nat), dProts L t.nodes a = (acc ++ (dProts L (t.nodes.drop k) b).1, (dProts L (t.nodes.drop k) b).2) ∧ acc.length ≤ k ∧ s.pe 0 = .ptr (Id.arg 0 0) 0 0 ∧ s.pe 3 = .ptr (.slot 3 0) 0 0 ∧ s.pe 5 = .own (.slot 5 0) w 0 acc.length ∧ s.pe 6 = .p (.int .i64 k) ∧ s.h (.arg 0 0) = some (0, diceB L b) ∧ s.h (.slot 3 0) = some (0, Ob.box [.p (nodesP t.nodes), .p (.int .i64 t.next)]) ∧ s.h (.slot 5 0) = some (w, Ob.arr 3 (acc.map Pr.pv)) := ⟨_, fun _ _ => Iff.rfl⟩
 refine wp_count (t.nodes.length) I ?_ ?_
 ·refine (hI _ _).2 ⟨a, [], 0, ?_, ?_, ?_, ?_, ?_, ?_, ?_, ?_, ?_⟩
  ·exact rfl
  ·exact cl3
  all_goals exact cl0
 intro k s hk hIk
 obtain ⟨b, acc, w, hd, hal, h0, h3, h5, h6, ha0, hh3_0, hh5_0⟩ := (hI _ _).1 hIk
 clear hIk
 simp -implicitDefEqProofs (disch := omega) only [h0, h3, h5, h6, ha0, hh3_0, hh5_0, go_sem, ↓reduceIte, reduceAdd, reduceSub, reduceEqDiff, reduceLeDiff, reduceCtorEq]
 refine wp_if_d (fun hlt => ?_) (fun hge => ?_)
 ·have hm : t.nodes[k]? = some t.nodes[k] := List.getElem?_eq_getElem hlt
  have hdr : t.nodes.drop k = t.nodes[k] :: t.nodes.drop (k + 1) := List.drop_eq_getElem_cons hlt
  generalize t.nodes[k] = m at hm hdr
  rw [hdr, dProts] at hd
  have hb := next_eq L b 3 hL (by omega)
  have hp := pick_eq L (nextA L b 3) prPicks hL (by decide) (by decide)
  have hp2 := pick_eq L (nextA L (nextA L b 3) 7) prPicks2 hL (by decide) (by decide)
  simp only [prPicks, intsP, List.length_cons, List.length_nil, Nat.reduceAdd, List.map_cons, List.map_nil] at hp
  rw [← prPicks] at hp
  rw [show nextA L (nextA L b 3) ((7 : Nat) : Int) = nextA L (nextA L b 3) 7 from rfl] at hp
  simp only [prPicks2, intsP, List.length_cons, List.length_nil, Nat.reduceAdd, List.map_cons, List.map_nil] at hp2
  rw [← prPicks2] at hp2
  rw [show nextA L (nextA L (nextA L b 3) 7) ((7 : Nat) : Int) = nextA L (nextA L (nextA L b 3) 7) 7 from rfl] at hp2
  generalize pickV L (nextA L (nextA L b 3) 7) prPicks2 = pw at hp2 hd
  generalize pickV L (nextA L b 3) prPicks = pv at hp hd
  generalize nextA L (nextA L (nextA L b 3) 7) 7 = b3 at hp2 hd
  generalize nextA L (nextA L b 3) 7 = b2 at hp hp2 hd
  generalize nextA L b 3 = b1 at hb hp hd
  by_cases hx : 0 < nextV L b 3
  ·rw [if_pos hx] at hd
   simp -implicitDefEqProofs (disch := omega) only [h0, h3, h5, h6, ha0, hh3_0, hh5_0, hlt, hm, hb, hp, hp2, hx, go_sem, ↓reduceIte, reduceAdd, reduceSub, reduceEqDiff, reduceLeDiff, reduceCtorEq]
   try refine And.intro (by omega) ?_
   refine (hI _ _).2 ⟨b3, acc ++ [⟨m.id, pv, pw⟩], w + 1, ?_, ?_, ?_, ?_, ?_, ?_, ?_, ?_, ?_⟩
   ·exact by rw [hd]; simp
   ·exact by simp; omega
   all_goals exact cl0
  ·rw [if_neg hx] at hd
   simp -implicitDefEqProofs (disch := omega) only [h0, h3, h5, h6, ha0, hh3_0, hh5_0, hlt, hm, hb, hx, go_sem, ↓reduceIte, reduceAdd, reduceSub, reduceEqDiff, reduceLeDiff, reduceCtorEq]
   try refine And.intro (by omega) ?_
   refine (hI _ _).2 ⟨b1, acc, w, ?_, ?_, ?_, ?_, ?_, ?_, ?_, ?_, ?_⟩
   ·exact hd
   ·exact by omega
   all_goals exact cl0
 ·rw [List.drop_of_length_le (by omega), dProts] at hd
  rw [hd]
  simp -implicitDefEqProofs (disch := omega) only [h0, h3, h5, h6, ha0, hh3_0, hh5_0, hge, go_sem, ↓reduceIte, reduceAdd, reduceSub, reduceEqDiff, reduceLeDiff, reduceCtorEq]
  try simp
end Go.V
namespace Go.V
end Go.V
namespace Go.V
theorem AddK_eq {t : Tr} (h : TreeOk t) {c : List Ch} (hc : ChOk t.nodes c) {id : Int} (hk : knownN t.nodes id = true) (m : Int) : AddK t c id m = addK t c id m := by
 obtain ⟨n, hn, rfl⟩ := findN_some hk
 obtain ⟨i, hi⟩ := List.getElem?_of_mem hn
 rw [AddK, if_pos (checkK_zero.2 ⟨h, hc, i, n, hi, rfl⟩)]
end Go.V
namespace Go.V
theorem dCounter_sum (L : List Int) {t : Tr} (h : TreeOk t) : ∀ (ns : List Nd) (a : Nat) (c : List Ch), ChOk t.nodes c → (∀ n ∈ ns, n ∈ t.nodes) → sumI ((dCounter L t ns a c).1.map (·.own)) ≤ sumI (c.map (·.own)) + 1000 * ns.length
 | [], _, _, _, _ => by simp [dCounter]
 | n :: ns, a, c, hc, hm => by
  have hp := pickV_mem L a (xs := [0, 1, 5, 40, 100, 1000]) (by simp)
  have hk : knownN t.nodes n.id = true := mem_find' (hm n (List.mem_cons_self ..))
  have hok := AddK_ok (t := t) (c := c) (id := n.id) (n := pickV L a [0, 1, 5, 40, 100, 1000])
  unfold dCounter
  have hpr : 0 ≤ pickV L a [0, 1, 5, 40, 100, 1000] ∧ pickV L a [0, 1, 5, 40, 100, 1000] ≤ 1000 := by
   generalize pickV L a [0, 1, 5, 40, 100, 1000] = p at hp
   simp at hp
   omega
  have hadd := AddK_eq h hc hk (pickV L a [0, 1, 5, 40, 100, 1000])
  by_cases h0 : (AddK t c n.id (pickV L a [0, 1, 5, 40, 100, 1000])).2 = 0
  ·rw [if_pos h0]
   have ih := dCounter_sum L h ns (nextA L a 6) _ (hok h0) fun x hx => hm x (List.mem_cons_of_mem _ hx)
   have hs : sumI ((AddK t c n.id (pickV L a [0, 1, 5, 40, 100, 1000])).1.map (·.own)) = sumI (c.map (·.own)) + pickV L a [0, 1, 5, 40, 100, 1000] := by
    rw [hadd] at h0 ⊢
    unfold addK at h0 ⊢
    split at h0
    ·simp at h0
    ·rename_i ha
     rw [if_neg ha]
     split at h0
     ·simp at h0
     ·rename_i hb
      rw [if_neg hb]
      simp only [withC_sum hc.inc]
      omega
   simp only [List.length_cons, Int.natCast_add]
   omega
  ·rw [if_neg h0]
   have ih := dCounter_sum L h ns (nextA L a 6) c hc fun x hx => hm x (List.mem_cons_of_mem _ hx)
   simp only [List.length_cons, Int.natCast_add]
   omega
where
 mem_find' {ns : List Nd} {n : Nd} (h : n ∈ ns) : (findN ns n.id).isSome = true := by
  rw [findN, List.find?_isSome]
  exact ⟨n, h, by simp⟩
end Go.V
namespace Go.V
theorem dLimits_asc (L : List Int) {t : Tr} (h : TreeOk t) (a : Nat) : AscOk (knownN t.nodes) 0 4611686018427387904 (dLimits L t.nodes a).1 := by
 have key : ∀ (ns : List Nd) (a : Nat), (ns.Pairwise fun x y => x.id < y.id) → (∀ n ∈ ns, n ∈ t.nodes) → AscOk (knownN t.nodes) 0 4611686018427387904 (dLimits L ns a).1 ∧ ∀ c ∈ (dLimits L ns a).1, ∃ n ∈ ns, n.id = c.group := by
  intro ns
  induction ns with
  | nil =>
   intro a _ _
   exact ⟨⟨fun c hc => by simp [dLimits] at hc, by simp [dLimits], fun c hc => by simp [dLimits] at hc⟩, fun c hc => by simp [dLimits] at hc⟩
  | cons n ns ih =>
   intro a hp hm
   rw [List.pairwise_cons] at hp
   unfold dLimits
   by_cases hx : nextV L a 2 = 1
   ·rw [if_pos hx]
    obtain ⟨i1, i2⟩ := ih (nextA L (nextA L a 2) 7) hp.2 fun x hx => hm x (List.mem_cons_of_mem _ hx)
    have hpm := pickV_mem L (nextA L a 2) (xs := limPicks) (by decide)
    have hr : 0 ≤ pickV L (nextA L a 2) limPicks ∧ pickV L (nextA L a 2) limPicks ≤ 4611686018427387904 := by
     generalize pickV L (nextA L a 2) limPicks = p at hpm
     simp [limPicks] at hpm
     omega
    refine ⟨⟨fun c hc => ?_, ?_, fun c hc => ?_⟩, fun c hc => ?_⟩
    ·rcases List.mem_cons.1 hc with rfl | hc
     ·exact dCounter_sum.mem_find' (hm n (List.mem_cons_self ..))
     ·exact i1.known c hc
    ·rw [List.pairwise_cons]
     refine ⟨fun c hc => ?_, i1.inc⟩
     obtain ⟨x, hx1, hx2⟩ := i2 c hc
     have := hp.1 x hx1
     show n.id < c.group
     omega
    ·rcases List.mem_cons.1 hc with rfl | hc
     ·exact hr
     ·exact i1.range c hc
    ·rcases List.mem_cons.1 hc with rfl | hc
     ·exact ⟨n, List.mem_cons_self .., rfl⟩
     ·obtain ⟨x, hx1, hx2⟩ := i2 c hc
      exact ⟨x, List.mem_cons_of_mem _ hx1, hx2⟩
   ·rw [if_neg hx]
    obtain ⟨i1, i2⟩ := ih (nextA L a 2) hp.2 fun x hx => hm x (List.mem_cons_of_mem _ hx)
    exact ⟨i1, fun c hc => by
     obtain ⟨x, hx1, hx2⟩ := i2 c hc
     exact ⟨x, List.mem_cons_of_mem _ hx1, hx2⟩⟩
 exact (key t.nodes a h.inc fun x hx => hx).1
end Go.V
namespace Go.V
theorem dProts_ok (L : List Int) {t : Tr} (h : TreeOk t) (a : Nat) : PrOk t.nodes (dProts L t.nodes a).1 := by
 have key : ∀ (ns : List Nd) (a : Nat), (ns.Pairwise fun x y => x.id < y.id) → (∀ n ∈ ns, n ∈ t.nodes) → PrOk t.nodes (dProts L ns a).1 ∧ ∀ c ∈ (dProts L ns a).1, ∃ n ∈ ns, n.id = c.group := by
  intro ns
  induction ns with
  | nil =>
   intro a _ _
   exact ⟨⟨fun c hc => by simp [dProts] at hc, by simp [dProts], fun c hc => by simp [dProts] at hc, fun c hc => by simp [dProts] at hc⟩, fun c hc => by simp [dProts] at hc⟩
  | cons n ns ih =>
   intro a hp hm
   rw [List.pairwise_cons] at hp
   unfold dProts
   by_cases hx : 0 < nextV L a 3
   ·rw [if_pos hx]
    obtain ⟨i1, i2⟩ := ih (nextA L (nextA L (nextA L a 3) 7) 7) hp.2 fun x hx => hm x (List.mem_cons_of_mem _ hx)
    have hpm := pickV_mem L (nextA L a 3) (xs := prPicks) (by decide)
    have hqm := pickV_mem L (nextA L (nextA L a 3) 7) (xs := prPicks2) (by decide)
    have hr : 0 ≤ pickV L (nextA L a 3) prPicks ∧ pickV L (nextA L a 3) prPicks ≤ 4611686018427387904 := by
     generalize pickV L (nextA L a 3) prPicks = p at hpm
     simp [prPicks] at hpm
     omega
    have hr2 : 0 ≤ pickV L (nextA L (nextA L a 3) 7) prPicks2 ∧ pickV L (nextA L (nextA L a 3) 7) prPicks2 ≤ 4611686018427387904 := by
     generalize pickV L (nextA L (nextA L a 3) 7) prPicks2 = p at hqm
     simp [prPicks2] at hqm
     omega
    refine ⟨⟨fun c hc => ?_, ?_, fun c hc => ?_, fun c hc => ?_⟩, fun c hc => ?_⟩
    ·rcases List.mem_cons.1 hc with rfl | hc
     ·exact dCounter_sum.mem_find' (hm n (List.mem_cons_self ..))
     ·exact i1.known c hc
    ·rw [List.pairwise_cons]
     refine ⟨fun c hc => ?_, i1.inc⟩
     obtain ⟨x, hx1, hx2⟩ := i2 c hc
     have := hp.1 x hx1
     show n.id < c.group
     omega
    ·rcases List.mem_cons.1 hc with rfl | hc
     ·exact hr
     ·exact i1.least c hc
    ·rcases List.mem_cons.1 hc with rfl | hc
     ·exact hr2
     ·exact i1.low c hc
    ·rcases List.mem_cons.1 hc with rfl | hc
     ·exact ⟨n, List.mem_cons_self .., rfl⟩
     ·obtain ⟨x, hx1, hx2⟩ := i2 c hc
      exact ⟨x, List.mem_cons_of_mem _ hx1, hx2⟩
   ·rw [if_neg hx]
    obtain ⟨i1, i2⟩ := ih (nextA L a 3) hp.2 fun x hx => hm x (List.mem_cons_of_mem _ hx)
    exact ⟨i1, fun c hc => by
     obtain ⟨x, hx1, hx2⟩ := i2 c hc
     exact ⟨x, List.mem_cons_of_mem _ hx1, hx2⟩⟩
 exact (key t.nodes a h.inc fun n hn => hn).1
theorem known_len {t : Tr} {gs : List Int} (hi : gs.Pairwise fun a b => a < b) (hk : ∀ g ∈ gs, (findN t.nodes g).isSome = true) : gs.length ≤ t.nodes.length := by
 have hnd : gs.Nodup := hi.imp fun hab => by omega
 have := nodup_length_le gs (t.nodes.map (·.id)) hnd (fun x hx => by
  obtain ⟨n, hn, he⟩ := findN_some (hk x hx)
  exact List.mem_map.2 ⟨n, hn, he⟩)
 simpa using this
theorem PrOk.length {t : Tr} {l : List Pr} (h : PrOk t.nodes l) : l.length ≤ t.nodes.length := by
 have := known_len (t := t) (gs := l.map (·.group)) (by rw [List.pairwise_map]; exact h.inc) fun g hg => by
  obtain ⟨x, hx, rfl⟩ := List.mem_map.1 hg
  exact h.known x hx
 simpa using this
theorem AscOk.length {t : Tr} {lo hi : Int} {l : List Ch} (h : AscOk (knownN t.nodes) lo hi l) : l.length ≤ t.nodes.length := by
 have := known_len (t := t) (gs := l.map (·.group)) (by rw [List.pairwise_map]; exact h.inc) fun g hg => by
  obtain ⟨x, hx, rfl⟩ := List.mem_map.1 hg
  exact h.known x hx
 simpa using this
structure TrialOk (t : Tr) (sw : Stk) (p : List Pr) (l : List Ch) (root : Int) : Prop where
 stk : StkOk t sw
 pr : PrOk t.nodes p
 lim : AscOk (knownN t.nodes) 0 4611686018427387904 l
 root : InN t.nodes root
set_option maxHeartbeats 4000000 in
theorem shrunk_eq (L : List Int) (n : Int) (hL : L.length ≤ 600) : ∃ t sw p l root a, TrialOk t sw p l root ∧ V 14 [.p (intsP L), .p (.int .i64 n)] [] = some (.tup [.boxed [.p (intsP L), .p (.int .i64 a)], t.vv, Stk.fv sw, .fresh 3 (p.map Pr.pv), .fresh 2 (l.map Ch.pv), .p (.int .i64 root), Stk.fv (ShrinkS t sw p l root n).1, .fresh 4 ((ShrinkS t sw p l root n).2.1.map Sh.pv), .p (.int .i64 (ShrinkS t sw p l root n).2.2)], []) := by
 have hro := roll_eq L
 have htr : V 26 [.ptr (.arg 0 0) 0 0, .p (.int .i64 6)] [.box [.p (intsP L), .p (.int .i64 0)]] = some ((dTree L 0 6).1.vv, [diceB L (dTree L 0 6).2]) := tree_eq L 0 6 (by omega) (by omega)
 have hok := dTree_ok L 0 6
 generalize dTree L 0 6 = ta at htr hok
 obtain ⟨t, a0⟩ := ta
 simp only at htr hok
 have hlen := hok.len
 have hst := stock_eq L a0 hok (by omega)
 have hso : StkOk t (madeS L a0 t).1 := dStock_ok L t _ _ _ (stock0_ok L a0 hok)
 generalize madeS L a0 t = sa at hst hso
 obtain ⟨sw, a1⟩ := sa
 simp only at hst hso
 have hsl := hso.hs.length
 have hdp := dprots_eq L a1 t (by omega) (by omega)
 have hpo := dProts_ok L hok a1
 generalize dProts L t.nodes a1 = pa at hdp hpo
 obtain ⟨p, a2⟩ := pa
 simp only at hdp hpo
 have hpl := hpo.length
 have hdl := dlimits_eq L a2 t (by omega) (by omega)
 have hlo := dLimits_asc L hok a2
 generalize dLimits L t.nodes a2 = la at hdl hlo
 obtain ⟨l, a3⟩ := la
 simp only at hdl hlo
 have hll := hlo.length
 have hpos : 0 < t.nodes.length := by
  obtain ⟨r, hr, _⟩ := root_at hok
  exact List.length_pos_iff.2 fun e => by simp [e] at hr
 have hnx := next_eq L a3 t.nodes.length (by omega) (by omega)
 have hnn := nextV_nonneg L a3 t.nodes.length
 have hnl := nextV_lt L a3 (n := t.nodes.length) (by omega)
 generalize nextV L a3 t.nodes.length = d at hnx hnn hnl
 generalize nextA L a3 t.nodes.length = a4 at hnx
 obtain ⟨j, rfl⟩ : ∃ j : Nat, d = j := ⟨d.toNat, by omega⟩
 have hjl : j < t.nodes.length := by omega
 have hm : t.nodes[j]? = some t.nodes[j] := List.getElem?_eq_getElem hjl
 generalize t.nodes[j] = m at hm
 have hsh := shrink_eq t sw p l m.id n hok.fits (by omega) (by omega) (by omega) (by omega)
 refine ⟨t, sw, p, l, m.id, a4, ⟨hso, hpo, hlo, j, m, hm, rfl⟩, ?_⟩
 generalize ShrinkS t sw p l m.id n = X at hsh
 obtain ⟨⟨x, z⟩, s, e⟩ := X
 simp only [Stk.fv, Stk.vv] at hsh hst ⊢
 refine V_wp (vf := vf14) rfl ?_
 simp -implicitDefEqProofs (disch := omega) only [vf14, vb14, hro, htr, hst, hdp, hdl, hnx, hjl, hm, hsh, go_sem, ↓reduceIte, reduceAdd, reduceSub, reduceEqDiff, reduceLeDiff, reduceCtorEq]
end Go.V
namespace Go.V
theorem swT_in {t : Tr} (h : TreeOk t) {hs : List Hg} {g : Int} (hg : InN t.nodes g) : swT t hs g = sumI ((subA t g).map (swpF hs)) := by
 obtain ⟨i, n, hn, rfl⟩ := hg
 rw [swT, subT_some h hn]
theorem sumOn_set (a : List (Int × Int)) : ∀ (S : List Int), S.Nodup → sumI (S.map fun x => sumOn [x] a) = sumOn S a
 | [], _ => (sumOn_zero fun q _ hq => by simp at hq).symm
 | x :: S, h => by
  rw [List.nodup_cons] at h
  rw [sumOn_cons h.1, List.map_cons, sumI, sumOn_set a S h.2]
theorem ids_nodup {t : Tr} (h : TreeOk t) : (t.nodes.map (·.id)).Nodup := by
 rw [List.Nodup, List.pairwise_map]
 exact h.inc.imp fun hab => by omega
theorem sumI_add (f g : Int → Int) : ∀ (ks : List Int), sumI (ks.map fun c => f c + g c) = sumI (ks.map f) + sumI (ks.map g)
 | [] => rfl
 | c :: ks => by
  have := sumI_add f g ks
  simp only [List.map_cons, sumI, this]
  omega
structure StepS (t : Tr) (l : List Pt) (root : Int) (out low : Bool) (s s' : ShSt) (a : List (Int × Int)) : Prop where
 parts : PartsOk t l root
 rnd : RoundOk t l root (min s.2.2 (capR t l root)) a
 sum : sumI (a.map Prod.snd) = min s.2.2 (capR t l root)
 get : ∀ x, getS s'.1 x = takeH out (getS s.1 x) (sumOn [x] a)
 file : ∀ x, (s'.2.1 x).file = (s.2.1 x).file + if out then 0 else sumOn [x] a
 anon : ∀ x, (s'.2.1 x).anon = (s.2.1 x).anon + if out then sumOn [x] a else 0
 low : ∀ x, (s'.2.1 x).low = (s.2.1 x).low + if low then sumOn [x] a else 0
 left : s'.2.2 = s.2.2 - sumI (a.map Prod.snd)
 non : ∀ x, 0 ≤ sumOn [x] a
 own : ∀ x, sumOn [x] a ≤ ownS out (getS s.1 x)
 off : ∀ x, x ∉ subA t root → sumOn [x] a = 0
theorem shr_step {t : Tr} (h : TreeOk t) {root : Int} (hr : InN t.nodes root) {z n0 : Int} (hz : inPg z) (hn : n0 ≤ 16777216) (l : List Ch) {eff : List Pr} (he : EffOk t root eff) {s0 : ShSt} (hs : ShOk t z n0 s0) (k : Nat) : StepS t (partsS t z l eff (outR k) (lowR k) (shrS t z l eff root s0 k).1) root (outR k) (lowR k) (shrS t z l eff root s0 k) (shrS t z l eff root s0 (k + 1)) (takesS t z l eff root (outR k) (lowR k) (shrS t z l eff root s0 k)) := by
 have hk := shr_ok h hr hz hn l he hs k
 obtain ⟨h1, h2, h3, h4, h5, h6⟩ := round_S h hr hz hn l he (outR k) (lowR k) hk
 have e : shrS t z l eff root s0 (k + 1) = takeSt (outR k) (lowR k) (shrS t z l eff root s0 k) (takesS t z l eff root (outR k) (lowR k) (shrS t z l eff root s0 k)) := rfl
 rw [e]
 generalize takesS t z l eff root (outR k) (lowR k) (shrS t z l eff root s0 k) = a at h2 h3 h4 h5 ⊢
 generalize shrS t z l eff root s0 k = s at *
 generalize outR k = out at *
 generalize lowR k = low at *
 have hq0 : ∀ q ∈ a, 0 ≤ q.2 := fun q hqm => by have := (h3.pos q hqm).1; omega
 have key : ∀ x, (takeSt out low s a).2.1 x = if x ∈ a.map Prod.fst then takeK out low x (s.2.1 x) (sumOn [x] a) else s.2.1 x := fun x => takeAll_note out low x a (s.1, s.2.1)
 have hz0 : ∀ x, x ∉ a.map Prod.fst → sumOn [x] a = 0 := fun x hx => sumOn_zero fun r hr hrq => hx (by
  have : r.1 = x := by simpa using hrq
  rw [← this]
  exact List.mem_map.2 ⟨r, hr, rfl⟩)
 refine ⟨h1, h3, h4, fun x => takeAll_get out low x a (s.1, s.2.1), fun x => ?_, fun x => ?_, fun x => ?_, rfl, fun x => sumOn_nonneg hq0, h5, fun x hx => hz0 x fun hm => ?_⟩
 ·rw [key x]
  by_cases hx : x ∈ a.map Prod.fst
  ·rw [if_pos hx]
   unfold takeK
   cases out <;> simp
  ·rw [if_neg hx, hz0 x hx]
   cases out <;> simp
 ·rw [key x]
  by_cases hx : x ∈ a.map Prod.fst
  ·rw [if_pos hx]
   unfold takeK
   cases out <;> simp
  ·rw [if_neg hx, hz0 x hx]
   cases out <;> simp
 ·rw [key x]
  by_cases hx : x ∈ a.map Prod.fst
  ·rw [if_pos hx]
   unfold takeK
   cases low <;> simp
  ·rw [if_neg hx, hz0 x hx]
   cases low <;> simp
 ·obtain ⟨q, hq, rfl⟩ := List.mem_map.1 hm
  exact hx (h3.groups q hq)
structure Noted (t : Tr) (root : Int) (hs : List Hg) (n : Int) (s : ShSt) : Prop where
 get : ∀ x, getS s.1 x = ⟨x, (getS hs x).file - (s.2.1 x).file, (getS hs x).anon - (s.2.1 x).anon, (getS hs x).swap + (s.2.1 x).anon⟩
 off : ∀ x, x ∉ subA t root → (s.2.1 x).file = 0 ∧ (s.2.1 x).anon = 0 ∧ (s.2.1 x).low = 0
 sum : ∀ S : List Int, S.Nodup → (∀ x ∈ subA t root, x ∈ S) → sumI (S.map fun x => (s.2.1 x).file + (s.2.1 x).anon) = n - s.2.2
 low : ∀ x, (s.2.1 x).low ≤ (s.2.1 x).file + (s.2.1 x).anon
theorem Noted.step {t : Tr} {root : Int} {hs : List Hg} {n : Int} {s s' : ShSt} (hn : Noted t root hs n s) {l : List Pt} {out low : Bool} {a : List (Int × Int)} (h : StepS t l root out low s s' a) : Noted t root hs n s' := by
 have hT := h.parts.tree
 refine ⟨fun x => ?_, fun x hx => ?_, fun S hS hSr => ?_, fun x => ?_⟩
 ·rw [h.get, hn.get, h.file, h.anon]
  unfold takeH
  cases out <;> simp <;> omega
 ·have h1 := hn.off x hx
  rw [h.file, h.anon, h.low, h.off x hx, h1.1, h1.2.1, h1.2.2]
  simp
 ·have h1 := hn.sum S hS hSr
  have h2 : (fun x => (s'.2.1 x).file + (s'.2.1 x).anon) = fun x => ((s.2.1 x).file + (s.2.1 x).anon) + sumOn [x] a := by
   funext x
   rw [h.file, h.anon]
   cases out <;> simp <;> omega
  rw [h2, sumI_add, h1, sumOn_set a _ hS, sumOn_all fun q hq => hSr _ (h.rnd.groups q hq), h.left]
  omega
 ·have h1 := hn.low x
  have h2 := h.non x
  rw [h.file, h.anon, h.low]
  cases out <;> cases low <;> simp <;> omega
theorem noted0 (t : Tr) (root : Int) (hs : List Hg) (n : Int) : Noted t root hs n (hs, (fun _ => zeroSh), n) := by
 refine ⟨fun x => ?_, fun x hx => ⟨rfl, rfl, rfl⟩, fun S _ _ => ?_, fun x => by simp⟩
 ·show getS hs x = ⟨x, (getS hs x).file - 0, (getS hs x).anon - 0, (getS hs x).swap + 0⟩
  rw [Int.sub_zero, Int.sub_zero, Int.add_zero]
  have hg := getS_group hs x
  revert hg
  generalize getS hs x = y
  intro hg
  subst hg
  rfl
 ·show sumI (S.map fun _ => (0 : Int) + 0) = n - n
  rw [Int.add_zero, sumI_zeros]
  omega
theorem shr_noted {t : Tr} (h : TreeOk t) {root : Int} (hr : InN t.nodes root) {z n : Int} (hz : inPg z) (hn0 : 0 ≤ n) (hn : n ≤ 16777216) (l : List Ch) {eff : List Pr} (he : EffOk t root eff) {hs : List Hg} (hh : HgOk t.nodes z hs) : ∀ k, Noted t root hs n (shrS t z l eff root (hs, (fun _ => zeroSh), n) k)
 | 0 => noted0 t root hs n
 | k + 1 => (shr_noted h hr hz hn0 hn l he hh k).step (shr_step h hr hz hn l he (shr0_ok hh hn0) k)
def lastK (a : List Sh) (id : Int) (k : Sh) : Sh := a.foldl (fun k x => if x.group = id then x else k) k
theorem lastK_all {id : Int} {y : Sh} : ∀ {a : List Sh} {k : Sh}, (∀ x ∈ a, x.group = id → x = y) → lastK a id k = if ∃ x ∈ a, x.group = id then y else k
 | [], k, _ => by simp [lastK]
 | x :: a, k, h => by
  have ih := lastK_all (a := a) (k := if x.group = id then x else k) fun z hz => h z (by simp [hz])
  show lastK a id (if x.group = id then x else k) = _
  rw [ih]
  have h1 := h x (by simp)
  by_cases hx : x.group = id
  ·rw [if_pos (show ∃ z ∈ x :: a, z.group = id from ⟨x, by simp, hx⟩), if_pos hx, h1 hx]
   split <;> rfl
  ·rw [if_neg hx]
   by_cases hz : ∃ z ∈ a, z.group = id
   ·rw [if_pos hz, if_pos]
    obtain ⟨z, hz1, hz2⟩ := hz
    exact ⟨z, by simp [hz1], hz2⟩
   ·rw [if_neg hz, if_neg]
    rintro ⟨z, hz1, hz2⟩
    rcases List.mem_cons.1 hz1 with rfl | hz1
    ·exact hx hz2
    ·exact hz ⟨z, hz1, hz2⟩
theorem outL_mem {f : Int → Sh} {eff : List Pr} (hg : ∀ x, f x = zeroSh ∨ (f x).group = x) {x : Sh} (hx : x ∈ outL f eff) : x.group ∈ eff.map (·.group) ∧ x = f x.group ∧ x.group ≠ 0 := by
 obtain ⟨h1, h2⟩ := List.mem_filter.1 hx
 obtain ⟨e, he, rfl⟩ := List.mem_map.1 h1
 simp only [decide_eq_true_eq] at h2
 rcases hg e.group with h3 | h3
 ·rw [h3] at h2
  exact absurd rfl h2
 ·rw [h3] at h2 ⊢
  exact ⟨List.mem_map.2 ⟨e, he, rfl⟩, rfl, h2⟩
theorem outL_last {f : Int → Sh} {eff : List Pr} (hg : ∀ x, f x = zeroSh ∨ (f x).group = x) {id : Int} (h0 : id ≠ 0) (ho : id ∉ eff.map (·.group) → (f id).file = 0 ∧ (f id).anon = 0) : (lastK (outL f eff) id ⟨id, 0, 0, 0⟩).file = (f id).file ∧ (lastK (outL f eff) id ⟨id, 0, 0, 0⟩).anon = (f id).anon := by
 rw [lastK_all (y := f id) fun x hx he => by rw [(outL_mem hg hx).2.1, he]]
 by_cases hx : ∃ x ∈ outL f eff, x.group = id
 ·rw [if_pos hx]
  exact ⟨rfl, rfl⟩
 ·rw [if_neg hx]
  have h1 : (f id).file = 0 ∧ (f id).anon = 0 := by
   by_cases hm : id ∈ eff.map (·.group)
   ·obtain ⟨e, he, rfl⟩ := List.mem_map.1 hm
    rcases hg e.group with h2 | h2
    ·rw [h2]
     exact ⟨rfl, rfl⟩
    ·exact absurd ⟨f e.group, List.mem_filter.2 ⟨List.mem_map.2 ⟨e, he, rfl⟩, by simpa [h2] using h0⟩, h2⟩ hx
   ·exact ho hm
  rw [h1.1, h1.2]
  exact ⟨rfl, rfl⟩
end Go.V
namespace Go.V
theorem sumI_congr' {f g : Int → Int} {l : List Int} (h : ∀ x ∈ l, f x = g x) : sumI (l.map f) = sumI (l.map g) := congrArg sumI (List.map_congr_left h)
theorem swT_step {t : Tr} {l : List Pt} {root : Int} {out low : Bool} {s s' : ShSt} {a : List (Int × Int)} (h : StepS t l root out low s s' a) {g : Int} (hg : InN t.nodes g) : swT t s'.1 g = swT t s.1 g + if out then takenP t a g else 0 := by
 have hT := h.parts.tree
 rw [swT_in hT hg, swT_in hT hg, h.rnd.on g hg, ← sumOn_set a _ (subA_nodup hT hg)]
 cases out with
 | false =>
  simp only [Bool.false_eq_true, if_false, Int.add_zero]
  refine sumI_congr' fun x _ => ?_
  unfold swpF
  rw [h.get]
  rfl
 | true =>
  simp only [if_true]
  rw [← sumI_add]
  refine sumI_congr' fun x _ => ?_
  unfold swpF
  rw [h.get]
  rfl
theorem usedF_step {t : Tr} {l : List Pt} {root : Int} {out low : Bool} {s s' : ShSt} {a : List (Int × Int)} (h : StepS t l root out low s s' a) {z z' : Int} (h0 : HgOk t.nodes z s.1) (h1 : HgOk t.nodes z' s'.1) {g : Int} (hg : InN t.nodes g) : usedF t (cntS s'.1) g = usedF t (cntS s.1) g - takenP t a g := by
 have hT := h.parts.tree
 have hf : (findN t.nodes g).isSome = true := by
  obtain ⟨i, n, hn, rfl⟩ := hg
  rw [findN_unique hT.inc hn]
  rfl
 unfold usedF
 rw [if_pos hf, if_pos hf, h.rnd.on g hg, ← sumOn_set a _ (subA_nodup hT hg)]
 unfold tot
 rw [← sumI_sub]
 refine sumI_congr' fun x _ => ?_
 rw [cntS_own h0.inc, cntS_own h1.inc]
 unfold memF
 rw [h.get]
 unfold takeH
 cases out <;> simp <;> omega
theorem leftS_min (W : Int → Int) (l : List Ch) {c : Int} : ∀ (gs : List Int) (a : Int), c ∈ gs → leftS W l gs a ≤ mostK l c - W c
 | [], _, h => by simp at h
 | g :: gs, a, h => by
  rcases List.mem_cons.1 h with rfl | h
  ·have := leftS_le W l gs (min a (mostK l c - W c))
   unfold leftS
   omega
  ·exact leftS_min W l gs _ h
theorem ancR_in {t : Tr} (h : TreeOk t) {g : Int} (hg : InN t.nodes g) : ancR t g = ancF t.nodes t.nodes.length g := by
 obtain ⟨i, n, hn, rfl⟩ := hg
 exact ancR_anc h hn
theorem roomS_le {t : Tr} (hT : TreeOk t) {hs : List Hg} {z : Int} {l : List Ch} {g c : Int} (hg : InN t.nodes g) (h : c ∈ ancR t g) : roomS t hs z l g ≤ max 0 (mostK l c - swT t hs c) := by
 rw [ancR_in hT hg] at h
 have := leftS_min (swT t hs) l (c := c) (ancF t.nodes t.nodes.length g) (z - swT t hs 1) h
 unfold roomS
 omega
theorem anc_two {t : Tr} (h : TreeOk t) : ∀ (i : Nat) (n : Nd), t.nodes[i]? = some n → ∀ a b, a ∈ ancF t.nodes t.nodes.length n.id → b ∈ ancF t.nodes t.nodes.length n.id → a ∈ ancF t.nodes t.nodes.length b ∨ b ∈ ancF t.nodes t.nodes.length a := by
 intro i
 induction i using Nat.strongRecOn with
 | _ i ih =>
  intro n hn a b ha hb
  rcases (anc_iff h hn a).1 ha with h1 | ⟨hi, h1⟩
  ·rw [h1]
   exact .inr hb
  ·rcases (anc_iff h hn b).1 hb with h2 | ⟨_, h2⟩
   ·rw [h2]
    exact .inl ha
   ·rcases h.nodeAt hn with ⟨h3, _⟩ | ⟨_, _, j, p, hj, hp, he⟩
    ·exact absurd h3 hi
    ·rw [← he] at h1 h2
     exact ih j (by omega) p hp a b h1 h2
theorem room_taken {t : Tr} (h : TreeOk t) {root : Int} (hr : InN t.nodes root) {z : Int} {lm : List Ch} {eff : List Pr} (he : EffOk t root eff) {low : Bool} {s s' : ShSt} {a : List (Int × Int)} (hS : StepS t (partsS t z lm eff true low s.1) root true low s s' a) {g : Int} (hg : InN t.nodes g) : 0 ≤ takenP t a g ∧ (takenP t a g = 0 ∨ takenP t a g ≤ max 0 (mostK lm g - swT t s.1 g)) := by
 have h0 : 0 ≤ takenP t a g := taken_nonneg hS.rnd g
 refine ⟨h0, ?_⟩
 have room : ∀ c, c ∈ subA t root → capR t (partsS t z lm eff true low s.1) c ≤ roomS t s.1 z lm c := fun c hc => by
  obtain ⟨e, hem, hge, hp⟩ := partOf_prt (t := t) (hs := s.1) (z := z) (l := lm) (own := ownS true) (pr := prS low) (out := true) ((effOk_mem h hr he c).2 hc)
  have h1 := (cap_le h (l := partsS t z lm eff true low s.1) (subA_in h hr hc)).1
  rw [hp] at h1
  simp only [prtS, if_true, hge] at h1
  exact h1
 by_cases h1 : g ∈ subA t root
 ·right
  have h2 := hS.rnd.sub g h1
  have h3 := room g h1
  have h4 := roomS_le (hs := s.1) (z := z) (l := lm) h hg (c := g) ((mem_anc h hg hg).2 (subA_self h hg))
  omega
 ·by_cases h2 : root ∈ subA t g
  ·right
   have h3 := hS.sum
   have h4 : takenP t a g ≤ sumI (a.map Prod.snd) := by
    rw [hS.rnd.on g hg]
    exact sumOn_le fun q hq => by have := (hS.rnd.pos q hq).1; omega
   have h5 := room root (subA_self h hr)
   have h6 := roomS_le (hs := s.1) (z := z) (l := lm) h hr (c := g) ((mem_anc h hg hr).2 h2)
   omega
  ·left
   rw [hS.rnd.on g hg]
   refine sumOn_zero fun q hq hqg => ?_
   have h3 := hS.rnd.groups q hq
   obtain ⟨i, n, hn, hne⟩ := subA_in h hr h3
   have a1 := (mem_anc h hr ⟨i, n, hn, hne⟩).2 h3
   have a2 := (mem_anc h hg ⟨i, n, hn, hne⟩).2 hqg
   rw [← hne, ancR_anc h hn] at a1 a2
   rcases anc_two h i n hn g root a2 a1 with h5 | h5
   ·exact h2 ((mem_anc h hg hr).1 (by rw [ancR_in h hr]; exact h5))
   ·exact h1 ((mem_anc h hr hg).1 (by rw [ancR_in h hg]; exact h5))
section
variable {t : Tr} {root z n : Int} {lm : List Ch} {eff : List Pr} {hs : List Hg}
abbrev runS (t : Tr) (z : Int) (lm : List Ch) (eff : List Pr) (root : Int) (hs : List Hg) (n : Int) (k : Nat) : ShSt := shrS t z lm eff root (hs, (fun _ => zeroSh), n) k
theorem swT_shr (h : TreeOk t) (hr : InN t.nodes root) (hz : inPg z) (hn0 : 0 ≤ n) (hn : n ≤ 16777216) (lm : List Ch) (he : EffOk t root eff) (hh : HgOk t.nodes z hs) {g : Int} (hg : InN t.nodes g) : ∀ k, swT t hs g ≤ swT t (runS t z lm eff root hs n k).1 g ∧ swT t (runS t z lm eff root hs n k).1 g ≤ max (swT t hs g) (mostK lm g)
 | 0 => by
  show swT t hs g ≤ swT t hs g ∧ swT t hs g ≤ max (swT t hs g) (mostK lm g)
  omega
 | k + 1 => by
  have ih := swT_shr h hr hz hn0 hn lm he hh hg k
  have hS := shr_step h hr hz hn lm he (shr0_ok hh hn0) k
  have h1 := swT_step hS hg
  by_cases ho : outR k = true
  ·rw [ho] at hS h1
   have h2 := room_taken h hr he hS hg
   rw [if_pos rfl] at h1
   show swT t hs g ≤ swT t (shrS t z lm eff root _ (k + 1)).1 g ∧ swT t (shrS t z lm eff root _ (k + 1)).1 g ≤ _
   rw [h1]
   unfold runS at ih
   omega
  ·rw [Bool.not_eq_true] at ho
   rw [ho] at h1
   rw [if_neg (by simp)] at h1
   show swT t hs g ≤ swT t (shrS t z lm eff root _ (k + 1)).1 g ∧ swT t (shrS t z lm eff root _ (k + 1)).1 g ≤ _
   rw [h1, Int.add_zero]
   exact ih
theorem keeps (h : TreeOk t) (hr : InN t.nodes root) (he : EffOk t root eff) {out low : Bool} {s s' : ShSt} {a : List (Int × Int)} (hS : StepS t (partsS t z lm eff out low s.1) root out low s s' a) (h0 : HgOk t.nodes z s.1) (h1 : HgOk t.nodes z s'.1) {e : Pr} (hem : e ∈ eff) : usedF t (cntS s'.1) e.group ≤ usedF t (cntS s.1) e.group ∧ min (usedF t (cntS s.1) e.group) (prS low e) ≤ usedF t (cntS s'.1) e.group := by
 have hs : e.group ∈ subA t root := (effOk_mem h hr he e.group).1 (List.mem_map.2 ⟨e, hem, rfl⟩)
 have hg := subA_in h hr hs
 have h2 := hS.rnd.sub _ hs
 have h3 := (cap_le h (l := partsS t z lm eff out low s.1) hg).2
 obtain ⟨e', hem', hge, hp⟩ := partOf_prt (t := t) (hs := s.1) (z := z) (l := lm) (own := ownS out) (pr := prS low) (out := out) ((effOk_mem h hr he e.group).2 hs)
 have hee : e' = e := by
  have hnd : (eff.map (·.group)).Nodup := by
   rw [he.groups]
   obtain ⟨i, n, hn, hne⟩ := hr
   rw [(msort_perm _).nodup_iff, ← hne, subT_some h hn]
   exact subF_nodup h hn
  exact eff_inj hnd hem' hem hge
 subst hee
 rw [hp] at h3
 have h4 := usedF_step hS h0 h1 hg
 have h5 := taken_nonneg hS.rnd e'.group
 simp only [prtS] at h3
 omega
where
 eff_inj : ∀ {l : List Pr} {x y : Pr}, (l.map (·.group)).Nodup → x ∈ l → y ∈ l → x.group = y.group → x = y
  | [], _, _, _, hx, _, _ => by simp at hx
  | w :: l, x, y, hnd, hx, hy, hxy => by
   rw [List.map_cons, List.nodup_cons] at hnd
   rcases List.mem_cons.1 hx with hx | hx
   ·rcases List.mem_cons.1 hy with hy | hy
    ·rw [hx, hy]
    ·exact absurd (List.mem_map.2 ⟨y, hy, by rw [← hxy, hx]⟩) hnd.1
   ·rcases List.mem_cons.1 hy with hy | hy
    ·exact absurd (List.mem_map.2 ⟨x, hx, by rw [hxy, hy]⟩) hnd.1
    ·exact eff_inj hnd.2 hx hy hxy
end
end Go.V
namespace Go.V
abbrev effP (t : Tr) (sw : Stk) (p : List Pr) (root : Int) : List Pr := effL t (cntS sw.hs) p root
abbrev endS (t : Tr) (sw : Stk) (p : List Pr) (l : List Ch) (root n : Int) (k : Nat) : ShSt := runS t sw.size l (effP t sw p root) root sw.hs n k
theorem TrialOk.eff {t : Tr} {sw : Stk} {p : List Pr} {l : List Ch} {root : Int} (h : TrialOk t sw p l root) : EffOk t root (effP t sw p root) := effL_ok h.stk.tree (cntS_ok h.stk.hs) h.pr root
theorem shrinkS_eq {t : Tr} {sw : Stk} {p : List Pr} {l : List Ch} {root n : Int} (h : TrialOk t sw p l root) (hn0 : 0 ≤ n) (hn : n ≤ 16777216) : ShrinkS t sw p l root n = (⟨(endS t sw p l root n 4).1, sw.size⟩, outL (endS t sw p l root n 4).2.1 (effP t sw p root), 0) := by
 have h1 : validS t sw = true := (validS_iff t sw).2 h.stk
 have h2 : validPr t p = true := (validPr_iff t p).2 ⟨h.stk.tree, h.pr⟩
 have h3 : validLK t l = true := (validLK_iff t l).2 ⟨h.stk.tree, h.lim⟩
 have h4 : (findN t.nodes root).isSome = true := by
  obtain ⟨i, m, hm, rfl⟩ := h.root
  rw [findN_unique h.stk.tree.inc hm]
  rfl
 unfold ShrinkS
 rw [if_pos (by rw [h1, h2, h3]; rfl), if_pos h4, if_pos (by simp [pagesB, hn0, hn])]
theorem eff_len {t : Tr} (h : TreeOk t) {root : Int} (hr : InN t.nodes root) {eff : List Pr} (he : EffOk t root eff) : eff.length ≤ t.nodes.length := by
 have h1 := nodup_length_le (eff.map (·.group)) (t.nodes.map (·.id)) (by
  rw [he.groups]
  obtain ⟨i, n, hn, hne⟩ := hr
  rw [(msort_perm _).nodup_iff, ← hne, subT_some h hn]
  exact subF_nodup h hn) fun x hx => by
   obtain ⟨i, m, hm, hme⟩ := subA_in h hr ((effOk_mem h hr he x).1 hx)
   exact List.mem_map.2 ⟨m, List.mem_of_getElem? hm, hme⟩
 simpa using h1
abbrev toldK (a : List Sh) (id : Int) : Sh := lastK a id ⟨id, 0, 0, 0⟩
structure Takes (t : Tr) (sw : Stk) (root n : Int) (x : List Hg) (a : List Sh) : Prop where
 get : ∀ id, InN t.nodes id → getS x id = ⟨id, (getS sw.hs id).file - (toldK a id).file, (getS sw.hs id).anon - (toldK a id).anon, (getS sw.hs id).swap + (toldK a id).anon⟩
 non : ∀ id, InN t.nodes id → 0 ≤ (toldK a id).file ∧ 0 ≤ (toldK a id).anon
 off : ∀ id, InN t.nodes id → root ∉ ancR t id → (toldK a id).file + (toldK a id).anon = 0
 sum : sumI ((t.nodes.map (·.id)).map fun id => (toldK a id).file + (toldK a id).anon) ≤ n
 each : ∀ y ∈ a, (0 ≤ y.file ∧ y.file ≤ n) ∧ (0 ≤ y.anon ∧ y.anon ≤ n) ∧ (0 ≤ y.low ∧ y.low ≤ n) ∧ y.low ≤ y.file + y.anon
 hg : HgOk t.nodes sw.size x
 len : a.length ≤ 64
theorem takes_ok {t : Tr} {sw : Stk} {p : List Pr} {l : List Ch} {root n : Int} (h : TrialOk t sw p l root) (hn0 : 0 ≤ n) (hn : n ≤ 16777216) : Takes t sw root n (endS t sw p l root n 4).1 (outL (endS t sw p l root n 4).2.1 (effP t sw p root)) := by
 have hT := h.stk.tree
 have hr := h.root
 have he := h.eff
 have hz : inPg sw.size := ⟨h.stk.z0, h.stk.z1⟩
 have hO := shr_ok hT hr hz hn l he (shr0_ok h.stk.hs hn0) 4
 have hN := shr_noted hT hr hz hn0 hn l he h.stk.hs 4
 have hel := eff_len hT hr he
 have hlen := hT.len
 unfold endS runS
 generalize shrS t sw.size l (effP t sw p root) root (sw.hs, (fun _ => zeroSh), n) 4 = s at hO hN
 generalize effP t sw p root = eff at *
 have hk : ∀ id, InN t.nodes id → (toldK (outL s.2.1 eff) id).file = (s.2.1 id).file ∧ (toldK (outL s.2.1 eff) id).anon = (s.2.1 id).anon := fun id hid => by
  refine outL_last hO.grp ?_ fun hno => ?_
  ·obtain ⟨i, m, hm, rfl⟩ := hid
   have := hT.pos m (List.mem_of_getElem? hm)
   omega
  ·have := hN.off id fun hx => hno ((effOk_mem hT hr he id).2 hx)
   exact ⟨this.1, this.2.1⟩
 refine ⟨fun id hid => ?_, fun id hid => ?_, fun id hid ho => ?_, ?_, fun y hy => ?_, hO.hs, ?_⟩
 ·rw [(hk id hid).1, (hk id hid).2]
  exact hN.get id
 ·rw [(hk id hid).1, (hk id hid).2]
  exact ⟨(hO.file id).1, (hO.anon id).1⟩
 ·rw [(hk id hid).1, (hk id hid).2]
  have := hN.off id fun hx => ho ((mem_anc hT hr hid).2 hx)
  omega
 ·have h1 := hN.sum (t.nodes.map (·.id)) (ids_nodup hT) fun x hx => by
   obtain ⟨i, m, hm, hme⟩ := subA_in hT hr hx
   exact List.mem_map.2 ⟨m, List.mem_of_getElem? hm, hme⟩
  have h2 : sumI ((t.nodes.map (·.id)).map fun id => (toldK (outL s.2.1 eff) id).file + (toldK (outL s.2.1 eff) id).anon) = sumI ((t.nodes.map (·.id)).map fun x => (s.2.1 x).file + (s.2.1 x).anon) := sumI_congr' fun id hid => by
   obtain ⟨m, hm, rfl⟩ := List.mem_map.1 hid
   obtain ⟨i, hi⟩ := List.getElem?_of_mem hm
   rw [(hk m.id ⟨i, m, hi, rfl⟩).1, (hk m.id ⟨i, m, hi, rfl⟩).2]
  rw [h2, h1]
  have := hO.left
  omega
 ·rw [(outL_mem hO.grp hy).2.1]
  have h1 := hO.file y.group
  have h2 := hO.anon y.group
  have h3 := hO.low y.group
  have h5 := hN.low y.group
  have h4 := hO.left
  omega
 ·have := outL_len s.2.1 eff
  omega
theorem limits_ok {t : Tr} {sw : Stk} {p : List Pr} {l : List Ch} {root n : Int} (h : TrialOk t sw p l root) (hn0 : 0 ≤ n) (hn : n ≤ 16777216) : StkOk t ⟨(endS t sw p l root n 4).1, sw.size⟩ ∧ ∀ id, InN t.nodes id → swT t sw.hs id ≤ swT t (endS t sw p l root n 4).1 id ∧ swT t (endS t sw p l root n 4).1 id ≤ max (swT t sw.hs id) (mostK l id) := by
 have hT := h.stk.tree
 have hr := h.root
 have he := h.eff
 have hz : inPg sw.size := ⟨h.stk.z0, h.stk.z1⟩
 have hO := shr_ok hT hr hz hn l he (shr0_ok h.stk.hs hn0) 4
 exact ⟨⟨hT, hz.1, hz.2, hO.hs⟩, fun id hid => swT_shr hT hr hz hn0 hn l he h.stk.hs hid 4⟩
end Go.V
