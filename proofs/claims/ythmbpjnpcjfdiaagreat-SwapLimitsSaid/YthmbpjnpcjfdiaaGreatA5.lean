/- Part 5 of what the row stands on: the value machine and its walks. Nothing is assumed. -/
import Derived.Test.YthmbpjnpcjfdiaaGreatA4
set_option linter.unusedSimpArgs false
set_option linter.unusedVariables false
open Nat (reduceAdd reduceSub reduceEqDiff reduceLeDiff)
namespace Go.V
def swCh (hs : List Hg) : List Ch := hs.map fun h => ⟨h.group, h.swap⟩
theorem swCh_own : ∀ (hs : List Hg) (g : Int), ownC (swCh hs) g = swpF hs g
 | [], _ => rfl
 | h :: hs, g => by
  have ih := swCh_own hs g
  unfold swpF at ih ⊢
  show (if h.group = g then h.swap else ownC (swCh hs) g) = _
  rw [show getS (h :: hs) g = if h.group = g then h else getS hs g from rfl, ih]
  split <;> rfl
theorem swT_root {t : Tr} (h : TreeOk t) {z : Int} {hs : List Hg} (hh : HgOk t.nodes z hs) : swT t hs 1 = sumI (hs.map (·.swap)) := by
 obtain ⟨r, hr, hr1⟩ := root_at h
 have h1 := sum_own_eq (l := swCh hs) (by rw [swCh, List.pairwise_map]; exact hh.inc) (subF t.nodes t.nodes.length r.id) (subF_nodup h hr) fun d hd => by
  obtain ⟨x, hx, rfl⟩ := List.mem_map.1 hd
  obtain ⟨m, hm, he⟩ := findN_some (hh.known x hx)
  obtain ⟨j, hj⟩ := List.getElem?_of_mem hm
  show x.group ∈ _
  rw [← he]
  exact (mem_sub h hr _).2 ⟨j, m, hj, rfl, by rw [hr1]; exact root_anc h j m hj⟩
 rw [swCh, List.map_map] at h1
 rw [swT, ← hr1, subT_some h hr]
 refine Eq.trans ?_ h1
 refine congrArg sumI (List.map_congr_left fun g _ => ?_)
 rw [← swCh_own]
 rfl
theorem roomS_bound {t : Tr} (h : TreeOk t) {z : Int} {hs : List Hg} (hh : HgOk t.nodes z hs) (l : List Ch) (g : Int) : 0 ≤ roomS t hs z l g ∧ roomS t hs z l g ≤ z - sumI (hs.map (·.swap)) := by
 have h1 := leftS_le (swT t hs) l (ancF t.nodes t.nodes.length g) (z - swT t hs 1)
 have h2 := hh.out
 rw [swT_root h hh] at h1
 unfold roomS
 rw [swT_root h hh]
 omega
theorem sw_nonneg {ns : List Nd} {z : Int} {hs : List Hg} (hh : HgOk ns z hs) : 0 ≤ sumI (hs.map (·.swap)) := sumI_map_nonneg _ fun x hx => (hh.swap x hx).1
theorem usedF_bound {t : Tr} (h : TreeOk t) {c : List Ch} (hc : ChOk t.nodes c) (g : Int) : 0 ≤ usedF t c g ∧ usedF t c g ≤ 16777216 := by
 unfold usedF
 split
 ·rename_i hf
  obtain ⟨n, hn, rfl⟩ := findN_some hf
  obtain ⟨j, hj⟩ := List.getElem?_of_mem hn
  have h1 := tot_le h hc hj
  have h2 := tot_nonneg t (ownC_nonneg hc.pos) n.id
  have h3 := hc.all
  omega
 ·omega
structure EffOk (t : Tr) (root : Int) (eff : List Pr) : Prop where
 groups : eff.map (·.group) = msort (subT t root)
 bound : ∀ e ∈ eff, (0 ≤ e.least ∧ e.least ≤ 16777216) ∧ (0 ≤ e.low ∧ e.low ≤ 16777216)
def effL (t : Tr) (c : List Ch) (l : List Pr) (root : Int) : List Pr := (msort (subT t root)).map (effPr t c l root)
theorem claim_bound {t : Tr} (h : TreeOk t) {c : List Ch} (hc : ChOk t.nodes c) (f : Pr → Int) {l : List Pr} (hf : ∀ y ∈ l, 0 ≤ f y) (x : Int) : 0 ≤ min (usedF t c x) (lookPr f l x) ∧ min (usedF t c x) (lookPr f l x) ≤ 16777216 := by
 have h1 := lookPr_bound f hf x
 have h2 := usedF_bound h hc x
 omega
theorem effL_ok {t : Tr} (h : TreeOk t) {c : List Ch} (hc : ChOk t.nodes c) {l : List Pr} (hl : PrOk t.nodes l) (root : Int) : EffOk t root (effL t c l root) := by
 refine ⟨?_, fun e he => ?_⟩
 ·unfold effL
  rw [List.map_map]
  exact List.map_id _
 ·obtain ⟨g, _, rfl⟩ := List.mem_map.1 he
  exact ⟨effT_bound t _ (claim_bound h hc (·.least) fun y hy => (hl.least y hy).1) root g, effT_bound t _ (claim_bound h hc (·.low) fun y hy => (hl.low y hy).1) root g⟩
theorem parts_okS {t : Tr} (h : TreeOk t) {root : Int} (hr : InN t.nodes root) {hs : List Hg} {z : Int} (hh : HgOk t.nodes z hs) (hz : inPg z) (l : List Ch) {eff : List Pr} (he : EffOk t root eff) {own : Hg → Int} {pr : Pr → Int} (hown : ∀ g, inPg (own (getS hs g))) (hpr : ∀ e ∈ eff, inPg (pr e)) (out : Bool) : PartsOk t (eff.map (prtS t hs z l own pr out)) root := by
 refine ⟨h, hr, ?_, fun x hx => ?_⟩
 ·rw [List.map_map]
  exact he.groups
 ·obtain ⟨e, hem, rfl⟩ := List.mem_map.1 hx
  have h1 := usedF_bound h (cntS_ok hh) e.group
  have h2 := hown e.group
  have h3 := hpr e hem
  have h4 := roomS_bound h hh l e.group
  have h5 := sw_nonneg hh
  unfold inPg at h2 h3 hz
  refine ⟨h1.1, h1.2, h3.1, h3.2, h2.1, h2.2, ?_, ?_⟩
  ·show 0 ≤ if out = true then roomS t hs z l e.group else 4611686018427387904
   split <;> omega
  ·show (if out = true then roomS t hs z l e.group else 4611686018427387904) ≤ 4611686018427387904
   split <;> omega
theorem partOf_prt {t : Tr} {hs : List Hg} {z : Int} {l : List Ch} {own : Hg → Int} {pr : Pr → Int} {out : Bool} {g : Int} : ∀ {eff : List Pr}, g ∈ eff.map (·.group) → ∃ e ∈ eff, e.group = g ∧ partOf (eff.map (prtS t hs z l own pr out)) g = prtS t hs z l own pr out e
 | [], h => by simp at h
 | e :: eff, h => by
  unfold partOf
  rw [List.map_cons, List.find?_cons]
  by_cases he : e.group = g
  ·refine ⟨e, by simp, he, ?_⟩
   simp [prtS, he]
  ·have h1 : g ∈ eff.map (·.group) := by simpa [Ne.symm he, eq_comm] using h
   obtain ⟨e', he', hg, hp⟩ := partOf_prt (t := t) (hs := hs) (z := z) (l := l) (own := own) (pr := pr) (out := out) h1
   refine ⟨e', by simp [he'], hg, ?_⟩
   have : decide ((prtS t hs z l own pr out e).group = g) = false := decide_eq_false he
   rw [this]
   exact hp
theorem effOk_mem {t : Tr} (h : TreeOk t) {root : Int} (hr : InN t.nodes root) {eff : List Pr} (he : EffOk t root eff) (g : Int) : g ∈ eff.map (·.group) ↔ g ∈ subA t root := by
 obtain ⟨i, n, hn, hre⟩ := hr
 rw [he.groups, (msort_perm _).mem_iff, ← hre, subT_some h hn]
def ownS (out : Bool) (x : Hg) : Int := if out then x.anon else x.file
def prS (low : Bool) (x : Pr) : Int := if low then x.least else max x.least x.low
abbrev ShSt := List Hg × (Int → Sh) × Int
abbrev partsS (t : Tr) (z : Int) (l : List Ch) (eff : List Pr) (out low : Bool) (hs : List Hg) : List Pt := eff.map (prtS t hs z l (ownS out) (prS low) out)
def takesS (t : Tr) (z : Int) (l : List Ch) (eff : List Pr) (root : Int) (out low : Bool) (s : ShSt) : List (Int × Int) := (RoundP t (partsS t z l eff out low s.1) root s.2.2).1
def takeSt (out low : Bool) (s : ShSt) (a : List (Int × Int)) : ShSt := ((takeAll out low (s.1, s.2.1) a).1, (takeAll out low (s.1, s.2.1) a).2, s.2.2 - sumI (a.map Prod.snd))
def rndS (t : Tr) (z : Int) (l : List Ch) (eff : List Pr) (root : Int) (out low : Bool) (s : ShSt) : ShSt := takeSt out low s (takesS t z l eff root out low s)
def outR (k : Nat) : Bool := decide (k % 2 = 1)
def lowR (k : Nat) : Bool := decide (2 ≤ k)
def shrS (t : Tr) (z : Int) (l : List Ch) (eff : List Pr) (root : Int) (s0 : ShSt) : Nat → ShSt
 | 0 => s0
 | k + 1 => rndS t z l eff root (outR k) (lowR k) (shrS t z l eff root s0 k)
structure ShOk (t : Tr) (z n0 : Int) (s : ShSt) : Prop where
 hs : HgOk t.nodes z s.1
 left : 0 ≤ s.2.2 ∧ s.2.2 ≤ n0
 file : ∀ x, 0 ≤ (s.2.1 x).file ∧ (s.2.1 x).file ≤ n0 - s.2.2
 anon : ∀ x, 0 ≤ (s.2.1 x).anon ∧ (s.2.1 x).anon ≤ n0 - s.2.2
 low : ∀ x, 0 ≤ (s.2.1 x).low ∧ (s.2.1 x).low ≤ n0 - s.2.2
 grp : ∀ x, s.2.1 x = zeroSh ∨ (s.2.1 x).group = x
theorem sumOn_le {S : List Int} {a : List (Int × Int)} (h : ∀ q ∈ a, 0 ≤ q.2) : sumOn S a ≤ sumI (a.map Prod.snd) := by
 induction a with
 | nil => exact Int.le_refl _
 | cons q a ih =>
  have h1 := ih fun r hr => h r (by simp [hr])
  have h2 := h q (by simp)
  have h3 : sumOn S (q :: a) = (if q.1 ∈ S then q.2 else 0) + sumOn S a := rfl
  rw [h3, List.map_cons, sumI]
  split <;> omega
theorem takeSt_ok {t : Tr} {z n0 : Int} (hz : z ≤ 16777216) {s : ShSt} (hs : ShOk t z n0 s) (out low : Bool) {a : List (Int × Int)} (hq : ∀ q ∈ a, 0 < q.2 ∧ (findN t.nodes q.1).isSome = true) (ho : ∀ x, sumOn [x] a ≤ ownS out (getS s.1 x)) (hsw : out = true → sumI (s.1.map (·.swap)) + sumI (a.map Prod.snd) ≤ z) (hl : sumI (a.map Prod.snd) ≤ s.2.2) : ShOk t z n0 (takeSt out low s a) := by
 have h1 := takeAll_ok hz out low a (s.1, s.2.1) hs.hs hq (fun x => by
  have := ho x
  unfold ownS at this
  exact this) hsw
 have hq0 : ∀ q ∈ a, 0 ≤ q.2 := fun q hqm => by have := (hq q hqm).1; omega
 have hsn : 0 ≤ sumI (a.map Prod.snd) := sumI_map_nonneg _ hq0
 have hon : ∀ x, 0 ≤ sumOn [x] a ∧ sumOn [x] a ≤ sumI (a.map Prod.snd) := fun x => ⟨sumOn_nonneg hq0, sumOn_le hq0⟩
 have hle := hs.left
 have key : ∀ x, (takeSt out low s a).2.1 x = if x ∈ a.map Prod.fst then takeK out low x (s.2.1 x) (sumOn [x] a) else s.2.1 x := fun x => takeAll_note out low x a (s.1, s.2.1)
 have hn : (takeSt out low s a).2.2 = s.2.2 - sumI (a.map Prod.snd) := rfl
 refine ⟨h1.1, by rw [hn]; omega, fun x => ?_, fun x => ?_, fun x => ?_, fun x => ?_⟩
 ·rw [key x, hn]
  have b1 := hs.file x
  have b2 := hon x
  split
  ·unfold takeK
   cases out <;> simp <;> omega
  ·omega
 ·rw [key x, hn]
  have b1 := hs.anon x
  have b2 := hon x
  split
  ·unfold takeK
   cases out <;> simp <;> omega
  ·omega
 ·rw [key x, hn]
  have b1 := hs.low x
  have b2 := hon x
  split
  ·unfold takeK
   cases low <;> simp <;> omega
  ·omega
 ·rw [key x]
  split
  ·exact .inr rfl
  ·exact hs.grp x
theorem sumI_take {f : Int × Int → Int} : ∀ (a : List (Int × Int)) (j : Nat), (∀ q ∈ a, 0 ≤ f q) → sumI ((a.take j).map f) ≤ sumI (a.map f)
 | [], j, _ => by simp
 | q :: a, 0, h => by
  have := sumI_map_nonneg (f := f) (q :: a) h
  simpa [sumI] using this
 | q :: a, j + 1, h => by
  have ih := sumI_take a j fun r hr => h r (by simp [hr])
  simp only [List.take_succ_cons, List.map_cons, sumI]
  omega
theorem round_S {t : Tr} (h : TreeOk t) {root : Int} (hr : InN t.nodes root) {z n0 : Int} (hz : inPg z) (hn : n0 ≤ 16777216) (l : List Ch) {eff : List Pr} (he : EffOk t root eff) (out low : Bool) {s : ShSt} (hs : ShOk t z n0 s) :
  PartsOk t (partsS t z l eff out low s.1) root ∧ RoundP t (partsS t z l eff out low s.1) root s.2.2 = (takesS t z l eff root out low s, 0) ∧ RoundOk t (partsS t z l eff out low s.1) root (min s.2.2 (capR t (partsS t z l eff out low s.1) root)) (takesS t z l eff root out low s) ∧ sumI ((takesS t z l eff root out low s).map Prod.snd) = min s.2.2 (capR t (partsS t z l eff out low s.1) root) ∧ (∀ x, sumOn [x] (takesS t z l eff root out low s) ≤ ownS out (getS s.1 x)) ∧ ∀ j, ShOk t z n0 (takeSt out low s ((takesS t z l eff root out low s).take j)) := by
 have hP : PartsOk t (partsS t z l eff out low s.1) root := parts_okS h hr hs.hs hz l he (fun g => by
  obtain ⟨a, b, _⟩ := hs.hs.get g
  unfold ownS
  cases out <;> simp <;> assumption) (fun e hem => by
  have := he.bound e hem
  unfold prS inPg
  cases low <;> simp <;> omega) out
 have hle := hs.left
 obtain ⟨a, ha, hR⟩ := round_ok hP hle.1 (by omega)
 have hta : takesS t z l eff root out low s = a := by unfold takesS; rw [ha]
 rw [hta]
 have hq0 : ∀ q ∈ a, 0 ≤ q.2 := fun q hqm => by have := (hR.pos q hqm).1; omega
 have hsum : sumI (a.map Prod.snd) = min s.2.2 (capR t (partsS t z l eff out low s.1) root) := by
  rw [← hR.top, hR.on root hr, sumOn_all fun q hq => hR.groups q hq]
 have hown : ∀ x, sumOn [x] a ≤ ownS out (getS s.1 x) := fun x => by
  by_cases hx : x ∈ subA t root
  ·have h1 := (own_taken hP.ok hR x).2
   obtain ⟨e, hem, hg, hp⟩ := partOf_prt (t := t) (hs := s.1) (z := z) (l := l) (own := ownS out) (pr := prS low) (out := out) ((effOk_mem h hr he x).2 hx)
   rw [hp] at h1
   show sumOn [x] a ≤ ownS out (getS s.1 x)
   rw [← hg] at h1 ⊢
   exact h1
  ·rw [sumOn_zero fun q hq hqx => hx (by
    have := hR.groups q hq
    simp only [List.mem_singleton] at hqx
    rw [← hqx]
    exact this)]
   obtain ⟨a1, a2, _⟩ := hs.hs.get x
   unfold ownS inPg at *
   cases out <;> simp <;> omega
 have hsw : out = true → sumI (s.1.map (·.swap)) + sumI (a.map Prod.snd) ≤ z := fun ho => by
  have h1 := (cap_le h (l := partsS t z l eff out low s.1) hr).1
  obtain ⟨e, hem, hg, hp⟩ := partOf_prt (t := t) (hs := s.1) (z := z) (l := l) (own := ownS out) (pr := prS low) (out := out) ((effOk_mem h hr he root).2 (subA_self h hr))
  rw [hp] at h1
  have h2 := (roomS_bound h hs.hs l e.group).2
  simp only [prtS, ho, if_true] at h1
  rw [hsum]
  subst ho
  omega
 refine ⟨hP, ha, hR, hsum, hown, fun j => ?_⟩
 have htl := sumI_take a j (f := Prod.snd) hq0
 refine takeSt_ok hz.2 hs out low (fun q hq => ?_) (fun x => ?_) (fun ho => ?_) ?_
 ·have hqm := List.mem_of_mem_take hq
  refine ⟨(hR.pos q hqm).1, ?_⟩
  obtain ⟨i, n, hn', hne⟩ := subA_in h hr (hR.groups q hqm)
  rw [← hne, findN_unique h.inc hn']
  rfl
 ·have := hown x
  have := sumOn_take (S := [x]) hq0 j
  omega
 ·have := hsw ho
  omega
 ·omega
theorem shr_ok {t : Tr} (h : TreeOk t) {root : Int} (hr : InN t.nodes root) {z n0 : Int} (hz : inPg z) (hn : n0 ≤ 16777216) (l : List Ch) {eff : List Pr} (he : EffOk t root eff) {s0 : ShSt} (hs : ShOk t z n0 s0) : ∀ k, ShOk t z n0 (shrS t z l eff root s0 k)
 | 0 => hs
 | k + 1 => by
  have ih := shr_ok h hr hz hn l he hs k
  have h1 := (round_S h hr hz hn l he (outR k) (lowR k) ih).2.2.2.2.2 (takesS t z l eff root (outR k) (lowR k) (shrS t z l eff root s0 k)).length
  rw [List.take_length] at h1
  exact h1
theorem shr0_ok {t : Tr} {z n : Int} {hs : List Hg} (hh : HgOk t.nodes z hs) (hn : 0 ≤ n) : ShOk t z n (hs, (fun _ => zeroSh), n) := by
 refine ⟨hh, ⟨hn, Int.le_refl _⟩, fun _ => ?_, fun _ => ?_, fun _ => ?_, fun _ => .inl rfl⟩ <;> (simp only []; omega)
def outL (f : Int → Sh) (eff : List Pr) : List Sh := (eff.map fun e => f e.group).filter fun k => decide (k.group ≠ 0)
def ShrinkS (t : Tr) (sw : Stk) (p : List Pr) (l : List Ch) (root n : Int) : Stk × List Sh × Int :=
 if validS t sw && validPr t p && validLK t l then
  if (findN t.nodes root).isSome then
   if pagesB n then (⟨(shrS t sw.size l (effL t (cntS sw.hs) p root) root (sw.hs, (fun _ => zeroSh), n) 4).1, sw.size⟩, outL (shrS t sw.size l (effL t (cntS sw.hs) p root) root (sw.hs, (fun _ => zeroSh), n) 4).2.1 (effL t (cntS sw.hs) p root), 0)
   else (⟨[], 0⟩, [], 3)
  else (⟨[], 0⟩, [], 4)
 else (⟨[], 0⟩, [], 1)
end Go.V
namespace Go.V
theorem fileF_eq (x : Hg) : V 75 [x.vv] [] = some (.p (.int .i64 x.file), []) := by
 refine V_wp (vf := vf75) rfl ?_
 simp -implicitDefEqProofs (disch := omega) only [vf75, vb75, go_sem, ↓reduceIte, reduceAdd, reduceSub, reduceEqDiff, reduceLeDiff, reduceCtorEq]
theorem anonF_eq (x : Hg) : V 77 [x.vv] [] = some (.p (.int .i64 x.anon), []) := by
 refine V_wp (vf := vf77) rfl ?_
 simp -implicitDefEqProofs (disch := omega) only [vf77, vb77, go_sem, ↓reduceIte, reduceAdd, reduceSub, reduceEqDiff, reduceLeDiff, reduceCtorEq]
theorem highF_eq (x : Pr) : V 76 [x.vv] [] = some (.p (.int .i64 (max x.least x.low)), []) := by
 refine V_wp (vf := vf76) rfl ?_
 simp -implicitDefEqProofs (disch := omega) only [vf76, vb76, go_sem, ↓reduceIte, reduceAdd, reduceSub, reduceEqDiff, reduceLeDiff, reduceCtorEq]
theorem lowF2_eq (x : Pr) : V 78 [x.vv] [] = some (.p (.int .i64 x.least), []) := by
 refine V_wp (vf := vf78) rfl ?_
 simp -implicitDefEqProofs (disch := omega) only [vf78, vb78, go_sem, ↓reduceIte, reduceAdd, reduceSub, reduceEqDiff, reduceLeDiff, reduceCtorEq]
def fnO (out : Bool) : FuncId := if out then 77 else 75
def fnP (low : Bool) : FuncId := if low then 78 else 76
theorem fnO_eq (out : Bool) (x : Hg) : V (fnO out) [x.vv] [] = some (.p (.int .i64 (ownS out x)), []) := by
 cases out
 ·exact fileF_eq x
 ·exact anonF_eq x
theorem fnP_eq (low : Bool) (x : Pr) : V (fnP low) [x.vv] [] = some (.p (.int .i64 (prS low x)), []) := by
 cases low
 ·exact highF_eq x
 ·exact lowF2_eq x
theorem takeSt_snoc (out low : Bool) (s : ShSt) (b : List (Int × Int)) (q : Int × Int) : takeSt out low s (b ++ [q]) = (putS (takeSt out low s b).1 (takeH out (getS (takeSt out low s b).1 q.1) q.2), (fun x => if x = q.1 then takeK out low q.1 ((takeSt out low s b).2.1 q.1) q.2 else (takeSt out low s b).2.1 x), (takeSt out low s b).2.2 - q.2) := by
 unfold takeSt takeAll
 rw [List.foldl_append, List.map_append, sumI_append]
 simp only [List.foldl_cons, List.foldl_nil, takeOne, List.map_cons, List.map_nil, sumI]
 congr 2
 omega
theorem outL_snoc (f : Int → Sh) (eff : List Pr) (e : Pr) : outL f (eff ++ [e]) = outL f eff ++ if (f e.group).group = 0 then [] else [f e.group] := by
 unfold outL
 rw [List.map_append, List.filter_append]
 congr 1
 by_cases h : (f e.group).group = 0 <;> simp [h]
theorem outL_len (f : Int → Sh) (eff : List Pr) : (outL f eff).length ≤ eff.length := by
 unfold outL
 refine Nat.le_trans (List.length_filter_le _ _) ?_
 rw [List.length_map]
 exact Nat.le_refl _
set_option maxHeartbeats 8000000 in
theorem shrink_eq (t : Tr) (sw : Stk) (p : List Pr) (l : List Ch) (root n : Int) (hf : t.Fits) (hn : t.nodes.length < 1000000) (hl : sw.hs.length < 1000000) (hpl : p.length < 1000000) (hll : l.length < 1000000) : V 35 [t.vv, sw.vv, .p (prsP p), .p (chsP l), .p (.int .i64 root), .p (.int .i64 n)] [] = some (.tup [Stk.fv (ShrinkS t sw p l root n).1, .fresh 4 ((ShrinkS t sw p l root n).2.1.map Sh.pv), .p (.int .i64 (ShrinkS t sw p l root n).2.2)], []) := by
 refine V_wp (vf := vf35) rfl ?_
 have hv := svalid_eq t sw hf hn hl
 have hpv := prvalid_eq t p hf hn hpl
 have hlv := klimits_eq t l hf hn hll
 have hck := scheck_eq t sw root hf hn hl
 have hpg := spages_eq n
 have e4 : decide ((4 : Int) = 0) = false := rfl
 unfold ShrinkS
 unfold checkS at hck
 by_cases h1 : validS t sw = true
 ·rw [h1] at hv hck ⊢
  by_cases h2 : validPr t p = true
  ·rw [h2] at hpv ⊢
   by_cases h3 : validLK t l = true
   ·rw [h3] at hlv ⊢
    by_cases h4 : (findN t.nodes root).isSome = true
    ·rw [h4] at hck ⊢
     by_cases h5 : pagesB n = true
     ·rw [h5] at hpg ⊢
      have hS := (validS_iff t sw).1 h1
      have hT := hS.tree
      have hPr := ((validPr_iff t p).1 h2).2
      have hL := LimOk.of ((validLK_iff t l).1 h3).2
      have hlen := hT.len
      have hr : InN t.nodes root := by
       obtain ⟨m, hm, he⟩ := findN_some h4
       obtain ⟨j, hj⟩ := List.getElem?_of_mem hm
       exact ⟨j, m, hj, he⟩
      have hcn := cntS_ok hS.hs
      have hct := scounter_eq sw hl (fun x hx => ⟨hS.hs.file x hx, hS.hs.anon x hx⟩)
      have hef := pEff_ok hT hcn hPr hr hpl
      have heo := effL_ok hT hcn hPr root
      have hnb := pagesB_true h5
      have hz : inPg sw.size := ⟨hS.z0, hS.z1⟩
      have hsh := shr_ok hT hr hz hnb.2 l heo (shr0_ok hS.hs hnb.1)
      have hrd := fun k => round_S hT hr hz hnb.2 l heo (outR k) (lowR k) (hsh k)
      have hS0 : shrS t sw.size l (effL t (cntS sw.hs) p root) root (sw.hs, (fun _ => zeroSh), n) 0 = (sw.hs, (fun _ => zeroSh), n) := rfl
      have hSs : ∀ k, shrS t sw.size l (effL t (cntS sw.hs) p root) root (sw.hs, (fun _ => zeroSh), n) (k + 1) = rndS t sw.size l (effL t (cntS sw.hs) p root) root (outR k) (lowR k) (shrS t sw.size l (effL t (cntS sw.hs) p root) root (sw.hs, (fun _ => zeroSh), n) k) := fun _ => rfl
      have hel : (effL t (cntS sw.hs) p root).length ≤ 64 := by
       have h6 := subT_len hT root
       unfold effL
       rw [List.length_map, msort_length]
       omega
      have hemap : (msort (subT t root)).map (fun g => (effPr t (cntS sw.hs) p root g).pv) = (effL t (cntS sw.hs) p root).map Pr.pv := by
       unfold effL
       rw [List.map_map]
       rfl
      have hpt : ∀ (hs : List Hg) (k : Nat) (kt : KT) (tk : List MKey) (tv : List PV), HgOk t.nodes sw.size hs → _ := fun hs k kt tk tv hh => sparts_eq hT hh hz hL hll (effL t (cntS sw.hs) p root) (by omega) (fnO_eq (outR k)) (fnP_eq (lowR k)) (outR k) (lowR k) kt tk tv
      have hro := fun (q : List Pt) (m : Int) (hq : q.length < 1000000) => round_eq t q root m hT.fits (by omega) hq
      rw [hemap] at hef
      generalize hE : effL t (cntS sw.hs) p root = eff at hef heo hsh hrd hS0 hSs hel hemap hpt
      generalize hF : shrS t sw.size l eff root (sw.hs, (fun _ => zeroSh), n) = F at hsh hrd hS0 hSs ⊢
      simp -implicitDefEqProofs (disch := omega) only [vf35, vb35, hv, hpv, hlv, hck, hpg, hct, hef, go_sem, ↓reduceIte, reduceAdd, reduceSub, reduceEqDiff, reduceLeDiff, reduceCtorEq]
      obtain ⟨I, hI⟩ : ∃ I : Nat → St → Prop, ∀ k s, I k s ↔ ∃ (ks : List MKey) (vs : List PV) (ww : Nat), RepH ks vs (F k).2.1 ∧ s.pe 4 = .p (.int .i64 root) ∧ s.pe 5 = .p (.int .i64 (F k).2.2) ∧ s.pe 6 = .ptr (.slot 6 0) 0 0 ∧ s.pe 12 = .ptr (.slot 12 0) 0 0 ∧ s.pe 16 = .ptr (.slot 66 0) 0 0 ∧ s.pe 83 = VVal.agg [.p (PV.fn 75), .p (PV.fn 76), .p (.bool false), .p (.bool false), .p (PV.fn 77), .p (PV.fn 76), .p (.bool true), .p (.bool false), .p (PV.fn 75), .p (PV.fn 78), .p (.bool false), .p (.bool true), .p (PV.fn 77), .p (PV.fn 78), .p (.bool true), .p (.bool true)] ∧ s.pe 84 = .p (.int .i64 k) ∧ s.h (.slot 6 0) = some (0, Ob.box [.p (nodesP t.nodes), .p (.int .i64 t.next)]) ∧ s.h (.slot 12 0) = some (0, Ob.box [.own (.slot 12 1) 0 0 0, .p (.int .i64 0)]) ∧ s.h (.slot 12 1) = some (0, Ob.arr 4 []) ∧ s.h (.slot 59 0) = some (ww, Ob.arr 4 (List.map Hg.pv (F k).1)) ∧ s.h (.slot 64 0) = some (0, Ob.map (KT.int IntKind.i64) ks vs) ∧ s.h (.slot 66 0) = some (0, Ob.box [.p (nodesP t.nodes), .p (.int .i64 t.next), .own (.slot 59 0) ww 0 (F k).1.length, .p (.int .i64 sw.size), .p (chsP l), .own (.slot 74 1) 0 0 eff.length, .mref (.slot 64 0) 0]) ∧ s.h (.slot 74 1) = some (0, Ob.arr 3 (List.map Pr.pv eff)) := ⟨_, fun _ _ => Iff.rfl⟩
      refine wp_count (4) I ?_ ?_
      ·refine (hI _ _).2 ⟨[], [], 0, ?_, ?_, ?_, ?_, ?_, ?_, ?_, ?_, ?_, ?_, ?_, ?_, ?_, ?_, ?_⟩
       ·exact by rw [hS0]; exact RepH.nil
       all_goals first | with_reducible rfl | (simp -implicitDefEqProofs (disch := omega) only [List.map_append, go_sem, ↓reduceIte, reduceAdd, reduceSub, reduceEqDiff, reduceLeDiff, reduceCtorEq] <;> (first | exact cl1 | (simp [hS0]; done) | (simp [hS0]; omega))) | exact cl2
      intro k s hk hIk
      obtain ⟨ks, vs, ww, hrep, h4, h5, h6, h12, h16, h83, h84, hh6_0, hh12_0, hh12_1, hh59_0, hh64_0, hh66_0, hh74_1⟩ := (hI _ _).1 hIk
      clear hIk
      simp -implicitDefEqProofs (disch := omega) only [h4, h5, h6, h12, h16, h83, h84, hh6_0, hh12_0, hh12_1, hh59_0, hh64_0, hh66_0, hh74_1, go_sem, ↓reduceIte, reduceAdd, reduceSub, reduceEqDiff, reduceLeDiff, reduceCtorEq]
      refine wp_if_d (fun hlt => ?_) (fun hge => ?_)
      ·have hidx : List.take 4 (List.drop (k * 4) [VVal.p (PV.fn 75), .p (PV.fn 76), .p (.bool false), .p (.bool false), .p (PV.fn 77), .p (PV.fn 76), .p (.bool true), .p (.bool false), .p (PV.fn 75), .p (PV.fn 78), .p (.bool false), .p (.bool true), .p (PV.fn 77), .p (PV.fn 78), .p (.bool true), .p (.bool true)]) = [.p (.fn (fnO (outR k))), .p (.fn (fnP (lowR k))), .p (.bool (outR k)), .p (.bool (lowR k))] := by
        have hk4 : k = 0 ∨ k = 1 ∨ k = 2 ∨ k = 3 := by omega
        rcases hk4 with rfl | rfl | rfl | rfl <;> rfl
       obtain ⟨hP, hRP, hRo, hsum, hown, hpre⟩ := hrd k
       have hp0 := hpt (F k).1 k (.int .i64) ks vs (hsh k).hs
       have hr0 := hro (partsS t sw.size l eff (outR k) (lowR k) (F k).1) (F k).2.2 (by rw [partsS, List.length_map]; omega)
       rw [hRP] at hr0
       simp only at hr0
       have hPl : (eff.map (prtS t (F k).1 sw.size l (ownS (outR k)) (prS (lowR k)) (outR k))).length ≤ 64 := by rw [List.length_map]; omega
       have hPo : ∀ q ∈ takesS t sw.size l eff root (outR k) (lowR k) (F k), inPg q.2 := fun q hq => by
        have a1 := hRo.pos q hq
        have a2 := (partOf_ok hP.ok q.1).o1
        exact ⟨by omega, by omega⟩
       unfold partsS at hr0
       have hFk := hSs k
       have hok := hsh (k + 1)
       rw [hFk] at hok
       unfold rndS at hFk
       generalize eff.map (prtS t (F k).1 sw.size l (ownS (outR k)) (prS (lowR k)) (outR k)) = Q at hp0 hr0 hPl
       generalize takesS t sw.size l eff root (outR k) (lowR k) (F k) = a at hr0 hRo hpre hPo hFk
       have hal := hRo.len
       have hG0 : takeSt (outR k) (lowR k) (F k) (a.take 0) = F k := by
        unfold takeSt
        simp [takeAll, sumI]
       have hGs : ∀ (j : Nat) (q : Int × Int), a[j]? = some q → takeSt (outR k) (lowR k) (F k) (a.take (j + 1)) = _ := fun j q hq => by rw [take_snoc hq, takeSt_snoc]
       rw [show takeSt (outR k) (lowR k) (F k) a = takeSt (outR k) (lowR k) (F k) (a.take a.length) by rw [List.take_length]] at hFk
       generalize hG : (fun j => takeSt (outR k) (lowR k) (F k) (a.take j)) = G
       have hG' : ∀ j, takeSt (outR k) (lowR k) (F k) (a.take j) = G j := fun j => by rw [← hG]
       simp only [hG'] at hpre hG0 hGs hFk
       clear hG hG' hRo hP hRP hsum hown
       obtain ⟨O, hO⟩ : ∃ O, fnO (outR k) = O := ⟨_, rfl⟩
       obtain ⟨U, hU⟩ : ∃ U, fnP (lowR k) = U := ⟨_, rfl⟩
       rw [hO, hU] at hidx hp0
       generalize outR k = o at *
       generalize lowR k = u at *
       simp -implicitDefEqProofs (disch := omega) only [h4, h5, h6, h12, h16, h83, h84, hh6_0, hh12_0, hh12_1, hh59_0, hh64_0, hh66_0, hh74_1, hlt, hidx, hp0, hr0, go_sem, ↓reduceIte, reduceAdd, reduceSub, reduceEqDiff, reduceLeDiff, reduceCtorEq]
       have hS0 := hG0
       obtain ⟨J, hJ⟩ : ∃ I : Nat → St → Prop, ∀ j s, I j s ↔ ∃ (v18_0 : Nat) (v94_1 : Nat) (ks : List MKey) (vs : List PV) (ww : Nat), RepH ks vs (G j).2.1 ∧ s.pe 4 = .p (.int .i64 root) ∧ s.pe 5 = .p (.int .i64 (G j).2.2) ∧ s.pe 6 = .ptr (.slot 6 0) 0 0 ∧ s.pe 12 = .ptr (.slot 12 0) 0 0 ∧ s.pe 16 = .ptr (.slot 66 0) 0 0 ∧ s.pe 18 = .ptr (.slot 18 0) v18_0 0 ∧ s.pe 83 = VVal.agg [.p (PV.fn 75), .p (PV.fn 76), .p (.bool false), .p (.bool false), .p (PV.fn 77), .p (PV.fn 76), .p (.bool true), .p (.bool false), .p (PV.fn 75), .p (PV.fn 78), .p (.bool false), .p (.bool true), .p (PV.fn 77), .p (PV.fn 78), .p (.bool true), .p (.bool true)] ∧ s.pe 84 = .p (.int .i64 ↑k) ∧ s.pe 97 = .own (.slot 94 1) v94_1 0 a.length ∧ s.pe 98 = .p (.int .i64 ↑a.length) ∧ s.pe 99 = .p (.int .i64 j) ∧ s.h (.slot 6 0) = some (0, Ob.box [.p (nodesP t.nodes), .p (.int .i64 t.next)]) ∧ s.h (.slot 12 0) = some (0, Ob.box [.own (.slot 12 1) 0 0 0, .p (.int .i64 0)]) ∧ s.h (.slot 12 1) = some (0, Ob.arr 4 []) ∧ s.h (.slot 18 0) = some (v18_0, Ob.box [.p (PV.fn O), .p (PV.fn U), .p (.bool o), .p (.bool u)]) ∧ s.h (.slot 59 0) = some (ww, Ob.arr 4 (List.map Hg.pv (G j).1)) ∧ s.h (.slot 64 0) = some (0, Ob.map (KT.int IntKind.i64) ks vs) ∧ s.h (.slot 66 0) = some (0, Ob.box [.p (nodesP t.nodes), .p (.int .i64 t.next), .own (.slot 59 0) ww 0 (G j).1.length, .p (.int .i64 sw.size), .p (chsP l), .own (.slot 74 1) 0 0 eff.length, .mref (.slot 64 0) 0]) ∧ s.h (.slot 74 1) = some (0, Ob.arr 3 (List.map Pr.pv eff)) ∧ s.h (.slot 94 1) = some (v94_1, Ob.arr 2 (List.map tkP a)) := ⟨_, fun _ _ => Iff.rfl⟩
       refine wp_count (a.length) J ?_ ?_
       ·refine (hJ _ _).2 ⟨nv (fzOb [18, 91, 94] s.h (.slot 18 0)), nv (fzOb [18, 91, 94] s.h (.slot 94 1)), ks, vs, ww, ?_, ?_, ?_, ?_, ?_, ?_, ?_, ?_, ?_, ?_, ?_, ?_, ?_, ?_, ?_, ?_, ?_, ?_, ?_, ?_, ?_⟩
        ·exact by rw [hG0]; exact hrep
        all_goals first | with_reducible rfl | (simp -implicitDefEqProofs (disch := omega) only [h4, h5, h6, h12, h16, h83, h84, hh6_0, hh12_0, hh12_1, hh59_0, hh64_0, hh66_0, hh74_1, List.map_append, go_sem, ↓reduceIte, reduceAdd, reduceSub, reduceEqDiff, reduceLeDiff, reduceCtorEq] <;> (first | exact cl1 | (simp [hS0]; done) | (simp [hS0]; omega))) | exact cl2
       intro j s hj hJk
       obtain ⟨v18_0, v94_1, ks, vs, ww, hrp, h4, h5, h6, h12, h16, h18, h83, h84, h97, h98, h99, hh6_0, hh12_0, hh12_1, hh18_0, hh59_0, hh64_0, hh66_0, hh74_1, hh94_1⟩ := (hJ _ _).1 hJk
       clear hJk
       simp -implicitDefEqProofs (disch := omega) only [h4, h5, h6, h12, h16, h18, h83, h84, h97, h98, h99, hh6_0, hh12_0, hh12_1, hh18_0, hh59_0, hh64_0, hh66_0, hh74_1, hh94_1, go_sem, ↓reduceIte, reduceAdd, reduceSub, reduceEqDiff, reduceLeDiff, reduceCtorEq]
       refine wp_if_d (fun hjl => ?_) (fun hjg => ?_)
       ·have hx : a[j]? = some a[j] := List.getElem?_eq_getElem hjl
        have hgs := hGs j _ hx
        have hqo := hPo a[j] (List.getElem_mem _)
        have hpj := hpre j
        have hpj2 := hpre (j + 1)
        generalize a[j] = q at hx hgs hqo
        obtain ⟨g, m⟩ := q
        have hlj := hpj.hs.length
        have hle := hpj.left
        have hmb : inPg m := hqo
        have htk := stake_eq t (G j).1 sw.size l eff (by omega) (fo := O) (fp := U) o u g m hrp hqo (hpj.hs.get g) (by
         have b1 := hpj.file g
         have b2 := hpj.anon g
         have b3 := hpj.low g
         unfold inPg
         omega)
        have hrn := hrp.put g (takeK o u g ((G j).2.1 g) m)
        simp only at hgs
        unfold inPg at hmb
        have hrn' : RepH (mput ks vs (.int g) (takeK o u g ((G j).2.1 g) m).pv).1 (mput ks vs (.int g) (takeK o u g ((G j).2.1 g) m).pv).2 (G (j + 1)).2.1 := by rw [hgs]; exact hrn
        have e1 : (G (j + 1)).1 = putS (G j).1 (takeH o (getS (G j).1 g) m) := by rw [hgs]
        have e2 : (G (j + 1)).2.2 = (G j).2.2 - m := by rw [hgs]
        have hl2 := hpj2.hs.length
        rw [e1] at hl2
        simp -implicitDefEqProofs (disch := omega) only [h4, h5, h6, h12, h16, h18, h83, h84, h97, h98, h99, hh6_0, hh12_0, hh12_1, hh18_0, hh59_0, hh64_0, hh66_0, hh74_1, hh94_1, hjl, hx, htk, tkP, go_sem, ↓reduceIte, reduceAdd, reduceSub, reduceEqDiff, reduceLeDiff, reduceCtorEq]
        try refine And.intro (by omega) ?_
        refine (hJ _ _).2 ⟨v18_0, v94_1, (mput ks vs (.int g) (takeK o u g ((G j).2.1 g) m).pv).1, (mput ks vs (.int g) (takeK o u g ((G j).2.1 g) m).pv).2, ww + 1, ?_, ?_, ?_, ?_, ?_, ?_, ?_, ?_, ?_, ?_, ?_, ?_, ?_, ?_, ?_, ?_, ?_, ?_, ?_, ?_, ?_⟩
        ·exact hrn'
        all_goals first | with_reducible rfl | (simp -implicitDefEqProofs (disch := omega) only [h4, h5, h6, h12, h16, h18, h83, h84, h97, h98, h99, hh6_0, hh12_0, hh12_1, hh18_0, hh59_0, hh64_0, hh66_0, hh74_1, hh94_1, e1, e2, Sh.pv, List.map_append, go_sem, ↓reduceIte, reduceAdd, reduceSub, reduceEqDiff, reduceLeDiff, reduceCtorEq] <;> (first | exact cl1 | (simp [hS0]; done) | (simp [hS0]; omega))) | exact cl2
       ·have hje : j = a.length := by omega
        rw [hje, ← hFk] at hrp
        have hrp' := hrp
        simp -implicitDefEqProofs (disch := omega) only [h4, h5, h6, h12, h16, h18, h83, h84, h97, h98, h99, hh6_0, hh12_0, hh12_1, hh18_0, hh59_0, hh64_0, hh66_0, hh74_1, hh94_1, hjg, go_sem, ↓reduceIte, reduceAdd, reduceSub, reduceEqDiff, reduceLeDiff, reduceCtorEq]
        try refine And.intro (by omega) ?_
        refine (hI _ _).2 ⟨ks, vs, ww, ?_, ?_, ?_, ?_, ?_, ?_, ?_, ?_, ?_, ?_, ?_, ?_, ?_, ?_, ?_⟩
        ·exact hrp
        all_goals first | with_reducible rfl | (simp -implicitDefEqProofs (disch := omega) only [h4, h5, h6, h12, h16, h83, h84, hh6_0, hh12_0, hh12_1, hh59_0, hh64_0, hh66_0, hh74_1, hFk, hje, List.map_append, go_sem, ↓reduceIte, reduceAdd, reduceSub, reduceEqDiff, reduceLeDiff, reduceCtorEq] <;> (first | exact cl1 | (simp [hS0]; done) | (simp [hS0]; omega))) | exact cl2
      ·have hk4 : k = 4 := by omega
       subst hk4
       have hok := hsh 4
       simp -implicitDefEqProofs (disch := omega) only [h4, h5, h6, h12, h16, h83, h84, hh6_0, hh12_0, hh12_1, hh59_0, hh64_0, hh66_0, hh74_1, hge, go_sem, ↓reduceIte, reduceAdd, reduceSub, reduceEqDiff, reduceLeDiff, reduceCtorEq]
       obtain ⟨g, hg⟩ : ∃ g, (F 4).2.1 = g := ⟨_, rfl⟩
       rw [hg] at hrep
       rw [hg]
       have hS0 : (F 4).2.1 = g := hg
       obtain ⟨K, hK⟩ : ∃ I : Nat → St → Prop, ∀ k s, I k s ↔ ∃ (acc : List Sh) (wv : Nat), acc = outL g (eff.take k) ∧ acc.length ≤ k ∧ s.pe 12 = .ptr (.slot 12 0) 0 0 ∧ s.pe 16 = .ptr (.slot 66 0) 0 0 ∧ s.pe 23 = .own (.slot 23 0) wv 0 acc.length ∧ s.pe 119 = .own (.slot 74 1) 0 0 eff.length ∧ s.pe 120 = .p (.int .i64 ↑eff.length) ∧ s.pe 121 = .p (.int .i64 k) ∧ s.h (.slot 12 0) = some (0, Ob.box [.own (.slot 12 1) 0 0 0, .p (.int .i64 0)]) ∧ s.h (.slot 12 1) = some (0, Ob.arr 4 []) ∧ s.h (.slot 23 0) = some (wv, Ob.arr 4 (acc.map Sh.pv)) ∧ s.h (.slot 59 0) = some (ww, Ob.arr 4 (List.map Hg.pv (F 4).1)) ∧ s.h (.slot 64 0) = some (0, Ob.map (KT.int IntKind.i64) ks vs) ∧ s.h (.slot 66 0) = some (0, Ob.box [.p (nodesP t.nodes), .p (.int .i64 t.next), .own (.slot 59 0) ww 0 (F 4).1.length, .p (.int .i64 sw.size), .p (chsP l), .own (.slot 74 1) 0 0 eff.length, .mref (.slot 64 0) 0]) ∧ s.h (.slot 74 1) = some (0, Ob.arr 3 (List.map Pr.pv eff)) := ⟨_, fun _ _ => Iff.rfl⟩
       refine wp_count (eff.length) K ?_ ?_
       ·refine (hK _ _).2 ⟨[], nv (fzOb [18, 91, 94] s.h (.slot 23 0)), ?_, ?_, ?_, ?_, ?_, ?_, ?_, ?_, ?_, ?_, ?_, ?_, ?_, ?_, ?_⟩
        ·exact rfl
        ·exact by simp
        all_goals first | with_reducible rfl | (simp -implicitDefEqProofs (disch := omega) only [h4, h5, h6, h12, h16, h83, h84, hh6_0, hh12_0, hh12_1, hh59_0, hh64_0, hh66_0, hh74_1, List.map_append, go_sem, ↓reduceIte, reduceAdd, reduceSub, reduceEqDiff, reduceLeDiff, reduceCtorEq] <;> (first | exact cl1 | (simp [hS0]; done) | (simp [hS0]; omega))) | exact cl2
       intro k s hk hKk
       obtain ⟨acc, wv, hacc, hal, h12, h16, h23, h119, h120, h121, hh12_0, hh12_1, hh23_0, hh59_0, hh64_0, hh66_0, hh74_1⟩ := (hK _ _).1 hKk
       clear hKk
       simp -implicitDefEqProofs (disch := omega) only [h12, h16, h23, h119, h120, h121, hh12_0, hh12_1, hh23_0, hh59_0, hh64_0, hh66_0, hh74_1, go_sem, ↓reduceIte, reduceAdd, reduceSub, reduceEqDiff, reduceLeDiff, reduceCtorEq]
       refine wp_if_d (fun hkl => ?_) (fun hkg => ?_)
       ·have hx : eff[k]? = some eff[k] := List.getElem?_eq_getElem hkl
        have htk := take_snoc hx
        generalize eff[k] = e at hx htk
        have hge := hrep.get e.group
        have hol := outL_snoc g (eff.take k) e
        rw [← htk] at hol
        have hgv : (g e.group).pv = .agg [.int .i64 (g e.group).group, .int .i64 (g e.group).file, .int .i64 (g e.group).anon, .int .i64 (g e.group).low] := rfl
        rw [hgv] at hge
        generalize g e.group = x at hge hol
        by_cases hx0 : x.group = 0
        ·rw [if_pos hx0, List.append_nil] at hol
         have hx0' : (!decide (x.group = 0)) = false := by simp [hx0]
         simp -implicitDefEqProofs (disch := omega) only [h12, h16, h23, h119, h120, h121, hh12_0, hh12_1, hh23_0, hh59_0, hh64_0, hh66_0, hh74_1, hkl, hx, hge, Pr.pv, hx0', hx0, go_sem, ↓reduceIte, reduceAdd, reduceSub, reduceEqDiff, reduceLeDiff, reduceCtorEq]
         try refine And.intro (by omega) ?_
         refine (hK _ _).2 ⟨acc, wv, ?_, ?_, ?_, ?_, ?_, ?_, ?_, ?_, ?_, ?_, ?_, ?_, ?_, ?_, ?_⟩
         ·exact by rw [hol]; exact hacc
         ·exact by omega
         all_goals first | with_reducible rfl | (simp -implicitDefEqProofs (disch := omega) only [h12, h16, h23, h119, h120, h121, hh12_0, hh12_1, hh23_0, hh59_0, hh64_0, hh66_0, hh74_1, List.map_append, go_sem, ↓reduceIte, reduceAdd, reduceSub, reduceEqDiff, reduceLeDiff, reduceCtorEq] <;> (first | exact cl1 | (simp [hS0]; done) | (simp [hS0]; omega))) | exact cl2
        ·rw [if_neg hx0] at hol
         simp -implicitDefEqProofs (disch := omega) only [h12, h16, h23, h119, h120, h121, hh12_0, hh12_1, hh23_0, hh59_0, hh64_0, hh66_0, hh74_1, hkl, hx, hge, Pr.pv, hx0, go_sem, ↓reduceIte, reduceAdd, reduceSub, reduceEqDiff, reduceLeDiff, reduceCtorEq]
         try refine And.intro (by omega) ?_
         refine (hK _ _).2 ⟨acc ++ [x], wv + 1, ?_, ?_, ?_, ?_, ?_, ?_, ?_, ?_, ?_, ?_, ?_, ?_, ?_, ?_, ?_⟩
         ·exact by rw [hol, hacc]
         ·exact by simp; omega
         all_goals first | with_reducible rfl | (simp -implicitDefEqProofs (disch := omega) only [h12, h16, h23, h119, h120, h121, hh12_0, hh12_1, hh23_0, hh59_0, hh64_0, hh66_0, hh74_1, List.map_append, go_sem, ↓reduceIte, reduceAdd, reduceSub, reduceEqDiff, reduceLeDiff, reduceCtorEq] <;> (first | exact cl1 | (simp [hS0]; done) | (simp [hS0]; omega))) | exact cl2
       ·rw [List.take_of_length_le (by omega)] at hacc
        simp -implicitDefEqProofs (disch := omega) only [h12, h16, h23, h119, h120, h121, hh12_0, hh12_1, hh23_0, hh59_0, hh64_0, hh66_0, hh74_1, hkg, go_sem, ↓reduceIte, reduceAdd, reduceSub, reduceEqDiff, reduceLeDiff, reduceCtorEq]
        rw [hacc]
     ·have h5' : pagesB n = false := by simpa using h5
      rw [h5'] at hpg ⊢
      simp -implicitDefEqProofs (disch := omega) only [vf35, vb35, hv, hpv, hlv, hck, hpg, go_sem, ↓reduceIte, reduceAdd, reduceSub, reduceEqDiff, reduceLeDiff, reduceCtorEq] <;> rfl
    ·have h4' : (findN t.nodes root).isSome = false := by simpa using h4
     rw [h4'] at hck ⊢
     simp -implicitDefEqProofs (disch := omega) only [vf35, vb35, hv, hpv, hlv, hck, e4, go_sem, ↓reduceIte, reduceAdd, reduceSub, reduceEqDiff, reduceLeDiff, reduceCtorEq] <;> rfl
   ·have h3' : validLK t l = false := by simpa using h3
    rw [h3'] at hlv ⊢
    simp -implicitDefEqProofs (disch := omega) only [vf35, vb35, hv, hpv, hlv, go_sem, ↓reduceIte, reduceAdd, reduceSub, reduceEqDiff, reduceLeDiff, reduceCtorEq] <;> rfl
  ·have h2' : validPr t p = false := by simpa using h2
   rw [h2'] at hpv ⊢
   simp -implicitDefEqProofs (disch := omega) only [vf35, vb35, hv, hpv, go_sem, ↓reduceIte, reduceAdd, reduceSub, reduceEqDiff, reduceLeDiff, reduceCtorEq] <;> rfl
 ·have h1' : validS t sw = false := by simpa using h1
  rw [h1'] at hv ⊢
  simp -implicitDefEqProofs (disch := omega) only [vf35, vb35, hv, go_sem, ↓reduceIte, reduceAdd, reduceSub, reduceEqDiff, reduceLeDiff, reduceCtorEq] <;> rfl
end Go.V
namespace Go.V
theorem rnd_calc {t : Tr} {z : Int} {l : List Ch} {eff : List Pr} {root : Int} {out low : Bool} {s : ShSt} {P : List Pt} {S : List Int} {a : List (Int × Int)} (h1 : msort (subT t root) = S) (h0 : partsS t z l eff out low s.1 = P) (h2 : (treeOk t && (!(subT t root).isEmpty && partsOk P S)) = true) (h3 : pagesB s.2.2 = true) (h4 : takeR t P root (min s.2.2 (capR t P root)) = a) (h5 : a.Pairwise fun x y => x.1 ≤ y.1) : rndS t z l eff root out low s = takeSt out low s a := by
 unfold rndS takesS
 rw [h0, RoundP, validP, h1, if_pos h2, if_pos h3]
 show takeSt out low s (tsort (takeR t P root (min s.2.2 (capR t P root)))) = _
 rw [h4, tsort_of h5]
def hsS : List Hg := [⟨2, 10, 10, 0⟩, ⟨3, 0, 20, 0⟩]
def prsS : List Pr := [⟨3, 0, 15⟩]
def effS : List Pr := [⟨1, 0, 0⟩, ⟨2, 0, 0⟩, ⟨3, 0, 15⟩]
theorem msort_S : msort (subT tS 1) = [1, 2, 3] := by rw [subT_S, msort_of (by decide)]
theorem effL_S : effL tS (cntS hsS) prsS 1 = effS := by
 unfold effL
 rw [msort_S]
 decide
abbrev stS (n : Int) : ShSt := (hsS, (fun _ => zeroSh), n)
theorem shr_calc {t : Tr} {z : Int} {l : List Ch} {eff : List Pr} {root : Int} {s0 s1 s2 s3 s4 : ShSt} (h1 : rndS t z l eff root false false s0 = s1) (h2 : rndS t z l eff root true false s1 = s2) (h3 : rndS t z l eff root false true s2 = s3) (h4 : rndS t z l eff root true true s3 = s4) : shrS t z l eff root s0 4 = s4 := by
 rw [← h4, ← h3, ← h2, ← h1]
 rfl
theorem shr_S1 : shrS tS 100 [] effS 1 (stS 12) 4 = takeSt true true (takeSt false true (takeSt true false (takeSt false false (stS 12) [(2, 10)]) [(2, 2)]) []) [] :=
 shr_calc (rnd_calc msort_S rfl (by decide) (by decide) (by decide) (by decide)) (rnd_calc msort_S rfl (by decide) (by decide) (by decide) (by decide)) (rnd_calc msort_S rfl (by decide) (by decide) (by decide) (by decide)) (rnd_calc msort_S rfl (by decide) (by decide) (by decide) (by decide))
theorem shr_S2 : shrS tS 100 [] effS 1 (stS 30) 4 = takeSt true true (takeSt false true (takeSt true false (takeSt false false (stS 30) [(2, 10)]) [(2, 10), (3, 5)]) []) [(3, 5)] :=
 shr_calc (rnd_calc msort_S rfl (by decide) (by decide) (by decide) (by decide)) (rnd_calc msort_S rfl (by decide) (by decide) (by decide) (by decide)) (rnd_calc msort_S rfl (by decide) (by decide) (by decide) (by decide)) (rnd_calc msort_S rfl (by decide) (by decide) (by decide) (by decide))
theorem shr_S3 : shrS tS 0 [] effS 1 (stS 12) 4 = takeSt true true (takeSt false true (takeSt true false (takeSt false false (stS 12) [(2, 10)]) []) []) [] :=
 shr_calc (rnd_calc msort_S rfl (by decide) (by decide) (by decide) (by decide)) (rnd_calc msort_S rfl (by decide) (by decide) (by decide) (by decide)) (rnd_calc msort_S rfl (by decide) (by decide) (by decide) (by decide)) (rnd_calc msort_S rfl (by decide) (by decide) (by decide) (by decide))
theorem shrink_calc {z n : Int} {s : ShSt} {x : List Hg} {o : List Sh} (hz : pagesB z = true) (hn : pagesB n = true) (h : shrS tS z [] effS 1 (stS n) 4 = s) (h1 : s.1 = x) (h2 : outL s.2.1 effS = o) (hv : validS tS ⟨hsS, z⟩ = true) : ShrinkS tS ⟨hsS, z⟩ prsS [] 1 n = (⟨x, z⟩, o, 0) := by
 have h3 : (validS tS ⟨hsS, z⟩ && validPr tS prsS && validLK tS []) = true := by rw [hv]; decide
 have h4 : (findN tS.nodes 1).isSome = true := by decide
 rw [ShrinkS, if_pos h3, if_pos h4, if_pos hn]
 simp only [effL_S]
 rw [show (hsS, (fun _ => zeroSh), n) = stS n from rfl, h, h1, h2]
theorem shrink_S1 : ShrinkS tS ⟨hsS, 100⟩ prsS [] 1 12 = (⟨[⟨2, 0, 8, 2⟩, ⟨3, 0, 20, 0⟩], 100⟩, [⟨2, 10, 2, 0⟩], 0) := shrink_calc (by decide) (by decide) shr_S1 (by decide) (by decide) (by decide)
theorem shrink_S2 : ShrinkS tS ⟨hsS, 100⟩ prsS [] 1 30 = (⟨[⟨2, 0, 0, 10⟩, ⟨3, 0, 10, 10⟩], 100⟩, [⟨2, 10, 10, 0⟩, ⟨3, 0, 10, 5⟩], 0) := shrink_calc (by decide) (by decide) shr_S2 (by decide) (by decide) (by decide)
theorem shrink_S3 : ShrinkS tS ⟨hsS, 0⟩ prsS [] 1 12 = (⟨[⟨2, 0, 10, 0⟩, ⟨3, 0, 20, 0⟩], 0⟩, [⟨2, 10, 0, 0⟩], 0) := shrink_calc (by decide) (by decide) shr_S3 (by decide) (by decide) (by decide)
end Go.V
namespace Go.V
set_option maxHeartbeats 4000000 in
theorem sane25_eq : V 11 [] [] = some (.p (.bool true), []) := by
 refine V_wp (vf := vf11) rfl ?_
 have hf : tS.Fits := by
  intro n hn
  simp only [tS, List.mem_cons, List.not_mem_nil, or_false] at hn
  rcases hn with rfl | rfl | rfl <;> exact ⟨by decide, by decide⟩
 have h1 := shrink_eq tS ⟨hsS, 100⟩ prsS [] 1 12 hf (by decide) (by decide) (by decide) (by decide)
 have h2 := shrink_eq tS ⟨hsS, 100⟩ prsS [] 1 30 hf (by decide) (by decide) (by decide) (by decide)
 have h3 := shrink_eq tS ⟨hsS, 0⟩ prsS [] 1 12 hf (by decide) (by decide) (by decide) (by decide)
 have s1 := sameH_eq [⟨2, 0, 8, 2⟩, ⟨3, 0, 20, 0⟩] [⟨2, 0, 8, 2⟩, ⟨3, 0, 20, 0⟩] (by decide)
 have s2 := sameK_eq [⟨2, 10, 2, 0⟩] [⟨2, 10, 2, 0⟩] (by decide)
 have s3 := sameK_eq [⟨2, 10, 10, 0⟩, ⟨3, 0, 10, 5⟩] [⟨2, 10, 10, 0⟩, ⟨3, 0, 10, 5⟩] (by decide)
 have s4 := sameK_eq [⟨2, 10, 0, 0⟩] [⟨2, 10, 0, 0⟩] (by decide)
 rw [shrink_S1] at h1
 rw [shrink_S2] at h2
 rw [shrink_S3] at h3
 simp only [tS, Tr.vv, Stk.vv, Stk.fv, hsS, prsS, nodesP, hgsP, prsP, shsP, chsP, List.map_cons, List.map_nil, Nd.pv, Hg.pv, Pr.pv, Sh.pv, decide_true] at h1 h2 h3 s1 s2 s3 s4
 simp -implicitDefEqProofs (disch := omega) only [vf11, vb11, h1, h2, h3, s1, s2, s3, s4, go_sem, ↓reduceIte, reduceAdd, reduceSub, reduceEqDiff, reduceLeDiff, reduceCtorEq]
end Go.V
namespace Go.V
def stockAt (L : List Int) (a : Nat) (id : Int) : Hg := ⟨id, pickV L a [0, 0, 4, 30, 100], pickV L (nextA L a 5) [0, 5, 20, 80], pickV L (nextA L (nextA L a 5) 4) [0, 0, 3, 15]⟩
def stockNx (L : List Int) (a : Nat) : Nat := nextA L (nextA L (nextA L a 5) 4) 4
def dStock (L : List Int) (t : Tr) : List Nd → Nat → Stk → Stk × Nat
 | [], a, s => (s, a)
 | n :: ns, a, s => dStock L t ns (stockNx L a) (if (PutS t s (stockAt L a n.id)).2 = 0 then (PutS t s (stockAt L a n.id)).1 else s)
theorem dStock_ok (L : List Int) (t : Tr) : ∀ (ns : List Nd) (a : Nat) (s : Stk), StkOk t s → StkOk t (dStock L t ns a s).1
 | [], _, _, h => h
 | n :: ns, a, s, h => by
  unfold dStock
  refine dStock_ok L t ns _ _ ?_
  split
  ·rename_i h0; exact PutS_ok h0
  ·exact h
def stock0 (L : List Int) (a : Nat) : Stk := ⟨[], pickV L a [0, 20, 200, 5000]⟩
theorem stock0_ok (L : List Int) (a : Nat) {t : Tr} (h : TreeOk t) : StkOk t (stock0 L a) := by
 have hm := pickV_mem L a (xs := [0, 20, 200, 5000]) (by simp)
 simp only [List.mem_cons, List.not_mem_nil, or_false] at hm
 refine ⟨h, ?_, ?_, ⟨by simp [stock0], by simp [stock0], by simp [stock0], by simp [stock0], by simp [stock0], by simp [stock0], by simp [stock0, sumI], ?_⟩⟩
 all_goals (simp only [stock0, sumI, List.map_nil]; omega)
def madeS (L : List Int) (a : Nat) (t : Tr) : Stk × Nat := dStock L t t.nodes (nextA L a 4) (stock0 L a)
set_option maxHeartbeats 2000000 in
theorem stock_eq (L : List Int) (a : Nat) {t : Tr} (h : TreeOk t) (hL : L.length < 4611686018427387904) : V 27 [.ptr (.arg 0 0) 0 0, t.vv] [diceB L a] = some ((madeS L a t).1.fv, [diceB L (madeS L a t).2]) := by
 refine V_wp (vf := vf27) rfl ?_
 have hlen := h.len
 have hp0 := pick_eq L a [0, 20, 200, 5000] hL (by simp) (by simp)
 simp only [intsP, List.length_cons, List.length_nil, Nat.reduceAdd, List.map_cons, List.map_nil] at hp0
 have hnA0 : nextA L a ((4 : Nat) : Int) = nextA L a 4 := rfl
 rw [hnA0] at hp0
 have hok0 := stock0_ok L a h
 unfold madeS
 unfold stock0 at hok0 ⊢
 generalize pickV L a [0, 20, 200, 5000] = z at hp0 hok0
 generalize nextA L a 4 = a0 at hp0
 simp -implicitDefEqProofs (disch := omega) only [vf27, vb27, hp0, go_sem, ↓reduceIte, reduceAdd, reduceSub, reduceEqDiff, reduceLeDiff, reduceCtorEq]
 obtain ⟨I, hI⟩ : ∃ I : Nat → St → Prop, ∀ k s, I k s ↔ ∃ (b : Nat) (c : Stk) (ww : Nat), StkOk t c ∧ dStock L t t.nodes a0 ⟨[], z⟩ = dStock L t (t.nodes.drop k) b c ∧ s.pe 0 = .ptr (Id.arg 0 0) 0 0 ∧ s.pe 3 = .ptr (.slot 3 0) 0 0 ∧ s.pe 4 = .ptr (.slot 4 0) 0 0 ∧ s.pe 5 = .ptr (.slot 5 0) 0 0 ∧ s.pe 6 = .p (.int .i64 k) ∧ s.h (.arg 0 0) = some (0, diceB L b) ∧ s.h (.slot 3 0) = some (0, Ob.box [.p (nodesP t.nodes), .p (.int .i64 t.next)]) ∧ s.h (.slot 4 0) = some (0, Ob.box [.own (.slot 4 1) 0 0 0, .p (.int .i64 0)]) ∧ s.h (.slot 4 1) = some (0, Ob.arr 4 []) ∧ s.h (.slot 5 0) = some (0, Ob.box [.own (.slot 13 1) ww 0 c.hs.length, .p (.int .i64 c.size)]) ∧ s.h (.slot 13 1) = some (ww, Ob.arr 4 (c.hs.map Hg.pv)) := ⟨_, fun _ _ => Iff.rfl⟩
 refine wp_count (t.nodes.length) I ?_ ?_
 ·refine (hI _ _).2 ⟨a0, ⟨[], z⟩, 0, ?_, ?_, ?_, ?_, ?_, ?_, ?_, ?_, ?_, ?_, ?_, ?_, ?_⟩
  ·exact hok0
  ·exact rfl
  all_goals exact cl0
 intro k s hk hIk
 obtain ⟨b, c, ww, hc, hd, h0, h3, h4, h5, h6, ha0, hh3_0, hh4_0, hh4_1, hh5_0, hh13_1⟩ := (hI _ _).1 hIk
 clear hIk
 have hcl := hc.hs.length
 simp -implicitDefEqProofs (disch := omega) only [h0, h3, h4, h5, h6, ha0, hh3_0, hh4_0, hh4_1, hh5_0, hh13_1, go_sem, ↓reduceIte, reduceAdd, reduceSub, reduceEqDiff, reduceLeDiff, reduceCtorEq]
 refine wp_if_d (fun hlt => ?_) (fun hge => ?_)
 ·have hm : t.nodes[k]? = some t.nodes[k] := List.getElem?_eq_getElem hlt
  have hdr : t.nodes.drop k = t.nodes[k] :: t.nodes.drop (k + 1) := List.drop_eq_getElem_cons hlt
  generalize t.nodes[k] = m at hm hdr
  rw [hdr, dStock] at hd
  have p1 := pick_eq L b [0, 0, 4, 30, 100] hL (by simp) (by simp)
  have p2 := pick_eq L (nextA L b 5) [0, 5, 20, 80] hL (by simp) (by simp)
  have p3 := pick_eq L (nextA L (nextA L b 5) 4) [0, 0, 3, 15] hL (by simp) (by simp)
  have hput := rsput_eq t c (stockAt L b m.id) (by omega) (by omega)
  have hok := PutS_ok (t := t) (sw := c) (h := stockAt L b m.id)
  simp only [intsP, List.length_cons, List.length_nil, Nat.reduceAdd, List.map_cons, List.map_nil] at p1 p2 p3
  unfold stockAt stockNx at hd
  unfold stockAt at hput hok
  have e5 : nextA L b ((5 : Nat) : Int) = nextA L b 5 := rfl
  rw [e5] at p1
  generalize pickV L b [0, 0, 4, 30, 100] = v1 at p1 hput hok hd
  generalize nextA L b 5 = b1 at p1 p2 p3 hput hok hd
  have e4 : nextA L b1 ((4 : Nat) : Int) = nextA L b1 4 := rfl
  rw [e4] at p2
  generalize pickV L b1 [0, 5, 20, 80] = v2 at p2 hput hok hd
  generalize nextA L b1 4 = b2 at p2 p3 hput hok hd
  have e4' : nextA L b2 ((4 : Nat) : Int) = nextA L b2 4 := rfl
  rw [e4'] at p3
  generalize pickV L b2 [0, 0, 3, 15] = v3 at p3 hput hok hd
  generalize nextA L b2 4 = b3 at p3 hd
  generalize PutS t c ⟨m.id, v1, v2, v3⟩ = r at hput hok hd
  obtain ⟨⟨rl, rz⟩, re⟩ := r
  simp only at hput hok hd
  by_cases he : re = 0
  ·subst he
   rw [if_pos rfl] at hd
   simp -implicitDefEqProofs (disch := omega) only [h0, h3, h4, h5, h6, ha0, hh3_0, hh4_0, hh4_1, hh5_0, hh13_1, hlt, hm, p1, p2, p3, hput, go_sem, ↓reduceIte, reduceAdd, reduceSub, reduceEqDiff, reduceLeDiff, reduceCtorEq]
   try refine And.intro (by omega) ?_
   refine (hI _ _).2 ⟨b3, ⟨rl, rz⟩, ww + 1, ?_, ?_, ?_, ?_, ?_, ?_, ?_, ?_, ?_, ?_, ?_, ?_, ?_⟩
   ·exact hok rfl
   ·exact hd
   all_goals exact cl0
  ·rw [if_neg he] at hd
   simp -implicitDefEqProofs (disch := omega) only [h0, h3, h4, h5, h6, ha0, hh3_0, hh4_0, hh4_1, hh5_0, hh13_1, hlt, hm, p1, p2, p3, hput, he, go_sem, ↓reduceIte, reduceAdd, reduceSub, reduceEqDiff, reduceLeDiff, reduceCtorEq]
   try refine And.intro (by omega) ?_
   refine (hI _ _).2 ⟨b3, c, ww, ?_, ?_, ?_, ?_, ?_, ?_, ?_, ?_, ?_, ?_, ?_, ?_, ?_⟩
   ·exact hc
   ·exact hd
   all_goals exact cl0
 ·rw [List.drop_of_length_le (by omega), dStock] at hd
  rw [hd]
  simp -implicitDefEqProofs (disch := omega) only [h0, h3, h4, h5, h6, ha0, hh3_0, hh4_0, hh4_1, hh5_0, hh13_1, hge, go_sem, ↓reduceIte, reduceAdd, reduceSub, reduceEqDiff, reduceLeDiff, reduceCtorEq]
end Go.V
