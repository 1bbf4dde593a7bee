/- The value machine V against the model: what a call hands over, item by item. -/
import Derived.Test.YtcljahgcdbohaaaVCallB
set_option linter.unusedSimpArgs false
set_option linter.unusedVariables false
namespace Go.V
open Go.RowKit

theorem upds_not : ∀ (us : List (Id × Nat × Ob)) (h : VHeap) (id : Id), id ∉ us.map (·.1) → h.upds us id = h id
  | [], _, _, _ => rfl
  | (i, o) :: us, h, id, hn => by
    simp only [List.map_cons, List.mem_cons, not_or] at hn
    rw [upds_cons, upds_not us _ id hn.2, upd_other _ _ hn.1]
theorem upds_get : ∀ (us : List (Id × Nat × Ob)) (h : VHeap) (x : Id × Nat × Ob), (us.map (·.1)).Nodup → x ∈ us → h.upds us x.1 = some x.2
  | [], _, _, _, hx => by cases hx
  | (i, o) :: us, h, x, hn, hx => by
    simp only [List.map_cons, List.nodup_cons] at hn
    rw [upds_cons]
    rcases List.mem_cons.1 hx with e | e
    · subst e
      rw [upds_not us _ _ hn.1, upd_same]
    · exact upds_get us _ x hn.2 e

theorem nodup_of : ∀ {l : List Id}, nodupB l = true → l.Nodup
  | [], _ => by simp
  | i :: is, h => by
    simp [nodupB] at h
    exact List.nodup_cons.2 ⟨h.1, nodup_of h.2⟩

/-- What is known of a hand-over ahead of all else. -/
structure Pre (h1 h : VHeap) (d : Nat) (hs : List (Id × Id)) (qs : List (Id × Nat × Ob)) (lo hi : Nat) : Prop where
  ids : ∀ x ∈ hs, ∃ k, x.2 = .slot d k ∧ lo < k ∧ k ≤ hi
  keys : qs.map (·.1) = hs.map (·.2)
  nd : (hs.map (·.2)).Nodup
  own : ∀ x ∈ hs, (∃ s j, x.1 = .slot s j) ∧ ∃ v o, h1 x.1 = some (v, o) ∧ o ≠ .gone ∧ ∀ kt ks vs, o ≠ .map kt ks vs
  ver : ∀ x ∈ qs, x.2.1 = nv (h x.1)

theorem Pre.nil (h1 h : VHeap) (d lo hi : Nat) : Pre h1 h d [] [] lo hi := ⟨by simp, rfl, by simp, by simp, by simp⟩
theorem Pre.append {h1 h : VHeap} {d : Nat} {hs hs' : List (Id × Id)} {qs qs' : List (Id × Nat × Ob)} {lo mid hi : Nat} (p : Pre h1 h d hs qs lo mid) (q : Pre h1 h d hs' qs' mid hi) (h12 : lo ≤ mid) (h23 : mid ≤ hi) : Pre h1 h d (hs ++ hs') (qs ++ qs') lo hi where
  ids := fun x hx => by
    rcases List.mem_append.1 hx with hx | hx
    · obtain ⟨k, e, a, b⟩ := p.ids x hx; exact ⟨k, e, a, by omega⟩
    · obtain ⟨k, e, a, b⟩ := q.ids x hx; exact ⟨k, e, by omega, b⟩
  keys := by simp [p.keys, q.keys]
  nd := by
    rw [List.map_append]
    refine List.nodup_append.2 ⟨p.nd, q.nd, fun a ha b hb e => ?_⟩
    obtain ⟨x, hx, rfl⟩ := List.mem_map.1 ha
    obtain ⟨y, hy, rfl⟩ := List.mem_map.1 hb
    obtain ⟨k, e1, _, _⟩ := p.ids x hx
    obtain ⟨k', e2, _, _⟩ := q.ids y hy
    rw [e1, e2] at e
    simp at e
    omega
  own := fun x hx => by
    rcases List.mem_append.1 hx with hx | hx
    · exact p.own x hx
    · exact q.own x hx
  ver := fun x hx => by
    rcases List.mem_append.1 hx with hx | hx
    · exact p.ver x hx
    · exact q.ver x hx
theorem Pre.one {h1 h : VHeap} {d s i k : Nat} {v : Nat} {o o' : Ob} {lo hi : Nat} (hh : h1 (.slot s i) = some (v, o)) (hg : o ≠ .gone) (hm : ∀ kt ks vs, o ≠ .map kt ks vs) (hlo : lo < k) (hhi : k ≤ hi) :
    Pre h1 h d [(.slot s i, .slot d k)] [(.slot d k, nv (h (.slot d k)), o')] lo hi :=
  ⟨by simp; omega, rfl, by simp, by simp [hh, hg]; exact ⟨v, o, ⟨rfl, rfl⟩, hg, hm⟩, by simp⟩

section
variable {h1 h : VHeap} {R : List Id} {d : Nat}

theorem out0_own {v r : VVal} (ho : out0 h1 v = some r) : (∀ j, hand0 d j v = []) ∧ (∀ sz xs, r ≠ .fresh sz xs) ∨ ∃ s i ver len sz xs, v = .own (.slot s i) ver 0 len ∧ h1 (.slot s i) = some (ver, .arr sz xs) ∧ r = .fresh sz ((xs.drop 0).take len) := by
  cases v with
  | own id ver off len =>
    cases id with
    | arg => simp [out0] at ho
    | slot s i =>
      right
      simp only [out0, velems] at ho
      obtain ⟨r', hr', ho1⟩ := ob_eq ho
      split at hr' <;> try (cases hr'; done)
      rename_i v sz xs hh
      obtain ⟨rfl, hr2⟩ := gd_eq hr'
      obtain ⟨rfl, ho2⟩ := gd_eq ho1
      simp only [Option.some.injEq] at hr2 ho2
      subst hr2
      exact ⟨s, i, _, len, sz, xs, rfl, hh, ho2.symm⟩
  | p x => left; simp [out0] at ho; subst ho; exact ⟨fun _ => rfl, by simp⟩
  | ptr id ver off =>
    left
    refine ⟨fun _ => rfl, fun sz xs e => ?_⟩
    subst e
    unfold out0 at ho
    split at ho <;> try (simp_all; done)
    obtain ⟨_, ho⟩ := gd_eq ho
    simp at ho
  | mref id ver =>
    left
    refine ⟨fun _ => rfl, fun sz xs e => ?_⟩
    subst e
    unfold out0 at ho
    split at ho <;> try (simp_all; done)
    obtain ⟨_, _, ho⟩ := ob_eq ho
    simp at ho
  | fn f caps =>
    left
    refine ⟨fun _ => rfl, fun sz xs e => ?_⟩
    subst e
    cases caps <;> simp [out0] at ho
  | _ => simp [out0] at ho

theorem in0_other {j : Nat} {r v' : VVal} {qs : List (Id × Nat × Ob)} (hr : ∀ sz xs, r ≠ .fresh sz xs) (hi : in0 R h d j r = some (v', qs)) : qs = [] := by
  unfold in0 at hi
  split at hi
  · exact absurd rfl (hr _ _)
  · obtain ⟨_, _, hi⟩ := ob_eq hi
    simp at hi
    exact hi.2

theorem pre0 {j : Nat} {v r v' : VVal} {qs : List (Id × Nat × Ob)} (ho : out0 h1 v = some r) (hi : in0 R h d j r = some (v', qs)) : Pre h1 h d (hand0 d j v) qs j (j + 1) := by
  rcases out0_own (d := d) ho with ⟨h0, hr⟩ | ⟨s, i, ver, len, sz, xs, rfl, hh, rfl⟩
  · rw [h0, in0_other hr hi]
    exact .nil ..
  · simp only [in0, Option.some.injEq, Prod.mk.injEq] at hi
    obtain ⟨_, rfl⟩ := hi
    exact .one hh (by simp) (by simp) (by omega) (Nat.le_refl _)

theorem preL : ∀ {vs rs us : List VVal} {qs : List (Id × Nat × Ob)} {j : Nat}, mapO (out0 h1) vs = some rs → inL R h d j rs = some (us, qs) → Pre h1 h d (handL d j vs) qs j (j + vs.length)
  | [], rs, us, qs, j, ho, hi => by
    simp [mapO] at ho
    subst ho
    simp [inL] at hi
    obtain ⟨_, rfl⟩ := hi
    exact .nil ..
  | v :: vs, rs, us, qs, j, ho, hi => by
    simp only [mapO] at ho
    obtain ⟨r, hr, ho⟩ := ob_eq ho
    obtain ⟨rs', hrs, ho⟩ := ob_eq ho
    simp at ho
    subst ho
    simp only [inL] at hi
    obtain ⟨q, hq, hi⟩ := ob_eq hi
    obtain ⟨q', hq', hi⟩ := ob_eq hi
    simp at hi
    obtain ⟨_, rfl⟩ := hi
    have := (pre0 hr hq).append (preL hrs hq') (by omega) (by omega)
    simpa [handL, Nat.add_assoc, Nat.add_comm 1] using this

/-- A result: its leaves lie side by side, or in a box. -/
theorem out1_cases {j : Nat} {v r u : VVal} {qs : List (Id × Nat × Ob)} (ho : out1 h1 v = some r) (hi : in1 R h d j r = some (u, qs)) :
    (∃ rs us, mapO (out0 h1) (vcells v) = some rs ∧ inL R h d j rs = some (us, qs) ∧ hand1 h1 d j v = handL d j (vcells v) ∧ width r = (vcells v).length ∧ ((∃ cs, v = .agg cs ∧ u = .agg us) ∨ (vcells v = [v] ∧ us = [u])) ∧ (noAlias1 r = true → rs.all noAlias0 = true)) ∨
    ∃ s i ver cs rs us qs', v = .ptr (.slot s i) ver 0 ∧ h1 (.slot s i) = some (ver, .box cs) ∧ mapO (out0 h1) cs = some rs ∧ inL R h d (j + 1) rs = some (us, qs') ∧ u = .ptr (.slot d (j + 1)) (nv (h (.slot d (j + 1)))) 0 ∧
      qs = (.slot d (j + 1), nv (h (.slot d (j + 1))), .box us) :: qs' ∧ hand1 h1 d j v = (.slot s i, .slot d (j + 1)) :: handL d (j + 1) cs ∧ width r = cs.length + 1 ∧ (noAlias1 r = true → rs.all noAlias0 = true) := by
  have key : (∀ cs, v ≠ .agg cs) → (∀ s i ver, v ≠ .ptr (.slot s i) ver 0) → hand1 h1 d j v = hand0 d j v → out0 h1 v = some r → (∀ cs, r ≠ .agg cs) → (∀ cs, r ≠ .boxed cs) →
      ∃ rs us, mapO (out0 h1) (vcells v) = some rs ∧ inL R h d j rs = some (us, qs) ∧ hand1 h1 d j v = handL d j (vcells v) ∧ width r = (vcells v).length ∧ ((∃ cs, v = .agg cs ∧ u = .agg us) ∨ (vcells v = [v] ∧ us = [u])) ∧ (noAlias1 r = true → rs.all noAlias0 = true) := by
    intro hva _ hh ho0 hra hrb
    have hvc : vcells v = [v] := by cases v <;> first | rfl | exact absurd rfl (hva _)
    have hin : in0 R h d j r = some (u, qs) := by cases r <;> first | exact hi | exact absurd rfl (hra _) | exact absurd rfl (hrb _)
    refine ⟨[r], [u], by simp [hvc, mapO, ho0, ob], by simp [inL, hin, ob], by simp [hvc, handL, hh], ?_, .inr ⟨hvc, rfl⟩, ?_⟩
    · rw [hvc]
      cases r <;> first | rfl | exact absurd rfl (hra _) | exact absurd rfl (hrb _)
    · cases r <;> first | exact absurd rfl (hra _) | exact absurd rfl (hrb _) | simp [noAlias1]
  cases v with
  | agg cs =>
    simp only [out1] at ho
    obtain ⟨rs, hrs, ho1⟩ := ob_eq ho
    simp at ho1
    subst ho1
    simp only [in1] at hi
    obtain ⟨q, hq, hi1⟩ := ob_eq hi
    simp at hi1
    obtain ⟨rfl, rfl⟩ := hi1
    exact .inl ⟨rs, q.1, hrs, hq, rfl, by simp [width, vcells, (mapO_get hrs).1], .inl ⟨cs, rfl, rfl⟩, by simp [noAlias1]⟩
  | ptr id ver off =>
    cases id with
    | slot s i =>
      cases off with
      | zero =>
        right
        simp only [out1] at ho
        split at ho <;> try (cases ho; done)
        rename_i v cs hh
        obtain ⟨rfl, ho1⟩ := gd_eq ho
        obtain ⟨rs, hrs, ho2⟩ := ob_eq ho1
        simp at ho2
        subst ho2
        simp only [in1] at hi
        obtain ⟨q, hq, hi1⟩ := ob_eq hi
        simp at hi1
        obtain ⟨rfl, rfl⟩ := hi1
        exact ⟨s, i, _, cs, rs, q.1, q.2, rfl, hh, hrs, hq, rfl, rfl, by simp [hand1, hh], by simp [width, (mapO_get hrs).1], by simp [noAlias1]⟩
      | succ => simp [out1, out0] at ho
    | arg i k =>
      left
      have ho0 : out0 h1 (.ptr (.arg i k) ver off) = some r := by simpa [out1] using ho
      refine key (by simp) (by simp) rfl ho0 ?_ ?_ <;>
      · intro cs e
        subst e
        unfold out0 at ho0
        split at ho0 <;> try (simp_all; done)
        obtain ⟨_, ho0⟩ := gd_eq ho0
        simp at ho0
  | p x =>
    left
    have ho0 : out0 h1 (.p x) = some r := ho
    simp [out0] at ho0
    subst ho0
    exact key (by simp) (by simp) rfl ho (by simp) (by simp)
  | own id ver off len =>
    left
    rcases out0_own (d := d) (v := .own id ver off len) ho with ⟨h0, _⟩ | ⟨_, _, _, _, _, _, _, _, rfl⟩
    · simp [hand0] at h0
    · exact key (by simp) (by simp) rfl ho (by simp) (by simp)
  | mref id ver =>
    left
    have ho0 : out0 h1 (.mref id ver) = some r := ho
    refine key (by simp) (by simp) rfl ho0 ?_ ?_ <;>
    · intro cs e
      subst e
      unfold out0 at ho0
      split at ho0 <;> try (simp_all; done)
      obtain ⟨_, _, ho0⟩ := ob_eq ho0
      simp at ho0
  | fn f caps =>
    left
    have ho0 : out0 h1 (.fn f caps) = some r := ho
    cases caps with
    | cons => simp [out0] at ho0
    | nil =>
      have ho1 := ho0
      simp [out0] at ho1
      subst ho1
      exact key (by simp) (by simp) rfl ho0 (by simp) (by simp)
  | _ => simp [out1, out0] at ho

theorem pre1 {j : Nat} {v r u : VVal} {qs : List (Id × Nat × Ob)} (ho : out1 h1 v = some r) (hi : in1 R h d j r = some (u, qs)) : Pre h1 h d (hand1 h1 d j v) qs j (j + width r) := by
  rcases out1_cases ho hi with ⟨rs, us, e1, e2, e3, e4, _⟩ | ⟨s, i, ver, cs, rs, us, qs', rfl, hh, e1, e2, rfl, rfl, e3, e4, _⟩
  · rw [e3, e4]
    exact preL e1 e2
  · rw [e3, e4]
    have := (Pre.one (h := h) (d := d) (o' := .box us) (lo := j) (k := j + 1) hh (by simp) (by simp) (by omega) (Nat.le_refl _)).append (preL e1 e2) (by omega) (by omega)
    simpa [Nat.add_assoc, Nat.add_comm 1] using this

theorem preT : ∀ {vs rs us : List VVal} {qs : List (Id × Nat × Ob)} {j : Nat}, mapO (out1 h1) vs = some rs → inT R h d j rs = some (us, qs) → ∃ hi, j ≤ hi ∧ Pre h1 h d (handT h1 d j vs rs) qs j hi
  | [], rs, us, qs, j, ho, hi => by
    simp [mapO] at ho
    subst ho
    simp [inT] at hi
    obtain ⟨_, rfl⟩ := hi
    exact ⟨j, Nat.le_refl _, .nil ..⟩
  | v :: vs, rs, us, qs, j, ho, hi => by
    simp only [mapO] at ho
    obtain ⟨r, hr, ho⟩ := ob_eq ho
    obtain ⟨rs', hrs, ho⟩ := ob_eq ho
    simp at ho
    subst ho
    simp only [inT] at hi
    obtain ⟨q, hq, hi⟩ := ob_eq hi
    obtain ⟨q', hq', hi⟩ := ob_eq hi
    simp at hi
    obtain ⟨_, rfl⟩ := hi
    obtain ⟨hi', hle, hp⟩ := preT hrs hq'
    exact ⟨hi', by omega, (pre1 hr hq).append hp (by omega) hle⟩

theorem handL_fst : ∀ (vs : List VVal) (j : Nat), (handL d j vs).map (·.1) = vs.flatMap ownIds0
  | [], _ => rfl
  | v :: vs, j => by
    simp only [handL, List.map_append, handL_fst vs, List.flatMap_cons]
    congr 1
    cases v <;> rfl
theorem hand1_fst (v : VVal) (j : Nat) : List.Sublist ((hand1 h1 d j v).map (·.1)) (ownIds1 h1 v) := by
  cases v with
  | agg cs => simp only [hand1, ownIds1, handL_fst]; exact List.Sublist.refl _
  | ptr id ver off =>
    cases id with
    | arg => simp [hand1, hand0]
    | slot s i =>
      simp only [hand1, ownIds1]
      split
      · rename_i hh; simp only [List.map_cons, handL_fst, hh]; exact List.Sublist.refl _
      · exact List.nil_sublist _
  | own => exact List.Sublist.refl _
  | _ => simp [hand1, hand0]
theorem handT_fst : ∀ (vs rs : List VVal) (j : Nat), List.Sublist ((handT h1 d j vs rs).map (·.1)) (vs.flatMap (ownIds1 h1))
  | [], _, _ => by simp [handT]
  | v :: vs, [], j => by simp [handT]
  | v :: vs, r :: rs, j => by
    simp only [handT, List.map_append, List.flatMap_cons]
    exact (hand1_fst v j).append (handT_fst vs rs _)
end

end Go.V
