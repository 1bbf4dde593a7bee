/- The value machine V against the model: what a call leaves. -/
import Derived.Test.YtcljahgcdbohaaaVCallA
set_option linter.unusedSimpArgs false
set_option linter.unusedVariables false
namespace Go.V
open Go.RowKit

/-- The objects that a callee's results hand over: the callee's name, the caller's. -/
def hand0 (d j : Nat) : VVal → List (Id × Id)
  | .own q _ _ _ => [(q, .slot d (j + 1))]
  | _ => []
def handL (d : Nat) : Nat → List VVal → List (Id × Id)
  | _, [] => []
  | j, v :: vs => hand0 d j v ++ handL d (j + 1) vs
def hand1 (h1 : VHeap) (d j : Nat) : VVal → List (Id × Id)
  | .agg cs => handL d j cs
  | .ptr (.slot s i) _ _ => match h1 (.slot s i) with
    | some (_, .box cs) => (.slot s i, .slot d (j + 1)) :: handL d (j + 1) cs
    | _ => []
  | v => hand0 d j v
def handT (h1 : VHeap) (d : Nat) : Nat → List VVal → List VVal → List (Id × Id)
  | j, v :: vs, r :: rs => hand1 h1 d j v ++ handT h1 d (j + width r) vs rs
  | _, _, _ => []

def fwd (q : Id) : List (Id × Id) → Option Id
  | [] => none
  | (a, b) :: hs => if a = q then some b else fwd q hs
theorem fwd_mem {q id : Id} : ∀ {hs : List (Id × Id)}, fwd q hs = some id → (q, id) ∈ hs
  | [], h => by cases h
  | (a, b) :: hs, h => by
    simp only [fwd] at h
    split at h
    · rename_i e; simp at h; subst h; subst e; exact List.mem_cons_self ..
    · exact List.mem_cons_of_mem _ (fwd_mem h)
theorem fwd_of {q id : Id} : ∀ {hs : List (Id × Id)}, (hs.map (·.1)).Nodup → (q, id) ∈ hs → fwd q hs = some id
  | [], _, h => by cases h
  | (a, b) :: hs, hn, h => by
    simp only [List.map_cons, List.nodup_cons] at hn
    simp only [fwd]
    rcases List.mem_cons.1 h with e | e
    · simp at e; rw [if_pos e.1.symm, e.2]
    · rw [if_neg (fun e' => hn.1 (List.mem_map.2 ⟨_, e, e'.symm⟩)), fwd_of hn.2 e]
def bwd (id : Id) : List (Id × Id) → Option Id
  | [] => none
  | (a, b) :: hs => if b = id then some a else bwd id hs
theorem bwd_mem {q id : Id} : ∀ {hs : List (Id × Id)}, bwd id hs = some q → (q, id) ∈ hs
  | [], h => by cases h
  | (a, b) :: hs, h => by
    simp only [bwd] at h
    split at h
    · rename_i e; simp at h; subst h; subst e; exact List.mem_cons_self ..
    · exact List.mem_cons_of_mem _ (bwd_mem h)
theorem bwd_of {q id : Id} : ∀ {hs : List (Id × Id)}, (hs.map (·.2)).Nodup → (q, id) ∈ hs → bwd id hs = some q
  | [], _, h => by cases h
  | (a, b) :: hs, hn, h => by
    simp only [List.map_cons, List.nodup_cons] at hn
    simp only [bwd]
    rcases List.mem_cons.1 h with e | e
    · simp at e; rw [if_pos e.2.symm, e.1]
    · rw [if_neg (fun e' => hn.1 (List.mem_map.2 ⟨_, e, e'.symm⟩)), bwd_of hn.2 e]
theorem bwd_none {id : Id} {hs : List (Id × Id)} (h : ∀ q, (q, id) ∉ hs) : bwd id hs = none := by
  cases hb : bwd id hs with
  | none => rfl
  | some q => exact absurd (bwd_mem hb) (h q)

open Classical in
/-- The blocks behind a call. -/
noncomputable def afterG (G G1 : Gh) (n n1 : Nat) (hs : List (Id × Id)) : Gh where
  kind b := if b < n then G.kind b else if b < n1 then (match G1.kind b with
      | .mine q => match fwd q hs with
        | some id => .mine id
        | none => .frozen
      | k => k) else .other
  blk id := match bwd id hs with
    | some q => if G1.kind (G1.blk q) = .mine q then G1.blk q else n1
    | none => G.blk id
  cap id := match bwd id hs with
    | some q => G1.cap q
    | none => G.cap id

theorem in0_p {R : List Id} {h : VHeap} {d j : Nat} {x : PV} {v' : VVal} {qs : List (Id × Nat × Ob)} (hi : in0 R h d j (.p x) = some (v', qs)) : v' = .p x ∧ qs = [] := by
  simp [in0, back0, ob] at hi
  exact ⟨hi.1.symm, hi.2⟩

structure After (G : Gh) (h : VHeap) (w : World) (R : List Id) (H : List Ob) (lend : Bool) (G1 : Gh) (h1 : VHeap) (w1 : World) (hs : List (Id × Id)) (h2 : VHeap) : Prop where
  hinv : HeapInv G h w
  hn : R.Nodup
  hH : mapO (extBox R h) R = some H
  st : Step (calleeG G R lend) (enterH H) w G1 h1 w1
  inv1 : HeapInv G1 h1 w1
  nd1 : (hs.map (·.1)).Nodup
  nd2 : (hs.map (·.2)).Nodup
  own : ∀ q id, (q, id) ∈ hs → (∃ s j, q = .slot s j) ∧ ∃ v o, h1 q = some (v, o) ∧ o ≠ .gone ∧ ∀ kt ks vs, o ≠ .map kt ks vs
  h2a : ∀ q id, (q, id) ∈ hs → ∃ o, h2 id = some (nv (h id), o)
  h2b : ∀ id, (∀ q, (q, id) ∉ hs) → id ∉ R → h2 id = h id
  h2c : ∀ id v o, (∀ q, (q, id) ∉ hs) → id ∈ R → h id = some (v, o) → ∃ cs, h2 id = some (v, .box cs)
  args0 : ∀ i, i < R.length → ∃ cs1, h1 (.arg i 0) = some (0, .box cs1)

section
variable {G : Gh} {h : VHeap} {w : World} {R : List Id} {H : List Ob} {lend : Bool} {G1 : Gh} {h1 : VHeap} {w1 : World} {hs : List (Id × Id)} {h2 : VHeap}

theorem afterG_old {b : Nat} (hb : b < w.heap.size) : (afterG G G1 w.heap.size w1.heap.size hs).kind b = G.kind b := by simp [afterG, hb]

theorem After.prel (A : After G h w R H lend G1 h1 w1 hs h2) {d : PV} {c : Value} (hd : lend = false ∨ d.flat = true) (hp : PRel (fun b => G1.kind b = .frozen) w1 d c) : PRel (fun b => (afterG G G1 w.heap.size w1.heap.size hs).kind b = .frozen) w1 d c := by
  rcases hd with rfl | hd
  · refine hp.mono (fun b hb hlt => ⟨?_, rfl⟩) (Nat.le_refl _)
    by_cases hbn : b < w.heap.size
    · rw [afterG_old hbn]
      rcases A.st.frz b hbn hb with hf | ⟨s, j, hm⟩
      · exact calleeG_frozen' hf
      · obtain ⟨i, id, e, _⟩ := calleeG_mine hm
        cases e
    · simp [afterG, hbn, hlt, hb]
  · exact hp.flat hd

/-- A block that a callee made. -/
theorem After.made (A : After G h w R H lend G1 h1 w1 hs h2) {s j b : Nat} (hm : G1.kind b = .mine (.slot s j)) : w.heap.size ≤ b := by
  rcases Nat.lt_or_ge b w.heap.size with hlt | hge
  · obtain ⟨i, id, e, _⟩ := calleeG_mine (A.st.mine b _ hlt hm)
    cases e
  · exact hge

theorem After.adopt (A : After G h w R H lend G1 h1 w1 hs h2) {q id : Id} (hq : (q, id) ∈ hs) (hm : G1.kind (G1.blk q) = .mine q) : (afterG G G1 w.heap.size w1.heap.size hs).blk id = G1.blk q ∧ (afterG G G1 w.heap.size w1.heap.size hs).kind (G1.blk q) = .mine id ∧ G1.blk q < w1.heap.size := by
  obtain ⟨⟨s, j, rfl⟩, v, o, hh, hg, _⟩ := A.own q id hq
  have hge := A.made hm
  have hlt := blk_lt A.inv1 hh hm hg
  refine ⟨by simp [afterG, bwd_of A.nd2 hq, hm], ?_, hlt⟩
  simp [afterG, Nat.not_lt.2 hge, hlt, hm, fwd_of A.nd1 hq]
theorem After.adopt_not (A : After G h w R H lend G1 h1 w1 hs h2) {q id : Id} (hq : (q, id) ∈ hs) (hm : ¬ G1.kind (G1.blk q) = .mine q) : (afterG G G1 w.heap.size w1.heap.size hs).kind ((afterG G G1 w.heap.size w1.heap.size hs).blk id) = .other := by
  have hb : (afterG G G1 w.heap.size w1.heap.size hs).blk id = w1.heap.size := by simp [afterG, bwd_of A.nd2 hq, hm]
  have := A.st.size
  rw [hb]
  simp [afterG, Nat.not_lt.2 this]

theorem After.blk (_ : After G h w R H lend G1 h1 w1 hs h2) {id : Id} (hq : ∀ q, (q, id) ∉ hs) : (afterG G G1 w.heap.size w1.heap.size hs).blk id = G.blk id ∧ (afterG G G1 w.heap.size w1.heap.size hs).cap id = G.cap id := by simp [afterG, bwd_none hq]

theorem After.step (A : After G h w R H lend G1 h1 w1 hs h2) : Step G h w (afterG G G1 w.heap.size w1.heap.size hs) h2 w1 where
  frozen := fun b hb hl => ⟨by rw [afterG_old hl]; exact hb, (A.st.frozen b (calleeG_frozen hb) hl).2⟩
  other := fun b hb hl => ⟨by rw [afterG_old hl]; exact hb, (A.st.other b (calleeG_other hb) hl).2⟩
  mine := fun b id hl hm => by rwa [afterG_old hl] at hm
  frz := fun b hl hm => .inl (by rwa [afterG_old hl] at hm)
  size := A.st.size
  os := A.st.os
  tape := A.st.tape
  output := A.st.output
  vers := fun id v o hh => by
    by_cases hq : ∃ q, (q, id) ∈ hs
    · obtain ⟨q, hq⟩ := hq
      obtain ⟨o2, h2o⟩ := A.h2a q id hq
      exact ⟨_, o2, h2o, by rw [nv_gt hh]; omega, fun e => by rw [nv_gt hh] at e; omega⟩
    · have hq' : ∀ q, (q, id) ∉ hs := fun q hm => hq ⟨q, hm⟩
      obtain ⟨hb, hc⟩ := A.blk hq'
      have harr : ∀ sz xs, o = .arr sz xs → G.kind (G.blk id) = .mine id → (afterG G G1 w.heap.size w1.heap.size hs).kind (G.blk id) = .mine id := fun sz xs ho hm => by
        rw [afterG_old (blk_lt A.hinv hh hm (by rw [ho]; simp))]
        exact hm
      by_cases hR : id ∈ R
      · obtain ⟨cs, hcs⟩ := A.h2c id v o hq' hR hh
        refine ⟨v, _, hcs, Nat.le_refl _, fun _ => ⟨hb, hc, ?_, harr⟩⟩
        obtain ⟨i, hi, e⟩ := List.getElem_of_mem hR
        obtain ⟨v', cs', _, e1, _⟩ := root_box A.hH (i := i) (id := id) (by rw [List.getElem?_eq_getElem hi, e])
        rw [hh] at e1
        simp at e1
        rw [e1.2]
        simp [SameOb]
      · exact ⟨v, o, by rw [A.h2b id hq' hR]; exact hh, Nat.le_refl _, fun _ => ⟨hb, hc, by cases o <;> simp [SameOb], harr⟩⟩

theorem After.argBlk (A : After G h w R H lend G1 h1 w1 hs h2) {i : Nat} {id : Id} (hi : R[i]? = some id) : G1.blk (.arg i 0) = G.blk id := by
  obtain ⟨v, cs, cs', e1, _, _, e4⟩ := root_box A.hH hi
  obtain ⟨v', o', e5, _, e7⟩ := A.st.vers (.arg i 0) 0 (.box cs') (by simp [enterH, e4])
  obtain ⟨cs1, e8⟩ := A.args0 i (List.getElem?_eq_some_iff.1 hi).1
  rw [e5] at e8
  simp at e8
  rw [(e7 e8.1).1]
  simp [calleeG, hi]

/-- A pointer to a box of the caller. -/
theorem After.ptr (A : After G h w R H lend G1 h1 w1 hs h2) {i off : Nat} {c : Value} (hv : VRel G1 h1 w1 (.ptr (.arg i 0) 0 off) c) {id : Id} (hi : R[i]? = some id) {o : Nat × Ob} (ho : h id = some o) : VRel (afterG G G1 w.heap.size w1.heap.size hs) h2 w1 (.ptr id o.1 off) c := by
  obtain ⟨v, o⟩ := o
  cases hv with
  | @ptr _ _ _ a v1 o1 hh hle hoo =>
    obtain ⟨v2, o2, e1, e2, e3⟩ := A.step.vers id v o ho
    refine .ptr e1 e2 fun e => ?_
    obtain ⟨cs1, e8⟩ := A.args0 i (List.getElem?_eq_some_iff.1 hi).1
    rw [hh] at e8
    simp at e8
    rw [hoo e8.1.symm, A.argBlk hi, (e3 e.symm).1]

theorem After.leaf (A : After G h w R H lend G1 h1 w1 hs h2) {d j : Nat} {v r v' : VVal} {c : Value} {qs : List (Id × Nat × Ob)} (hv : VRel G1 h1 w1 v c) (ho : out0 h1 v = some r) (hi : in0 R h d j r = some (v', qs))
    (hal : lend = true → noAlias0 r = true) (hsub : ∀ x ∈ hand0 d j v, x ∈ hs) (hq : ∀ x ∈ qs, h2 x.1 = some x.2) : VRel (afterG G G1 w.heap.size w1.heap.size hs) h2 w1 v' c := by
  cases hv with
  | @p d' c hp h1c =>
    simp [out0] at ho
    subst ho
    obtain ⟨rfl, _⟩ := in0_p hi
    refine .p (A.prel ?_ hp) h1c
    cases lend with
    | false => exact .inl rfl
    | true => exact .inr (by simpa [noAlias0] using hal rfl)
  | @own id ver off len a n cap v o hn hcap hh hle hoo =>
    cases id with
    | arg => simp [out0] at ho
    | slot s i =>
      simp only [out0, velems, hh] at ho
      cases o <;> try (simp only [ob_none] at ho; cases ho; done)
      rename_i sz xs
      simp only at ho
      obtain ⟨r', hr', ho1⟩ := ob_eq ho
      obtain ⟨rfl, hr2⟩ := gd_eq hr'
      obtain ⟨rfl, ho2⟩ := gd_eq ho1
      simp at hr2 ho2
      subst hr2
      subst ho2
      simp only [in0] at hi
      simp at hi
      obtain ⟨rfl, rfl⟩ := hi
      obtain ⟨sz', xs', e, hlen, hreal⟩ := hoo rfl
      simp at e
      obtain ⟨rfl, rfl⟩ := e
      have hm := hsub (.slot s i, .slot d (j + 1)) (by simp [hand0])
      have hlen' : min len xs.length = len := by omega
      rw [hlen']
      refine .own hn hcap (hq _ (List.mem_singleton.2 rfl)) (Nat.le_refl _) fun _ => ⟨sz, _, rfl, by simp; omega, ?_⟩
      rcases hreal with ⟨hc0, _⟩ | ⟨hk, hce, ha⟩
      · exact .inl ⟨hc0, rfl⟩
      · obtain ⟨b1, b2, _⟩ := A.adopt hm hk
        refine .inr ⟨by rw [b1]; exact b2, ?_, fun h0 => by rw [b1]; exact ha h0⟩
        rw [hce]
        simp [afterG, bwd_of A.nd2 hm]
  | @ptr id ver off a v o hh hle hoo =>
    cases id with
    | slot => simp [out0] at ho
    | arg i k =>
      cases k with
      | succ => simp [out0] at ho
      | zero =>
        simp only [out0] at ho
        obtain ⟨rfl, ho1⟩ := gd_eq ho
        simp at ho1
        subst ho1
        simp only [in0] at hi
        obtain ⟨u, hu, hi1⟩ := ob_eq hi
        simp only [back0] at hu
        obtain ⟨id, hid, hu1⟩ := ob_eq hu
        obtain ⟨o2, ho2, hu2⟩ := ob_eq hu1
        simp at hu2 hi1
        obtain ⟨rfl, _⟩ := hi1
        subst hu2
        exact A.ptr (.ptr hh hle hoo) hid ho2
  | @mref id ver r' v o hh hle hoo =>
    cases id with
    | arg => simp [out0] at ho
    | slot s i =>
      simp only [out0, ventries, hh] at ho
      cases o <;> try (simp only [ob_none] at ho; cases ho; done)
      rename_i kt ks vs
      simp only at ho
      obtain ⟨q, hq', ho1⟩ := ob_eq ho
      obtain ⟨rfl, hq2⟩ := gd_eq hq'
      simp at hq2 ho1
      subst hq2
      subst ho1
      obtain ⟨rfl, _⟩ := in0_p hi
      have hlf : lend = false := by
        cases lend with
        | false => rfl
        | true => have := hal rfl; simp [noAlias0, PV.flat, PV.flat0] at this
      have hr := hoo rfl
      subst hr
      obtain ⟨hm, es, cl, hb, e3, e4, e5, e6⟩ := A.inv1 _ _ _ hh
      have hge := A.made hm
      have hlt := (Array.getElem?_eq_some_iff.1 hb).1
      have hfw : fwd (.slot s i) hs = none := by
        cases hf : fwd (.slot s i) hs with
        | none => rfl
        | some id =>
          obtain ⟨_, v', o', e1, _, e2⟩ := A.own _ _ (fwd_mem hf)
          rw [hh] at e1
          simp at e1
          exact absurd e1.2.symm (e2 _ _ _)
      exact .p (.map (by simp [afterG, Nat.not_lt.2 hge, hlt, hm, hfw]) hb e3 e4 e5 fun i v e hv he => A.prel (.inl hlf) (e6 i v e hv he)) rfl
  | @fn f caps arr hl hr =>
    cases caps with
    | cons => simp [out0] at ho
    | nil =>
      simp [out0] at ho
      subst ho
      obtain ⟨rfl, _⟩ := in0_p hi
      have : arr = #[] := Array.eq_empty_of_size_eq_zero (by simpa using hl.symm)
      subst this
      exact .p (.fn f) rfl
  | vptr => simp [out0] at ho
  | eptr => simp [out0] at ho
  | agg _ _ _ => simp [out0] at ho
  | tup _ _ => simp [out0] at ho
  | undef => simp [out0] at ho
  | dead c => simp [out0] at ho

end

end Go.V
