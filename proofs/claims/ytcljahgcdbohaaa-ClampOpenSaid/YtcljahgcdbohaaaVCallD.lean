/- The value machine V against the model: calls. -/
import Derived.Test.YtcljahgcdbohaaaVCallC
set_option linter.unusedSimpArgs false
set_option linter.unusedVariables false
namespace Go.V
open Go.RowKit

section
variable {G : Gh} {h : VHeap} {w : World} {R : List Id} {H : List Ob} {lend : Bool} {G1 : Gh} {h1 : VHeap} {w1 : World} {hs : List (Id × Id)} {h2 : VHeap} {d : Nat}

theorem After.leaves (A : After G h w R H lend G1 h1 w1 hs h2) : ∀ {vs rs us : List VVal} {qs : List (Id × Nat × Ob)} {j : Nat}, mapO (out0 h1) vs = some rs → inL R h d j rs = some (us, qs) → (lend = true → rs.all noAlias0 = true) →
    (∀ x ∈ handL d j vs, x ∈ hs) → (∀ x ∈ qs, h2 x.1 = some x.2) → us.length = vs.length ∧ ∀ (i : Nat) (v u : VVal) (c : Value), vs[i]? = some v → us[i]? = some u → VRel G1 h1 w1 v c → VRel (afterG G G1 w.heap.size w1.heap.size hs) h2 w1 u c
  | [], rs, us, qs, j, ho, hi, _, _, _ => by
    simp [mapO] at ho
    subst ho
    simp [inL] at hi
    obtain ⟨rfl, _⟩ := hi
    exact ⟨rfl, fun i v u c hv => by simp at hv⟩
  | v :: vs, rs, us, qs, j, ho, hi, hal, hsub, hq => by
    simp only [mapO] at ho
    obtain ⟨r, hr, ho1⟩ := ob_eq ho
    obtain ⟨rs', hrs, ho2⟩ := ob_eq ho1
    simp at ho2
    subst ho2
    simp only [inL] at hi
    obtain ⟨q, hq1, hi1⟩ := ob_eq hi
    obtain ⟨q', hq2, hi2⟩ := ob_eq hi1
    simp at hi2
    obtain ⟨rfl, rfl⟩ := hi2
    obtain ⟨hl, hall⟩ := A.leaves hrs hq2 (fun e => by have := hal e; simp at this; simpa using this.2) (fun x hx => hsub x (List.mem_append_right _ hx)) (fun x hx => hq x (List.mem_append_right _ hx))
    refine ⟨by simp [hl], fun i v' u c hv' hu hvr => ?_⟩
    cases i with
    | zero =>
      simp at hv' hu
      subst hv'
      subst hu
      exact A.leaf hvr hr hq1 (fun e => by have := hal e; simp at this; exact this.1) (fun x hx => hsub x (List.mem_append_left _ hx)) (fun x hx => hq x (List.mem_append_left _ hx))
    | succ i => simp at hv' hu; exact hall i v' u c hv' hu hvr

theorem After.obj0 (A : After G h w R H lend G1 h1 w1 hs h2) {j : Nat} {v r v' : VVal} {c : Value} {qs : List (Id × Nat × Ob)} (hv : VRel G1 h1 w1 v c) (ho : out0 h1 v = some r) (hi : in0 R h d j r = some (v', qs))
    (hal : lend = true → noAlias0 r = true) (hsub : ∀ x ∈ hand0 d j v, x ∈ hs) : ∀ x ∈ qs, OBRel (afterG G G1 w.heap.size w1.heap.size hs) h2 w1 x.1 x.2.2 := by
  rcases out0_own (d := d) ho with ⟨h0, hr⟩ | ⟨s, i, ver, len, sz, xs, rfl, hh, rfl⟩
  · rw [in0_other hr hi]
    simp
  · simp only [in0, Option.some.injEq, Prod.mk.injEq] at hi
    obtain ⟨_, rfl⟩ := hi
    intro x hx
    simp at hx
    subst hx
    have hm := hsub (.slot s i, .slot d (j + 1)) (by simp [hand0])
    obtain ⟨hcs, hz, hall⟩ := A.inv1 _ _ _ hh
    have htake : ∀ (k : Nat) (x : PV), (xs.take len)[k]? = some x → xs[k]? = some x := fun k x hx => by
      rw [List.getElem?_take] at hx
      split at hx
      · exact hx
      · cases hx
    refine ⟨fun x hx => hcs x (List.mem_of_mem_take hx), ?_, fun hk => ?_⟩
    · by_cases hk : G1.kind (G1.blk (.slot s i)) = .mine (.slot s i)
      · obtain ⟨b1, b2, _⟩ := A.adopt hm hk
        exact .inr (by rw [b1]; exact b2)
      · rcases hz with hz | hz
        · exact .inl (by simp [hz])
        · exact absurd hz hk
    · by_cases hk1 : G1.kind (G1.blk (.slot s i)) = .mine (.slot s i)
      · obtain ⟨b1, b2, _⟩ := A.adopt hm hk1
        obtain ⟨a1, arr, t, a2, a3, a4⟩ := hall hk1
        have hcap : (afterG G G1 w.heap.size w1.heap.size hs).cap (.slot d (j + 1)) = G1.cap (.slot s i) := by simp [afterG, bwd_of A.nd2 hm]
        refine ⟨by rw [hcap]; simp; omega, arr, t, by rw [b1]; exact a2, by rw [hcap]; exact a3, fun k x jj cc hx hj => ?_⟩
        obtain ⟨u, e1, e2, e3⟩ := a4 k x jj cc (htake k x hx) hj
        refine ⟨u, e1, e2, A.prel ?_ e3⟩
        cases lend with
        | false => exact .inl rfl
        | true =>
          right
          have := hal rfl
          simp only [noAlias0, List.all_eq_true] at this
          have hxf := this x (List.mem_of_getElem? hx)
          have hcc := List.mem_of_getElem? hj
          cases x with
          | agg ds =>
            simp only [PV.flat, List.all_eq_true] at hxf
            have := hxf cc hcc
            cases cc <;> simp_all [PV.flat, PV.flat0]
          | _ =>
            simp only [PV.cells, List.mem_singleton] at hcc
            subst hcc
            exact hxf
      · rw [A.adopt_not hm hk1] at hk
        cases hk

theorem After.objs (A : After G h w R H lend G1 h1 w1 hs h2) : ∀ {vs rs us : List VVal} {qs : List (Id × Nat × Ob)} {j : Nat}, mapO (out0 h1) vs = some rs → inL R h d j rs = some (us, qs) → (lend = true → rs.all noAlias0 = true) →
    (∀ x ∈ handL d j vs, x ∈ hs) → (∀ (i : Nat) (v : VVal), vs[i]? = some v → ∃ c, VRel G1 h1 w1 v c) → ∀ x ∈ qs, OBRel (afterG G G1 w.heap.size w1.heap.size hs) h2 w1 x.1 x.2.2
  | [], rs, us, qs, j, ho, hi, _, _, _ => by
    simp [mapO] at ho
    subst ho
    simp [inL] at hi
    obtain ⟨_, rfl⟩ := hi
    simp
  | v :: vs, rs, us, qs, j, ho, hi, hal, hsub, hv => by
    simp only [mapO] at ho
    obtain ⟨r, hr, ho1⟩ := ob_eq ho
    obtain ⟨rs', hrs, ho2⟩ := ob_eq ho1
    simp at ho2
    subst ho2
    simp only [inL] at hi
    obtain ⟨q, hq1, hi1⟩ := ob_eq hi
    obtain ⟨q', hq2, hi2⟩ := ob_eq hi1
    simp at hi2
    obtain ⟨_, rfl⟩ := hi2
    intro x hx
    rcases List.mem_append.1 hx with hx | hx
    · obtain ⟨c, hc⟩ := hv 0 v rfl
      exact A.obj0 hc hr hq1 (fun e => by have := hal e; simp at this; exact this.1) (fun x hx => hsub x (List.mem_append_left _ hx)) x hx
    · exact A.objs hrs hq2 (fun e => by have := hal e; simp at this; simpa using this.2) (fun x hx => hsub x (List.mem_append_right _ hx)) (fun i v hi => hv (i + 1) v (by simpa using hi)) x hx

/-- A result behind the call. -/
theorem After.res1 (A : After G h w R H lend G1 h1 w1 hs h2) {j : Nat} {v r u : VVal} {c : Value} {qs : List (Id × Nat × Ob)} (hv : VRel G1 h1 w1 v c) (ho : out1 h1 v = some r) (hi : in1 R h d j r = some (u, qs)) (hal : lend = true → noAlias1 r = true)
    (hsub : ∀ x ∈ hand1 h1 d j v, x ∈ hs) (hq : ∀ x ∈ qs, h2 x.1 = some x.2) : VRel (afterG G G1 w.heap.size w1.heap.size hs) h2 w1 u c ∧ ∀ x ∈ qs, OBRel (afterG G G1 w.heap.size w1.heap.size hs) h2 w1 x.1 x.2.2 := by
  rcases out1_cases ho hi with ⟨rs, us, e1, e2, e3, e4, e5, e6⟩ | ⟨s, i, ver, cs, rs, us, qs', rfl, hh, e1, e2, rfl, rfl, e3, e4, e6⟩
  · rw [e3] at hsub
    obtain ⟨hl, hall⟩ := A.leaves e1 e2 (fun e => e6 (hal e)) hsub hq
    have hcells : ∀ (i : Nat) (v' : VVal), (vcells v)[i]? = some v' → ∃ c, VRel G1 h1 w1 v' c := fun i v' hv' => by
      rcases e5 with ⟨cs, rfl, rfl⟩ | ⟨hvc, _⟩
      · cases hv with
        | @agg _ arr hlen h1c hr =>
          simp only [vcells] at hv'
          have hlt : i < arr.size := by rw [← hlen]; exact (List.getElem?_eq_some_iff.1 hv').1
          exact ⟨arr[i], hr i v' _ hv' (Array.getElem?_eq_getElem hlt)⟩
      · rw [hvc] at hv'
        cases i with
        | zero => simp at hv'; subst hv'; exact ⟨c, hv⟩
        | succ => simp at hv'
    refine ⟨?_, A.objs e1 e2 (fun e => e6 (hal e)) hsub hcells⟩
    rcases e5 with ⟨cs, rfl, rfl⟩ | ⟨hvc, rfl⟩
    · cases hv with
      | @agg _ arr hlen h1c hr =>
        simp only [vcells] at hl
        refine .agg (by omega) h1c fun i u c hu hc => ?_
        have hlt : i < cs.length := by rw [← hl]; exact (List.getElem?_eq_some_iff.1 hu).1
        exact hall i cs[i] u c (List.getElem?_eq_getElem hlt) hu (hr i _ c (List.getElem?_eq_getElem hlt) hc)
    · exact hall 0 v u c (by rw [hvc]; rfl) rfl hv
  · rw [e3] at hsub
    have hm := hsub _ (List.mem_cons_self ..)
    have hsub' : ∀ x ∈ handL d (j + 1) cs, x ∈ hs := fun x hx => hsub x (List.mem_cons_of_mem _ hx)
    have hq' : ∀ x ∈ qs', h2 x.1 = some x.2 := fun x hx => hq x (List.mem_cons_of_mem _ hx)
    obtain ⟨hl, hall⟩ := A.leaves e1 e2 (fun e => e6 (hal e)) hsub' hq'
    obtain ⟨hk, arr, t, hb, hlen, h1c, hr⟩ := A.inv1 _ _ _ hh
    obtain ⟨b1, b2, _⟩ := A.adopt hm hk
    refine ⟨?_, fun x hx => ?_⟩
    · cases hv with
      | @ptr _ _ _ a v o hh' hle hoo =>
        rw [hh] at hh'
        simp at hh'
        refine .ptr (hq _ (List.mem_cons_self ..)) (Nat.le_refl _) fun _ => ?_
        rw [hoo hh'.1, b1]
    · rcases List.mem_cons.1 hx with rfl | hx
      · refine ⟨by simp only; rw [b1]; exact b2, arr, t, by simp only; rw [b1]; exact hb, by omega, h1c, fun i u c hu hc => ?_⟩
        have hlt : i < cs.length := by rw [← hl]; exact (List.getElem?_eq_some_iff.1 hu).1
        exact hall i cs[i] u c (List.getElem?_eq_getElem hlt) hu (hr i _ c (List.getElem?_eq_getElem hlt) hc)
      · exact A.objs e1 e2 (fun e => e6 (hal e)) hsub' (fun i v hv => by
          have hlt : i < arr.size := by rw [← hlen]; exact (List.getElem?_eq_some_iff.1 hv).1
          exact ⟨arr[i], hr i v _ hv (Array.getElem?_eq_getElem hlt)⟩) x hx

theorem After.resT (A : After G h w R H lend G1 h1 w1 hs h2) : ∀ {vs rs us : List VVal} {cs : List Value} {qs : List (Id × Nat × Ob)} {j : Nat}, vs.length = cs.length → (∀ (i : Nat) (v : VVal) (c : Value), vs[i]? = some v → cs[i]? = some c → VRel G1 h1 w1 v c) → mapO (out1 h1) vs = some rs → inT R h d j rs = some (us, qs) →
    (lend = true → rs.all noAlias1 = true) → (∀ x ∈ handT h1 d j vs rs, x ∈ hs) → (∀ x ∈ qs, h2 x.1 = some x.2) →
    us.length = cs.length ∧ (∀ (i : Nat) (u : VVal) (c : Value), us[i]? = some u → cs[i]? = some c → VRel (afterG G G1 w.heap.size w1.heap.size hs) h2 w1 u c) ∧ ∀ x ∈ qs, OBRel (afterG G G1 w.heap.size w1.heap.size hs) h2 w1 x.1 x.2.2
  | [], rs, us, cs, qs, j, hlen, hv, ho, hi, hal, hsub, hq => by
    simp [mapO] at ho
    subst ho
    simp [inT] at hi
    obtain ⟨rfl, rfl⟩ := hi
    exact ⟨by simpa using hlen, fun i u c hu => by simp at hu, by simp⟩
  | v :: vs, rs, us, [], qs, j, hlen, _, _, _, _, _, _ => by simp at hlen
  | v :: vs, rs, us, c :: cs, qs, j, hlen, hv, ho, hi, hal, hsub, hq => by
    simp only [mapO] at ho
    obtain ⟨r, hr, ho1⟩ := ob_eq ho
    obtain ⟨rs', hrs, ho2⟩ := ob_eq ho1
    simp at ho2
    subst ho2
    simp only [inT] at hi
    obtain ⟨q, hq1, hi1⟩ := ob_eq hi
    obtain ⟨q', hq2, hi2⟩ := ob_eq hi1
    simp at hi2
    obtain ⟨rfl, rfl⟩ := hi2
    obtain ⟨a1, a2⟩ := A.res1 (hv 0 v c rfl rfl) hr hq1 (fun e => by have := hal e; simp at this; exact this.1) (fun x hx => hsub x (List.mem_append_left _ hx)) (fun x hx => hq x (List.mem_append_left _ hx))
    obtain ⟨b1, b2, b3⟩ := A.resT (by simpa using hlen) (fun i v c h1 h2 => hv (i + 1) v c (by simpa using h1) (by simpa using h2)) hrs hq2 (fun e => by have := hal e; simp at this; simpa using this.2) (fun x hx => hsub x (List.mem_append_right _ hx)) (fun x hx => hq x (List.mem_append_right _ hx))
    refine ⟨by simp [b1], fun i u c' hu hc => ?_, fun x hx => ?_⟩
    · cases i with
      | zero => simp at hu hc; subst hu; subst hc; exact a1
      | succ i => simp at hu hc; exact b2 i u c' hu hc
    · rcases List.mem_append.1 hx with hx | hx
      · exact a2 x hx
      · exact b3 x hx

/-! ### the boxes of the caller -/

theorem After.arg0 (A : After G h w R H lend G1 h1 w1 hs h2) {v r v' : VVal} {c : Value} (hv : VRel G1 h1 w1 v c) (ho : outArg1 v = some r) (hi : back0 R h r = some v') (hal : lend = true → noAlias0 r = true) : VRel (afterG G G1 w.heap.size w1.heap.size hs) h2 w1 v' c := by
  cases v with
  | p x =>
    simp [outArg1] at ho
    subst ho
    simp [back0] at hi
    subst hi
    cases hv with
    | p hp h1c =>
      refine .p (A.prel ?_ hp) h1c
      cases lend with
      | false => exact .inl rfl
      | true => exact .inr (by simpa [noAlias0] using hal rfl)
  | ptr id ver off =>
    cases id with
    | slot => simp [outArg1] at ho
    | arg i k =>
      cases k with
      | succ => simp [outArg1] at ho
      | zero =>
        simp only [outArg1] at ho
        obtain ⟨rfl, ho1⟩ := gd_eq ho
        simp at ho1
        subst ho1
        simp only [back0] at hi
        obtain ⟨id, hid, hi1⟩ := ob_eq hi
        obtain ⟨o, hoo, hi2⟩ := ob_eq hi1
        simp at hi2
        subst hi2
        exact A.ptr hv hid hoo
  | _ => simp [outArg1] at ho
theorem After.arg1 (A : After G h w R H lend G1 h1 w1 hs h2) {v r v' : VVal} {c : Value} (hv : VRel G1 h1 w1 v c) (ho : outArg v = some r) (hi : back1 R h r = some v') (hal : lend = true → flatC r = true) : VRel (afterG G G1 w.heap.size w1.heap.size hs) h2 w1 v' c := by
  cases v with
  | fn f caps =>
    simp only [outArg] at ho
    obtain ⟨cs, hcs, ho1⟩ := ob_eq ho
    simp at ho1
    subst ho1
    simp only [back1] at hi
    obtain ⟨cs', hcs', hi1⟩ := ob_eq hi
    simp at hi1
    subst hi1
    cases hv with
    | @fn _ _ arr hl hr =>
      obtain ⟨a1, a2⟩ := mapO_get hcs
      obtain ⟨b1, b2⟩ := mapO_get hcs'
      refine .fn (by omega) fun i u c hu hc => ?_
      obtain ⟨x, hx, hxu⟩ := b2 i u hu
      obtain ⟨y, hy, hyx⟩ := a2 i x hx
      exact A.arg0 (hr i y c hy hc) hyx hxu fun e => by
        have := hal e
        simp only [flatC, List.all_eq_true] at this
        exact this x (List.mem_of_getElem? hx)
  | p x => 
    have ho1 : r = .p x := by simpa [outArg, outArg1] using ho.symm
    subst ho1
    exact A.arg0 hv ho hi fun e => by simpa [flatC, noAlias0] using hal e
  | ptr id ver off =>
    have ho1 : ∃ i, r = .ptr (.arg i 0) 0 off := by
      cases id with
      | slot => simp [outArg, outArg1] at ho
      | arg i k =>
        cases k with
        | succ => simp [outArg, outArg1] at ho
        | zero =>
          simp only [outArg, outArg1] at ho
          obtain ⟨_, ho1⟩ := gd_eq ho
          simp at ho1
          exact ⟨i, ho1.symm⟩
    obtain ⟨i, rfl⟩ := ho1
    exact A.arg0 hv ho hi fun _ => rfl
  | _ => simp [outArg, outArg1] at ho

theorem outH_get : ∀ {n i : Nat} {os : List Ob}, outH h1 i n = some os → os.length = n ∧ ∀ (k : Nat) (o : Ob), os[k]? = some o → outBox h1 (i + k) = some o
  | 0, i, os, h => by
    simp [outH] at h
    subst h
    exact ⟨rfl, fun k o hk => by simp at hk⟩
  | n + 1, i, os, h => by
    simp only [outH] at h
    obtain ⟨o, ho, h⟩ := ob_eq h
    obtain ⟨os', hos, h⟩ := ob_eq h
    simp at h
    subst h
    obtain ⟨a1, a2⟩ := outH_get hos
    refine ⟨by simp [a1], fun k o' hk => ?_⟩
    cases k with
    | zero => simp at hk; subst hk; exact ho
    | succ k => simp at hk; have := a2 k o' hk; rwa [Nat.add_assoc, Nat.add_comm 1] at this

theorem backBoxes_get : ∀ {ids : List Id} {os : List Ob} {us : List (Id × Nat × Ob)}, backBoxes R h ids os = some us → us.map (·.1) = ids ∧ ∀ (k : Nat) (id : Id), ids[k]? = some id → ∃ cs cs' o, os[k]? = some (.box cs) ∧ mapO (back1 R h) cs = some cs' ∧ h id = some o ∧ (id, o.1, .box cs') ∈ us
  | [], [], us, hb => by
    simp [backBoxes] at hb
    subst hb
    exact ⟨rfl, fun k id hk => by simp at hk⟩
  | [], _ :: _, us, hb => by simp [backBoxes] at hb
  | id :: ids, [], us, hb => by simp [backBoxes] at hb
  | id :: ids, o :: os, us, hb => by
    cases o with
    | box cs =>
      simp only [backBoxes] at hb
      obtain ⟨cs', hcs, hb1⟩ := ob_eq hb
      obtain ⟨o, ho, hb2⟩ := ob_eq hb1
      obtain ⟨us', hus, hb3⟩ := ob_eq hb2
      simp at hb3
      subst hb3
      obtain ⟨a1, a2⟩ := backBoxes_get hus
      refine ⟨by simp [a1], fun k id' hk => ?_⟩
      cases k with
      | zero => simp at hk; subst hk; exact ⟨cs, cs', o, rfl, hcs, ho, List.mem_cons_self ..⟩
      | succ k =>
        simp at hk
        obtain ⟨c1, c2, c3, e1, e2, e3, e4⟩ := a2 k id' hk
        exact ⟨c1, c2, c3, by simpa using e1, e2, e3, List.mem_cons_of_mem _ e4⟩
    | _ => simp [backBoxes] at hb

theorem After.inv (A : After G h w R H lend G1 h1 w1 hs h2) {H' : List Ob} {us : List (Id × Nat × Ob)} (hH' : outH h1 0 R.length = some H') (hus : backBoxes R h R H' = some us) (hal : lend = true → H'.all flatBox = true) (h2u : ∀ x ∈ us, (∀ q, (q, x.1) ∉ hs) → h2 x.1 = some x.2)
    (hobj : ∀ q id, (q, id) ∈ hs → ∀ v o, h2 id = some (v, o) → OBRel (afterG G G1 w.heap.size w1.heap.size hs) h2 w1 id o) : HeapInv (afterG G G1 w.heap.size w1.heap.size hs) h2 w1 := by
  intro id v o hid
  by_cases hq : ∃ q, (q, id) ∈ hs
  · obtain ⟨q, hq⟩ := hq
    exact hobj q id hq v o hid
  · have hq' : ∀ q, (q, id) ∉ hs := fun q hm => hq ⟨q, hm⟩
    obtain ⟨hb, hc⟩ := A.blk hq'
    by_cases hR : id ∈ R
    · obtain ⟨i, hi, e⟩ := List.getElem_of_mem hR
      have hRi : R[i]? = some id := by rw [List.getElem?_eq_getElem hi, e]
      obtain ⟨v0, cs0, cs0', r1, r2, r3, r4⟩ := root_box A.hH hRi
      obtain ⟨cs, cs', o', b1, b2, b3, b4⟩ := (backBoxes_get hus).2 i id hRi
      have h2id := h2u _ b4 hq'
      simp only at h2id
      rw [hid] at h2id
      simp at h2id
      obtain ⟨_, rfl⟩ := h2id
      have hob := (outH_get hH').2 i _ b1
      rw [Nat.zero_add] at hob
      simp only [outBox] at hob
      split at hob <;> try (cases hob; done)
      rename_i v1 cs1 hh1
      obtain ⟨_, hob1⟩ := gd_eq hob
      obtain ⟨cs2, hcs2, hob2⟩ := ob_eq hob1
      simp at hob2
      subst hob2
      obtain ⟨hk0, _, _, hb0, _⟩ := A.hinv _ _ _ r1
      have hlt := (Array.getElem?_eq_some_iff.1 hb0).1
      obtain ⟨_, arr, t, hb1, hlen, h1c, hr⟩ := A.inv1 _ _ _ hh1
      rw [A.argBlk hRi] at hb1
      obtain ⟨m1, m2⟩ := mapO_get hcs2
      obtain ⟨n1, n2⟩ := mapO_get b2
      refine ⟨by rw [hb, afterG_old hlt]; exact hk0, arr, t, by rw [hb]; exact hb1, by omega, h1c, fun j u c hu hcj => ?_⟩
      obtain ⟨x, hx, hxu⟩ := n2 j u hu
      obtain ⟨y, hy, hyx⟩ := m2 j x hx
      refine A.arg1 (hr j y c hy hcj) hyx hxu fun e => ?_
      have := hal e
      simp only [List.all_eq_true] at this
      have := this _ (List.mem_of_getElem? b1)
      simp only [flatBox, List.all_eq_true] at this
      exact this x (List.mem_of_getElem? hx)
    · rw [A.h2b id hq' hR] at hid
      by_cases hg : o = .gone
      · subst hg; trivial
      · refine OBRel.keep A.step (A.hinv id v o hid) hb hc (fun hm => ?_) (fun hm => ?_)
        · have hlt := blk_lt A.hinv hid hm hg
          refine ⟨by rw [afterG_old hlt]; exact hm, ?_⟩
          have hrest := calleeG_rest (R := R) (lend := lend) hm (.inl hR)
          cases lend with
          | true => exact (A.st.frozen _ (by simpa using hrest) hlt).2
          | false => exact (A.st.other _ (by simpa using hrest) hlt).2
        · by_cases hlt : G.blk id < w.heap.size
          · rwa [afterG_old hlt] at hm
          · simp only [afterG, hlt, if_false] at hm
            split at hm
            · split at hm
              · split at hm
                · rename_i hf
                  simp at hm
                  subst hm
                  exact absurd (fwd_mem hf) (hq' _)
                · cases hm
              · rename_i hno
                exact absurd hm (hno _)
            · cases hm
end

end Go.V
