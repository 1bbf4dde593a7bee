/- The value machine V against the model: arrays that are frozen; regions as a whole. -/
import Derived.Test.YtcljahgcdbohaaaVRegE
set_option linter.unusedSimpArgs false
set_option linter.unusedVariables false
namespace Go.V
open Go.RowKit

/-- Whose the blocks are when the arrays of some slots are frozen. -/
def frzKind (fz : List Nat) (h : VHeap) : Kind → Kind
  | .mine id => match h id with
    | some (_, .arr _ _) => if fzId fz id then .frozen else .mine id
    | _ => .mine id
  | k => k
def frzG (fz : List Nat) (G : Gh) (h : VHeap) : Gh := { G with kind := fun b => frzKind fz h (G.kind b) }

section
variable {fz : List Nat} {G : Gh} {h : VHeap} {w : World}

theorem frz_frozen {b : Nat} (hb : G.kind b = .frozen) : (frzG fz G h).kind b = .frozen := by simp [frzG, hb, frzKind]
theorem frz_other {b : Nat} (hb : G.kind b = .other) : (frzG fz G h).kind b = .other := by simp [frzG, hb, frzKind]
theorem frz_mine {b : Nat} {id : Id} (hb : (frzG fz G h).kind b = .mine id) : G.kind b = .mine id := by
  simp only [frzG] at hb
  cases hk : G.kind b with
  | frozen => simp [hk, frzKind] at hb
  | other => simp [hk, frzKind] at hb
  | mine id' =>
    simp only [hk, frzKind] at hb
    split at hb
    · split at hb
      · cases hb
      · exact hb
    · exact hb
theorem frz_keeps_mine {b : Nat} {id : Id} (hb : G.kind b = .mine id) (hn : ∀ v sz xs, h id = some (v, .arr sz xs) → fzId fz id = false) : (frzG fz G h).kind b = .mine id := by
  simp only [frzG, hb, frzKind]
  split
  · rename_i v sz xs hh
    simp [hn v sz xs hh]
  · rfl
theorem frz_arr {b : Nat} {id : Id} (hb : G.kind b = .mine id) {v sz : Nat} {xs : List PV} (hh : h id = some (v, .arr sz xs)) (hf : fzId fz id = true) : (frzG fz G h).kind b = .frozen := by
  simp [frzG, hb, frzKind, hh, hf]

theorem frz_step : Step G h w (frzG fz G h) (fzOb fz h) w where
  frozen := fun b hb _ => ⟨frz_frozen hb, rfl⟩
  other := fun b hb _ => ⟨frz_other hb, rfl⟩
  mine := fun b id _ hb => frz_mine hb
  frz := fun b _ hb => by
    simp only [frzG] at hb
    cases hk : G.kind b with
    | frozen => exact .inl rfl
    | other => simp [hk, frzKind] at hb
    | mine id =>
      simp only [hk, frzKind] at hb
      split at hb
      · split at hb
        · rename_i hf
          cases id with
          | slot s j => exact .inr ⟨s, j, rfl⟩
          | arg i j => simp [fzId] at hf
        · cases hb
      · cases hb
  size := Nat.le_refl _
  os := rfl
  tape := rfl
  output := rfl
  vers := fun id v o hh => by
    cases o with
    | box cs => exact ⟨v, .box (cs.map (fz0 fz h)), by simp [fzOb, hh], Nat.le_refl _, fun _ => ⟨rfl, rfl, trivial, fun _ _ e => by cases e⟩⟩
    | map kt ks vs => exact ⟨v, .map kt ks vs, by simp [fzOb, hh], Nat.le_refl _, fun _ => ⟨rfl, rfl, trivial, fun _ _ e => by cases e⟩⟩
    | gone => exact ⟨v, .gone, by simp [fzOb, hh], Nat.le_refl _, fun _ => ⟨rfl, rfl, trivial, fun _ _ e => by cases e⟩⟩
    | arr sz xs =>
      by_cases hf : fzId fz id = true
      · exact ⟨v + 1, .gone, by simp [fzOb, hh, hf], by omega, fun e => by omega⟩
      · refine ⟨v, .arr sz xs, by simp [fzOb, hh, hf], Nat.le_refl _, fun _ => ⟨rfl, rfl, by simp [SameOb], fun _ _ _ hm => frz_keeps_mine hm fun v' sz' xs' _ => by simpa using hf⟩⟩

theorem fz0_rel (hinv : HeapInv G h w) {v : VVal} {c : Value} (hv : VRel G h w v c) : VRel (frzG fz G h) (fzOb fz h) w (fz0 fz h v) c := by
  cases hv with
  | @own id ver off len a n cap v o hn hcap hh hle hoo =>
    simp only [fz0]
    split
    · rename_i hf
      split
      · rename_i r hr
        simp only [velems, hh] at hr
        cases o <;> try (cases hr; done)
        rename_i sz xs
        obtain ⟨rfl, hr1⟩ := gd_eq hr
        simp at hr1
        subst hr1
        obtain ⟨sz2, xs2, e, hlen, hreal⟩ := hoo rfl
        simp at e
        obtain ⟨rfl, rfl⟩ := e
        obtain ⟨hcs, _, hall⟩ := hinv _ _ _ hh
        subst hn
        have hyl : ((xs.drop off).take n).length = n := by simp; omega
        refine .p ?_ rfl
        by_cases h0 : n = 0
        · subst h0
          exact .slice ⟨0, 0, none⟩ (fun _ _ => Go.undef) (by simp) hcap (fun h => absurd h (by omega)) (by simp) (fun i x j c h => by simp at h) (fun i x j c h => by simp at h) (fun i x j c h => by simp at h)
        · rcases hreal with ⟨hc0, _⟩ | ⟨hm, hce, ha⟩
          · omega
          · obtain ⟨hxc, arr, t, hb, has, hcell⟩ := hall hm
            have hrest := frz_arr (fz := fz) hm hh hf
            have hgk : ∀ (i : Nat) (y : PV), ((xs.drop off).take n)[i]? = some y → xs[off + i]? = some y ∧ i < n := fun i y hy => by
              rw [List.getElem?_take] at hy
              split at hy
              · rw [List.getElem?_drop] at hy; exact ⟨hy, by assumption⟩
              · cases hy
            have hg : ∀ (i : Nat) (y : PV) (j : Nat) (cc : PV), ((xs.drop off).take n)[i]? = some y → y.cells[j]? = some cc → arr[off * sz + (i * sz + j)]? = some (arr.getD (off * sz + (i * sz + j)) Go.undef) ∧ (arr.getD (off * sz + (i * sz + j)) Go.undef).oneCell' = true ∧ PRel (fun b => G.kind b = .frozen) w cc (arr.getD (off * sz + (i * sz + j)) Go.undef) := fun i y j cc hy hj => by
              obtain ⟨hy', hin⟩ := hgk i y hy
              obtain ⟨u, e1, e2, e3⟩ := hcell (off + i) y j cc hy' hj
              rw [Nat.add_mul, Nat.add_assoc] at e1
              have hu : arr.getD (off * sz + (i * sz + j)) Go.undef = u := by
                obtain ⟨hlt, e⟩ := Array.getElem?_eq_some_iff.1 e1
                simp [Array.getD, hlt, e]
              rw [hu]
              exact ⟨e1, e2, e3⟩
            refine .slice ⟨G.blk id, off * sz, none⟩ (fun i j => arr.getD (off * sz + (i * sz + j)) Go.undef) hyl.symm hcap (fun _ => ⟨ha (by omega), hrest, (Array.getElem?_eq_some_iff.1 hb).1⟩)
              (fun x hx => hcs x (List.mem_of_mem_drop (List.mem_of_mem_take hx))) (fun i y j cc hy hj => (hg i y j cc hy hj).2.1) (fun i y j cc hy hj => ?_) (fun i y j cc hy hj => ((hg i y j cc hy hj).2.2).mono frz_step.keeps (Nat.le_refl _))
            rw [add_lit, cell_block hb]
            exact (hg i y j cc hy hj).1
      · exact .dead _
    · exact VRel.mono frz_step (.own hn hcap hh hle hoo)
  | p hp h1 => exact VRel.mono frz_step (.p hp h1)
  | ptr hh hle hoo => exact VRel.mono frz_step (.ptr hh hle hoo)
  | vptr ad val ha hf hb h1 hc hr => exact VRel.mono frz_step (.vptr ad val ha hf hb h1 hc hr)
  | eptr hh hle hoo => exact VRel.mono frz_step (.eptr hh hle hoo)
  | mref hh hle hoo => exact VRel.mono frz_step (.mref hh hle hoo)
  | fn hl hr => exact VRel.mono frz_step (.fn hl hr)
  | agg hl h1 hr => exact VRel.mono frz_step (.agg hl h1 hr)
  | tup hl hr => exact VRel.mono frz_step (.tup hl hr)
  | undef => exact .undef
  | dead c => exact .dead c

theorem map_get {α β : Type} {f : α → β} {l : List α} {i : Nat} {y : β} (h : (l.map f)[i]? = some y) : ∃ x, l[i]? = some x ∧ y = f x := by
  rw [List.getElem?_map] at h
  cases hx : l[i]? with
  | none => simp [hx] at h
  | some x => simp [hx] at h; exact ⟨x, rfl, h.symm⟩

theorem fz1_rel (hinv : HeapInv G h w) {v : VVal} {c : Value} (hv : VRel G h w v c) : VRel (frzG fz G h) (fzOb fz h) w (fz1 fz h v) c := by
  cases hv with
  | agg hl h1 hr =>
    refine .agg (by simpa using hl) h1 fun i v c hv hc => ?_
    obtain ⟨x, hx, rfl⟩ := map_get hv
    exact fz0_rel hinv (hr i x c hx hc)
  | tup hl hr =>
    refine .tup (by simpa using hl) fun i v c hv hc => ?_
    obtain ⟨x, hx, rfl⟩ := map_get hv
    exact fz0_rel hinv (hr i x c hx hc)
  | p hp h1 => exact fz0_rel hinv (.p hp h1)
  | own hn hcap hh hle hoo => exact fz0_rel hinv (.own hn hcap hh hle hoo)
  | ptr hh hle hoo => exact fz0_rel hinv (.ptr hh hle hoo)
  | vptr ad val ha hf hb h1 hc hr => exact fz0_rel hinv (.vptr ad val ha hf hb h1 hc hr)
  | eptr hh hle hoo => exact fz0_rel hinv (.eptr hh hle hoo)
  | mref hh hle hoo => exact fz0_rel hinv (.mref hh hle hoo)
  | fn hl hr => exact fz0_rel hinv (.fn hl hr)
  | undef => exact .undef
  | dead c => exact .dead c

theorem frz_inv (hinv : HeapInv G h w) : HeapInv (frzG fz G h) (fzOb fz h) w := by
  intro id v o hh
  simp only [fzOb] at hh
  split at hh
  · rename_i v0 sz xs h0
    split at hh
    · simp at hh
      obtain ⟨_, rfl⟩ := hh
      trivial
    · rename_i hf
      simp at hh
      obtain ⟨rfl, rfl⟩ := hh
      obtain ⟨h1, h2, h3⟩ := hinv _ _ _ h0
      refine ⟨h1, h2.elim Or.inl (fun hm => Or.inr (frz_keeps_mine hm fun _ _ _ _ => by simpa using hf)), fun hm => ?_⟩
      obtain ⟨h4, arr, t, h5, h6, h7⟩ := h3 (frz_mine hm)
      refine ⟨h4, arr, t, h5, h6, fun i x j c hx hj => ?_⟩
      obtain ⟨u, e1, e2, e3⟩ := h7 i x j c hx hj
      exact ⟨u, e1, e2, e3.mono frz_step.keeps (Nat.le_refl _)⟩
  · rename_i v0 cs h0
    simp at hh
    obtain ⟨rfl, rfl⟩ := hh
    obtain ⟨h1, arr, t, h2, h3, h4, h5⟩ := hinv _ _ _ h0
    refine ⟨frz_keeps_mine h1 fun _ _ _ e => by rw [h0] at e; simp at e, arr, t, h2, by simpa using h3, h4, fun i v c hv hc => ?_⟩
    obtain ⟨x, hx, rfl⟩ := map_get hv
    exact fz0_rel hinv (h5 i x c hx hc)
  · rename_i o0 n1 n2
    have hob := hinv _ _ _ hh
    cases o with
    | box cs => exact absurd hh (n2 v cs)
    | arr sz xs => exact absurd hh (n1 v sz xs)
    | gone => trivial
    | map kt ks vs =>
      obtain ⟨h1, es, cl, h2, h3, h4, h5, h6⟩ := hob
      refine ⟨frz_keeps_mine h1 fun _ _ _ e => by rw [hh] at e; simp at e, es, cl, h2, h3, h4, h5, fun i v e hv he => ?_⟩
      exact (h6 i v e hv he).mono frz_step.keeps (Nat.le_refl _)

theorem drew_inv (hinv : HeapInv G h w) : HeapInv G h { w with drawn := w.drawn + 1 } := by
  have hst : Step G h w G h { w with drawn := w.drawn + 1 } := Step.drew
  intro id v o hh
  have hob := hinv _ _ _ hh
  cases o with
  | gone => trivial
  | box cs =>
    obtain ⟨h1, arr, t, h2, h3, h4, h5⟩ := hob
    exact ⟨h1, arr, t, h2, h3, h4, fun i v c hv hc => (h5 i v c hv hc).mono hst⟩
  | arr sz xs =>
    obtain ⟨h1, h2, h3⟩ := hob
    refine ⟨h1, h2, fun hm => ?_⟩
    obtain ⟨h4, arr, t, h5, h6, h7⟩ := h3 hm
    refine ⟨h4, arr, t, h5, h6, fun i x j c hx hj => ?_⟩
    obtain ⟨u, e1, e2, e3⟩ := h7 i x j c hx hj
    exact ⟨u, e1, e2, e3.mono hst.keeps (Nat.le_refl _)⟩
  | map kt ks vs =>
    obtain ⟨h1, es, cl, h2, h3, h4, h5, h6⟩ := hob
    exact ⟨h1, es, cl, h2, h3, h4, h5, fun i v e hv he => (h6 i v e hv he).mono hst.keeps (Nat.le_refl _)⟩
end

abbrev St.rs (s : St) : RS := ⟨s.pe, fun _ => none, s.h⟩

theorem freeze_sound {vs : List Nat} {n : Nat} {fz : List Nat} {G : Gh} {s : St} {a : Act} {w : World} (hr : RRel vs n G s.rs a w) (hi : HeapInv G s.h w) :
    ∃ G', Step G s.h w G' (freeze fz s).h w ∧ HeapInv G' (freeze fz s).h w ∧ RRel vs n G' (freeze fz s).rs a w := by
  unfold freeze
  split
  · exact ⟨G, Step.refl _ _ _, hi, hr⟩
  · exact ⟨frzG fz G s.h, frz_step, frz_inv hi, fun t ht => fz1_rel hi (hr.pe t ht), fun _ _ e => (by cases e), hr.defers, hr.size⟩

theorem drew_rel {vs : List Nat} {n : Nat} {G : Gh} {r : RS} {a : Act} {w : World} (hr : RRel vs n G r a w) : RRel vs n G r a { w with drawn := w.drawn + 1 } :=
  ⟨fun t ht => (hr.pe t ht).mono Step.drew, fun s v e => ⟨(hr.te s v e).1, (hr.te s v e).2.mono Step.drew⟩, hr.defers, hr.size⟩

theorem okPairs_get {bs : Array Nat} {fp : List (Nat × Nat)} {us : List VOper} (h : okPairs bs fp us = true) {i j : Nat} {o o' : VOper} (hi : us[i]? = some o) (hj : us[j]? = some o') (hlt : i < j) :
    (bs.getD j 0).testBit i = true ∨ (slotsApart o o' = true ∧ (o.op.silent = true ∨ o'.op.silent = true ∨ (o.op.reader = true ∧ o'.op.reader = true) ∨ fp.contains (i, j) = true)) := by
  simp only [okPairs, List.all_eq_true] at h
  have h1 := h (o', j) (by rw [List.mem_zipIdx_iff_getElem?]; simpa using hj) (o, i) (by rw [List.mem_zipIdx_iff_getElem?]; simpa using hi)
  simp only [Bool.or_eq_true, Bool.and_eq_true, decide_eq_true_eq] at h1
  rcases h1 with (h1 | h1) | ⟨h1, h2⟩
  · omega
  · exact .inl h1
  · refine .inr ⟨h1, ?_⟩
    rcases h2 with ((h2 | h2) | h2) | h2
    · exact .inl h2
    · exact .inr (.inl h2)
    · exact .inr (.inr (.inl h2))
    · exact .inr (.inr (.inr h2))

theorem map_fst_get {L : List RE} {us : List VOper} (h1 : L.map (·.2.1) = us) (h2 : L.map (·.1) = List.range' 0 us.length) {k : Nat} {e : RE} (he : L[k]? = some e) : e.1 = k ∧ us[k]? = some e.2.1 := by
  have a1 : (L.map (·.1))[k]? = some e.1 := by simp [he]
  have a2 : (L.map (·.2.1))[k]? = some e.2.1 := by simp [he]
  rw [h2, List.getElem?_range'] at a1
  · rw [h1] at a2
    simp at a1
    exact ⟨a1.symm, a2⟩
  · rw [← h1]
    simp
    exact (List.getElem?_eq_some_iff.1 he).1

section
variable {P : Program} {Γ : Sig} (hΓ : CallsSound P Γ) (hm : P.follows .mixedOrders = true) {vs : List Nat} {n : Nat}
include hΓ hm

theorem execR_sound {ops : Array Oper} {draw : Bool} {vr : VRegion} (hok : okRegion P vs n ops draw vr = true) {G : Gh} {s s' : St} {a : Act} {w : World} (hr : RRel vs n G s.rs a w) (hi : HeapInv G s.h w) (he : execR Γ vr s = some s') {id : Nat}
    {Q : Exit → Act → World → Prop} (hQ : ∀ a' w' G', Step G s.h w G' s'.h w' → HeapInv G' s'.h w' → RRel vs n G' s'.rs a' w' → Q .normal a' w') : (Code.region id ops draw).wp P Q a w := by
  simp only [okRegion, Bool.and_eq_true, Bool.or_eq_true, Bool.not_eq_true'] at hok
  obtain ⟨hops, hdraw⟩ := hok
  obtain ⟨hlen, hget⟩ := okOpers_get hops
  unfold execR at he
  obtain ⟨rn, hrn, he⟩ := ob_eq he
  simp only [Option.some.injEq] at he
  subst he
  obtain ⟨G1, hs1, hi1, hr1⟩ := freeze_sound (fz := vr.fz) hr hi
  generalize freeze vr.fz s = s1 at hrn hs1 hi1 hr1
  have hQ' : ∀ a' w' G', Step G1 s1.h w G' rn.h w' → HeapInv G' rn.h w' → RRel vs n G' rn a' w' → Q .normal a' w' := fun a' w' G' hs hinv hrr =>
    hQ a' w' G' (hs1.trans hs) hinv ⟨hrr.pe, fun _ _ e => by simp [St.rs] at e, hrr.defers, hrr.size⟩
  have hops' : ∀ (j : Nat) (u : VOper), vr.ops[j]? = some u → ∃ o, ops[j]? = some o ∧ okOper P vs n ops o u = true := fun j u hu => by
    have hj : j < ops.toList.length := by
      rw [← hlen]
      exact (List.getElem?_eq_some_iff.1 hu).1
    have ho : ops.toList[j]? = some ops.toList[j] := List.getElem?_eq_getElem hj
    exact ⟨ops.toList[j], by simp, hget j _ u ho hu⟩
  -- the run in text order, with what each operation touches
  have hL : ∃ L : List RE, L.map (·.2.1) = vr.ops ∧ L.map (·.1) = List.range' 0 vr.ops.length ∧ Runs Γ L s1.rs rn ∧ (L.Pairwise fun x e => vr.fp.contains (x.1, e.1) = true → apartFp x.2.1 e.2.1 x.2.2 e.2.2 = true) := by
    split at hrn
    · rename_i hfe
      have hfe : vr.fp = [] := List.isEmpty_iff.1 hfe
      obtain ⟨L, l1, l2, l3⟩ := runOps_runs vr.ops 0 _ rn hrn
      exact ⟨L, l1, l2, l3, List.Pairwise.imp_of_mem (R := fun _ _ => True) (fun _ _ _ h => by rw [hfe] at h; simp at h) (List.pairwise_of_forall fun _ _ => trivial)⟩
    · obtain ⟨L, l1, l2, l3, _, l5⟩ := runFp_runs vr.ops 0 _ rn _ hrn
      exact ⟨L, l1, l2, l3, l5⟩
  obtain ⟨L, l1, l2, l3, l5⟩ := hL
  have hLlen : L.length = ops.size := by
    have : (L.map (·.2.1)).length = vr.ops.length := by rw [l1]
    simp at this hlen
    omega
  have hLok : ∀ e ∈ L, ∃ o, ops[e.1]? = some o ∧ okOper P vs n ops o e.2.1 = true := fun e he => by
    obtain ⟨k, hk⟩ := List.getElem?_of_mem he
    obtain ⟨e1, e2⟩ := map_fst_get l1 l2 hk
    rw [e1]
    exact hops' k _ e2
  cases draw with
  | false =>
    refine wp_region ?_
    have hruns : ∀ (L : List RE) (k : Nat) (G : Gh) (r : RS) (a : Act) (w : World), L.map (·.1) = List.range' k L.length → (∀ e ∈ L, ∃ o, ops[e.1]? = some o ∧ okOper P vs n ops o e.2.1 = true) → RRel vs n G r a w → HeapInv G r.h w → Runs Γ L r rn →
        (∀ a' w' G', Step G r.h w G' rn.h w' → HeapInv G' rn.h w' → RRel vs n G' rn a' w' → Q .normal a' w') → wpOps P ops Q (List.range' k L.length) a w := by
      intro L
      induction L with
      | nil =>
        intro k G r a w _ _ hr hi hrun hQ
        simp only [Runs] at hrun
        subst hrun
        simp only [List.length_nil, List.range'_zero, wpOps]
        exact hQ a w G (Step.refl _ _ _) hi hr
      | cons e L ih =>
        intro k G r a w hk hok hr hi hrun hQ
        obtain ⟨_, q, hq, hrun⟩ := hrun
        simp only [List.map_cons, List.length_cons, List.range'_succ, List.cons.injEq] at hk ⊢
        obtain ⟨o, ho, hok0⟩ := hok e (List.mem_cons_self ..)
        rw [hk.1] at ho
        rw [wpOps_cons]
        refine stepQ_sound hΓ hr hi hok0 ho hq fun a' w' G' hs hinv hr' => ?_
        exact ih (k + 1) G' _ a' w' hk.2 (fun x hx => hok x (List.mem_cons_of_mem _ hx)) hr' hinv hrun fun a'' w'' G'' hs' hinv' hr'' => hQ a'' w'' G'' (hs.trans hs') hinv' hr''
    have := hruns L 0 G1 s1.rs a w (by rw [l2, ← l1]; simp) hLok hr1 hi1 l3 hQ'
    rw [hLlen] at this
    rw [List.range_eq_range']
    exact this
  | true =>
    have hdr : okEdges ops = true ∧ okPairs (Region.before ops) vr.fp vr.ops = true := by
      rcases hdraw with h0 | h0
      · cases h0
      · simpa using h0
    refine wp_region_any hm ?_
    have hedge : ∀ (j : Nat) (o : Oper), ops[j]? = some o → ∀ e ∈ o.after, Region.binds .any e = true → e.on < j := fun j o ho e he hb => by
      have h1 := hdr.1
      simp only [okEdges, List.all_eq_true] at h1
      have h2 := h1 (o, j) (by rw [List.mem_zipIdx_iff_getElem?]; simpa using ho)
      simp only [Array.all_eq_true, Bool.or_eq_true, Bool.not_eq_true', decide_eq_true_eq] at h2
      obtain ⟨k, hk, e1⟩ := Array.mem_iff_getElem.1 he
      have h3 := h2 k hk
      rw [e1, hb] at h3
      rcases h3 with h3 | h3
      · cases h3
      · exact h3
    have hpw : L.Pairwise fun x e => x.1 < e.1 ∧ (((Region.before ops).getD e.1 0).testBit x.1 = true ∨ Apart x.2.1 e.2.1 x.2.2 e.2.2) := by
      rw [List.pairwise_iff_getElem] at l5 ⊢
      intro i j hil hjl hlt
      have hx := map_fst_get l1 l2 (List.getElem?_eq_getElem hil)
      have hy := map_fst_get l1 l2 (List.getElem?_eq_getElem hjl)
      refine ⟨by rw [hx.1, hy.1]; exact hlt, ?_⟩
      have h5 := l5 i j hil hjl hlt
      rw [hx.1, hy.1] at h5
      rcases okPairs_get hdr.2 hx.2 hy.2 hlt with h0 | ⟨h0, h1⟩
      · left
        rw [hx.1, hy.1]
        exact h0
      · right
        refine ⟨h0, ?_⟩
        rcases h1 with h1 | h1 | h1 | h1
        · exact .inl h1
        · exact .inr (.inl h1)
        · exact .inr (.inr (.inl h1))
        · exact .inr (.inr (.inr (h5 h1)))
    refine any_sound hΓ hedge ops.size _ L G1 s1.rs rn a { w with drawn := w.drawn + 1 } hLlen (by simp) (fun i hi => ?_) hpw hLok (fun j o ho hl => ?_) (drew_rel hr1) (drew_inv hi1) l3 fun a' w' G' hs => hQ' a' w' G' (Step.drew.trans hs)
    · have : i ∈ L.map (·.1) := by
        rw [l2, List.mem_range'_1]
        simp at hlen
        omega
      simp [Array.getD_eq_getD_getElem?, hi, this]
    · simp [Array.getD_eq_getD_getElem?, Array.getElem?_replicate] at hl
      split at hl <;> simp at hl
end

end Go.V
