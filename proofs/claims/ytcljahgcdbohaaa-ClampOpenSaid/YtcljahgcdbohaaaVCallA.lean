/- The value machine V against the model: what a callee sees. -/
import Derived.Test.YtcljahgcdbohaaaVOpsI
set_option linter.unusedSimpArgs false
set_option linter.unusedVariables false
namespace Go.V
open Go.RowKit

theorem addNew_nodup : ∀ (is R : List Id), R.Nodup → (addNew R is).Nodup
  | [], _, h => h
  | i :: is, R, h => by
    simp only [addNew]
    refine addNew_nodup is _ ?_
    split
    · exact h
    · rename_i hc
      refine List.nodup_append.2 ⟨h, by simp, fun a ha b hb e => hc ?_⟩
      simp at hb
      subst hb
      subst e
      simpa using ha
theorem roots_nodup (h : VHeap) (args : List VVal) : (roots h args).Nodup := by
  simp only [roots]
  split
  · simp
  · exact addNew_nodup _ _ (addNew_nodup _ _ (addNew_nodup _ _ (by simp)))

theorem posOf_get {R : List Id} {id : Id} : ∀ {i : Nat}, posOf R id = some i → R[i]? = some id := by
  induction R with
  | nil => intro i h; simp [posOf] at h
  | cons r rs ih =>
    intro i h
    simp only [posOf] at h
    split at h
    · rename_i e; simp at h; subst h; simp [e]
    · simp only [Option.map_eq_some_iff] at h
      obtain ⟨j, hj, rfl⟩ := h
      simpa using ih hj
theorem posOf_of_get {R : List Id} {id : Id} (hn : R.Nodup) : ∀ {i : Nat}, R[i]? = some id → posOf R id = some i := by
  induction R with
  | nil => intro i h; simp at h
  | cons r rs ih =>
    intro i h
    simp only [posOf]
    cases i with
    | zero => simp at h; simp [h]
    | succ i =>
      simp at h
      have hm := List.mem_of_getElem? h
      rw [if_neg (fun (e : r = id) => (List.nodup_cons.1 hn).1 (e ▸ hm)), ih (List.nodup_cons.1 hn).2 h]
      rfl
theorem posOf_none {R : List Id} {id : Id} (h : posOf R id = none) : id ∉ R := by
  induction R with
  | nil => simp
  | cons r rs ih =>
    simp only [posOf] at h
    split at h
    · cases h
    · rename_i hne
      simp only [Option.map_eq_none_iff] at h
      intro hm
      rcases List.mem_cons.1 hm with e | e
      · exact hne e.symm
      · exact ih h e

/-- The blocks as a callee sees them. -/
def calleeG (G : Gh) (R : List Id) (lend : Bool) : Gh where
  kind b := match G.kind b with
    | .frozen => .frozen
    | .other => .other
    | .mine id => match (if b = G.blk id then posOf R id else none) with
      | some i => .mine (.arg i 0)
      | none => if lend then .frozen else .other
  blk id := match id with
    | .arg i 0 => match R[i]? with
      | some q => G.blk q
      | none => 0
    | _ => 0
  cap _ := 0

theorem calleeG_frozen {G : Gh} {R : List Id} {lend : Bool} {b : Nat} (h : G.kind b = .frozen) : (calleeG G R lend).kind b = .frozen := by simp [calleeG, h]
theorem calleeG_other {G : Gh} {R : List Id} {lend : Bool} {b : Nat} (h : G.kind b = .other) : (calleeG G R lend).kind b = .other := by simp [calleeG, h]
theorem calleeG_mine {G : Gh} {R : List Id} {lend : Bool} {b : Nat} {q : Id} (h : (calleeG G R lend).kind b = .mine q) : ∃ i id, q = .arg i 0 ∧ R[i]? = some id ∧ b = G.blk id ∧ G.kind b = .mine id := by
  simp only [calleeG] at h
  split at h <;> try (cases h; done)
  rename_i id hk
  split at h
  · rename_i i hp
    split at hp
    · rename_i hb
      simp at h
      exact ⟨i, id, h.symm, posOf_get hp, hb, hk⟩
    · cases hp
  · split at h <;> cases h
theorem calleeG_frozen' {G : Gh} {R : List Id} {b : Nat} (h : (calleeG G R false).kind b = .frozen) : G.kind b = .frozen := by
  simp only [calleeG] at h
  split at h
  · assumption
  · cases h
  · split at h <;> simp at h
theorem calleeG_root {G : Gh} {R : List Id} {lend : Bool} {i : Nat} {id : Id} (hn : R.Nodup) (hi : R[i]? = some id) (hk : G.kind (G.blk id) = .mine id) : (calleeG G R lend).kind (G.blk id) = .mine (.arg i 0) := by
  simp [calleeG, hk, posOf_of_get hn hi]
theorem calleeG_rest {G : Gh} {R : List Id} {lend : Bool} {b : Nat} {id : Id} (hk : G.kind b = .mine id) (hno : id ∉ R ∨ b ≠ G.blk id) : (calleeG G R lend).kind b = if lend then .frozen else .other := by
  simp only [calleeG, hk]
  have : (if b = G.blk id then posOf R id else none) = none := by
    split
    · rename_i hb
      rcases hno with h | h
      · cases hp : posOf R id with
        | none => rfl
        | some i => exact absurd (List.mem_of_getElem? (posOf_get hp)) h
      · exact absurd hb h
    · rfl
  rw [this]

theorem calleeG_keeps {G : Gh} {R : List Id} {lend : Bool} (w : World) : Keeps (fun b => G.kind b = .frozen) (fun b => (calleeG G R lend).kind b = .frozen) w w := fun _ h _ => ⟨calleeG_frozen h, rfl⟩

section
variable {G : Gh} {h : VHeap} {w : World} {R : List Id} {H : List Ob} {lend : Bool}

theorem root_box (hH : mapO (extBox R h) R = some H) {i : Nat} {id : Id} (hi : R[i]? = some id) :
    ∃ v cs cs', h id = some (v, .box cs) ∧ cs.any lends = false ∧ mapO (ext1 R h) cs = some cs' ∧ H[i]? = some (.box cs') := by
  obtain ⟨o, ho, he⟩ := mapO_get' hH i id hi
  simp only [extBox] at he
  split at he
  · rename_i v cs hh
    obtain ⟨h1, he⟩ := gd_eq he
    obtain ⟨cs', h2, he⟩ := ob_eq he
    simp at he
    subst he
    exact ⟨v, cs, cs', hh, h1, h2, ho⟩
  · cases he
theorem not_root (hH : mapO (extBox R h) R = some H) {id : Id} {v : Nat} {o : Ob} (hh : h id = some (v, o)) (ho : ∀ cs, o ≠ .box cs) : id ∉ R := by
  intro hm
  obtain ⟨i, hi, he⟩ := List.getElem_of_mem hm
  obtain ⟨v', cs, cs', h1, _⟩ := root_box hH (i := i) (id := id) (by rw [List.getElem?_eq_getElem hi, he])
  rw [hh] at h1
  simp at h1
  exact ho _ h1.2

theorem ext0_rel (hinv : HeapInv G h w) (hH : mapO (extBox R h) R = some H) {v v' : VVal} {c : Value} (hv : VRel G h w v c) (hl : lends0 v = true → lend = true) (he : ext0 R h v = some v') :
    VRel (calleeG G R lend) (enterH H) w v' c := by
  cases hv with
  | p hp h1 =>
    simp [ext0] at he
    subst he
    exact .p (hp.mono (calleeG_keeps w) (Nat.le_refl _)) h1
  | @own id ver off len a n cap v o hn hcap hh hle hoo =>
    have hlend := hl rfl
    simp only [ext0, velems, hh] at he
    cases o <;> try (simp only [ob_none] at he; cases he; done)
    rename_i sz xs
    simp only at he
    obtain ⟨r, hr, he1⟩ := ob_eq he
    obtain ⟨rfl, hr1⟩ := gd_eq hr
    simp at hr1 he1
    subst hr1
    subst he1
    obtain ⟨sz2, xs2, e, hlen, hreal⟩ := hoo rfl
    simp at e
    obtain ⟨rfl, rfl⟩ := e
    obtain ⟨hcs, _, hall⟩ := hinv _ _ _ hh
    subst hn
    have hyl : ((xs.drop off).take n).length = n := by simp; omega
    refine .p ?_ rfl
    by_cases h0 : n = 0
    · subst h0
      exact .slice ⟨0, 0, none⟩ (fun _ _ => Go.undef) (by simp) hcap (fun h => absurd h (by omega)) (by simp) (fun i x j c h => by simp at h) (fun i x j c h => by simp at h) (fun i x j c h => by simp at h)
    · rcases hreal with ⟨hc0, _⟩ | ⟨hm, hce, ha⟩
      · omega
      · obtain ⟨hxc, arr, t, hb, has, hcell⟩ := hall hm
        have hrest := calleeG_rest (R := R) (lend := lend) hm (.inl (not_root hH hh (by simp)))
        rw [hlend] at hrest
        simp only [if_true] at hrest
        have hgk : ∀ (i : Nat) (y : PV), ((xs.drop off).take n)[i]? = some y → xs[off + i]? = some y ∧ i < n := fun i y hy => by
          rw [List.getElem?_take] at hy
          split at hy
          · rw [List.getElem?_drop] at hy; exact ⟨hy, by assumption⟩
          · cases hy
        have hg : ∀ (i : Nat) (y : PV) (j : Nat) (cc : PV), ((xs.drop off).take n)[i]? = some y → y.cells[j]? = some cc → arr[off * sz + (i * sz + j)]? = some (arr.getD (off * sz + (i * sz + j)) Go.undef) ∧ (arr.getD (off * sz + (i * sz + j)) Go.undef).oneCell' = true ∧ PRel (fun b => G.kind b = .frozen) w cc (arr.getD (off * sz + (i * sz + j)) Go.undef) := fun i y j cc hy hj => by
          obtain ⟨hy', hin⟩ := hgk i y hy
          obtain ⟨u, e1, e2, e3⟩ := hcell (off + i) y j cc hy' hj
          rw [Nat.add_mul, Nat.add_assoc] at e1
          have hu : arr.getD (off * sz + (i * sz + j)) Go.undef = u := by
            obtain ⟨hlt, e⟩ := Array.getElem?_eq_some_iff.1 e1
            simp [Array.getD, hlt, e]
          rw [hu]
          exact ⟨e1, e2, e3⟩
        refine .slice ⟨G.blk id, off * sz, none⟩ (fun i j => arr.getD (off * sz + (i * sz + j)) Go.undef) hyl.symm hcap (fun _ => ⟨ha (by omega), by rw [hlend]; exact hrest, (Array.getElem?_eq_some_iff.1 hb).1⟩)
          (fun x hx => hcs x (List.mem_of_mem_drop (List.mem_of_mem_take hx))) (fun i y j cc hy hj => (hg i y j cc hy hj).2.1) (fun i y j cc hy hj => ?_) (fun i y j cc hy hj => ((hg i y j cc hy hj).2.2).mono (calleeG_keeps w) (Nat.le_refl _))
        rw [add_lit, cell_block hb]
        exact (hg i y j cc hy hj).1
  | @ptr id ver off a v o hh hle hoo =>
    simp only [ext0] at he
    obtain ⟨hal, he⟩ := gd_eq he
    obtain ⟨i, hp, he⟩ := ob_eq he
    simp at he
    subst he
    simp only [alive, hh, decide_eq_true_eq] at hal
    obtain ⟨v2, cs, cs', h1, _, _, h4⟩ := root_box hH (posOf_get hp)
    refine .ptr (v := 0) (o := .box cs') (by simp [enterH, h4]) (Nat.le_refl _) fun _ => ?_
    rw [hoo hal.symm]
    simp [calleeG, posOf_get hp]
  | @vptr cs off a ad val ha hf hb h1 hc hr =>
    simp [ext0] at he
    subst he
    exact .vptr ad val ha (calleeG_frozen hf) hb h1 hc fun j c hj => (hr j c hj).mono (calleeG_keeps w) (Nat.le_refl _)
  | @eptr id ver i off a v o hh hle hoo =>
    have hlend := hl rfl
    simp only [ext0, hh] at he
    cases o <;> try (simp only at he; cases he; done)
    rename_i sz xs
    simp only at he
    obtain ⟨rfl, he1⟩ := gd_eq he
    obtain ⟨x, hx, he2⟩ := ob_eq he1
    simp at he2
    subst he2
    obtain ⟨sz2, xs2, e, hlt, ha⟩ := hoo rfl
    simp at e
    obtain ⟨rfl, rfl⟩ := e
    obtain ⟨hcs, hm, hall⟩ := hinv _ _ _ hh
    have hmine : G.kind (G.blk id) = .mine id := by
      rcases hm with h0 | h0
      · rw [h0] at hlt; simp at hlt
      · exact h0
    obtain ⟨hxc, arr, t, hb, has, hcell⟩ := hall hmine
    have hrest := calleeG_rest (R := R) (lend := lend) hmine (.inl (not_root hH hh (by simp)))
    rw [hlend] at hrest
    simp only [if_true] at hrest
    have hg : ∀ (j : Nat) (cc : PV), x.cells[j]? = some cc → arr[i * sz + j]? = some (arr.getD (i * sz + j) Go.undef) ∧ (arr.getD (i * sz + j) Go.undef).oneCell' = true ∧ PRel (fun b => G.kind b = .frozen) w cc (arr.getD (i * sz + j) Go.undef) := fun j cc hj => by
      obtain ⟨u, e1, e2, e3⟩ := hcell i x j cc hx hj
      have hu : arr.getD (i * sz + j) Go.undef = u := by
        obtain ⟨hlt, e⟩ := Array.getElem?_eq_some_iff.1 e1
        simp [Array.getD, hlt, e]
      rw [hu]
      exact ⟨e1, e2, e3⟩
    refine .vptr ⟨G.blk id, i * sz, none⟩ (fun j => arr.getD (i * sz + j) Go.undef) (by rw [ha, add_lit]) (by rw [hlend]; exact hrest) (Array.getElem?_eq_some_iff.1 hb).1 (fun j cc hj => (hg j cc hj).2.1) (fun j cc hj => ?_) (fun j cc hj => (hg j cc hj).2.2.mono (calleeG_keeps w) (Nat.le_refl _))
    rw [add_lit, cell_block hb]
    exact (hg j cc hj).1
  | @mref id ver r v o hh hle hoo =>
    have hlend := hl rfl
    simp only [ext0, ventries, hh] at he
    cases o <;> try (simp only [ob_none] at he; cases he; done)
    rename_i kt ks vs
    simp only at he
    obtain ⟨q, hq, he1⟩ := ob_eq he
    obtain ⟨rfl, hq1⟩ := gd_eq hq
    simp at hq1 he1
    subst hq1
    subst he1
    have hr := hoo rfl
    subst hr
    obtain ⟨hm, es, cl, hb, h3, h4, h5, h6⟩ := hinv _ _ _ hh
    have hrest := calleeG_rest (R := R) (lend := lend) hm (.inl (not_root hH hh (by simp)))
    rw [hlend] at hrest
    simp only [if_true] at hrest
    exact .p (.map (by rw [hlend]; exact hrest) hb h3 h4 h5 fun i v e hv he => (h6 i v e hv he).mono (calleeG_keeps w) (Nat.le_refl _)) rfl
  | fn _ _ => simp [ext0] at he
  | agg _ _ _ => simp [ext0] at he
  | tup _ _ => simp [ext0] at he
  | undef => simp [ext0] at he
  | dead c => simp [ext0] at he

theorem ext1_rel (hinv : HeapInv G h w) (hH : mapO (extBox R h) R = some H) {v v' : VVal} {c : Value} (hv : VRel G h w v c) (hl : lends v = true → lend = true) (he : ext1 R h v = some v') :
    VRel (calleeG G R lend) (enterH H) w v' c := by
  cases hv with
  | @fn f caps arr hlen hr =>
    simp only [ext1] at he
    obtain ⟨cs', hcs, he⟩ := ob_eq he
    simp at he
    subst he
    obtain ⟨h1, h2⟩ := mapO_get hcs
    refine .fn (by omega) fun i v c hv hc => ?_
    obtain ⟨x, hx, hex⟩ := h2 i v hv
    exact ext0_rel hinv hH (hr i x c hx hc) (fun hlx => hl (by simp only [lends, List.any_eq_true]; exact ⟨x, List.mem_of_getElem? hx, hlx⟩)) hex
  | @agg cs arr hlen h1c hr =>
    simp only [ext1] at he
    obtain ⟨cs', hcs, he⟩ := ob_eq he
    simp at he
    subst he
    obtain ⟨h1, h2⟩ := mapO_get hcs
    refine .agg (by omega) h1c fun i v c hv hc => ?_
    obtain ⟨x, hx, hex⟩ := h2 i v hv
    exact ext0_rel hinv hH (hr i x c hx hc) (fun hlx => hl (by simp only [lends, List.any_eq_true]; exact ⟨x, List.mem_of_getElem? hx, hlx⟩)) hex
  | p hp h1 => exact ext0_rel hinv hH (.p hp h1) hl he
  | own hn hcap hh hle hoo => exact ext0_rel hinv hH (.own hn hcap hh hle hoo) hl he
  | ptr hh hle hoo => exact ext0_rel hinv hH (.ptr hh hle hoo) hl he
  | vptr ad val ha hf hb h1 hc hr => exact ext0_rel hinv hH (.vptr ad val ha hf hb h1 hc hr) hl he
  | eptr hh hle hoo => exact ext0_rel hinv hH (.eptr hh hle hoo) hl he
  | mref hh hle hoo => exact ext0_rel hinv hH (.mref hh hle hoo) hl he
  | tup _ _ => simp [ext1, ext0] at he
  | undef => simp [ext1, ext0] at he
  | dead c => simp [ext1, ext0] at he

/-- The callee's objects. -/
theorem enter_inv (hinv : HeapInv G h w) (hn : R.Nodup) (hH : mapO (extBox R h) R = some H) : HeapInv (calleeG G R lend) (enterH H) w := by
  intro id v o hid
  simp only [enterH] at hid
  split at hid <;> try (cases hid; done)
  rename_i i
  simp only [Option.map_eq_some_iff, Prod.mk.injEq] at hid
  obtain ⟨o', ho', rfl, rfl⟩ := hid
  have hilt : i < R.length := by
    have := (mapO_get hH).1
    rw [← this]
    exact (List.getElem?_eq_some_iff.1 ho').1
  have hRi : R[i]? = some R[i] := List.getElem?_eq_getElem hilt
  obtain ⟨v1, cs, cs', h1, h2, h3, h4⟩ := root_box hH hRi
  rw [ho'] at h4
  simp at h4
  subst h4
  obtain ⟨hk, arr, t, hb, hl, h1c, hc⟩ := hinv _ _ _ h1
  have hblk : (calleeG G R lend).blk (.arg i 0) = G.blk R[i] := by simp [calleeG, hRi]
  obtain ⟨e1, e2⟩ := mapO_get h3
  refine ⟨by rw [hblk]; exact calleeG_root hn hRi hk, arr, t, by rw [hblk]; exact hb, by omega, h1c, fun j u c hu hcj => ?_⟩
  obtain ⟨x, hx, hex⟩ := e2 j u hu
  refine ext1_rel hinv hH (hc j x c hx hcj) (fun hlx => ?_) hex
  rw [List.any_eq_false] at h2
  exact absurd hlx (h2 x (List.mem_of_getElem? hx))
end

end Go.V
