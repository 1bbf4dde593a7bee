/- The value machine V against the model: new objects, and objects that are written. -/
import Derived.Test.YtcljahgcdbohaaaVOpsC
set_option linter.unusedSimpArgs false
set_option linter.unusedVariables false
namespace Go.V
open Go.RowKit

def Gh.set (G : Gh) (id : Id) (b : Nat) (k : Kind) (cap : Nat) : Gh :=
  { kind := fun x => if x = b then k else G.kind x, blk := fun i => if i = id then b else G.blk i, cap := fun i => if i = id then cap else G.cap i }

theorem upd_same (h : VHeap) (id : Id) (o : Nat × Ob) : h.upd id o id = some o := by simp [VHeap.upd]
theorem upd_other (h : VHeap) {id i : Id} (o : Nat × Ob) (hne : i ≠ id) : h.upd id o i = h i := by simp [VHeap.upd, hne]
theorem nv_gt {h : VHeap} {id : Id} {v : Nat} {o : Ob} (hh : h id = some (v, o)) : nv (h id) = v + 1 := by simp [nv, hh]
theorem upds_append (h : VHeap) (us vs : List (Id × Nat × Ob)) : h.upds (us ++ vs) = (h.upds us).upds vs := by
  induction us generalizing h with
  | nil => rfl
  | cons u us ih => obtain ⟨id, o⟩ := u; exact ih _

theorem blk_lt {G : Gh} {h : VHeap} {w : World} (hi : HeapInv G h w) {id : Id} {v : Nat} {o : Ob} (hh : h id = some (v, o)) (hm : G.kind (G.blk id) = .mine id) (hg : o ≠ .gone) : G.blk id < w.heap.size := by
  have := hi id v o hh
  cases o with
  | box cs => obtain ⟨_, arr, t, hb, _⟩ := this; exact (Array.getElem?_eq_some_iff.1 hb).1
  | arr sz xs => obtain ⟨_, _, h3⟩ := this; obtain ⟨_, arr, t, hb, _⟩ := h3 hm; exact (Array.getElem?_eq_some_iff.1 hb).1
  | map kt ks vs => obtain ⟨_, es, c, hb, _⟩ := this; exact (Array.getElem?_eq_some_iff.1 hb).1
  | gone => exact absurd rfl hg

/-- An object that was not touched. -/
theorem OBRel.keep {G G' : Gh} {h h' : VHeap} {w w' : World} (s : Step G h w G' h' w') {id : Id} {o : Ob} (ho : OBRel G h w id o) (hb : G'.blk id = G.blk id) (hc : G'.cap id = G.cap id)
    (hk : G.kind (G.blk id) = .mine id → G'.kind (G.blk id) = .mine id ∧ w'.heap[G.blk id]? = w.heap[G.blk id]?) (hk' : G'.kind (G.blk id) = .mine id → G.kind (G.blk id) = .mine id) : OBRel G' h' w' id o := by
  cases o with
  | box cs =>
    obtain ⟨h1, arr, t, h2, h3, h4, h5⟩ := ho
    have := hk h1
    exact ⟨by rw [hb]; exact this.1, arr, t, by rw [hb]; exact this.2.trans h2, h3, h4, fun i v c hv hc => (h5 i v c hv hc).mono s⟩
  | arr sz xs =>
    obtain ⟨h1, h2, h3⟩ := ho
    refine ⟨h1, ?_, fun hm => ?_⟩
    · rcases h2 with h2 | h2
      · exact .inl h2
      · exact .inr (by rw [hb]; exact (hk h2).1)
    · rw [hb] at hm
      have hm' := hk' hm
      obtain ⟨a1, arr, t, a2, a3, a4⟩ := h3 hm'
      rw [hb, hc]
      refine ⟨a1, arr, t, (hk hm').2.trans a2, a3, fun i x j c hx hj => ?_⟩
      obtain ⟨v, b1, b2, b3⟩ := a4 i x j c hx hj
      exact ⟨v, b1, b2, b3.mono s.keeps s.size⟩
  | map kt ks vs =>
    obtain ⟨h1, es, c, h2, h3, h4, h5, h6⟩ := ho
    have := hk h1
    exact ⟨by rw [hb]; exact this.1, es, c, by rw [hb]; exact this.2.trans h2, h3, h4, h5, fun i v e hv he => (h6 i v e hv he).mono s.keeps s.size⟩
  | gone => trivial

/-- A step to a world that holds all that was there; of the ghost a new version of one object, in a block that was not there, is set. -/
theorem Step.newOb {G : Gh} {h : VHeap} {w w' : World} (hinv : HeapInv G h w) (id : Id) (k : Kind) (cap : Nat) (o : Ob) (hsz : w.heap.size ≤ w'.heap.size) (hblk : ∀ b, b < w.heap.size → w'.heap[b]? = w.heap[b]?)
    (hos : w'.os = w.os) (htp : w'.tape = w.tape) (hout : w'.output = w.output) : Step G h w (G.set id w.heap.size k cap) (h.upd id (nv (h id), o)) w' where
  frozen := fun b hb hl => ⟨by simp [Gh.set, Nat.ne_of_lt hl, hb], hblk b hl⟩
  other := fun b hb hl => ⟨by simp [Gh.set, Nat.ne_of_lt hl, hb], hblk b hl⟩
  mine := fun b i hl hm => by simpa [Gh.set, Nat.ne_of_lt hl] using hm
  frz := fun b hl hm => .inl (by simpa [Gh.set, Nat.ne_of_lt hl] using hm)
  size := hsz
  os := hos
  tape := htp
  output := hout
  vers := fun i v o' hi => by
    by_cases he : i = id
    · subst he
      exact ⟨nv (h i), o, upd_same _ _ _, by rw [nv_gt hi]; omega, fun e => by rw [nv_gt hi] at e; omega⟩
    · refine ⟨v, o', by rw [upd_other _ _ he]; exact hi, Nat.le_refl _, fun _ => ⟨by simp [Gh.set, he], by simp [Gh.set, he], by cases o' <;> simp [SameOb], fun sz xs ho' hm => ?_⟩⟩
      have hlt := blk_lt hinv hi hm (by rw [ho']; simp)
      simp [Gh.set, Nat.ne_of_lt hlt, hm]

/-- The objects behind such a step. -/
theorem HeapInv.newOb {G : Gh} {h : VHeap} {w w' : World} (hinv : HeapInv G h w) (id : Id) (k : Kind) (cap : Nat) (o : Ob) (hsz : w.heap.size ≤ w'.heap.size) (hblk : ∀ b, b < w.heap.size → w'.heap[b]? = w.heap[b]?)
    (hos : w'.os = w.os) (htp : w'.tape = w.tape) (hout : w'.output = w.output) (hk : k = .other ∨ k = .mine id) (hnew : OBRel (G.set id w.heap.size k cap) (h.upd id (nv (h id), o)) w' id o) :
    HeapInv (G.set id w.heap.size k cap) (h.upd id (nv (h id), o)) w' := by
  intro i v o' hi
  by_cases he : i = id
  · subst he
    rw [upd_same] at hi
    simp at hi
    obtain ⟨_, rfl⟩ := hi
    exact hnew
  · rw [upd_other _ _ he] at hi
    have hst := Step.newOb (G := G) hinv id k cap o hsz hblk hos htp hout
    by_cases hg : o' = .gone
    · subst hg; trivial
    · refine OBRel.keep hst (hinv i v o' hi) (by simp [Gh.set, he]) (by simp [Gh.set, he]) (fun hm => ?_) (fun hm => ?_)
      · have hlt := blk_lt hinv hi hm hg
        exact ⟨by simp [Gh.set, Nat.ne_of_lt hlt, hm], hblk _ hlt⟩
      · simp only [Gh.set] at hm
        split at hm
        · rcases hk with rfl | rfl
          · simp at hm
          · simp at hm; exact absurd hm.symm he
        · exact hm

/-- A new block of cells. -/
theorem new_box {G : Gh} {h : VHeap} {w : World} (hinv : HeapInv G h w) (id : Id) {cs : List VVal} {arr : Array Value} (t : TypeId) (hl : cs.length = arr.size) (h1 : ∀ (i : Nat) (c : Value), arr[i]? = some c → c.oneCell' = true)
    (hr : ∀ (i : Nat) (v : VVal) (c : Value), cs[i]? = some v → arr[i]? = some c → VRel G h w v c) :
    Step G h w (G.set id w.heap.size (.mine id) 0) (h.upd id (nv (h id), .box cs)) (w.alloc (.cells arr t)) ∧ HeapInv (G.set id w.heap.size (.mine id) 0) (h.upd id (nv (h id), .box cs)) (w.alloc (.cells arr t)) ∧
    VRel (G.set id w.heap.size (.mine id) 0) (h.upd id (nv (h id), .box cs)) (w.alloc (.cells arr t)) (.ptr id (nv (h id)) 0) (.pointer (some ⟨w.heap.size, 0, none⟩)) := by
  have hblk : ∀ b, b < w.heap.size → (w.alloc (.cells arr t)).heap[b]? = w.heap[b]? := fun b hb => Below.heap_alloc w _ b hb
  have hst := Step.newOb (G := G) hinv id (.mine id) 0 (.box cs) (by simp) hblk rfl rfl rfl
  refine ⟨hst, HeapInv.newOb hinv id (.mine id) 0 (.box cs) (by simp) hblk rfl rfl rfl (.inr rfl) ⟨by simp [Gh.set], arr, t, ?_, hl, h1, fun i v c hv hc => (hr i v c hv hc).mono hst⟩, .ptr (upd_same _ _ _) (Nat.le_refl _) fun _ => by simp [Gh.set]⟩
  simp only [Gh.set, if_true]
  exact heap_alloc_new w _

/-- A nil slice: an array that is not there yet. -/
theorem new_nil {G : Gh} {h : VHeap} {w : World} (hinv : HeapInv G h w) (id : Id) (sz : Nat) (a : Option Addr) :
    ∃ G', Step G h w G' (h.upd id (nv (h id), .arr sz [])) w ∧ HeapInv G' (h.upd id (nv (h id), .arr sz [])) w ∧ VRel G' (h.upd id (nv (h id), .arr sz [])) w (.own id (nv (h id)) 0 0) (.slice a 0 0) := by
  refine ⟨G.set id w.heap.size .other 0, Step.newOb hinv id .other 0 _ (Nat.le_refl _) (fun _ _ => rfl) rfl rfl rfl, HeapInv.newOb hinv id .other 0 _ (Nat.le_refl _) (fun _ _ => rfl) rfl rfl rfl (.inl rfl) ⟨by simp, .inl rfl, fun hm => ?_⟩, .own rfl (Nat.le_refl _) (upd_same _ _ _) (Nat.le_refl _) fun _ => ⟨sz, [], rfl, by simp, .inl ⟨rfl, rfl⟩⟩⟩
  simp [Gh.set] at hm

/-- A new array, in a new block. -/
theorem new_arr {G : Gh} {h : VHeap} {w w' : World} (hinv : HeapInv G h w) (id : Id) (sz : Nat) (xs : List PV) (cap : Nat) {arr : Array Value} {t : TypeId} (hsz : w.heap.size ≤ w'.heap.size) (hblk : ∀ b, b < w.heap.size → w'.heap[b]? = w.heap[b]?)
    (hos : w'.os = w.os) (htp : w'.tape = w.tape) (hout : w'.output = w.output) (hb : w'.heap[w.heap.size]? = some (.cells arr t (0, 0))) (hcs : ∀ x ∈ xs, x.cells.length = sz) (hle : xs.length ≤ cap) (has : arr.size = cap * sz)
    (hc : ∀ (i : Nat) (x : PV) (j : Nat) (c : PV), xs[i]? = some x → x.cells[j]? = some c → ∃ v, arr[i * sz + j]? = some v ∧ v.oneCell' = true ∧ PRel (fun b => G.kind b = .frozen) w c v) :
    ∃ G', Step G h w G' (h.upd id (nv (h id), .arr sz xs)) w' ∧ HeapInv G' (h.upd id (nv (h id), .arr sz xs)) w' ∧ VRel G' (h.upd id (nv (h id), .arr sz xs)) w' (.own id (nv (h id)) 0 xs.length) (.slice (some ⟨w.heap.size, 0, none⟩) xs.length cap) := by
  have hst := Step.newOb (G := G) hinv id (.mine id) cap (.arr sz xs) hsz hblk hos htp hout
  refine ⟨G.set id w.heap.size (.mine id) cap, hst, HeapInv.newOb hinv id (.mine id) cap _ hsz hblk hos htp hout (.inr rfl) ⟨hcs, .inr (by simp [Gh.set]), fun _ => ⟨by simpa [Gh.set] using hle, arr, t, by simpa [Gh.set] using hb, by simpa [Gh.set] using has, fun i x j c hx hj => ?_⟩⟩, .own rfl hle (upd_same _ _ _) (Nat.le_refl _) fun _ => ⟨sz, xs, rfl, by simp, .inr ⟨by simp [Gh.set], by simp [Gh.set], fun _ => by simp [Gh.set]⟩⟩⟩
  obtain ⟨v, h1, h2, h3⟩ := hc i x j c hx hj
  exact ⟨v, h1, h2, h3.mono hst.keeps hst.size⟩

/-! ### objects that are written -/

/-- An object is written in its own block: versions stay. -/
theorem Step.write {G : Gh} {h : VHeap} {w w' : World} (id : Id) {v : Nat} {o o' : Ob} (hh : h id = some (v, o)) (hm : G.kind (G.blk id) = .mine id) (hs : SameOb o o') (hsz : w.heap.size = w'.heap.size) (hblk : ∀ b, b ≠ G.blk id → w'.heap[b]? = w.heap[b]?)
    (hos : w'.os = w.os) (htp : w'.tape = w.tape) (hout : w'.output = w.output) : Step G h w G (h.upd id (v, o')) w' where
  frozen := fun b hb _ => ⟨hb, hblk b (fun e => by rw [e, hm] at hb; cases hb)⟩
  other := fun b hb _ => ⟨hb, hblk b (fun e => by rw [e, hm] at hb; cases hb)⟩
  mine := fun _ _ _ h => h
  frz := fun _ _ h => .inl h
  size := by omega
  os := hos
  tape := htp
  output := hout
  vers := fun i v' o2 hi => by
    by_cases he : i = id
    · subst he
      rw [hh] at hi
      simp at hi
      obtain ⟨rfl, rfl⟩ := hi
      exact ⟨v, o', upd_same _ _ _, Nat.le_refl _, fun _ => ⟨rfl, rfl, hs, fun _ _ _ h => h⟩⟩
    · exact ⟨v', o2, by rw [upd_other _ _ he]; exact hi, Nat.le_refl _, fun _ => ⟨rfl, rfl, by cases o2 <;> simp [SameOb], fun _ _ _ h => h⟩⟩

theorem HeapInv.write {G : Gh} {h : VHeap} {w w' : World} (hinv : HeapInv G h w) (id : Id) {v : Nat} {o' : Ob} (hst : Step G h w G (h.upd id (v, o')) w') (hm : G.kind (G.blk id) = .mine id) (hblk : ∀ b, b ≠ G.blk id → w'.heap[b]? = w.heap[b]?)
    (hnew : OBRel G (h.upd id (v, o')) w' id o') : HeapInv G (h.upd id (v, o')) w' := by
  intro i v' o2 hi
  by_cases he : i = id
  · subst he
    rw [upd_same] at hi
    simp at hi
    obtain ⟨_, rfl⟩ := hi
    exact hnew
  · rw [upd_other _ _ he] at hi
    refine OBRel.keep hst (hinv i v' o2 hi) rfl rfl (fun hm' => ⟨hm', hblk _ (fun e => ?_)⟩) (fun h => h)
    rw [e, hm] at hm'
    simp at hm'
    exact he hm'.symm

end Go.V
