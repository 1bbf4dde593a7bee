/- The value machine V against the model: the bytes of a string; all operations but calls. -/
import Derived.Test.YtcljahgcdbohaaaVOpsH
import Derived.Laws.IdiomStrings
set_option linter.unusedSimpArgs false
set_option linter.unusedVariables false
namespace Go.V
open Go.RowKit

/-- A new block that is frozen at once. -/
theorem Step.newFrozen {G : Gh} {h : VHeap} {w w' : World} (hinv : HeapInv G h w) (hsz : w.heap.size ≤ w'.heap.size) (hblk : ∀ b, b < w.heap.size → w'.heap[b]? = w.heap[b]?)
    (hos : w'.os = w.os) (htp : w'.tape = w.tape) (hout : w'.output = w.output) :
    Step G h w { G with kind := fun x => if x = w.heap.size then .frozen else G.kind x } h w' ∧ HeapInv { G with kind := fun x => if x = w.heap.size then .frozen else G.kind x } h w' := by
  have hst : Step G h w { G with kind := fun x => if x = w.heap.size then .frozen else G.kind x } h w' :=
    { frozen := fun b hb hl => ⟨by simp [Nat.ne_of_lt hl, hb], hblk b hl⟩
      other := fun b hb hl => ⟨by simp [Nat.ne_of_lt hl, hb], hblk b hl⟩
      mine := fun b i hl hm => by simpa [Nat.ne_of_lt hl] using hm
      frz := fun b hl hm => .inl (by simpa [Nat.ne_of_lt hl] using hm)
      size := hsz, os := hos, tape := htp, output := hout
      vers := fun i v o' hi => ⟨v, o', hi, Nat.le_refl _, fun _ => ⟨rfl, rfl, by cases o' <;> simp [SameOb], fun sz xs ho' hm => by
        have hlt := blk_lt hinv hi hm (by rw [ho']; simp)
        simp [Nat.ne_of_lt hlt, hm]⟩⟩ }
  refine ⟨hst, fun i v o hi => ?_⟩
  by_cases hg : o = .gone
  · subst hg; trivial
  · refine OBRel.keep hst (hinv i v o hi) rfl rfl (fun hm => ?_) (fun hm => ?_)
    · have hlt := blk_lt hinv hi hm hg
      exact ⟨by simp [Nat.ne_of_lt hlt, hm], hblk _ hlt⟩
    · simp only at hm
      split at hm
      · cases hm
      · exact hm

theorem op_strBytes {P : Program} {vs : List Nat} {n : Nat} {G : Gh} {r : RS} {a : Act} {w : World} (hr : RRel vs n G r a w) (hi : HeapInv G r.h w) {o : Oper} {src dst e : TypeId} {x : Operand} (ho : o.op = .convert src dst x) {y : VArg} (hx : okArg vs x y = true)
    (hs : P.underlying src = some .string) (hd : P.underlying dst = some (.slice e)) (he : P.underlying e = some (.int .u8)) {s : ByteArray} (hl : r.look y = some (.p (.str s))) :
    OpWp P G r.h w a o (.p (.slice 1 (s.data.toList.map fun b => .int .u8 b.toNat))) [] := by
  have h1 := vrel_str (look_rel hr hx hl)
  have hrun := run_bytes_of_string (P := P) w src dst e s hs hd he
  generalize hw' : w.drew.alloc (.cells (bytesRow s (grownCap w s.size 0 e)) e ((bytesRow s (grownCap w s.size 0 e)).size, (bytesRow s (grownCap w s.size 0 e)).size + 1)) = w' at hrun
  have hsz : w.heap.size < w'.heap.size := by rw [← hw']; simp
  have hblk : ∀ b, b < w.heap.size → w'.heap[b]? = w.heap[b]? := fun b hb => by rw [← hw']; exact Below.heap_alloc w.drew _ b hb
  obtain ⟨s1, i1⟩ := Step.newFrozen (G := G) (w' := w') hi (by omega) hblk (by rw [← hw']; rfl) (by rw [← hw']; rfl) (by rw [← hw']; rfl)
  have hge := grownCap_ge w s.size 0 e
  have hcell : ∀ j, j < s.data.size → w'.cell? ⟨w.heap.size, j, none⟩ = some (.int .u8 ((s.data.toList.getD j 0).toNat : Int)) := fun j hj => by
    rw [← hw']
    have := World.cell?_alloc_mark w.drew (bytesRow s (grownCap w s.size 0 e)) e ((bytesRow s (grownCap w s.size 0 e)).size, (bytesRow s (grownCap w s.size 0 e)).size + 1) j
    rw [show (w.drew.heap.size) = w.heap.size from rfl] at this
    rw [this, bytesRow_at s _ j hj]
    simp [List.getD, Array.getElem?_eq_getElem hj]
  have hel : ∀ (i : Nat) (q : PV), (s.data.toList.map fun b => PV.int .u8 b.toNat)[i]? = some q → q = .int .u8 ((s.data.toList.getD i 0).toNat : Int) ∧ i < s.data.size := fun i q hq => by
    simp only [List.getElem?_map, Option.map_eq_some_iff] at hq
    obtain ⟨b, hb, rfl⟩ := hq
    have hlt := (List.getElem?_eq_some_iff.1 hb).1
    exact ⟨by simp [List.getD, hb], by simpa using hlt⟩
  refine opWp_value (G' := _) (c := .slice (some ⟨w.heap.size, 0, none⟩) s.size (grownCap w s.size 0 e)) (w' := w') ?_ s1 i1 (.p (.slice ⟨w.heap.size, 0, none⟩ (fun i _ => .int .u8 ((s.data.toList.getD i 0).toNat : Int)) ?_ hge (fun _ => ⟨rfl, by simp, hsz⟩) (fun q hq => ?_) (fun _ _ _ _ _ _ => rfl) (fun i q j c hq hj => ?_) (fun i q j c hq hj => ?_)) rfl)
  · unfold execOp
    rw [ho]
    show (Sem.bind (convert src dst (a.eval x)) fun c => Sem.pure (Next.value c)).run P w = _
    rw [h1]
    have := Sem.run_bind (P := P) (w := w) (convert src dst (.string s)) (fun c => (Sem.pure (Next.value c) : Sem Next))
    refine Eq.trans this ?_
    rw [hrun]
    rfl
  · rw [List.length_map, Array.length_toList]
    rfl
  · simp only [List.mem_map] at hq
    obtain ⟨b, _, rfl⟩ := hq
    rfl
  · obtain ⟨rfl, hlt⟩ := hel i q hq
    cases j with
    | zero => rw [add_lit]; simp only [Nat.zero_add, Nat.mul_one, Nat.add_zero]; exact hcell i hlt
    | succ j => simp [PV.cells] at hj
  · obtain ⟨rfl, hlt⟩ := hel i q hq
    cases j with
    | zero => simp only [PV.cells, List.getElem?_cons_zero, Option.some.injEq] at hj; rw [← hj]; exact .int _ _
    | succ j => simp [PV.cells] at hj

end Go.V
