/- The value machine V against the model: lists of parts as arguments of a law. -/
import Derived.Test.YtdmghfmdcfagcaaVFitT
import Derived.Test.YtdmghfmdcfagcaaVRA
set_option linter.unusedSimpArgs false
set_option linter.unusedVariables false
namespace Go.V
open Go.RowKit

structure PartT (P : Program) (ts tp ti : TypeId) : Prop where
  s : P.underlying ts = some (.slice tp)
  sc : P.cellsOf ts = 1
  p : structSpec P tp = some [(ti, 0), (ti, 1), (ti, 2), (ti, 3), (ti, 4)]
  pc : P.cellsOf tp = 5
  i : P.underlying ti = some (.int .i64)
  ic : P.cellsOf ti = 1
theorem FitV.parts {P : Program} {k : Nat} {ts tp ti : TypeId} (h : PartT P ts tp ti) {u : VVal} (hu : FitV P (k + 2) ts u) : ∃ l : List Pt, u = .p (ptsP l) := by
  obtain ⟨d, hx, rfl⟩ := hu.flat (slice_no h.s)
  obtain ⟨l, e, _⟩ := hx.list (enc := Pt.pv) (Q := fun _ => True) h.s h.p h.pc (fun x hx => by
    obtain ⟨h1, h2⟩ := hx.struct h.p
    rw [h.pc] at h1
    match x, h1 with
    | [a, b, c, d, e], _ =>
      have q0 := h2 (ti, 0) (by simp)
      have q1 := h2 (ti, 1) (by simp)
      have q2 := h2 (ti, 2) (by simp)
      have q3 := h2 (ti, 3) (by simp)
      have q4 := h2 (ti, 4) (by simp)
      simp only [h.ic, List.drop_zero, List.drop_succ_cons, List.take_succ_cons, List.take_zero] at q0 q1 q2 q3 q4
      obtain ⟨n0, e0, w0⟩ := q0.int h.i
      obtain ⟨n1, e1, w1⟩ := q1.int h.i
      obtain ⟨n2, e2, w2⟩ := q2.int h.i
      obtain ⟨n3, e3, w3⟩ := q3.int h.i
      obtain ⟨n4, e4, w4⟩ := q4.int h.i
      simp only [List.cons.injEq, and_true] at e0 e1 e2 e3 e4
      subst e0 e1 e2 e3 e4
      exact ⟨⟨n0, n1, n2, n3, n4⟩, rfl, trivial⟩)
  simp only [List.cons.injEq, and_true] at e
  subst e
  exact ⟨l, rfl⟩
end Go.V

