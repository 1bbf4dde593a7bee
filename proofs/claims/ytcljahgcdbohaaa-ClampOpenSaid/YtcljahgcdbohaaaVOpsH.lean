/- The value machine V against the model: slices of slices and of strings, the bytes of a string. -/
import Derived.Test.YtcljahgcdbohaaaVOpsG
set_option linter.unusedSimpArgs false
set_option linter.unusedVariables false
namespace Go.V
open Go.RowKit

/-- A bound of a slice expression. -/
def OptInt (v : Option Value) (dflt x : Nat) : Prop := (v = none ∧ x = dflt) ∨ ∃ (k : IntKind) (i : Int), v = some (.int k i) ∧ 0 ≤ i ∧ i.toNat = x

theorem run_bounds2 {P : Program} {w : World} (isSlice : Bool) {len cap l m : Nat} {lo hi : Option Value} (hl : OptInt lo 0 l) (hh : OptInt hi len m) (h1 : l ≤ m) (h2 : m ≤ len) (h3 : len ≤ cap) :
    (Instr.sliceBounds isSlice len cap lo hi none).run P w = .ok (l, m, cap) w := by
  rcases hl with ⟨rfl, rfl⟩ | ⟨k, i, rfl, hi0, rfl⟩ <;> rcases hh with ⟨rfl, rfl⟩ | ⟨k', i', rfl, hi0', rfl⟩
  · simp [Instr.sliceBounds]
  · have : i' ≤ (cap : Int) := by omega
    simp [Instr.sliceBounds, Instr.sliceBound, asIntOf, hi0', this]
  · have : i ≤ (m : Int) := by omega
    simp [Instr.sliceBounds, Instr.sliceBound, asIntOf, hi0, this]
  · have e1 : i' ≤ (cap : Int) := by omega
    have e2 : i ≤ ((i'.toNat : Nat) : Int) := by omega
    simp only [Instr.sliceBounds, Instr.sliceBound, asIntOf, hi0, hi0', e1, e2, Sem.run_bind, Sem.run_pure, Result.andThen_ok, and_self, if_true]

theorem run_bounds3 {P : Program} {w : World} {len cap l : Nat} {lo hi mx : Option Value} (hl : OptInt lo 0 l) (hh : OptInt hi len l) (hhi : hi.isSome = true) (hm : ∃ (k : IntKind) (i : Int), mx = some (.int k i) ∧ 0 ≤ i ∧ i.toNat = l) (h2 : l ≤ len) (h3 : len ≤ cap) :
    (Instr.sliceBounds true len cap lo hi mx).run P w = .ok (l, l, l) w := by
  obtain ⟨k2, i2, rfl, hi2, he2⟩ := hm
  have e3 : i2 ≤ (cap : Int) := by omega
  rcases hh with ⟨rfl, rfl⟩ | ⟨k', i', rfl, hi0', he'⟩
  · simp at hhi
  · have e1 : i' ≤ (l : Int) := by omega
    rcases hl with ⟨rfl, h0⟩ | ⟨k, i, rfl, hi0, he⟩
    · simp only [Instr.sliceBounds, Instr.sliceBound, asIntOf, hi0', hi2, e3, Sem.run_bind, Sem.run_pure, Result.andThen_ok, and_self, if_true, he2, he', e1, h0]
      subst h0
      have : i' ≤ 0 := by omega
      simp [this]
    · have e2 : i ≤ (l : Int) := by omega
      simp only [Instr.sliceBounds, Instr.sliceBound, asIntOf, hi0, hi0', hi2, e1, e2, e3, Sem.run_bind, Sem.run_pure, Result.andThen_ok, and_self, if_true, he2, he', he]

section
variable {P : Program} {vs : List Nat} {n : Nat} {G : Gh} {r : RS} {a : Act} {w : World} (hr : RRel vs n G r a w) (hi : HeapInv G r.h w) {o : Oper} (d : Nat)
include hr

theorem natOf_sound {y : VArg} {x : Operand} (hx : okArg vs x y = true) {v : VVal} {m : Nat} (hl : r.look y = some v) (hm : natOf v = some m) : ∃ (k : IntKind) (i : Int), a.eval x = .int k i ∧ 0 ≤ i ∧ i.toNat = m := by
  have h1 := look_rel hr hx hl
  unfold natOf at hm
  split at hm
  · obtain ⟨h0, hm2⟩ := gd_eq hm
    simp at hm2
    exact ⟨_, _, vrel_int h1, h0, hm2⟩
  · cases hm

theorem optNat_sound {y : Option VArg} {x : Option Operand} (hx : okOpt vs x y = true) {dflt m : Nat} (hm : optNat r.look dflt y = some m) : OptInt (x.map a.eval) dflt m := by
  cases y with
  | none =>
    cases x with
    | none => simp [optNat] at hm; exact .inl ⟨rfl, hm.symm⟩
    | some x => simp [okOpt] at hx
  | some y =>
    cases x with
    | none => simp [okOpt] at hx
    | some x =>
      simp only [optNat] at hm
      obtain ⟨v, hv, hm2⟩ := ob_eq hm
      obtain ⟨k, i, h1, h2, h3⟩ := natOf_sound hr (by simpa [okOpt] using hx) hv hm2
      exact .inr ⟨k, i, by simp [h1], h2, h3⟩

include hi

theorem op_sliceS {t : TypeId} {x : Operand} {lo hi' mx : Option Operand} (ho : o.op = .slice t x lo hi' mx) (hmx : mx = none) {y : VArg} {lo' hi2 : Option VArg} (hx : okArg vs x y = true) (hlo : okOpt vs lo lo' = true) (hhi : okOpt vs hi' hi2 = true) (hu : P.underlying t = some .string) {v val : VVal} {us : List (Id × Nat × Ob)}
    (hl : r.look y = some v) (hv : vsliceS r.look lo' hi2 v = some (val, us)) : OpWp P G r.h w a o val us := by
  obtain ⟨n0, hn0, hv2⟩ := ob_eq hv
  obtain ⟨l, hl0, hv3⟩ := ob_eq hv2
  obtain ⟨m, hm0, hv4⟩ := ob_eq hv3
  obtain ⟨h1, hv5⟩ := gd_eq hv4
  obtain ⟨h2, hv6⟩ := gd_eq hv5
  unfold vcutS at hv6
  split at hv6
  · rename_i s
    simp at hv6
    obtain ⟨rfl, rfl⟩ := hv6
    simp [vlenS] at hn0
    subst hn0
    have hs := vrel_str (look_rel hr hx hl)
    refine opWp_silent (c := .string (s.extract l m)) ?_ hi (vrel_mkStr _)
    have hb := run_bounds2 (P := P) (w := w) false (optNat_sound hr hlo hl0) (optNat_sound hr hhi hm0) h1 h2 (Nat.le_refl _)
    subst hmx
    simp [execOp, ho, Instr.sliceAt, Instr.slice, run_underlying hu, hs, hb]
  · cases hv6

theorem op_slice {t e : TypeId} {x : Operand} {lo hi' mx : Option Operand} (ho : o.op = .slice t x lo hi' mx) (hmx : mx = none ∨ hi'.isSome = true) {y : VArg} {lo' hi2 mx' : Option VArg} (hx : okArg vs x y = true) (hlo : okOpt vs lo lo' = true) (hhi : okOpt vs hi' hi2 = true) (hmm : okOpt vs mx mx' = true)
    (hu : P.underlying t = some (.slice e)) {sz : Nat} (hsz : szIs P e sz = true) {v val : VVal} {us : List (Id × Nat × Ob)} (hl : r.look y = some v) (hv : vslice d r.h r.look sz lo' hi2 mx' v = some (val, us)) : OpWp P G r.h w a o val us := by
  obtain ⟨n0, hn0, hv2⟩ := ob_eq hv
  obtain ⟨l, hl0, hv3⟩ := ob_eq hv2
  obtain ⟨m, hm0, hv4⟩ := ob_eq hv3
  obtain ⟨h1, hv5⟩ := gd_eq hv4
  obtain ⟨h2, hv6⟩ := gd_eq hv5
  clear hv hv2 hv3 hv4 hv5
  have hxv := look_rel hr hx hl
  obtain ⟨ad, cap, hc, hcap⟩ := vlen_slice hxv hn0
  have o1 := optNat_sound hr hlo hl0
  have o2 := optNat_sound hr hhi hm0
  cases mx' with
  | none =>
    have hmx0 : mx = none := by cases mx <;> simp_all [okOpt]
    subst hmx0
    simp only [vcut3] at hv6
    have hb := run_bounds2 (P := P) (w := w) true o1 o2 h1 h2 hcap
    have hrun : (execOp a.eval o).run P w = .ok (.value (.slice (if cap = l then ad else ad.map (·.add (l * sz))) (m - l) (cap - l))) w := by
      simp [execOp, ho, Instr.sliceAt, Instr.slice, run_underlying hu, hc, hb, run_sizeOf hsz]
    rw [hc] at hxv
    cases hxv with
    | @p dd c hp hone =>
      cases hp with
      | @slice sz' xs _ _ _ ad' val' hn hcap' ha hszs h1' hcell hrel =>
        simp only [vcut] at hv6
        obtain ⟨rfl, hv7⟩ := gd_eq hv6
        simp at hv7
        obtain ⟨rfl, rfl⟩ := hv7
        refine opWp_silent (c := _) hrun hi (.p (.slice (ad'.add (l * sz')) (fun i j => val' (l + i) j) (by simp; omega) (by omega) (fun h0 => ?_) (fun q hq => hszs q (List.mem_of_mem_drop (List.mem_of_mem_take hq))) (fun i q j c hq hj => ?_) (fun i q j c hq hj => ?_) (fun i q j c hq hj => ?_)) rfl)
        · obtain ⟨e1, e2, e3⟩ := ha (by omega)
          refine ⟨?_, by rw [add_block]; exact e2, by rw [add_block]; exact e3⟩
          rw [if_neg (by omega), e1]
          rfl
        all_goals
          rw [List.getElem?_take] at hq
          split at hq
          · rw [List.getElem?_drop] at hq
            first
            | exact h1' _ _ _ _ hq hj
            | exact hrel _ _ _ _ hq hj
            | (rw [add_add]
               have := hcell _ _ _ _ hq hj
               rw [Nat.add_mul, Nat.add_assoc] at this
               exact this)
          · cases hq
      | _ => simp [vcut] at hv6
    | @own id ver off len _ n' _ v' o' hn hcap' hh hle hoo =>
      simp only [vcut, hh] at hv6
      cases o' with
      | arr sz' xs =>
        simp only at hv6
        obtain ⟨rfl, hv7⟩ := gd_eq hv6
        obtain ⟨rfl, hv8⟩ := gd_eq hv7
        simp at hv8
        obtain ⟨rfl, rfl⟩ := hv8
        simp [vlen] at hn0
        subst hn0
        obtain ⟨sz2, xs2, he, hlen, hreal⟩ := hoo rfl
        simp at he
        obtain ⟨rfl, rfl⟩ := he
        refine opWp_silent (c := _) hrun hi (.own rfl (by omega) hh (Nat.le_refl _) fun _ => ⟨sz', xs, rfl, by omega, ?_⟩)
        rcases hreal with ⟨g1, g2⟩ | ⟨g1, g2, g3⟩
        · exact .inl ⟨by omega, by omega⟩
        · refine .inr ⟨g1, by omega, fun h0 => ?_⟩
          rw [if_neg (by omega), g3 (by omega)]
          simp only [Option.map_some, add_lit, Nat.add_mul]
      | _ => simp at hv6
    | _ => simp [vcut] at hv6
  | some xm =>
    simp only [vcut3] at hv6
    obtain ⟨vm, hvm, hv7⟩ := ob_eq hv6
    obtain ⟨k, hk, hv8⟩ := ob_eq hv7
    obtain ⟨rfl, hv9⟩ := gd_eq hv8
    obtain ⟨rfl, hv10⟩ := gd_eq hv9
    simp [vcut0] at hv10
    obtain ⟨rfl, rfl⟩ := hv10
    cases mx with
    | none => simp [okOpt] at hmm
    | some x3 =>
      obtain ⟨k3, i3, q1, q2, q3⟩ := natOf_sound hr (by simpa [okOpt] using hmm) hvm hk
      have hsome : (Option.map a.eval hi').isSome = true := by
        rcases hmx with h | h
        · simp at h
        · simpa using h
      have hb := run_bounds3 (P := P) (w := w) (mx := some (a.eval x3)) o1 o2 hsome ⟨k3, i3, by rw [q1], q2, q3⟩ h2 hcap
      obtain ⟨G', s1, i1, v1⟩ := new_nil hi (.slot d 0) sz ad
      refine opWp_value (G' := G') (c := .slice ad 0 0) ?_ s1 i1 v1
      simp [execOp, ho, Instr.sliceAt, Instr.slice, run_underlying hu, hc, hb, run_sizeOf hsz]
end

end Go.V
