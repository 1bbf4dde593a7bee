/- The value machine V against the model: every operation. -/
import Derived.Test.YtcljahgcdbohaaaVCallE
set_option linter.unusedSimpArgs false
set_option linter.unusedVariables false
namespace Go.V
open Go.RowKit

theorem okApp_eq {P : Program} {ts : Array TypeId} {sz bytes : Nat} (h : okOp.okApp P ts sz bytes = true) : ∃ t e i z, ts.toList = [t, t] ∧ P.underlying t = some (.slice e) ∧ P.info? e = some i ∧ i.size = sz ∧ i.bytes = bytes ∧ i.zero = some z ∧ z.cells.size = i.size := by
  unfold okOp.okApp at h
  split at h <;> try (cases h; done)
  rename_i t t' hts
  simp only [Bool.and_eq_true, beq_iff_eq] at h
  obtain ⟨rfl, h⟩ := h
  split at h <;> try (cases h; done)
  rename_i e hu
  split at h <;> try (cases h; done)
  rename_i i hi
  split at h <;> try (simp at h; done)
  rename_i z hz
  simp at h
  exact ⟨t, e, i, z, hts, hu, hi, h.1.1.1, h.1.1.2, hz, by omega⟩

theorem okArgs_one {vs : List Nat} {xs : List Operand} {y : VArg} (h : okArgs vs xs [y] = true) : ∃ x, xs = [x] ∧ okArg vs x y = true := by
  match xs, h with
  | [x], h => simp [okArgs] at h; exact ⟨x, rfl, h⟩
  | [], h => simp [okArgs] at h
  | _ :: _ :: _, h => simp [okArgs] at h
theorem okArgs_two {vs : List Nat} {xs : List Operand} {y z : VArg} (h : okArgs vs xs [y, z] = true) : ∃ x x', xs = [x, x'] ∧ okArg vs x y = true ∧ okArg vs x' z = true := by
  match xs, h with
  | [x, x'], h => simp [okArgs] at h; exact ⟨x, x', rfl, h.1, h.2⟩
  | [], h => simp [okArgs] at h
  | [_], h => simp [okArgs] at h
  | _ :: _ :: _ :: _, h => simp [okArgs] at h

theorem run_callFunc {P : Program} {f : FuncId} (h : hasBody P f = true) (args : Array Value) (w : World) : (callFunc f args).run P w = .ok (.enter f args) w := by
  unfold hasBody at h
  cases hf : P.funcs[f]? with
  | none => simp [hf] at h
  | some fn =>
    simp [hf] at h
    obtain ⟨h1, h2⟩ := h
    obtain ⟨b, hb⟩ := Option.isSome_iff_exists.1 h1
    simp [callFunc, hf, h2, hb]

theorem evalOp_sound {P : Program} {Γ : Sig} (hΓ : CallsSound P Γ) {vs : List Nat} {n : Nat} {G : Gh} {r : RS} {a : Act} {w : World} (hr : RRel vs n G r a w) (hi : HeapInv G r.h w) {o : Oper} {op : Op} (hop : o.op = op) {ty : TypeId} {b : Bool} {v : VOp} (hok : okOp P vs b op ty v = true) {d : Nat} {val : VVal} {us : List (Id × Nat × Ob)} (he : evalOp Γ r.look r.h d v = some (val, us)) : OpWp P G r.h w a o val us := by
  unfold okOp at hok
  split at hok
  case h_1 x y =>
    simp only [evalOp] at he
    obtain ⟨u, hu, he⟩ := ob_eq he
    simp at he
    obtain ⟨rfl, rfl⟩ := he
    exact op_move hr hi (.inl hop) hok hu
  case h_2 x y =>
    simp only [evalOp] at he
    obtain ⟨u, hu, he⟩ := ob_eq he
    simp at he
    obtain ⟨rfl, rfl⟩ := he
    exact op_move hr hi (.inr hop) hok hu
  case h_3 sz =>
    simp only [evalOp] at he
    simp at he
    obtain ⟨rfl, rfl⟩ := he
    exact op_newArr hi d (.inl hop) sz
  case h_4 sz =>
    simp only [evalOp] at he
    simp at he
    obtain ⟨rfl, rfl⟩ := he
    exact op_newArr hi d (.inr hop) sz
  case h_5 c x y c' x' y' =>
    simp only [Bool.and_eq_true] at hok
    simp only [evalOp] at he
    obtain ⟨u, hu, he⟩ := ob_eq he
    split at he <;> try (cases he; done)
    rename_i t
    cases t with
    | true =>
      rw [br_true] at he
      obtain ⟨q, hq, he⟩ := ob_eq he
      simp at he
      obtain ⟨rfl, rfl⟩ := he
      exact op_pick hr hi hop hok.1.1 hok.1.2 hok.2 hu (by simpa using hq)
    | false =>
      rw [br_false] at he
      obtain ⟨q, hq, he⟩ := ob_eq he
      simp at he
      obtain ⟨rfl, rfl⟩ := he
      exact op_pick hr hi hop hok.1.1 hok.1.2 hok.2 hu (by simpa using hq)
  case h_6 t zs =>
    simp only [Bool.and_eq_true] at hok
    obtain ⟨_, hok⟩ := hok
    split at hok <;> try (cases hok; done)
    rename_i i hinf
    split at hok <;> try (cases hok; done)
    rename_i z hz
    simp only [evalOp] at he
    simp only [Option.some.injEq, Prod.mk.injEq] at he
    obtain ⟨rfl, rfl⟩ := he
    exact op_alloc hi d hop hinf hz hok
  case h_7 t x n' y =>
    simp only [Bool.and_eq_true] at hok
    simp only [evalOp] at he
    obtain ⟨u, hu, he⟩ := ob_eq he
    obtain ⟨_, he⟩ := gd_eq he
    obtain ⟨hs, he⟩ := gd_eq he
    simp only [Option.some.injEq, Prod.mk.injEq] at he
    obtain ⟨rfl, rfl⟩ := he
    exact op_box hr hi d hop hok.2 hu hs
  case h_8 t ps bs =>
    simp only [Bool.and_eq_true] at hok
    obtain ⟨_, hok⟩ := hok
    split at hok <;> try (cases hok; done)
    rename_i fs i hu hinf
    split at hok <;> try (cases hok; done)
    rename_i z hz
    simp only [Bool.and_eq_true] at hok
    obtain ⟨⟨h1, h2⟩, h3⟩ := hok
    split at h3 <;> try (cases h3; done)
    rename_i cs hov
    simp only [evalOp] at he
    obtain ⟨q, hq, he⟩ := ob_eq he
    simp only [Option.some.injEq, Prod.mk.injEq] at he
    obtain ⟨rfl, rfl⟩ := he
    exact op_build hr hi d hop hu hinf hz h1 h2 hov h3 hq
  case h_9 t len ps sz as =>
    simp only [Bool.and_eq_true, decide_eq_true_eq, beq_iff_eq] at hok
    obtain ⟨⟨⟨⟨⟨_, hal⟩, h0⟩, hbig⟩, hp⟩, hok⟩ := hok
    split at hok <;> try (cases hok; done)
    rename_i e hu
    split at hok <;> try (cases hok; done)
    rename_i i hinf
    split at hok <;> try (simp at hok; done)
    rename_i z hz
    simp only [Bool.and_eq_true, beq_iff_eq] at hok
    simp only [evalOp] at he
    obtain ⟨xs, hxs, he⟩ := ob_eq he
    obtain ⟨hall, he⟩ := gd_eq he
    simp only [Option.some.injEq, Prod.mk.injEq] at he
    obtain ⟨rfl, rfl⟩ := he
    exact op_buildSlice hr hi d hop hal hbig hp hu hinf hok.1 hz hxs hall
  case h_10 t x agg y =>
    simp only [Bool.and_eq_true] at hok
    simp only [evalOp] at he
    obtain ⟨p, hp, he⟩ := ob_eq he
    obtain ⟨u, hu, he⟩ := ob_eq he
    simp only [Option.some.injEq, Prod.mk.injEq] at he
    obtain ⟨rfl, rfl⟩ := he
    exact op_load hr hi hop hok.1 hok.2 hp hu
  case h_11 t x y n' x' y' =>
    simp only [Bool.and_eq_true] at hok
    simp only [evalOp] at he
    obtain ⟨p, hp, he⟩ := ob_eq he
    obtain ⟨u, hu, he⟩ := ob_eq he
    obtain ⟨q, hq, he⟩ := ob_eq he
    simp only [Option.some.injEq, Prod.mk.injEq] at he
    obtain ⟨rfl, rfl⟩ := he
    exact op_store hr hi hop hok.1.1 hok.1.2 hok.2 hp hu hq
  case h_12 t x f off y =>
    simp only [Bool.and_eq_true] at hok
    obtain ⟨h1, hok⟩ := hok
    split at hok <;> try (cases hok; done)
    rename_i fs hu
    split at hok <;> try (cases hok; done)
    rename_i fl hf
    simp only [Bool.and_eq_true, beq_iff_eq] at hok
    obtain ⟨rfl, hok⟩ := hok
    split at hok <;> try (cases hok; done)
    rename_i inf hinf
    simp only [evalOp] at he
    obtain ⟨p, hp, he⟩ := ob_eq he
    have hus : us = [] := by
      split at he <;> simp at he <;> exact he.2
    subst hus
    exact op_fieldAddr hr hi hop h1 hu hf hinf (by simpa using hok) hp he
  case h_13 t x f off agg y =>
    simp only [Bool.and_eq_true] at hok
    obtain ⟨h1, hok⟩ := hok
    split at hok <;> try (cases hok; done)
    rename_i fs hu
    split at hok <;> try (cases hok; done)
    rename_i fl hf
    simp only [Bool.and_eq_true, beq_iff_eq] at hok
    obtain ⟨rfl, hok⟩ := hok
    simp only [evalOp] at he
    obtain ⟨p, hp, he⟩ := ob_eq he
    split at he <;> try (cases he; done)
    obtain ⟨u, hu', he⟩ := ob_eq he
    simp only [Option.some.injEq, Prod.mk.injEq] at he
    obtain ⟨rfl, rfl⟩ := he
    exact op_field hr hi hop h1 hu hf hok hp hu'
  case h_14 t x i sz y z =>
    simp only [Bool.and_eq_true] at hok
    obtain ⟨⟨h1, h2⟩, hok⟩ := hok
    split at hok <;> try (cases hok; done)
    rename_i e hu
    simp only [evalOp] at he
    obtain ⟨p, hp, he⟩ := ob_eq he
    obtain ⟨q, hq, he⟩ := ob_eq he
    split at he <;> try (cases he; done)
    obtain ⟨u, hu', he⟩ := ob_eq he
    simp only [Option.some.injEq, Prod.mk.injEq] at he
    obtain ⟨rfl, rfl⟩ := he
    exact op_indexAddr hr hi hop h1 h2 hu hok hp hq hu'
  case h_15 t x i y z =>
    simp only [Bool.and_eq_true] at hok
    obtain ⟨⟨h1, h2⟩, hok⟩ := hok
    split at hok <;> try (cases hok; done)
    rename_i hu
    simp only [evalOp] at he
    obtain ⟨p, hp, he⟩ := ob_eq he
    obtain ⟨q, hq, he⟩ := ob_eq he
    split at he <;> try (cases he; done)
    obtain ⟨h0, he⟩ := gd_eq he
    obtain ⟨u, hu', he⟩ := ob_eq he
    simp only [Option.some.injEq, Prod.mk.injEq] at he
    obtain ⟨rfl, rfl⟩ := he
    exact op_indexStr hr hi hop h1 h2 hu hp hq h0 hu'
  case h_16 op t x y t' op' x' y' =>
    simp only [Bool.and_eq_true, beq_iff_eq] at hok
    obtain ⟨⟨⟨⟨h1, h2⟩, rfl⟩, h4⟩, hok⟩ := hok
    simp only [evalOp] at he
    obtain ⟨p, hp, he⟩ := ob_eq he
    obtain ⟨q, hq, he⟩ := ob_eq he
    obtain ⟨u, hu, he⟩ := ob_eq he
    simp only [Option.some.injEq, Prod.mk.injEq] at he
    obtain ⟨rfl, rfl⟩ := he
    unfold vbin at hu
    split at hu <;> try (cases hu; done)
    · obtain ⟨rfl, hu1⟩ := gd_eq hu
      exact op_bin_int hr hi hop h4 h1 h2 hp hq hu1
    · exact op_bin_str hr hi hop h1 h2 hp hq hu
  case h_17 op t x y t' neg x' y' =>
    simp only [Bool.and_eq_true, Bool.or_eq_true, beq_iff_eq, Bool.not_eq_true'] at hok
    obtain ⟨⟨⟨h1, h2⟩, h3⟩, hok⟩ := hok
    simp only [evalOp] at he
    obtain ⟨p, hp, he⟩ := ob_eq he
    obtain ⟨q, hq, he⟩ := ob_eq he
    split at he <;> try (cases he; done)
    simp only [Option.some.injEq, Prod.mk.injEq] at he
    obtain ⟨rfl, rfl⟩ := he
    exact op_eqB hr hi hop h3 ((ktIs_underlying hok).2.2 rfl) h1 h2 hp hq
  case h_18 op t x y t' neg kts x' y' =>
    simp only [Bool.and_eq_true, Bool.or_eq_true, beq_iff_eq, Bool.not_eq_true'] at hok
    obtain ⟨⟨⟨h1, h2⟩, h3⟩, hok⟩ := hok
    simp only [evalOp] at he
    obtain ⟨p, hp, he⟩ := ob_eq he
    obtain ⟨q, hq, he⟩ := ob_eq he
    split at he <;> try (cases he; done)
    obtain ⟨xs, hxs, he⟩ := ob_eq he
    obtain ⟨ys, hys, he⟩ := ob_eq he
    obtain ⟨u, hu, he⟩ := ob_eq he
    simp only [Option.some.injEq, Prod.mk.injEq] at he
    obtain ⟨rfl, rfl⟩ := he
    exact op_eqAgg hr hi hop h3 hok h1 h2 hp hq hxs hys hu
  case h_19 t x y =>
    simp only [evalOp] at he
    obtain ⟨p, hp, he⟩ := ob_eq he
    split at he <;> try (cases he; done)
    simp only [Option.some.injEq, Prod.mk.injEq] at he
    obtain ⟨rfl, rfl⟩ := he
    exact op_not hr hi hop hok hp
  case h_20 t x y =>
    simp only [evalOp] at he
    obtain ⟨p, hp, he⟩ := ob_eq he
    split at he <;> try (cases he; done)
    simp only [Option.some.injEq, Prod.mk.injEq] at he
    obtain ⟨rfl, rfl⟩ := he
    exact op_neg hr hi hop hok hp
  case h_21 xs ts y =>
    simp only [Bool.and_eq_true] at hok
    obtain ⟨h1, hok⟩ := hok
    obtain ⟨x, hxs, hx⟩ := okArgs_one h1
    split at hok <;> try (cases hok; done)
    rename_i t hts
    split at hok <;> try (cases hok; done)
    rename_i e hu
    simp only [evalOp] at he
    obtain ⟨p, hp, he⟩ := ob_eq he
    obtain ⟨m, hm, he⟩ := ob_eq he
    simp only [Option.some.injEq, Prod.mk.injEq] at he
    obtain ⟨rfl, rfl⟩ := he
    exact op_len hr hi hop hxs hts hx hu hp hm
  case h_22 xs ts y =>
    simp only [Bool.and_eq_true] at hok
    obtain ⟨h1, hok⟩ := hok
    obtain ⟨x, hxs, hx⟩ := okArgs_one h1
    split at hok <;> try (cases hok; done)
    rename_i t hts
    simp only [evalOp] at he
    obtain ⟨p, hp, he⟩ := ob_eq he
    obtain ⟨m, hm, he⟩ := ob_eq he
    simp only [Option.some.injEq, Prod.mk.injEq] at he
    obtain ⟨rfl, rfl⟩ := he
    unfold vlenS at hm
    split at hm <;> try (cases hm; done)
    simp at hm
    subst hm
    exact op_lenStr hr hi hop hxs hts hx ((ktIs_underlying hok).2.1 rfl) hp
  case h_23 xs ts y =>
    simp only [Bool.and_eq_true] at hok
    obtain ⟨h1, hok⟩ := hok
    obtain ⟨x, hxs, hx⟩ := okArgs_one h1
    split at hok <;> try (cases hok; done)
    rename_i t hts
    split at hok <;> try (cases hok; done)
    rename_i e k hu
    simp only [evalOp] at he
    obtain ⟨p, hp, he⟩ := ob_eq he
    obtain ⟨⟨kt, ks, us'⟩, hm, he⟩ := ob_eq he
    simp only [Option.some.injEq, Prod.mk.injEq] at he
    obtain ⟨rfl, rfl⟩ := he
    exact op_mapLen hr hi hop hxs hts hx hu hp hm
  case h_24 xs ts sz bytes y z =>
    simp only [Bool.and_eq_true] at hok
    obtain ⟨h1, hok⟩ := hok
    obtain ⟨x, x', hxs, hx, hx'⟩ := okArgs_two h1
    obtain ⟨t, e, i, zz, hts, hu, hinf, rfl, rfl, hz, hzs⟩ := okApp_eq hok
    simp only [evalOp] at he
    obtain ⟨p, hp, he⟩ := ob_eq he
    obtain ⟨q, hq, he⟩ := ob_eq he
    exact op_append hr hi hop hxs hts hx hx' hu hinf hz hzs hp hq he
  case h_25 xs ts sz bytes z =>
    simp only [Bool.and_eq_true] at hok
    obtain ⟨⟨_, h1⟩, hok⟩ := hok
    split at h1 <;> try (cases h1; done)
    rename_i x hxs
    obtain ⟨t, e, i, zz, hts, hu, hinf, rfl, rfl, hz, hzs⟩ := okApp_eq hok
    simp only [evalOp] at he
    obtain ⟨q, hq, he⟩ := ob_eq he
    exact op_appendNil hr hi d hop hxs hts h1 hu hinf hz hzs hq he
  case h_26 xs ts as =>
    simp only [evalOp] at he
    obtain ⟨p, hp, he⟩ := ob_eq he
    obtain ⟨q, hq, he⟩ := ob_eq he
    simp only [Option.some.injEq, Prod.mk.injEq] at he
    obtain ⟨rfl, rfl⟩ := he
    exact op_minmax (isMax := true) hr hi hop hok hp hq
  case h_27 xs ts as =>
    simp only [evalOp] at he
    obtain ⟨p, hp, he⟩ := ob_eq he
    obtain ⟨q, hq, he⟩ := ob_eq he
    simp only [Option.some.injEq, Prod.mk.injEq] at he
    obtain ⟨rfl, rfl⟩ := he
    exact op_minmax (isMax := false) hr hi hop hok hp hq
  case h_28 t x lo hi' mx str sz lo' hi2 mx' y =>
    simp only [Bool.and_eq_true] at hok
    obtain ⟨⟨⟨⟨h1, h2⟩, h3⟩, h4⟩, hok⟩ := hok
    simp only [evalOp] at he
    obtain ⟨p, hp, he⟩ := ob_eq he
    split at hok <;> try (cases hok; done)
    · rename_i hu
      simp only [Bool.and_eq_true, Option.isNone_iff_eq_none] at hok
      obtain ⟨hm, rfl⟩ := hok
      exact op_sliceS hr hi hop hm h1 h2 h3 hu hp he
    · rename_i e hu
      simp only [Bool.and_eq_true, Bool.or_eq_true, Option.isNone_iff_eq_none, Bool.not_eq_true'] at hok
      obtain ⟨⟨hm, hsz⟩, rfl⟩ := hok
      exact op_slice hr hi d hop hm h1 h2 h3 h4 hu hsz hp he
  case h_29 t m k ok ok' kt' zero y z =>
    simp only [Bool.and_eq_true, beq_iff_eq] at hok
    obtain ⟨⟨⟨h1, h2⟩, rfl⟩, hok⟩ := hok
    split at hok <;> try (cases hok; done)
    rename_i kt e hu
    simp only [Bool.and_eq_true] at hok
    obtain ⟨hkt, hok⟩ := hok
    split at hok <;> try (cases hok; done)
    rename_i i hinf
    split at hok <;> try (cases hok; done)
    rename_i zz hz
    simp only [evalOp] at he
    obtain ⟨p, hp, he⟩ := ob_eq he
    obtain ⟨q, hq, he⟩ := ob_eq he
    obtain ⟨⟨kt2, ks, us'⟩, hm, he⟩ := ob_eq he
    obtain ⟨hor, he⟩ := gd_eq he
    obtain ⟨kk, hkk, he⟩ := ob_eq he
    simp only [Option.some.injEq, Prod.mk.injEq] at he
    obtain ⟨rfl, rfl⟩ := he
    exact op_lookup hr hi hop h1 h2 hu hkt hinf hz hok hp hq hm hor hkk
  case h_30 t m k x kt' m' k' x' =>
    simp only [Bool.and_eq_true] at hok
    obtain ⟨⟨⟨h1, h2⟩, h3⟩, hok⟩ := hok
    split at hok <;> try (cases hok; done)
    rename_i kt e hu
    simp only [evalOp] at he
    obtain ⟨mv, hm, he⟩ := ob_eq he
    obtain ⟨kv, hk, he⟩ := ob_eq he
    obtain ⟨xv, hx, he⟩ := ob_eq he
    obtain ⟨kk, hkk, he⟩ := ob_eq he
    obtain ⟨xx, hxx, he⟩ := ob_eq he
    split at he <;> try (cases he; done)
    split at he <;> try (cases he; done)
    rename_i hh
    obtain ⟨rfl, he1⟩ := gd_eq he
    obtain ⟨rfl, he2⟩ := gd_eq he1
    simp only [Option.some.injEq, Prod.mk.injEq] at he2
    obtain ⟨rfl, rfl⟩ := he2
    exact op_mapUpdate hr hi hop h1 h2 h3 hu hok hm hk hx hh hkk hxx
  case h_31 t kt =>
    simp only [evalOp] at he
    simp only [Option.some.injEq, Prod.mk.injEq] at he
    obtain ⟨rfl, rfl⟩ := he
    exact op_makeMap hi d hop kt
  case h_32 x i y j =>
    simp only [Bool.and_eq_true, beq_iff_eq] at hok
    obtain ⟨h1, rfl⟩ := hok
    simp only [evalOp] at he
    obtain ⟨p, hp, he⟩ := ob_eq he
    split at he <;> try (cases he; done)
    obtain ⟨u, hu, he⟩ := ob_eq he
    simp only [Option.some.injEq, Prod.mk.injEq] at he
    obtain ⟨rfl, rfl⟩ := he
    exact op_extract hr hi hop h1 hp hu
  case h_33 s t x k y =>
    simp only [Bool.and_eq_true] at hok
    obtain ⟨h1, hok⟩ := hok
    split at hok <;> try (cases hok; done)
    rename_i k0 k1 hs ht
    simp only [beq_iff_eq] at hok
    subst hok
    simp only [evalOp] at he
    obtain ⟨p, hp, he⟩ := ob_eq he
    split at he <;> try (cases he; done)
    simp only [Option.some.injEq, Prod.mk.injEq] at he
    obtain ⟨rfl, rfl⟩ := he
    exact op_conv hr hi hop h1 hs ht hp
  case h_34 s t x y =>
    simp only [Bool.and_eq_true] at hok
    obtain ⟨⟨_, h1⟩, hok⟩ := hok
    split at hok <;> try (cases hok; done)
    rename_i e hs ht
    split at hok <;> try (cases hok; done)
    rename_i hu8
    simp only [evalOp] at he
    obtain ⟨p, hp, he⟩ := ob_eq he
    split at he <;> try (cases he; done)
    simp only [Option.some.injEq, Prod.mk.injEq] at he
    obtain ⟨rfl, rfl⟩ := he
    exact op_strBytes hr hi hop h1 hs ht hu8 hp
  case h_35 x y =>
    simp only [evalOp] at he
    obtain ⟨p, hp, he⟩ := ob_eq he
    split at he <;> try (cases he; done)
    all_goals
      simp only [Option.some.injEq, Prod.mk.injEq] at he
      obtain ⟨rfl, rfl⟩ := he
      exact op_nilCheck hr hi hop hok hp rfl
  case h_36 f first caps g as =>
    simp only [Bool.and_eq_true, beq_iff_eq] at hok
    obtain ⟨⟨rfl, h1⟩, hok⟩ := hok
    simp only [evalOp] at he
    obtain ⟨p, hp, he⟩ := ob_eq he
    simp only [Option.some.injEq, Prod.mk.injEq] at he
    obtain ⟨rfl, rfl⟩ := he
    exact op_makeFunc hr hi hop (by simpa using h1) hok hp
  case h_37 f xs ts g as =>
    simp only [Bool.and_eq_true, beq_iff_eq] at hok
    obtain ⟨⟨⟨_, rfl⟩, h1⟩, _⟩ := hok
    simp only [evalOp] at he
    obtain ⟨p, hp, he⟩ := ob_eq he
    obtain ⟨l1, l2⟩ := looks_rel hr h1 hp
    refine op_vcall (cargs := xs.map a.eval) hΓ hi (fun hb => ?_) (by simpa using l1) (fun i u c hu hc => l2 i u c hu (by simpa using hc)) he
    simp [execOp, hop, resolve, Act.eval, Deferred.ofValue, invoke, run_callFunc hb]
  case h_38 x xs ts y as =>
    simp only [Bool.and_eq_true] at hok
    obtain ⟨⟨_, h1⟩, h2⟩ := hok
    simp only [evalOp] at he
    obtain ⟨g, hg, he⟩ := ob_eq he
    obtain ⟨p, hp, he⟩ := ob_eq he
    obtain ⟨l1, l2⟩ := looks_rel hr h2 hp
    have hgr := look_rel hr h1 hg
    generalize hev : a.eval x = cx at hgr
    split at he <;> try (cases he; done)
    · rename_i f caps
      cases hgr with
      | @fn _ _ arr hl hcr =>
        refine op_vcall (cargs := xs.map a.eval ++ arr) hΓ hi (fun hb => ?_) (by simp at l1; simp [l1, hl]) (fun i u c hu hc => ?_) he
        · simp [execOp, hop, resolve, hev, Deferred.ofValue, invoke, run_callFunc hb]
        · simp at l1
          by_cases hlt : i < p.length
          · rw [List.getElem?_append_left hlt] at hu
            rw [Array.getElem?_append_left (by simp; omega)] at hc
            exact l2 i u c hu (by simpa using hc)
          · rw [List.getElem?_append_right (by omega)] at hu
            rw [Array.getElem?_append_right (by simp; omega)] at hc
            exact hcr (i - p.length) u c hu (by rw [← hc]; simp [l1])
    · rename_i f
      cases hgr with
      | p hpr h1c =>
        cases hpr
        refine op_vcall (cargs := xs.map a.eval) hΓ hi (fun hb => ?_) (by simpa using l1) (fun i u c hu hc => l2 i u c hu (by simpa using hc)) he
        simp [execOp, hop, resolve, hev, Deferred.ofValue, invoke, run_callFunc hb]
  case h_39 => simp at hok
end Go.V
