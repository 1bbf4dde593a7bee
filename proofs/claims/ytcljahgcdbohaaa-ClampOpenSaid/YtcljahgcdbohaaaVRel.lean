/- The value machine V against the model: what a value of V stands for in a world; how that is kept. -/
import Derived.Test.YtcljahgcdbohaaaVExec
import Derived.Maps.AppendAt
import Derived.Below
import Derived.Deep.Draws
set_option linter.unusedSimpArgs false
set_option linter.unusedVariables false
namespace Go.V
open Go.RowKit

inductive Kind where
  | frozen
  | mine (id : Id)
  | other

/-- What is known of the blocks: whose each is; the block of an object, and an array's capacity. -/
structure Gh where
  kind : Nat → Kind
  blk : Id → Nat
  cap : Id → Nat

theorem add_block (a : Addr) (n : Nat) : (a.add n).block = a.block := by unfold Addr.add; split <;> rfl
theorem add_add (a : Addr) (i j : Nat) : (a.add i).add j = a.add (i + j) := by
  unfold Addr.add
  by_cases hi : i = 0 <;> by_cases hj : j = 0 <;> simp [hi, hj, Nat.add_assoc]
theorem add_lit (b o n : Nat) : (⟨b, o, none⟩ : Addr).add n = ⟨b, o + n, none⟩ := by
  unfold Addr.add; split
  · simp [*]
  · rfl

/-- A key as the model has it. -/
def MKey.val : KT → MKey → Option Value
  | .int k, .int n => some (.int k n)
  | .str, .str s => some (.string s)
  | .bool, .bool b => some (.bool b)
  | _, _ => none

/-- Frozen data in memory: every block that is read is frozen. -/
inductive PRel (fz : Nat → Prop) (w : World) : PV → Value → Prop where
  | int (k : IntKind) (n : Int) : PRel fz w (.int k n) (.int k n)
  | bool (b : Bool) : PRel fz w (.bool b) (.bool b)
  | str (s : ByteArray) : PRel fz w (.str s) (.string s)
  | slice {sz : Nat} {xs : List PV} {a : Option Addr} {n cap : Nat} (ad : Addr) (val : Nat → Nat → Value) (hn : n = xs.length) (hcap : n ≤ cap)
      (ha : 0 < n → a = some ad ∧ fz ad.block ∧ ad.block < w.heap.size) (hsz : ∀ x ∈ xs, x.cells.length = sz)
      (h1 : ∀ (i : Nat) (x : PV) (j : Nat) (c : PV), xs[i]? = some x → x.cells[j]? = some c → (val i j).oneCell' = true)
      (hc : ∀ (i : Nat) (x : PV) (j : Nat) (c : PV), xs[i]? = some x → x.cells[j]? = some c → w.cell? (ad.add (i * sz + j)) = some (val i j))
      (hr : ∀ (i : Nat) (x : PV) (j : Nat) (c : PV), xs[i]? = some x → x.cells[j]? = some c → PRel fz w c (val i j)) : PRel fz w (.slice sz xs) (.slice a n cap)
  | agg {ds : List PV} {arr : Array Value} (hl : ds.length = arr.size) (h1 : ∀ (i : Nat) (c : Value), arr[i]? = some c → c.oneCell' = true)
      (hr : ∀ (i : Nat) (d : PV) (c : Value), ds[i]? = some d → arr[i]? = some c → PRel fz w d c) : PRel fz w (.agg ds) (.agg arr)
  | mapNil (kt : KT) : PRel fz w (.map kt [] []) (.map none)
  | map {kt : KT} {ks : List MKey} {vs : List PV} {r : Nat} {es : Array MapEntry} {clock : Nat} (hfz : fz r) (hw : w.heap[r]? = some (.map es clock)) (hk : ks.length = es.size) (hv : vs.length = es.size)
      (hkey : ∀ (i : Nat) (k : MKey) (e : MapEntry), ks[i]? = some k → es[i]? = some e → MKey.val kt k = some e.key)
      (hr : ∀ (i : Nat) (v : PV) (e : MapEntry), vs[i]? = some v → es[i]? = some e → PRel fz w v e.val) : PRel fz w (.map kt ks vs) (.map (some r))
  | fn (f : FuncId) : PRel fz w (.fn f) (.func (.func f) #[] #[])
  | nilp : PRel fz w .nilp (.pointer none)
  | nilFn : PRel fz w .nilp .nilFunc

/-- The frozen blocks stay. -/
def Keeps (fz fz' : Nat → Prop) (w w' : World) : Prop := ∀ b, fz b → b < w.heap.size → fz' b ∧ w'.heap[b]? = w.heap[b]?

theorem PRel.mono {fz fz' : Nat → Prop} {w w' : World} (hk : Keeps fz fz' w w') (hs : w.heap.size ≤ w'.heap.size) {d : PV} {c : Value} (h : PRel fz w d c) : PRel fz' w' d c := by
  induction h with
  | int k n => exact .int k n
  | bool b => exact .bool b
  | str s => exact .str s
  | slice ad val hn hcap ha hsz h1 hc hr ih =>
    refine .slice ad val hn hcap (fun h0 => ?_) hsz h1 (fun i x j c hx hj => ?_) ih
    · obtain ⟨e, hf, hb⟩ := ha h0
      exact ⟨e, (hk _ hf hb).1, by omega⟩
    · obtain ⟨e, hf, hb⟩ := ha (by rw [hn]; exact Nat.lt_of_le_of_lt (Nat.zero_le _) (List.getElem?_eq_some_iff.1 hx).1)
      rw [← hc i x j c hx hj]
      exact World.cell?_of_block (by rw [add_block]; exact (hk _ hf hb).2)
  | agg hl h1 _ ih => exact .agg hl h1 ih
  | mapNil kt => exact .mapNil kt
  | map hfz hw hkl hv hkey _ ih =>
    have hb := hk _ hfz (Array.getElem?_eq_some_iff.1 hw).1
    exact .map hb.1 (hb.2.trans hw) hkl hv hkey ih
  | fn f => exact .fn f
  | nilp => exact .nilp
  | nilFn => exact .nilFn

/-- Flat data lies in no block. -/
theorem PRel.flat0 {fz fz' : Nat → Prop} {w w' : World} {d : PV} {c : Value} (h : PRel fz w d c) (hf : d.flat0 = true) : PRel fz' w' d c := by
  cases h <;> simp [PV.flat0] at hf
  · exact .int _ _
  · exact .bool _
  · exact .str _
  · exact .fn _
  · exact .nilp
  · exact .nilFn
theorem PRel.flat {fz fz' : Nat → Prop} {w w' : World} {d : PV} {c : Value} (h : PRel fz w d c) (hf : d.flat = true) : PRel fz' w' d c := by
  by_cases ha : ∃ ds, d = .agg ds
  · obtain ⟨ds, rfl⟩ := ha
    cases h with
    | agg hl h1 hr =>
      simp only [PV.flat, List.all_eq_true] at hf
      exact .agg hl h1 fun i d c hd hc => (hr i d c hd hc).flat0 (hf d (List.mem_of_getElem? hd))
  · refine h.flat0 ?_
    cases d <;> simp_all [PV.flat]

theorem PRel.one {fz : Nat → Prop} {w : World} {d : PV} {c : Value} (h : PRel fz w d c) (hd : ∀ ds, d ≠ .agg ds) : c.oneCell' = true := by
  cases h <;> first | rfl | exact absurd rfl (hd _)

/-- What a value of the machine stands for. -/
inductive VRel (G : Gh) (h : VHeap) (w : World) : VVal → Value → Prop where
  | p {d : PV} {c : Value} (hp : PRel (fun b => G.kind b = .frozen) w d c) (h1 : c.oneCell' = true) : VRel G h w (.p d) c
  | own {id : Id} {ver off len : Nat} {a : Option Addr} {n cap : Nat} {v : Nat} {o : Ob} (hn : n = len) (hcap : len ≤ cap) (hh : h id = some (v, o)) (hv : ver ≤ v)
      (ho : ver = v → ∃ sz xs, o = .arr sz xs ∧ off + len ≤ xs.length ∧ ((cap = 0 ∧ off = 0) ∨ (G.kind (G.blk id) = .mine id ∧ off + cap = G.cap id ∧ (0 < cap → a = some ⟨G.blk id, off * sz, none⟩)))) :
      VRel G h w (.own id ver off len) (.slice a n cap)
  | ptr {id : Id} {ver off : Nat} {a : Addr} {v : Nat} {o : Ob} (hh : h id = some (v, o)) (hv : ver ≤ v) (ho : ver = v → a = ⟨G.blk id, off, none⟩) : VRel G h w (.ptr id ver off) (.pointer (some a))
  | vptr {cs : List PV} {off : Nat} {a : Addr} (ad : Addr) (val : Nat → Value) (ha : a = ad.add off) (hf : G.kind ad.block = .frozen) (hb : ad.block < w.heap.size)
      (h1 : ∀ (j : Nat) (c : PV), cs[j]? = some c → (val j).oneCell' = true)
      (hc : ∀ (j : Nat) (c : PV), cs[j]? = some c → w.cell? (ad.add j) = some (val j)) (hr : ∀ (j : Nat) (c : PV), cs[j]? = some c → PRel (fun b => G.kind b = .frozen) w c (val j)) :
      VRel G h w (.vptr cs off) (.pointer (some a))
  | eptr {id : Id} {ver i off : Nat} {a : Addr} {v : Nat} {o : Ob} (hh : h id = some (v, o)) (hv : ver ≤ v)
      (ho : ver = v → ∃ sz xs, o = .arr sz xs ∧ i < xs.length ∧ a = ⟨G.blk id, i * sz + off, none⟩) : VRel G h w (.eptr id ver i off) (.pointer (some a))
  | mref {id : Id} {ver r : Nat} {v : Nat} {o : Ob} (hh : h id = some (v, o)) (hv : ver ≤ v) (ho : ver = v → r = G.blk id) : VRel G h w (.mref id ver) (.map (some r))
  | fn {f : FuncId} {caps : List VVal} {arr : Array Value} (hl : caps.length = arr.size) (hr : ∀ (i : Nat) (v : VVal) (c : Value), caps[i]? = some v → arr[i]? = some c → VRel G h w v c) :
      VRel G h w (.fn f caps) (.func (.func f) #[] arr)
  | agg {cs : List VVal} {arr : Array Value} (hl : cs.length = arr.size) (h1 : ∀ (i : Nat) (c : Value), arr[i]? = some c → c.oneCell' = true)
      (hr : ∀ (i : Nat) (v : VVal) (c : Value), cs[i]? = some v → arr[i]? = some c → VRel G h w v c) : VRel G h w (.agg cs) (.agg arr)
  | tup {vs : List VVal} {arr : Array Value} (hl : vs.length = arr.size) (hr : ∀ (i : Nat) (v : VVal) (c : Value), vs[i]? = some v → arr[i]? = some c → VRel G h w v c) : VRel G h w (.tup vs) (.tuple arr)
  | undef : VRel G h w .undef Go.undef
  | dead (c : Value) : VRel G h w .dead c

/-- What an object stands for. -/
def OBRel (G : Gh) (h : VHeap) (w : World) (id : Id) : Ob → Prop
  | .box cs => G.kind (G.blk id) = .mine id ∧ ∃ arr t, w.heap[G.blk id]? = some (.cells arr t (0, 0)) ∧ cs.length = arr.size ∧
      (∀ (i : Nat) (c : Value), arr[i]? = some c → c.oneCell' = true) ∧ ∀ (i : Nat) (v : VVal) (c : Value), cs[i]? = some v → arr[i]? = some c → VRel G h w v c
  | .arr sz xs => (∀ x ∈ xs, x.cells.length = sz) ∧ (xs = [] ∨ G.kind (G.blk id) = .mine id) ∧ (G.kind (G.blk id) = .mine id → xs.length ≤ G.cap id ∧ ∃ arr t, w.heap[G.blk id]? = some (.cells arr t (0, 0)) ∧ arr.size = G.cap id * sz ∧
      ∀ (i : Nat) (x : PV) (j : Nat) (c : PV), xs[i]? = some x → x.cells[j]? = some c → ∃ v, arr[i * sz + j]? = some v ∧ v.oneCell' = true ∧ PRel (fun b => G.kind b = .frozen) w c v)
  | .map kt ks vs => G.kind (G.blk id) = .mine id ∧ ∃ es clock, w.heap[G.blk id]? = some (.map es clock) ∧ ks.length = es.size ∧ vs.length = es.size ∧
      (∀ (i : Nat) (k : MKey) (e : MapEntry), ks[i]? = some k → es[i]? = some e → MKey.val kt k = some e.key) ∧ ∀ (i : Nat) (v : PV) (e : MapEntry), vs[i]? = some v → es[i]? = some e → PRel (fun b => G.kind b = .frozen) w v e.val
  | .gone => True

def HeapInv (G : Gh) (h : VHeap) (w : World) : Prop := ∀ id v o, h id = some (v, o) → OBRel G h w id o

/-- An object that keeps its version keeps its place. -/
def SameOb : Ob → Ob → Prop
  | .arr sz xs, .arr sz' xs' => sz = sz' ∧ xs'.length = xs.length
  | .arr _ _, _ => False
  | _, _ => True

/-- From one state to a later one. -/
structure Step (G : Gh) (h : VHeap) (w : World) (G' : Gh) (h' : VHeap) (w' : World) : Prop where
  frozen : ∀ b, G.kind b = .frozen → b < w.heap.size → G'.kind b = .frozen ∧ w'.heap[b]? = w.heap[b]?
  other : ∀ b, G.kind b = .other → b < w.heap.size → G'.kind b = .other ∧ w'.heap[b]? = w.heap[b]?
  mine : ∀ b id, b < w.heap.size → G'.kind b = .mine id → G.kind b = .mine id
  frz : ∀ b, b < w.heap.size → G'.kind b = .frozen → G.kind b = .frozen ∨ ∃ s j, G.kind b = .mine (.slot s j)
  size : w.heap.size ≤ w'.heap.size
  os : w'.os = w.os
  tape : w'.tape = w.tape
  output : w'.output = w.output
  vers : ∀ id v o, h id = some (v, o) → ∃ v' o', h' id = some (v', o') ∧ v ≤ v' ∧ (v' = v → G'.blk id = G.blk id ∧ G'.cap id = G.cap id ∧ SameOb o o' ∧ (∀ sz xs, o = .arr sz xs → G.kind (G.blk id) = .mine id → G'.kind (G.blk id) = .mine id))

theorem Step.refl (G : Gh) (h : VHeap) (w : World) : Step G h w G h w where
  frozen := fun _ hb _ => ⟨hb, rfl⟩
  other := fun _ hb _ => ⟨hb, rfl⟩
  mine := fun _ _ _ h => h
  frz := fun _ _ h => .inl h
  size := Nat.le_refl _
  os := rfl
  tape := rfl
  output := rfl
  vers := fun _ v o h => ⟨v, o, h, Nat.le_refl _, fun _ => ⟨rfl, rfl, by cases o <;> simp [SameOb], fun _ _ _ h => h⟩⟩

theorem SameOb.trans {a b c : Ob} (h : SameOb a b) (h' : SameOb b c) : SameOb a c := by
  cases a <;> cases b <;> cases c <;> simp_all [SameOb]

theorem Step.trans {G G' G'' : Gh} {h h' h'' : VHeap} {w w' w'' : World} (s : Step G h w G' h' w') (t : Step G' h' w' G'' h'' w'') : Step G h w G'' h'' w'' where
  frozen := fun b hb hl => by
    obtain ⟨h1, h2⟩ := s.frozen b hb hl
    obtain ⟨h3, h4⟩ := t.frozen b h1 (Nat.lt_of_lt_of_le hl s.size)
    exact ⟨h3, h4.trans h2⟩
  other := fun b hb hl => by
    obtain ⟨h1, h2⟩ := s.other b hb hl
    obtain ⟨h3, h4⟩ := t.other b h1 (Nat.lt_of_lt_of_le hl s.size)
    exact ⟨h3, h4.trans h2⟩
  mine := fun b id hl hm => s.mine b id hl (t.mine b id (Nat.lt_of_lt_of_le hl s.size) hm)
  frz := fun b hl hf => by
    rcases t.frz b (Nat.lt_of_lt_of_le hl s.size) hf with h1 | ⟨i, j, h1⟩
    · exact s.frz b hl h1
    · exact .inr ⟨i, j, s.mine b _ hl h1⟩
  size := Nat.le_trans s.size t.size
  os := t.os.trans s.os
  tape := t.tape.trans s.tape
  output := t.output.trans s.output
  vers := fun id v o hh => by
    obtain ⟨v', o', h1, h2, h3⟩ := s.vers id v o hh
    obtain ⟨v'', o'', h4, h5, h6⟩ := t.vers id v' o' h1
    refine ⟨v'', o'', h4, by omega, fun e => ?_⟩
    obtain ⟨a1, a2, a3, a4⟩ := h3 (by omega)
    obtain ⟨b1, b2, b3, b4⟩ := h6 (by omega)
    refine ⟨b1.trans a1, b2.trans a2, a3.trans b3, fun sz xs ho hm => ?_⟩
    have hex : ∃ sz' xs', o' = .arr sz' xs' := by
      subst ho
      cases o' <;> simp [SameOb] at a3
      exact ⟨_, _, rfl⟩
    obtain ⟨sz', xs', ho'⟩ := hex
    have := b4 sz' xs' ho' (by rw [a1]; exact a4 sz xs ho hm)
    rw [a1] at this
    exact this

theorem Step.keeps {G G' : Gh} {h h' : VHeap} {w w' : World} (s : Step G h w G' h' w') : Keeps (fun b => G.kind b = .frozen) (fun b => G'.kind b = .frozen) w w' := s.frozen

theorem VRel.mono {G G' : Gh} {h h' : VHeap} {w w' : World} (s : Step G h w G' h' w') {v : VVal} {c : Value} (hv : VRel G h w v c) : VRel G' h' w' v c := by
  induction hv with
  | p hp h1 => exact .p (hp.mono s.keeps s.size) h1
  | own hn hcap hh hv ho =>
    obtain ⟨v', o', h1, h2, h3⟩ := s.vers _ _ _ hh
    refine .own hn hcap h1 (by omega) fun e => ?_
    obtain ⟨b1, b2, b3, b4⟩ := h3 (by omega)
    obtain ⟨sz, xs, rfl, h5, h6⟩ := ho (by omega)
    cases o' <;> simp [SameOb] at b3
    rename_i sz' xs'
    refine ⟨sz', xs', rfl, by omega, ?_⟩
    rw [b1, b2, ← b3.1]
    rcases h6 with h6 | ⟨h6, h7, h8⟩
    · exact .inl h6
    · exact .inr ⟨b4 _ _ rfl h6, h7, h8⟩
  | ptr hh hv ho =>
    obtain ⟨v', o', h1, h2, h3⟩ := s.vers _ _ _ hh
    exact .ptr h1 (by omega) fun e => by rw [(h3 (by omega)).1]; exact ho (by omega)
  | vptr ad val ha hf hb h1 hc hr =>
    have hk := s.frozen _ hf hb
    exact .vptr ad val ha hk.1 (Nat.lt_of_lt_of_le hb s.size) h1 (fun j c hj => by
      rw [← hc j c hj]; exact World.cell?_of_block (by rw [add_block]; exact hk.2)) (fun j c hj => (hr j c hj).mono s.keeps s.size)
  | eptr hh hv ho =>
    obtain ⟨v', o', h1, h2, h3⟩ := s.vers _ _ _ hh
    refine .eptr h1 (by omega) fun e => ?_
    obtain ⟨b1, b2, b3, b4⟩ := h3 (by omega)
    obtain ⟨sz, xs, rfl, h5, h6⟩ := ho (by omega)
    cases o' <;> simp [SameOb] at b3
    rename_i sz' xs'
    exact ⟨sz', xs', rfl, by omega, by rw [b1, ← b3.1]; exact h6⟩
  | mref hh hv ho =>
    obtain ⟨v', o', h1, h2, h3⟩ := s.vers _ _ _ hh
    exact .mref h1 (by omega) fun e => by rw [(h3 (by omega)).1]; exact ho (by omega)
  | fn hl _ ih => exact .fn hl ih
  | agg hl h1 _ ih => exact .agg hl h1 ih
  | tup hl _ ih => exact .tup hl ih
  | undef => exact .undef
  | dead c => exact .dead c

/-- A draw. -/
theorem Step.drew {G : Gh} {h : VHeap} {w : World} : Step G h w G h { w with drawn := w.drawn + 1 } :=
  { Step.refl G h w with frozen := fun _ hb _ => ⟨hb, rfl⟩, other := fun _ hb _ => ⟨hb, rfl⟩ }

end Go.V
