/- The value machine V against the model: operations that make or write memory. -/
import Derived.Test.YtcljahgcdbohaaaVNew
set_option linter.unusedSimpArgs false
set_option linter.unusedVariables false
namespace Go.V
open Go.RowKit

theorem zcell_sound {G : Gh} {h : VHeap} {w : World} (hinv : HeapInv G h w) (d j : Nat) {z : ZC} {v : Value} (hz : okZ1 v z = true) :
    ∃ G', Step G h w G' (h.upds (zcell d h j z).2) w ∧ HeapInv G' (h.upds (zcell d h j z).2) w ∧ VRel G' (h.upds (zcell d h j z).2) w (zcell d h j z).1 v ∧ v.oneCell' = true := by
  cases z with
  | c x =>
    have hc : okConst v x = true := by
      unfold okZ1 at hz
      split at hz <;> simp_all
    obtain ⟨h1, h2, h3⟩ := okConst_rel (fz := fun b => G.kind b = .frozen) (w := w) hc
    exact ⟨G, Step.refl _ _ _, hinv, .p h1 h2, h2⟩
  | nil sz =>
    have hv : v = .slice none 0 0 := by
      unfold okZ1 at hz
      split at hz <;> simp_all
    subst hv
    obtain ⟨G', h1, h2, h3⟩ := new_nil hinv (.slot d (j + 1)) sz none
    exact ⟨G', h1, h2, h3, rfl⟩

theorem zcells_sound (d : Nat) {w : World} : ∀ (zs : List ZC) (vs : List Value) (G : Gh) (h : VHeap) (j : Nat), HeapInv G h w → okZero vs zs = true →
    ∃ G', Step G h w G' (h.upds (zcells d h j zs).2) w ∧ HeapInv G' (h.upds (zcells d h j zs).2) w ∧ (zcells d h j zs).1.length = vs.length ∧ (∀ v ∈ vs, v.oneCell' = true) ∧
      ∀ (i : Nat) (u : VVal) (c : Value), (zcells d h j zs).1[i]? = some u → vs[i]? = some c → VRel G' (h.upds (zcells d h j zs).2) w u c
  | [], [], G, h, j, hinv, _ => ⟨G, Step.refl _ _ _, hinv, rfl, by simp, fun i u c hu => by simp [zcells] at hu⟩
  | z :: zs, v :: vs, G, h, j, hinv, hz => by
    simp only [okZero, Bool.and_eq_true] at hz
    obtain ⟨hz1, hz2⟩ := hz
    obtain ⟨G1, s1, i1, r1, o1⟩ := zcell_sound hinv d j hz1
    obtain ⟨G2, s2, i2, l2, o2, r2⟩ := zcells_sound d zs vs G1 (h.upds (zcell d h j z).2) (j + 1) i1 hz2
    have hup : h.upds (zcells d h j (z :: zs)).2 = (h.upds (zcell d h j z).2).upds (zcells d (h.upds (zcell d h j z).2) (j + 1) zs).2 := by
      simp only [zcells, upds_append]
    rw [hup]
    refine ⟨G2, s1.trans s2, i2, by simp [zcells, l2], ?_, fun i u c hu hc => ?_⟩
    · intro v' hv'
      simp at hv'
      rcases hv' with rfl | hv'
      · exact o1
      · exact o2 v' hv'
    · cases i with
      | zero => simp [zcells] at hu hc; subst hu; subst hc; exact r1.mono s2
      | succ i => simp [zcells] at hu hc; exact r2 i u c hu hc
  | [], _ :: _, _, _, _, _, hz => by simp [okZero] at hz
  | _ :: _, [], _, _, _, _, hz => by simp [okZero] at hz

theorem splice_length {α : Type} (l : List α) (off : Nat) (ys : List α) (h : off + ys.length ≤ l.length) : (splice l off ys).length = l.length := by
  simp [splice]; omega
theorem splice_get {α : Type} (l : List α) (off : Nat) (ys : List α) (h : off + ys.length ≤ l.length) (k : Nat) :
    (splice l off ys)[k]? = if off ≤ k ∧ k < off + ys.length then ys[k - off]? else l[k]? := by
  unfold splice
  have hto : (l.take off).length = off := by simp; omega
  by_cases h1 : k < off
  · rw [List.append_assoc, List.getElem?_append_left (by omega), List.getElem?_take_of_lt h1, if_neg (by omega)]
  · by_cases h2 : k < off + ys.length
    · rw [List.append_assoc, List.getElem?_append_right (by omega), List.getElem?_append_left (by omega), hto, if_pos ⟨by omega, h2⟩]
    · rw [List.getElem?_append_right (by simp; omega)]
      simp only [List.length_append, hto, List.getElem?_drop]
      rw [if_neg (by omega)]
      congr 1
      omega

theorem cell_far {i i' sz off m j : Nat} (hne : i' ≠ i) (hj : j < sz) (hm : off + m ≤ sz) : ¬ (i * sz + off ≤ i' * sz + j ∧ i' * sz + j < i * sz + off + m) := by
  rcases Nat.lt_or_gt_of_ne hne with h | h
  · have := Nat.mul_le_mul_right sz (show i' + 1 ≤ i from h)
    rw [Nat.add_mul] at this
    omega
  · have := Nat.mul_le_mul_right sz (show i + 1 ≤ i' from h)
    rw [Nat.add_mul] at this
    omega

theorem setCells_cells {x : PV} {off : Nat} {ds : List PV} (h : off + ds.length ≤ x.cells.length) (hd : ∀ d ∈ ds, d.cells = [d]) : (setCells x off ds).cells = splice x.cells off ds := by
  cases x <;> simp only [PV.cells, setCells, List.length_cons, List.length_nil] at h ⊢ <;> try rfl
  all_goals
    cases ds with
    | nil => simp [splice, PV.cells] 
    | cons d ds =>
      have : ds = [] := List.eq_nil_of_length_eq_zero (by simp at h; omega)
      subst this
      have : off = 0 := by simp at h; omega
      subst this
      have := hd d (by simp)
      simp only [splice, List.headD, List.take_zero, List.nil_append, List.length_cons, List.length_nil, List.drop_succ_cons, List.drop_nil, List.append_nil, Nat.zero_add]
      exact this

section
variable {P : Program} {vs : List Nat} {n : Nat} {G : Gh} {r : RS} {a : Act} {w : World} (hr : RRel vs n G r a w) (hi : HeapInv G r.h w) {o : Oper} (d : Nat)
include hi

theorem op_newArr (ho : o.op = .move (.const (.slice none 0 0)) ∨ o.op = .assign (.const (.slice none 0 0))) (sz : Nat) :
    OpWp P G r.h w a o (.own (.slot d 0) (nv (r.h (.slot d 0))) 0 0) [(.slot d 0, nv (r.h (.slot d 0)), .arr sz [])] := by
  obtain ⟨G', h1, h2, h3⟩ := new_nil hi (.slot d 0) sz none
  refine opWp_value (G' := G') (c := .slice none 0 0) ?_ h1 h2 h3
  rcases ho with ho | ho <;> simp [execOp, ho, Act.eval]

theorem op_alloc {t : TypeId} (ho : o.op = .alloc t) {i : TypeInfo} {z : Value} (hinf : P.info? t = some i) (hz : i.zero = some z) {zs : List ZC} (hok : okZero z.cells.toList zs = true) :
    OpWp P G r.h w a o (.ptr (.slot d 0) (nv (r.h.upds (zcells d r.h 0 zs).2 (.slot d 0))) 0) ((zcells d r.h 0 zs).2 ++ [(.slot d 0, nv (r.h.upds (zcells d r.h 0 zs).2 (.slot d 0)), .box (zcells d r.h 0 zs).1)]) := by
  obtain ⟨G1, s1, i1, l1, o1, r1⟩ := zcells_sound d zs z.cells.toList G r.h 0 hi hok
  obtain ⟨h1, h2, h3⟩ := new_box (arr := z.cells) i1 (.slot d 0) (cs := (zcells d r.h 0 zs).1) t (by simpa using l1) (fun k c hc => o1 c (by rw [Array.mem_toList_iff]; exact Array.mem_of_getElem? hc)) (fun k u c hu hc => r1 k u c hu (by simpa using hc))
  refine opWp_value (c := .pointer (some ⟨w.heap.size, 0, none⟩)) (w' := w.alloc (.cells z.cells t)) (G' := _) ?_ (by rw [upds_append]; exact s1.trans h1) (by rw [upds_append]; exact h2) (by rw [upds_append]; exact h3)
  simp [execOp, ho, Instr.alloc, zeroValue, typeInfo, hinf, hz, newVar, newRow]

include hr

theorem op_box {t : TypeId} {x : Operand} (ho : o.op = .box t x) {y : VArg} (hx : okArg vs x y = true) {v : VVal} (hl : r.look y = some v) (hs : (vcells v).all solid = true) :
    OpWp P G r.h w a o (.ptr (.slot d 0) (nv (r.h (.slot d 0))) 0) [(.slot d 0, nv (r.h (.slot d 0)), .box (vcells v))] := by
  obtain ⟨h1, h2, h3⟩ := vrel_cells (look_rel hr hx hl) hs
  obtain ⟨g1, g2, g3⟩ := new_box (arr := (a.eval x).cells) hi (.slot d 0) (cs := vcells v) t h1 h2 h3
  refine opWp_value (c := .pointer (some ⟨w.heap.size, 0, none⟩)) (w' := w.alloc (.cells (a.eval x).cells t)) ?_ g1 g2 g3
  simp [execOp, ho, Instr.box, newVar, newRow]

/-- A store into a box, or into an element of an array. -/
theorem op_store {t : TypeId} {x y : Operand} (ho : o.op = .store t x y) {x' y' : VArg} (hx : okArg vs x x' = true) (hy : okArg vs y y' = true) {m : Nat} (hsz : szIs P t m = true) {p v : VVal} {us : List (Id × Nat × Ob)}
    (hl : r.look x' = some p) (hl' : r.look y' = some v) (hv : vstore r.h m p v = some us) : OpWp P G r.h w a o .undef us := by
  obtain ⟨hlen, hva⟩ := gd_eq hv
  obtain ⟨hsol, hvb⟩ := gd_eq hva
  clear hv hva
  have hp := look_rel hr hx hl
  have hyv := look_rel hr hy hl'
  obtain ⟨c1, c2, c3⟩ := vrel_cells hyv hsol
  generalize hcp : a.eval x = cp at hp
  generalize hys : (a.eval y).cells.toList = ys
  have hym : ys.length = m := by rw [← hys]; simp; omega
  have hy1 : ∀ u ∈ ys, u.oneCell' = true := fun u hu => by
    obtain ⟨k, hk, rfl⟩ := List.getElem_of_mem hu
    exact c2 k _ (by rw [← Array.getElem?_toList, hys]; exact List.getElem?_eq_getElem hk)
  have hyr : ∀ (k : Nat) (u : VVal) (c : Value), (vcells v)[k]? = some u → ys[k]? = some c → VRel G r.h w u c := fun k u c hu hc => c3 k u c hu (by rw [← Array.getElem?_toList, hys]; exact hc)
  have key : ∀ (b off : Nat) (arr : Array Value) (tt : TypeId), cp = .pointer (some ⟨b, off, none⟩) → w.heap[b]? = some (.cells arr tt (0, 0)) → off + m ≤ arr.size →
      (execOp a.eval o).run P w = .ok .skip (w.setRow b (splice arr.toList off ys).toArray) := by
    intro b off arr tt hc hb hle
    subst hc
    have hst := run_storeCells_at P b off tt ys 0 arr w hb (by omega) hy1
    simp only [Nat.add_zero] at hst
    have hm : (a.eval y).cells.size = m := by rw [← c1]; exact hlen
    simp [execOp, ho, Instr.storeAt, Instr.sureAddr, hcp, storeVar, run_sizeOf hsz, hm, hys, hst, splice]
  have hsz' : ∀ b cs', w.heap.size = (w.setRow b cs').heap.size := fun b cs' => by simp [World.setRow]
  have hblk : ∀ b0 cs' b, b ≠ b0 → (w.setRow b0 cs').heap[b]? = w.heap[b]? := fun b0 cs' b hne => setRow_other w _ _ _ hne
  cases hp with
  | @ptr id ver off ad v' o' hh hle hoo =>
    simp only [vstoreAt, hh] at hvb
    cases o' with
    | box cs =>
      simp only at hvb
      obtain ⟨rfl, hv2⟩ := gd_eq hvb
      obtain ⟨hof, hv3⟩ := gd_eq hv2
      simp at hv3
      subst hv3
      obtain ⟨hm, arr, tt, hb, hl2, h1, hrel⟩ := hi id _ _ hh
      have hrun := key (G.blk id) off arr tt (by rw [hoo rfl]) hb (by omega)
      generalize hN : (splice arr.toList off ys).toArray = N at hrun
      have hNg : ∀ k : Nat, N[k]? = if off ≤ k ∧ k < off + m then ys[k - off]? else arr[k]? := fun k => by
        rw [← hN, List.getElem?_toArray, splice_get _ _ _ (by simp; omega), hym, Array.getElem?_toList (xs := arr)]
      have hNs : N.size = arr.size := by rw [← hN, List.size_toArray, splice_length arr.toList off ys (by simp; omega), Array.length_toList]
      have hst := Step.write (G := G) (h := r.h) (w' := w.setRow (G.blk id) N) id (o' := .box (splice cs off (vcells v))) hh hm (by simp [SameOb]) (hsz' _ _) (hblk _ _) rfl rfl rfl
      refine opWp_skip (G' := G) hrun hst (HeapInv.write hi id hst hm (hblk _ _) ⟨hm, N, tt, setRow_heap w _ _ _ _ _ hb, ?_, ?_, ?_⟩)
      · rw [splice_length _ _ _ (by omega), hl2, hNs]
      · intro k c hk
        rw [hNg] at hk
        split at hk
        · exact hy1 c (List.mem_of_getElem? hk)
        · exact h1 k c hk
      · intro k u c hu hc
        rw [hNg] at hc
        rw [splice_get _ _ _ (by omega), hlen] at hu
        refine VRel.mono hst ?_
        by_cases hk : off ≤ k ∧ k < off + m
        · rw [if_pos hk] at hu hc
          exact hyr _ u c hu hc
        · rw [if_neg hk] at hu hc
          exact hrel k u c hu hc
    | _ => simp at hvb
  | @eptr id ver i off ad v' o' hh hle hoo =>
    simp only [vstoreAt, hh] at hvb
    cases o' with
    | arr sz xs =>
      simp only at hvb
      obtain ⟨rfl, hv2⟩ := gd_eq hvb
      obtain ⟨x0, hx0, hv3⟩ := ob_eq hv2
      obtain ⟨ds, hds, hv4⟩ := ob_eq hv3
      obtain ⟨hof, hv5⟩ := gd_eq hv4
      simp at hv5
      subst hv5
      obtain ⟨sz2, xs2, he, hlt, had⟩ := hoo rfl
      simp at he
      obtain ⟨rfl, rfl⟩ := he
      obtain ⟨hcs, hmm, hall⟩ := hi id _ _ hh
      have hm : G.kind (G.blk id) = .mine id := by
        rcases hmm with h0 | h0
        · rw [h0] at hlt; simp at hlt
        · exact h0
      obtain ⟨hcap, arr, tt, hb, has, hc⟩ := hall hm
      have hx0s : x0.cells.length = sz := hcs x0 (List.mem_of_getElem? hx0)
      have hfit : i * sz + off + m ≤ arr.size := by
        rw [has]
        have := Nat.mul_le_mul_right sz (show i + 1 ≤ G.cap id by omega)
        rw [Nat.add_mul] at this
        omega
      have hrun := key (G.blk id) (i * sz + off) arr tt (by rw [had]) hb hfit
      generalize hN : (splice arr.toList (i * sz + off) ys).toArray = N at hrun
      have hNg : ∀ k : Nat, N[k]? = if i * sz + off ≤ k ∧ k < i * sz + off + m then ys[k - (i * sz + off)]? else arr[k]? := fun k => by
        rw [← hN, List.getElem?_toArray, splice_get _ _ _ (by simp; omega), hym, Array.getElem?_toList (xs := arr)]
      have hNs : N.size = arr.size := by rw [← hN, List.size_toArray, splice_length arr.toList (i * sz + off) ys (by simp; omega), Array.length_toList]
      have hdl : ds.length = m := by rw [(mapO_get hds).1]; exact hlen
      have hdr : ∀ (k : Nat) (dd : PV), ds[k]? = some dd → ∃ c, ys[k]? = some c ∧ c.oneCell' = true ∧ PRel (fun b => G.kind b = .frozen) w dd c := fun k dd hk => by
        obtain ⟨u, hu, hun⟩ := (mapO_get hds).2 k dd hk
        have hklt : k < ys.length := by rw [hym, ← hlen]; exact (List.getElem?_eq_some_iff.1 hu).1
        have := unP_rel (hyr k u ys[k] hu (List.getElem?_eq_getElem hklt)) hun
        exact ⟨ys[k], List.getElem?_eq_getElem hklt, this.2, this.1⟩
      have hd1 : ∀ dd ∈ ds, dd.cells = [dd] := fun dd hdd => by
        obtain ⟨k, hk, rfl⟩ := List.getElem_of_mem hdd
        obtain ⟨c, _, h1, h2⟩ := hdr k _ (List.getElem?_eq_getElem hk)
        cases hdk : ds[k] <;> simp only [PV.cells]
        rw [hdk] at h2
        cases h2
        simp [Value.oneCell'] at h1
      have hsc := setCells_cells (x := x0) (off := off) (ds := ds) (by omega) hd1
      have hst := Step.write (G := G) (h := r.h) (w' := w.setRow (G.blk id) N) id (o' := .arr sz (xs.set i (setCells x0 off ds))) hh hm (by simp [SameOb]) (hsz' _ _) (hblk _ _) rfl rfl rfl
      refine opWp_skip (G' := G) hrun hst (HeapInv.write hi id hst hm (hblk _ _) ⟨?_, .inr hm, fun _ => ⟨by simpa using hcap, N, tt, setRow_heap w _ _ _ _ _ hb, by rw [hNs, has], ?_⟩⟩)
      · intro z hz
        rcases List.mem_or_eq_of_mem_set hz with hz | rfl
        · exact hcs z hz
        · rw [hsc, splice_length _ _ _ (by omega), hx0s]
      · intro i' x' j c hx' hj
        rw [List.getElem?_set] at hx'
        by_cases hii : i' = i
        · subst hii
          simp only [if_true, hlt] at hx'
          simp at hx'
          subst hx'
          rw [hsc, splice_get _ _ _ (by omega), hdl] at hj
          by_cases hjj : off ≤ j ∧ j < off + m
          · rw [if_pos hjj] at hj
            obtain ⟨cv, q1, q2, q3⟩ := hdr (j - off) c hj
            refine ⟨cv, ?_, q2, q3.mono hst.keeps hst.size⟩
            rw [hNg, if_pos (by omega), ← q1]
            congr 1
            omega
          · rw [if_neg hjj] at hj
            obtain ⟨cv, q1, q2, q3⟩ := hc i' x0 j c hx0 hj
            refine ⟨cv, ?_, q2, q3.mono hst.keeps hst.size⟩
            rw [hNg, if_neg (by omega), q1]
        · rw [if_neg (fun e => hii e.symm)] at hx'
          obtain ⟨cv, q1, q2, q3⟩ := hc i' x' j c hx' hj
          refine ⟨cv, ?_, q2, q3.mono hst.keeps hst.size⟩
          have hjs : j < sz := by rw [← hcs x' (List.mem_of_getElem? hx')]; exact (List.getElem?_eq_some_iff.1 hj).1
          rw [hNg, if_neg (cell_far hii hjs (by omega)), q1]
    | _ => simp at hvb
  | _ => simp [vstoreAt] at hvb
end

end Go.V
