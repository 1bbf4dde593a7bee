/- The value machine V against the model: a call as an operation. -/
import Derived.Test.YtcljahgcdbohaaaVCallD
set_option linter.unusedSimpArgs false
set_option linter.unusedVariables false
namespace Go.V
open Go.RowKit

/-- A function's results against the model's. -/
def RetRel (G : Gh) (h : VHeap) (w : World) : List VVal → Value → Prop
  | [v], c => VRel G h w v c
  | vs, c => ∃ arr : Array Value, c = .tuple arr ∧ vs.length = arr.size ∧ ∀ (i : Nat) (v : VVal) (c : Value), vs[i]? = some v → arr[i]? = some c → VRel G h w v c

/-- What a call of the machine says of the model. -/
def CallOK (P : Program) (f : FuncId) (args : List VVal) (H : List Ob) (res : VVal) (H' : List Ob) : Prop :=
  ∀ (G : Gh) (w : World) (cargs : Array Value), HeapInv G (enterH H) w → args.length = cargs.size → (∀ (i : Nat) (u : VVal) (c : Value), args[i]? = some u → cargs[i]? = some c → VRel G (enterH H) w u c) →
    (∀ b id, G.kind b = .mine id → ∃ i, id = .arg i 0) →
    Calls P f cargs w fun e w' => ∃ c G' h' vs, e = .returned c ∧ Step G (enterH H) w G' h' w' ∧ HeapInv G' h' w' ∧ RetRel G' h' w' vs c ∧ outs h' vs = some res ∧ outH h' 0 H.length = some H'

def CallsSound (P : Program) (Γ : Sig) : Prop := ∀ f args H res H', Γ f args H = some (res, H') → hasBody P f = true ∧ CallOK P f args H res H'

theorem out0_notup (h1 : VHeap) (v : VVal) (rs : List VVal) : out0 h1 v ≠ some (.tup rs) := by
  intro ho
  unfold out0 at ho
  split at ho
  · simp at ho
  · obtain ⟨_, _, ho1⟩ := ob_eq ho
    obtain ⟨_, ho2⟩ := gd_eq ho1
    simp at ho2
  · obtain ⟨_, _, ho1⟩ := ob_eq ho
    simp at ho1
  · obtain ⟨_, ho1⟩ := gd_eq ho
    simp at ho1
  · simp at ho
  · cases ho
theorem out1_notup (h1 : VHeap) (v : VVal) (rs : List VVal) : out1 h1 v ≠ some (.tup rs) := by
  intro ho
  unfold out1 at ho
  split at ho
  · obtain ⟨_, _, ho1⟩ := ob_eq ho
    simp at ho1
  · split at ho
    · obtain ⟨_, ho1⟩ := gd_eq ho
      obtain ⟨_, _, ho2⟩ := ob_eq ho1
      simp at ho2
    · cases ho
  · exact out0_notup _ _ _ ho

section
variable {P : Program} {Γ : Sig} (hΓ : CallsSound P Γ) {G : Gh} {h : VHeap} {w : World} {a : Act} {o : Oper} (hi : HeapInv G h w)
include hΓ hi

theorem op_vcall {f : FuncId} {cargs : Array Value} {us : List VVal} {d : Nat} {val : VVal} {ups : List (Id × Nat × Ob)} (hrun : hasBody P f = true → (execOp a.eval o).run P w = .ok (.enter f cargs) w) (hlen : us.length = cargs.size)
    (hargs : ∀ (i : Nat) (u : VVal) (c : Value), us[i]? = some u → cargs[i]? = some c → VRel G h w u c) (hv : vcallOp Γ h d f us = some (val, ups)) : OpWp P G h w a o val ups := by
  unfold vcallOp at hv
  have hn := roots_nodup h us
  generalize roots h us = R at hv hn
  unfold vcallR at hv
  obtain ⟨args', hargs', hv⟩ := ob_eq hv
  obtain ⟨H, hH, hv⟩ := ob_eq hv
  obtain ⟨⟨res, H'⟩, hcall, hv⟩ := ob_eq hv
  obtain ⟨hlend, hv⟩ := gd_eq hv
  obtain ⟨bs, hbs, hv⟩ := ob_eq hv
  obtain ⟨q, hq, hv⟩ := ob_eq hv
  simp only [Option.some.injEq, Prod.mk.injEq] at hv
  obtain ⟨hval, hups⟩ := hv
  subst hval
  subst hups
  simp only at hlend hbs hq
  obtain ⟨hbody, hok⟩ := hΓ _ _ _ _ _ hcall
  generalize hle : us.any lends = lend at hlend
  have hal : lend = true → noAlias res = true ∧ H'.all flatBox = true := fun e => by
    rcases hlend with h0 | h0
    · rw [e] at h0; cases h0
    · exact h0
  obtain ⟨l1, l2⟩ := mapO_get hargs'
  have hcalls := hok (calleeG G R lend) w cargs (enter_inv hi hn hH) (by omega) (fun i u c hu hc => by
    obtain ⟨x, hx, hxu⟩ := l2 i u hu
    refine ext1_rel hi hH (hargs i x c hx hc) (fun hl => ?_) hxu
    rw [← hle, List.any_eq_true]
    exact ⟨x, List.mem_of_getElem? hx, hl⟩) (fun b id hm => by
    obtain ⟨i, _, e, _⟩ := calleeG_mine hm
    exact ⟨i, e⟩)
  intro K Q hK
  unfold Oper.wp
  rw [hrun hbody, Oper.upon_enter]
  refine hcalls.mono fun e w' he => ?_
  obtain ⟨c, G1, h1, vs, rfl, hst, hinv1, hret, houts, houtH⟩ := he
  obtain ⟨hnd, houtT⟩ := gd_eq houts
  have hHR : H.length = R.length := (mapO_get hH).1
  rw [hHR] at houtH
  -- the setting
  have hargs0 : ∀ i, i < R.length → ∃ cs1, h1 (.arg i 0) = some (0, .box cs1) := fun i hilt => by
    obtain ⟨o1, o2⟩ := outH_get houtH
    have hlt : i < H'.length := by omega
    have hob := o2 i H'[i] (List.getElem?_eq_getElem hlt)
    rw [Nat.zero_add] at hob
    simp only [outBox] at hob
    split at hob <;> try (cases hob; done)
    rename_i v1 cs1 hh1
    obtain ⟨rfl, _⟩ := gd_eq hob
    exact ⟨cs1, hh1⟩
  have main : ∀ (hs : List (Id × Id)) (hi' : Nat), Pre h1 h d hs q.2 0 hi' → (hs.map (·.1)).Nodup →
      (∀ h2 : VHeap, After G h w R H lend G1 h1 w' hs h2 → (∀ x ∈ q.2, h2 x.1 = some x.2) → VRel (afterG G G1 w.heap.size w'.heap.size hs) h2 w' q.1 c ∧ ∀ x ∈ q.2, OBRel (afterG G G1 w.heap.size w'.heap.size hs) h2 w' x.1 x.2.2) →
      K (a.put o.dst c) w' := by
    intro hs hi' hpre hnd1 hres
    obtain ⟨k1, k2⟩ := backBoxes_get hbs
    have hkn : (q.2.map (·.1)).Nodup := by rw [hpre.keys]; exact hpre.nd
    have hbn : (bs.map (·.1)).Nodup := by rw [k1]; exact hn
    have hin : ∀ id, id ∈ q.2.map (·.1) ↔ ∃ p, (p, id) ∈ hs := fun id => by
      rw [hpre.keys, List.mem_map]
      exact ⟨fun ⟨x, hx, e⟩ => ⟨x.1, by rw [← e]; exact hx⟩, fun ⟨p, hp⟩ => ⟨_, hp, rfl⟩⟩
    have hq2 : ∀ x ∈ q.2, (h.upds (bs ++ q.2)) x.1 = some x.2 := fun x hx => by rw [upds_append]; exact upds_get _ _ x hkn hx
    have hb2 : ∀ x ∈ bs, (∀ p, (p, x.1) ∉ hs) → (h.upds (bs ++ q.2)) x.1 = some x.2 := fun x hx hno => by
      rw [upds_append, upds_not _ _ _ (fun hm => by obtain ⟨p, hp⟩ := (hin _).1 hm; exact hno p hp)]
      exact upds_get _ _ x hbn hx
    have A : After G h w R H lend G1 h1 w' hs (h.upds (bs ++ q.2)) := {
      hinv := hi, hn := hn, hH := hH, st := hst, inv1 := hinv1, nd1 := hnd1, nd2 := hpre.nd
      own := fun p id hp => hpre.own (p, id) hp
      h2a := fun p id hp => by
        obtain ⟨x, hx, e⟩ := List.mem_map.1 ((hin id).2 ⟨p, hp⟩)
        have := hq2 x hx
        rw [e] at this
        refine ⟨x.2.2, ?_⟩
        rw [this, ← e, ← hpre.ver x hx]
      h2b := fun id hno hR => by
        rw [upds_append, upds_not _ _ _ (fun hm => by obtain ⟨p, hp⟩ := (hin _).1 hm; exact hno p hp), upds_not _ _ _ (by rw [k1]; exact hR)]
      h2c := fun id v o' hno hR hh => by
        obtain ⟨i, hilt, e⟩ := List.getElem_of_mem hR
        obtain ⟨cs, cs', o2, _, _, b3, b4⟩ := k2 i id (by rw [List.getElem?_eq_getElem hilt, e])
        rw [hh] at b3
        simp at b3
        subst b3
        exact ⟨cs', hb2 _ b4 hno⟩
      args0 := hargs0 }
    obtain ⟨hvr, hobj⟩ := hres _ A hq2
    refine hK c w' _ A.step (A.inv houtH hbs (fun e => (hal e).2) hb2 fun p id hp v o' hh => ?_) hvr
    obtain ⟨x, hx, e⟩ := List.mem_map.1 ((hin id).2 ⟨p, hp⟩)
    have h1' := hq2 x hx
    rw [e, hh] at h1'
    simp at h1'
    have := hobj x hx
    rw [e, ← h1'] at this
    exact this
  have hndI := nodup_of hnd
  by_cases hone : ∃ v, vs = [v]
  · obtain ⟨v, rfl⟩ := hone
    simp only [outsT] at houtT
    have hin1 : in1 R h d 0 res = some (q.1, q.2) := by
      cases res with
      | tup rs =>
        exact absurd houtT (out1_notup h1 v rs)
      | _ => exact hq
    have hna : noAlias res = true → noAlias1 res = true := fun e => by
      cases res with
      | tup => simp [in1, in0, back0, ob] at hin1
      | _ => exact e
    refine main (hand1 h1 d 0 v) _ (pre1 houtT hin1) (List.Sublist.nodup (hand1_fst v 0) (by simpa using hndI)) fun h2 A hq2 => ?_
    exact A.res1 hret houtT hin1 (fun e => hna (hal e).1) (fun _ hx => hx) hq2
  · have hT : outsT h1 vs = ob (mapO (out1 h1) vs) fun vs => some (.tup vs) := by
      unfold outsT
      split
      · exact absurd ⟨_, rfl⟩ hone
      · rfl
    rw [hT] at houtT
    obtain ⟨rs, hrs, houtT1⟩ := ob_eq houtT
    simp at houtT1
    subst houtT1
    simp only [inRes] at hq
    obtain ⟨r, hr, hq1⟩ := ob_eq hq
    simp at hq1
    subst hq1
    have hret' : ∃ arr : Array Value, c = .tuple arr ∧ vs.length = arr.size ∧ ∀ (i : Nat) (v : VVal) (c : Value), vs[i]? = some v → arr[i]? = some c → VRel G1 h1 w' v c := by
      unfold RetRel at hret
      split at hret
      · exact absurd ⟨_, rfl⟩ hone
      · exact hret
    obtain ⟨arr, rfl, ha1, ha2⟩ := hret'
    obtain ⟨hi', _, hpre⟩ := preT hrs hr
    refine main (handT h1 d 0 vs rs) hi' hpre (List.Sublist.nodup (handT_fst vs rs 0) hndI) fun h2 A hq2 => ?_
    obtain ⟨b1, b2, b3⟩ := A.resT (cs := arr.toList) (by simpa using ha1) (fun i v c hv hc => ha2 i v c hv (by simpa using hc)) hrs hr (fun e => (hal e).1) (fun _ hx => hx) hq2
    exact ⟨.tup (by simpa using b1) fun i u c hu hc => b2 i u c hu (by simpa using hc), b3⟩
end

end Go.V
