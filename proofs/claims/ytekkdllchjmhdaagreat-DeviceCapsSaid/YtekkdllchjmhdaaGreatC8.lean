/- Part 8 of the proof. -/
import Derived.Test.YtekkdllchjmhdaaGreatC7
import Derived.Laws.IdiomStrings
import Derived.Laws.BytesString
import Derived.Laws.MakeOwn
import Derived.Laws.RangeString
set_option linter.unusedSectionVars false
set_option linter.unusedSimpArgs false
set_option linter.unusedVariables false
open Nat renaming reduceAdd → rA, le_refl → lrf
open List renaming getElem?_eq_getElem → lgg, getElem?_eq_some_iff → lgs, mem_of_getElem? → lmg, mem_cons_of_mem → lmc, map_cons → lpc, mem_map → lmm, mem_cons_self → lms, map_append → lma, getElem?_of_mem → lgm, length_cons → llc, length_append → lla, flatMap_cons → lfc, getElem?_append_right → lgr, mem_cons → lmk, mem_append → lmp, length_map → llm, eq_nil_of_length_eq_zero → lez, length_take → llt
open Option renaming some.injEq → osi
open Bool renaming and_eq_true → bat, false_eq_true → bft, or_eq_true → bot
open Array renaming getElem?_eq_some_iff → ags, getElem?_eq_getElem → aggz, getD_eq_getD_getElem? → agd
open Prod renaming mk.injEq → pmi
namespace Go.V
open Go.RowKit
section
variable [GK]
def OptInt (v : Option Value) (dflt x : Nat) : Prop:=(v = none /\ x = dflt) \/ ∃ (k : IntKind) (i : Int),v = some (.int k i) /\ 0 <= i /\ i.toNat = x
theorem run_bounds2 {P : Program} {w : World} (isSlice : Bool) {len cap l m : Nat} {lo hi : Option Value} (hl : OptInt lo 0 l) (hh : OptInt hi len m) (h1 : l <= m) (h2 : m <= len) (h3 : len <= cap) :
  (Instr.sliceBounds isSlice len cap lo hi none).run P w = .ok (l,m,cap) w:=by
 rcases hl with ⟨rfl,rfl⟩ | ⟨k,i,rfl,hi0,rfl⟩ <;> rcases hh with ⟨rfl,rfl⟩ | ⟨k',i',rfl,hi0',rfl⟩
 ·simp [Instr.sliceBounds]
 ·have : i' <= (cap : Int):=by omega
  simp [Instr.sliceBounds,Instr.sliceBound,asIntOf,hi0',this]
 ·have : i <= (m : Int):=by omega
  simp [Instr.sliceBounds,Instr.sliceBound,asIntOf,hi0,this]
 ·have e1 : i' <= (cap : Int):=by omega
  have e2 : i <= ((i'.toNat : Nat) : Int):=by omega
  simp only [Instr.sliceBounds,Instr.sliceBound,asIntOf,hi0,hi0',e1,e2,Sem.run_bind,Sem.run_pure,Result.andThen_ok,and_self,if_true]
theorem run_bounds3b {P : Program} {w : World} {len cap l m : Nat} {lo hi mx : Option Value} (hl : OptInt lo 0 l) (hh : OptInt hi len m) (hhi : hi.isSome = true) (hm : ∃ (k : IntKind) (i : Int),mx = some (.int k i) /\ 0 <= i /\ i.toNat = m) (h1 : l <= m) (h2 : m <= len) (h3 : len <= cap) :
  (Instr.sliceBounds true len cap lo hi mx).run P w = .ok (l,m,m) w:=by
 obtain ⟨k2,i2,rfl,hi2,he2⟩:=hm
 have e3 : i2 <= (cap : Int):=by omega
 rcases hh with ⟨rfl,rfl⟩ | ⟨k',i',rfl,hi0',he'⟩
 ·simp at hhi
 ·have e1 : i' <= (m : Int):=by omega
  rcases hl with ⟨rfl,h0⟩ | ⟨k,i,rfl,hi0,he⟩
  ·simp only [Instr.sliceBounds,Instr.sliceBound,asIntOf,hi0',hi2,e3,Sem.run_bind,Sem.run_pure,Result.andThen_ok,and_self,if_true,he2,he',e1,h0]
  ·have e2 : i <= (m : Int):=by omega
   simp only [Instr.sliceBounds,Instr.sliceBound,asIntOf,hi0',hi0,hi2,e3,Sem.run_bind,Sem.run_pure,Result.andThen_ok,and_self,if_true,he2,he',he,e1,e2]
theorem run_bounds3 {P : Program} {w : World} {len cap l : Nat} {lo hi mx : Option Value} (hl : OptInt lo 0 l) (hh : OptInt hi len l) (hhi : hi.isSome = true) (hm : ∃ (k : IntKind) (i : Int),mx = some (.int k i) /\ 0 <= i /\ i.toNat = l) (h2 : l <= len) (h3 : len <= cap) :
  (Instr.sliceBounds true len cap lo hi mx).run P w = .ok (l,l,l) w:=by
 obtain ⟨k2,i2,rfl,hi2,he2⟩:=hm
 have e3 : i2 <= (cap : Int):=by omega
 rcases hh with ⟨rfl,rfl⟩ | ⟨k',i',rfl,hi0',he'⟩
 ·simp at hhi
 ·have e1 : i' <= (l : Int):=by omega
  rcases hl with ⟨rfl,h0⟩ | ⟨k,i,rfl,hi0,he⟩
  ·simp only [Instr.sliceBounds,Instr.sliceBound,asIntOf,hi0',hi2,e3,Sem.run_bind,Sem.run_pure,Result.andThen_ok,and_self,if_true,he2,he',e1,h0]
   subst h0
   have : i' <= 0:=by omega
   simp [this]
  ·have e2 : i <= (l : Int):=by omega
   simp only [Instr.sliceBounds,Instr.sliceBound,asIntOf,hi0,hi0',hi2,e1,e2,e3,Sem.run_bind,Sem.run_pure,Result.andThen_ok,and_self,if_true,he2,he',he]
section
variable {P : Program} {vs : List Nat} {n : Nat} {G : Gh} {r : RS} {a : Act} {w : World} (hr : RRel vs n G r a w) (hi : HeapInv G r.h w) {o : Oper} (d : Nat)
include hr
theorem natOf_sound {y : VArg} {x : Operand} (hx : okArg vs x y = true) {v : VVal} {m : Nat} (hl : r.look y = some v) (hm : natOf v = some m) : ∃ (k : IntKind) (i : Int),a.eval x = .int k i /\ 0 <= i /\ i.toNat = m:=by
 have h1:=look_rel hr hx hl
 unfold natOf at hm
 split at hm
 ·obtain ⟨h0,hm2⟩:=gd_eq hm
  simp at hm2
  exact ⟨_,_,vrel_int h1,h0,hm2⟩
 .cases hm
theorem optNat_sound {y : Option VArg} {x : Option Operand} (hx : okOpt vs x y = true) {dflt m : Nat} (hm : optNat r.look dflt y = some m) : OptInt (x.map a.eval) dflt m:=by
 cases y with
 | none =>
  cases x with
  | none=>simp [optNat] at hm; exact .inl ⟨rfl,hm.symm⟩
  | some x=>simp [okOpt] at hx
 | some y =>
  cases x with
  | none=>simp [okOpt] at hx
  | some x =>
   simp only [optNat] at hm
   obtain ⟨v,hv,hm2⟩:=ob_eq hm
   obtain ⟨k,i,h1,h2,h3⟩:=natOf_sound hr (by simpa [okOpt] using hx) hv hm2
   exact .inr ⟨k,i,by simp [h1],h2,h3⟩
include hi
theorem op_sliceS {t : TypeId} {x : Operand} {lo hi' mx : Option Operand} (ho : o.op = .slice t x lo hi' mx) (hmx : mx = none) {y : VArg} {lo' hi2 : Option VArg} (hx : okArg vs x y = true) (hlo : okOpt vs lo lo' = true) (hhi : okOpt vs hi' hi2 = true) (hu : P.underlying t = some .string) {v val : VVal} {us : List (Id × Nat × Ob)}
  (hl : r.look y = some v) (hv : vsliceS r.look lo' hi2 v = some (val,us)) : OpWp P G r.h w a o val us:=by
 obtain ⟨n0,hn0,hv2⟩:=ob_eq hv
 obtain ⟨l,hl0,hv3⟩:=ob_eq hv2
 obtain ⟨m,hm0,hv4⟩:=ob_eq hv3
 obtain ⟨h1,hv5⟩:=gd_eq hv4
 obtain ⟨h2,hv6⟩:=gd_eq hv5
 unfold vcutS at hv6
 split at hv6
 ·rename_i s
  simp at hv6
  obtain ⟨rfl,rfl⟩:=hv6
  simp [vlenS] at hn0
  subst hn0
  have hs:=vrel_str (look_rel hr hx hl)
  refine opWp_silent (c:=.string (s.extract l m)) ?_ hi (vrel_mkStr _)
  have hb:=run_bounds2 (P:=P) (w:=w) false (optNat_sound hr hlo hl0) (optNat_sound hr hhi hm0) h1 h2 (lrf _)
  subst hmx
  simp [execOp,ho,Instr.sliceAt,Instr.slice,run_underlying hu,hs,hb]
 .cases hv6
theorem op_slice {t e : TypeId} {x : Operand} {lo hi' mx : Option Operand} (ho : o.op = .slice t x lo hi' mx) (hmx : mx = none \/ hi'.isSome = true) {y : VArg} {lo' hi2 mx' : Option VArg} (hx : okArg vs x y = true) (hlo : okOpt vs lo lo' = true) (hhi : okOpt vs hi' hi2 = true) (hmm : okOpt vs mx mx' = true)
    (hu : P.underlying t = some (.slice e)) {sz : Nat} (hsz : szIs P e sz = true) {v val : VVal} {us : List (Id × Nat × Ob)} (hl : r.look y = some v) (hv : vslice d r.h r.look sz lo' hi2 mx' v = some (val,us)) : OpWp P G r.h w a o val us:=by
  obtain ⟨n0, hn0, hv2⟩:=ob_eq hv
  obtain ⟨l, hl0, hv3⟩:=ob_eq hv2
  obtain ⟨m, hm0, hv4⟩:=ob_eq hv3
  obtain ⟨h1, hv5⟩:=gd_eq hv4
  obtain ⟨h2, hv6⟩:=gd_eq hv5
  clear hv hv2 hv3 hv4 hv5
  have hxv := look_rel hr hx hl
  obtain ⟨ad, cap, hc, hcap⟩:=vlen_slice hxv hn0
  have o1 := optNat_sound hr hlo hl0
  have o2 := optNat_sound hr hhi hm0
  cases mx' with
  | none =>
    have hmx0 : mx = none:=by cases mx <;> simp_all [okOpt]
    subst hmx0
    simp only [vcut3] at hv6
    have hb := run_bounds2 (P := P) (w := w) true o1 o2 h1 h2 hcap
    have hrun : (execOp a.eval o).run P w = .ok (.value (.slice (if cap = l then ad else ad.map (·.add (l * sz))) (m - l) (cap - l))) w:=by
      simp [execOp,ho,Instr.sliceAt,Instr.slice,run_underlying hu,hc,hb,run_sizeOf hsz]
    rw [hc] at hxv
    cases hxv with
    | @p dd c hp hone =>
      cases hp with
      | @slice sz' xs _ _ _ ad' val' hn hcap' ha hszs h1' hcell hrel =>
        simp only [vcut] at hv6
        obtain ⟨rfl,hv7⟩:=gd_eq hv6
        simp at hv7
        obtain ⟨rfl,rfl⟩:=hv7
        refine opWp_silent (c:=_) hrun hi (.p (.slice (ad'.add (l * sz')) (fun i j=>val' (l + i) j) (by simp; omega) (by omega) (fun h0=>?_) (fun q hq=>hszs q (List.mem_of_mem_drop (List.mem_of_mem_take hq))) (fun i q j c hq hj=>?_) (fun i q j c hq hj=>?_) (fun i q j c hq hj=>?_)) rfl)
        · obtain ⟨e1,e2,e3⟩:=ha (by omega)
          refine ⟨?_,by rw [add_block]; exact e2,by rw [add_block]; exact e3⟩
          rw [if_neg (by omega),e1]
          rfl
        all_goals
          rw [List.getElem?_take] at hq
          split at hq
          · rw [List.getElem?_drop] at hq
            first
            | exact h1' _ _ _ _ hq hj
            | exact hrel _ _ _ _ hq hj
            | (rw [add_add]
               have:=hcell _ _ _ _ hq hj
               rw [Nat.add_mul,Nat.add_assoc] at this
               exact this)
          · cases hq
      | _ => simp [vcut] at hv6
    | @own id ver off len _ n' _ v' o' hn hcap' hh hle hoo =>
      simp only [vcut,hh] at hv6
      cases o' with
      | arr sz' xs =>
        simp only at hv6
        obtain ⟨rfl,hv7⟩:=gd_eq hv6
        obtain ⟨rfl,hv8⟩:=gd_eq hv7
        simp at hv8
        obtain ⟨rfl,rfl⟩:=hv8
        simp [vlen] at hn0
        subst hn0
        obtain ⟨sz2,xs2,he,hlen,hreal⟩:=hoo rfl
        simp at he
        obtain ⟨rfl,rfl⟩:=he
        refine opWp_silent (c:=_) hrun hi (.own rfl (by omega) hh (lrf _) fun _=>⟨sz',xs,rfl,by omega,?_⟩)
        rcases hreal with ⟨g1,g2⟩ | ⟨g1,g2,g3⟩
        · exact .inl ⟨by omega,by omega⟩
        · refine .inr ⟨g1,by omega,fun h0=>?_⟩
          rw [if_neg (by omega),g3 (by omega)]
          simp only [Option.map_some,add_lit,Nat.add_mul]
      | _ => simp at hv6
    | _ => simp [vcut] at hv6
  | some xm =>
    simp only [vcut3] at hv6
    obtain ⟨vm,hvm,hv7⟩:=ob_eq hv6
    obtain ⟨k, hk, hv8⟩:=ob_eq hv7
    obtain ⟨rfl,hv9⟩:=gd_eq hv8
    cases mx with
    | none => simp [okOpt] at hmm
    | some x3 =>
      obtain ⟨k3,i3,q1,q2,q3⟩:=natOf_sound hr (by simpa [okOpt] using hmm) hvm hk
      by_cases hown : ∃ id ver off len,v = .own id ver off len
      · obtain ⟨id,ver,off,len,rfl⟩:=hown
        have hsome : (Option.map a.eval hi').isSome = true:=by
          rcases hmx with h | h
          · simp at h
          · simpa using h
        have hb:=run_bounds3b (P:=P) (w:=w) (mx:=some (a.eval x3)) o1 o2 hsome ⟨k3,i3,by rw [q1],q2,q3⟩ h1 h2 hcap
        have hrun : (execOp a.eval o).run P w = .ok (.value (.slice (if k = l then ad else ad.map (·.add (l * sz))) (k - l) (k - l))) w:=by
          simp [execOp,ho,Instr.sliceAt,Instr.slice,run_underlying hu,hc,hb,run_sizeOf hsz]
        rw [hc] at hxv
        cases hxv with
        | @own _ _ _ _ _ n' _ v' o' hn hcap' hh hle hoo =>
          simp only [vcutM,vcut,hh] at hv9
          cases o' with
          | arr sz' xs =>
            simp only at hv9
            obtain ⟨rfl,hv10⟩:=gd_eq hv9
            obtain ⟨rfl,hv11⟩:=gd_eq hv10
            simp at hv11
            obtain ⟨rfl,rfl⟩:=hv11
            simp [vlen] at hn0
            subst hn0
            obtain ⟨sz2,xs2,he,hlen,hreal⟩:=hoo rfl
            simp at he
            obtain ⟨rfl,rfl⟩:=he
            refine opWp_silent (c:=_) hrun hi (.own rfl (lrf _) hh (lrf _) fun _=>⟨sz',xs,rfl,by omega,?_⟩)
            rcases hreal with ⟨g1,g2⟩ | ⟨g1,g2,g3⟩
            · exact .inl ⟨by omega,by omega⟩
            · refine .inr ⟨g1,by omega,fun h0=>?_⟩
              rw [if_neg (by omega),g3 (by omega)]
              simp only [Option.map_some,add_lit,Nat.add_mul]
          | _=>simp at hv9
      have hv10 : gd (l = k) (vcut0 d r.h sz) = some (val,us):=by
        unfold vcutM at hv9
        split at hv9
        .exact absurd ⟨_,_,_,_,rfl⟩ hown
        .exact hv9
      obtain ⟨rfl,hv11⟩:=gd_eq hv10
      simp [vcut0] at hv11
      obtain ⟨rfl,rfl⟩:=hv11
      have hsome : (Option.map a.eval hi').isSome = true:=by
        rcases hmx with h | h
        .simp at h
        .simpa using h
      have hb:=run_bounds3 (P:=P) (w:=w) (mx:=some (a.eval x3)) o1 o2 hsome ⟨k3,i3,by rw [q1],q2,q3⟩ h2 hcap
      obtain ⟨G',s1,i1,v1⟩:=new_nil hi (.slot d 0) sz ad
      refine opWp_value (G':=G') (c:=.slice ad 0 0) ?_ s1 i1 v1
      simp [execOp,ho,Instr.sliceAt,Instr.slice,run_underlying hu,hc,hb,run_sizeOf hsz]
end
end
end Go.V
namespace Go.V
open Go.RowKit
section
variable [GK]
theorem Step.newFrozen {G : Gh} {h : VHeap} {w w' : World} (hinv : HeapInv G h w) (hsz : w.heap.size <= w'.heap.size) (hblk : ∀ b,b < w.heap.size -> w'.heap[b]? = w.heap[b]?)
    (hos : w'.os = w.os) (htp : w'.tape = w.tape) (hout : w'.output = w.output) :
    Step G h w { G with kind:=fun x=>if x = w.heap.size then .frozen else G.kind x } h w' /\ HeapInv { G with kind:=fun x=>if x = w.heap.size then .frozen else G.kind x } h w':=by
  have hst : Step G h w { G with kind:=fun x=>if x = w.heap.size then .frozen else G.kind x } h w' :=
    { frozen:=fun b hb hl=>⟨by simp [Nat.ne_of_lt hl,hb],hblk b hl⟩
      other:=fun b hb hl=>⟨by simp [Nat.ne_of_lt hl,hb],hblk b hl⟩
      mine:=fun b i hl hm=>.inl (by simpa [Nat.ne_of_lt hl] using hm)
      frz:=fun b hl hm=>.inl (by simpa [Nat.ne_of_lt hl] using hm)
      size:=hsz,os:=hos,tape:=htp,output:=hout
      vers:=fun i v o' hi=>⟨v,o',hi,lrf _,fun _=>⟨rfl,rfl,by cases o' <;> simp [SameOb],fun sz xs ho' hm=>by
        have hlt:=blk_lt hinv hi hm (by rw [ho']; simp)
        simp [Nat.ne_of_lt hlt,hm]⟩⟩ }
  refine ⟨hst,fun i v o hi=>?_⟩
  by_cases hg : o = .gone
  · subst hg; trivial
  · refine OBRel.keep hst (hinv i v o hi) rfl rfl (fun hm=>?_) (fun hm=>?_)
    · have hlt:=blk_lt hinv hi hm hg
      exact ⟨by simp [Nat.ne_of_lt hlt,hm],hblk _ hlt⟩
    · simp only at hm
      split at hm
      .cases hm
      .exact hm
theorem op_strBytes {P : Program} {vs : List Nat} {n : Nat} {G : Gh} {r : RS} {a : Act} {w : World} (hr : RRel vs n G r a w) (hi : HeapInv G r.h w) {o : Oper} {src dst e : TypeId} {x : Operand} (ho : o.op = .convert src dst x) {y : VArg} (hx : okArg vs x y = true)
  (hs : P.underlying src = some .string) (hd : P.underlying dst = some (.slice e)) (he : P.underlying e = some (.int .u8)) {s : ByteArray} (hl : r.look y = some (.p (.str s))) :
  OpWp P G r.h w a o (.p (.slice 1 (s.data.toList.map fun b=>.int .u8 b.toNat))) []:=by
 have h1:=vrel_str (look_rel hr hx hl)
 have hrun:=run_bytes_of_string (P:=P) w src dst e s hs hd he
 generalize hw' : w.drew.alloc (.cells (bytesRow s (grownCap w s.size 0 e)) e ((bytesRow s (grownCap w s.size 0 e)).size,(bytesRow s (grownCap w s.size 0 e)).size + 1)) = w' at hrun
 have hsz : w.heap.size < w'.heap.size:=by rw [<- hw']; simp
 have hblk : ∀ b,b < w.heap.size -> w'.heap[b]? = w.heap[b]?:=fun b hb=>by rw [<- hw']; exact Below.heap_alloc w.drew _ b hb
 obtain ⟨s1,i1⟩:=Step.newFrozen (G:=G) (w':=w') hi (by omega) hblk (by rw [<- hw']; rfl) (by rw [<- hw']; rfl) (by rw [<- hw']; rfl)
 have hge:=grownCap_ge w s.size 0 e
 have hcell : ∀ j,j < s.data.size -> w'.cell? ⟨w.heap.size,j,none⟩ = some (.int .u8 ((s.data.toList.getD j 0).toNat : Int)):=fun j hj=>by
  rw [<- hw']
  have:=World.cell?_alloc_mark w.drew (bytesRow s (grownCap w s.size 0 e)) e ((bytesRow s (grownCap w s.size 0 e)).size,(bytesRow s (grownCap w s.size 0 e)).size + 1) j
  rw [show (w.drew.heap.size) = w.heap.size from rfl] at this
  rw [this,bytesRow_at s _ j hj]
  simp [List.getD,aggz hj]
 have hel : ∀ (i : Nat) (q : PV),(s.data.toList.map fun b=>PV.int .u8 b.toNat)[i]? = some q -> q = .int .u8 ((s.data.toList.getD i 0).toNat : Int) /\ i < s.data.size:=fun i q hq=>by
  simp only [List.getElem?_map,Option.map_eq_some_iff] at hq
  obtain ⟨b,hb,rfl⟩:=hq
  have hlt:=(lgs.1 hb).1
  exact ⟨by simp [List.getD,hb],by simpa using hlt⟩
 refine opWp_value (G':=_) (c:=.slice (some ⟨w.heap.size,0,none⟩) s.size (grownCap w s.size 0 e)) (w':=w') ?_ s1 i1 (.p (.slice ⟨w.heap.size,0,none⟩ (fun i _=>.int .u8 ((s.data.toList.getD i 0).toNat : Int)) ?_ hge (fun _=>⟨rfl,by simp,hsz⟩) (fun q hq=>?_) (fun _ _ _ _ _ _=>rfl) (fun i q j c hq hj=>?_) (fun i q j c hq hj=>?_)) rfl)
 ·unfold execOp
  rw [ho]
  show (Sem.bind (convert src dst (a.eval x)) fun c=>Sem.pure (Next.value c)).run P w = _
  rw [h1]
  have:=Sem.run_bind (P:=P) (w:=w) (convert src dst (.string s)) (fun c=>(Sem.pure (Next.value c) : Sem Next))
  refine Eq.trans this ?_
  rw [hrun]
  rfl
 ·rw [llm,Array.length_toList]
  rfl
 ·simp only [lmm] at hq
  obtain ⟨b,_,rfl⟩:=hq
  rfl
 ·obtain ⟨rfl,hlt⟩:=hel i q hq
  cases j with
  | zero=>rw [add_lit]; simp only [Nat.zero_add,Nat.mul_one,Nat.add_zero]; exact hcell i hlt
  | succ j=>simp [PV.cells] at hj
 ·obtain ⟨rfl,hlt⟩:=hel i q hq
  cases j with
  | zero=>simp only [PV.cells,List.getElem?_cons_zero,osi] at hj; rw [<- hj]; exact .int _ _
  | succ j=>simp [PV.cells] at hj
theorem foldl_push : ∀ (ns : List Int) (s : ByteArray),ns.foldl (fun r n=>r.push (UInt8.ofNat n.toNat)) s = ⟨(s.data.toList ++ ns.map fun n=>UInt8.ofNat n.toNat).toArray⟩
 | [],s=>by
  obtain ⟨⟨s⟩⟩:=s
  simp
 | n :: ns,s=>by
  rw [List.foldl_cons,foldl_push ns]
  obtain ⟨⟨s⟩⟩:=s
  simp [ByteArray.push]
theorem unU8_all : ∀ {ys : List PV} {ns : List Int},mapO unU8 ys = some ns -> ys = ns.map (.int .u8)
 | [],ns,h=>by
  simp only [mapO,osi] at h
  subst h
  rfl
 | y :: ys,ns,h=>by
  simp only [mapO] at h
  obtain ⟨n,hn,h⟩:=ob_eq h
  obtain ⟨ms,hm,h⟩:=ob_eq h
  simp only [osi] at h
  subst h
  unfold unU8 at hn
  split at hn
  ·simp only [osi] at hn
   subst hn
   rw [lpc,<- unU8_all hm]
  .cases hn
theorem op_bytesStr {P : Program} {vs : List Nat} {n : Nat} {G : Gh} {r : RS} {a : Act} {w : World} (hr : RRel vs n G r a w) (hi : HeapInv G r.h w) {o : Oper} {src dst e : TypeId} {x : Operand} (ho : o.op = .convert src dst x) {y : VArg} (hx : okArg vs x y = true)
  (hs : P.underlying src = some (.slice e)) (hd : P.underlying dst = some .string) (he : P.underlying e = some (.int .u8)) {v : VVal} (hl : r.look y = some v) {sz : Nat} {ys : List PV} (hv : velems r.h v = some (sz,ys)) (hsz : sz = 1) {ns : List Int} (hns : mapO unU8 ys = some ns) :
  OpWp P G r.h w a o (.p (.str (bytesI ns))) []:=by
 subst hsz
 have h1:=look_rel hr hx hl
 obtain ⟨ad,cap,news,hc,row⟩:=elems_row hi h1 hv
 have hys:=unU8_all hns
 have hnews : news = ns.map (Value.int .u8):=by
  have hlen : news.length = ns.length:=by rw [row.len,hys]; simp
  apply List.ext_getElem?
  intro i
  by_cases hi' : i < ns.length
  ·obtain ⟨u,hu,hrel⟩:=row.rel i (.int .u8 ns[i]) 0 (.int .u8 ns[i]) (by rw [hys]; simp [hi']) rfl
   rw [Nat.mul_one,Nat.add_zero] at hu
   cases hrel
   rw [hu]
   simp [hi']
  ·rw [List.getElem?_eq_none (by omega),List.getElem?_eq_none (by simp; omega)]
 have hyl : ys.length = ns.length:=by rw [hys]; simp
 have hbs : (Conv.bytesToString (a.eval x)).run P w = .ok (.string (bytesI ns)) w:=by
  rw [hc]
  have hfold : ns.foldl (fun r n=>r.push (UInt8.ofNat n.toNat)) ByteArray.empty = bytesI ns:=by rw [foldl_push]; rfl
  cases ad with
  | none =>
   have h0 : ns = []:=by
    cases ns with
    | nil=>rfl
    | cons n ns =>
     obtain ⟨_,e0,_⟩:=row.at_ (by rw [hyl]; simp)
     cases e0
   subst h0
   simp [Conv.bytesToString,Sem.run_pure]
   rfl
  | some b =>
   rw [<- hfold]
   refine run_bytesToString w b ys.length cap ns ?_
   rw [hyl,<- hnews]
   have hl2 : ns.length = news.length:=by rw [hnews]; simp
   rw [hl2]
   by_cases h0 : 0 < ys.length
   ·obtain ⟨b',e0,hcell⟩:=row.at_ h0
    cases e0
    exact run_loadCells_list w b news hcell
   ·have : news = []:=lez (by omega)
    subst this
    exact run_loadCells_list w b [] (by simp)
 refine opWp_silent (c:=.string (bytesI ns)) ?_ hi (vrel_mkStr _)
 unfold execOp
 rw [ho]
 show (Sem.bind (convert src dst (a.eval x)) fun c=>Sem.pure (Next.value c)).run P w = _
 have hconv : (convert src dst (a.eval x)).run P w = .ok (.string (bytesI ns)) w:=by
  rw [<- hbs,hc]
  simp [convert,run_underlying hs,run_underlying hd,run_underlying he]
 have:=Sem.run_bind (P:=P) (w:=w) (convert src dst (a.eval x)) (fun c=>(Sem.pure (Next.value c) : Sem Next))
 refine Eq.trans this ?_
 rw [hconv]
 rfl
section
variable {P : Program} {vs : List Nat} {n : Nat} {G : Gh} {r : RS} {a : Act} {w : World} (hr : RRel vs n G r a w) (hi : HeapInv G r.h w) {o : Oper} (d : Nat)
include hr hi
theorem op_buildFz {t e : TypeId} {len : Nat} {ps : Array (Nat × Operand)} (ho : o.op = .buildSlice t len ps) {sz : Nat} {as_ : List VArg} (hal : as_.length = len) (hsz0 : 0 < sz) (hbig : len * sz <= 16777216) (hok : okParts vs 0 ps.toList as_ = true)
  (hu : P.underlying t = some (.slice e)) {i : TypeInfo} {z : Value} (hinf : P.info? e = some i) (his : i.size = sz) (hz : i.zero = some z) {xs : List PV}
  (hx : mapO (fun x=>ob (r.look x) fun v=>freezeP v) as_ = some xs) (hall : xs.all (fun x=>decide (x.cells.length = sz)) = true) :
  OpWp P G r.h w a o (.p (.slice sz xs)) []:=by
 obtain ⟨hl1,hp1⟩:=okParts_get hok
 obtain ⟨hxl,hxg⟩:=mapO_get hx
 have hcs : ∀ x ∈ xs,x.cells.length = sz:=fun x hx=>by simpa using List.all_eq_true.1 hall x hx
 have hel : ∀ (q : Nat) (p : Nat × Operand),ps.toList[q]? = some p -> ∃ x v,xs[q]? = some x /\ VRel G r.h w v (a.eval p.2) /\ freezeP v = some x:=fun q p hq=>by
  have hqlt : q < ps.toList.length:=(lgs.1 hq).1
  obtain ⟨y,hy,hf⟩:=hxg q (xs[q]'(by omega)) (lgg (by omega))
  obtain ⟨v,hv,hf2⟩:=ob_eq hf
  exact ⟨_,v,lgg (by omega),look_rel hr (hp1 q p y hq hy) hv,hf2⟩
 have hsizes : ∀ p ∈ ps.toList,(a.eval p.2).cells.size = sz:=fun p hp=>by
  obtain ⟨q,hq,rfl⟩:=List.getElem_of_mem hp
  obtain ⟨x,v,h1,h2,h3⟩:=hel q _ (lgg hq)
  rw [<- (freeze_rel h2 h3).1]
  exact hcs x (lmg h1)
 have hrunAll : ∃ zc : Array Value,∀ cells',Instr.fill (fun i=>some (i * sz,sz)) ((Array.range (len * sz)).map (zc[· % zc.size]!)) (ps.map fun (i,x)=>(i,a.eval x)).toList = some cells' ->
   (execOp a.eval o).run P w = .ok (.value (.slice (some ⟨w.heap.size,0,none⟩) len len)) (w.alloc (.cells cells' e)):=by
  have h24 : ¬ (2 ^ 24 < len * sz):=by omega
  have hszr:=run_sizeOf (P:=P) (show szIs P e sz = true by simp [szIs,hinf,his]) w
  by_cases hl0 : len * sz = 0
  ·refine ⟨#[],fun cells' hf=>?_⟩
   simp only [hl0] at hf
   simp [execOp,ho,Instr.buildSlice,run_underlying hu,hszr,hl0]
   simp at hf
   simp [hf,newRow]
  ·refine ⟨z.cells,fun cells' hf=>?_⟩
   simp at hf
   simp [execOp,ho,Instr.buildSlice,run_underlying hu,hszr,h24,hl0,zeroValue,typeInfo,hinf,hz,hf,newRow]
 obtain ⟨zc,hrunAll⟩:=hrunAll
 obtain ⟨cells',f1,f2,f3,f4⟩:=fillS_sound (a:=a) (len:=len) (sz:=sz) ps.toList as_ 0 ((Array.range (len * sz)).map (zc[· % zc.size]!)) hok hsizes (by omega) (by simp)
 have hrun:=hrunAll cells' (by rw [Array.toList_map]; exact f1)
 generalize hw' : w.alloc (.cells cells' e) = w' at hrun
 have hszw : w.heap.size < w'.heap.size:=by rw [<- hw']; simp
 have hblk : ∀ b,b < w.heap.size -> w'.heap[b]? = w.heap[b]?:=fun b hb=>by rw [<- hw']; exact Below.heap_alloc w _ b hb
 obtain ⟨s1,i1⟩:=Step.newFrozen (G:=G) (w':=w') hi (by omega) hblk (by rw [<- hw']; rfl) (by rw [<- hw']; rfl) (by rw [<- hw']; rfl)
 have hxs : xs.length = len:=by omega
 have hkeep : Keeps (fun b=>G.kind b = .frozen) (fun b=>(if b = w.heap.size then Kind.frozen else G.kind b) = .frozen) w w':=fun b hb hl=>⟨by simp [Nat.ne_of_lt hl,hb],hblk b hl⟩
 have hcell : ∀ (k : Nat) (x : PV) (j : Nat) (c : PV),xs[k]? = some x -> x.cells[j]? = some c -> ∃ u,w'.cell? ⟨w.heap.size,k * sz + j,none⟩ = some u /\ u.oneCell' = true /\ PRel (fun b=>(if b = w.heap.size then Kind.frozen else G.kind b) = .frozen) w' c u:=fun k x j c hk hj=>by
  have hklt : k < ps.toList.length:=by
   have:=(lgs.1 hk).1
   omega
  obtain ⟨x',v,h1,h2,h3⟩:=hel k _ (lgg hklt)
  rw [hk] at h1
  simp at h1
  subst h1
  obtain ⟨u,e1,e2,e3⟩:=(freeze_rel h2 h3).2.1 j c hj
  have hjlt : j < sz:=by rw [<- hcs x (lmg hk)]; exact (lgs.1 hj).1
  have:=f4 k _ j (lgg hklt) hjlt
  rw [Nat.zero_add] at this
  refine ⟨u,?_,e2,e3.mono hkeep (by omega)⟩
  rw [<- hw']
  have hc:=World.cell?_alloc_mark w cells' e (0,0) (k * sz + j)
  rw [hc,this,e1]
 refine opWp_value (G':=_) (c:=.slice (some ⟨w.heap.size,0,none⟩) len len) (w':=w') hrun s1 i1 (.p (.slice ⟨w.heap.size,0,none⟩ (fun k j=>(w'.cell? ⟨w.heap.size,k * sz + j,none⟩).getD .nilIface) hxs.symm (lrf _) (fun _=>⟨rfl,by simp,hszw⟩) hcs (fun k x j c hk hj=>?_) (fun k x j c hk hj=>?_) (fun k x j c hk hj=>?_)) rfl)
 ·obtain ⟨u,h1,h2,_⟩:=hcell k x j c hk hj
  rw [h1]; exact h2
 ·obtain ⟨u,h1,_,_⟩:=hcell k x j c hk hj
  rw [add_lit,Nat.zero_add,h1]; rfl
 ·obtain ⟨u,h1,_,h3⟩:=hcell k x j c hk hj
  rw [h1]; exact h3
theorem op_buildPtrs {t e : TypeId} {len : Nat} {ps : Array (Nat × Operand)} (ho : o.op = .buildSlice t len ps) {as_ : List VArg} (hal : as_.length = len) (hbig : len <= 16777216) (hok : okParts vs 0 ps.toList as_ = true)
  (hu : P.underlying t = some (.slice e)) {i : TypeInfo} {z : Value} (hinf : P.info? e = some i) (his : i.size = 1) (hz : i.zero = some z) {us : List VVal}
  (hx : mapO r.look as_ = some us) (hall : us.all isPtr = true) : OpWp P G r.h w a o (.plist us) []:=by
 obtain ⟨hl1,hp1⟩:=okParts_get hok
 obtain ⟨hxl,hxg⟩:=mapO_get hx
 have hel : ∀ (q : Nat) (p : Nat × Operand),ps.toList[q]? = some p -> ∃ v ad,us[q]? = some v /\ VRel G r.h w v (a.eval p.2) /\ a.eval p.2 = .pointer (some ad):=fun q p hq=>by
  have hqlt : q < ps.toList.length:=(lgs.1 hq).1
  have hg : us[q]? = some us[q]:=lgg (by omega)
  obtain ⟨y,hy,hf⟩:=hxg q (us[q]'(by omega)) hg
  have hv:=look_rel hr (hp1 q p y hq hy) hf
  obtain ⟨ad,had⟩:=ptr_val hv (List.all_eq_true.1 hall _ (lmg hg))
  exact ⟨_,ad,hg,hv,had⟩
 have hsizes : ∀ p ∈ ps.toList,(a.eval p.2).cells.size = 1:=fun p hp=>by
  obtain ⟨q,hq,rfl⟩:=List.getElem_of_mem hp
  obtain ⟨v,ad,h1,h2,h3⟩:=hel q _ (lgg hq)
  rw [h3]
  rfl
 have hrunAll : ∃ zc : Array Value,∀ cells',Instr.fill (fun i=>some (i * 1,1)) ((Array.range (len * 1)).map (zc[· % zc.size]!)) (ps.map fun (i,x)=>(i,a.eval x)).toList = some cells' ->
   (execOp a.eval o).run P w = .ok (.value (.slice (some ⟨w.heap.size,0,none⟩) len len)) (w.alloc (.cells cells' e)):=by
  have h24 : ¬ (2 ^ 24 < len * 1):=by omega
  have hszr:=run_sizeOf (P:=P) (show szIs P e 1 = true by simp [szIs,hinf,his]) w
  by_cases hl0 : len * 1 = 0
  ·refine ⟨#[],fun cells' hf=>?_⟩
   simp only [hl0] at hf
   simp [execOp,ho,Instr.buildSlice,run_underlying hu,hszr,hl0]
   simp at hf hl0
   simp [hf,newRow,hl0]
  ·refine ⟨z.cells,fun cells' hf=>?_⟩
   simp at hf hl0
   simp [execOp,ho,Instr.buildSlice,run_underlying hu,hszr,h24,hl0,zeroValue,typeInfo,hinf,hz,hf,newRow]
   omega
 obtain ⟨zc,hrunAll⟩:=hrunAll
 obtain ⟨cells',f1,f2,f3,f4⟩:=fillS_sound (a:=a) (len:=len) (sz:=1) ps.toList as_ 0 ((Array.range (len * 1)).map (zc[· % zc.size]!)) hok hsizes (by omega) (by simp)
 have hrun:=hrunAll cells' (by rw [Array.toList_map]; exact f1)
 generalize hw' : w.alloc (.cells cells' e) = w' at hrun
 have hszw : w.heap.size < w'.heap.size:=by rw [<- hw']; simp
 have hblk : ∀ b,b < w.heap.size -> w'.heap[b]? = w.heap[b]?:=fun b hb=>by rw [<- hw']; exact Below.heap_alloc w _ b hb
 obtain ⟨s1,i1⟩:=Step.newFrozen (G:=G) (w':=w') hi (by omega) hblk (by rw [<- hw']; rfl) (by rw [<- hw']; rfl) (by rw [<- hw']; rfl)
 have hxs : us.length = len:=by omega
 have hcell : ∀ (k : Nat) (p : VVal),us[k]? = some p -> ∃ u,w'.cell? ⟨w.heap.size,k,none⟩ = some u /\ u.oneCell' = true /\ VRel G r.h w p u:=fun k p hk=>by
  have hklt : k < ps.toList.length:=by
   have:=(lgs.1 hk).1
   omega
  obtain ⟨v,ad,h1,h2,h3⟩:=hel k _ (lgg hklt)
  rw [hk] at h1
  simp at h1
  subst h1
  have:=f4 k _ 0 (lgg hklt) (by omega)
  rw [Nat.zero_add,Nat.mul_one,Nat.add_zero] at this
  refine ⟨a.eval (ps.toList[k]).2,?_,by rw [h3]; rfl,h2⟩
  rw [<- hw']
  have hc:=World.cell?_alloc_mark w cells' e (0,0) k
  rw [hc,this,h3]
  rfl
 refine opWp_value (G':=_) (c:=.slice (some ⟨w.heap.size,0,none⟩) len len) (w':=w') hrun s1 i1 (.plist ⟨w.heap.size,0,none⟩ (fun k=>(w'.cell? ⟨w.heap.size,k,none⟩).getD .nilIface) hxs.symm (lrf _) (fun _=>⟨rfl,by simp,hszw⟩) (fun k p hk=>?_) (fun k p hk=>?_) (fun k p hk=>?_))
 ·obtain ⟨u,h1,h2,_⟩:=hcell k p hk
  rw [h1]; exact h2
 ·obtain ⟨u,h1,_,_⟩:=hcell k p hk
  rw [add_lit,Nat.zero_add,h1]; rfl
 ·obtain ⟨u,h1,_,h3⟩:=hcell k p hk
  rw [h1]; exact h3.mono s1
theorem op_buildLit {t e : TypeId} {len : Nat} {ps : Array (Nat × Operand)} (ho : o.op = .buildSlice t len ps) {sz : Nat} {as_ : List VArg} (hal : as_.length = len) (hsz0 : 0 < sz) (hbig : len * sz <= 16777216) (hok : okParts vs 0 ps.toList as_ = true)
  (hu : P.underlying t = some (.slice e)) {i : TypeInfo} {z : Value} (hinf : P.info? e = some i) (his : i.size = sz) (hz : i.zero = some z) {xs : List PV}
  (hx : mapO (fun x=>ob (r.look x) fun v=>freezeP v) as_ = some xs) (hall : xs.all (fun x=>decide (x.cells.length = sz)) = true) :
  OpWp P G r.h w a o (.p (.lit sz xs)) []:=by
 obtain ⟨hl1,hp1⟩:=okParts_get hok
 obtain ⟨hxl,hxg⟩:=mapO_get hx
 have hcs : ∀ x ∈ xs,x.cells.length = sz:=fun x hx=>by simpa using List.all_eq_true.1 hall x hx
 have hel : ∀ (q : Nat) (p : Nat × Operand),ps.toList[q]? = some p -> ∃ x v,xs[q]? = some x /\ VRel G r.h w v (a.eval p.2) /\ freezeP v = some x:=fun q p hq=>by
  have hqlt : q < ps.toList.length:=(lgs.1 hq).1
  obtain ⟨y,hy,hf⟩:=hxg q (xs[q]'(by omega)) (lgg (by omega))
  obtain ⟨v,hv,hf2⟩:=ob_eq hf
  exact ⟨_,v,lgg (by omega),look_rel hr (hp1 q p y hq hy) hv,hf2⟩
 have hsizes : ∀ p ∈ ps.toList,(a.eval p.2).cells.size = sz:=fun p hp=>by
  obtain ⟨q,hq,rfl⟩:=List.getElem_of_mem hp
  obtain ⟨x,v,h1,h2,h3⟩:=hel q _ (lgg hq)
  rw [<- (freeze_rel h2 h3).1]
  exact hcs x (lmg h1)
 have hrunAll : ∃ zc : Array Value,∀ cells',Instr.fill (fun i=>some (i * sz,sz)) ((Array.range (len * sz)).map (zc[· % zc.size]!)) (ps.map fun (i,x)=>(i,a.eval x)).toList = some cells' ->
   (execOp a.eval o).run P w = .ok (.value (.slice (some ⟨w.heap.size,0,none⟩) len len)) (w.alloc (.cells cells' e)):=by
  have h24 : ¬ (2 ^ 24 < len * sz):=by omega
  have hszr:=run_sizeOf (P:=P) (show szIs P e sz = true by simp [szIs,hinf,his]) w
  by_cases hl0 : len * sz = 0
  ·refine ⟨#[],fun cells' hf=>?_⟩
   simp only [hl0] at hf
   simp [execOp,ho,Instr.buildSlice,run_underlying hu,hszr,hl0]
   simp at hf
   simp [hf,newRow]
  ·refine ⟨z.cells,fun cells' hf=>?_⟩
   simp at hf
   simp [execOp,ho,Instr.buildSlice,run_underlying hu,hszr,h24,hl0,zeroValue,typeInfo,hinf,hz,hf,newRow]
 obtain ⟨zc,hrunAll⟩:=hrunAll
 obtain ⟨cells',f1,f2,f3,f4⟩:=fillS_sound (a:=a) (len:=len) (sz:=sz) ps.toList as_ 0 ((Array.range (len * sz)).map (zc[· % zc.size]!)) hok hsizes (by omega) (by simp)
 have hrun:=hrunAll cells' (by rw [Array.toList_map]; exact f1)
 generalize hw' : w.alloc (.cells cells' e) = w' at hrun
 have hszw : w.heap.size < w'.heap.size:=by rw [<- hw']; simp
 have hblk : ∀ b,b < w.heap.size -> w'.heap[b]? = w.heap[b]?:=fun b hb=>by rw [<- hw']; exact Below.heap_alloc w _ b hb
 obtain ⟨s1,i1⟩:=Step.newFrozen (G:=G) (w':=w') hi (by omega) hblk (by rw [<- hw']; rfl) (by rw [<- hw']; rfl) (by rw [<- hw']; rfl)
 have hxs : xs.length = len:=by omega
 have hkeep : Keeps (fun b=>G.kind b = .frozen) (fun b=>(if b = w.heap.size then Kind.frozen else G.kind b) = .frozen) w w':=fun b hb hl=>⟨by simp [Nat.ne_of_lt hl,hb],hblk b hl⟩
 have hcell : ∀ (k : Nat) (x : PV) (j : Nat) (c : PV),xs[k]? = some x -> x.cells[j]? = some c -> ∃ u,w'.cell? ⟨w.heap.size,k * sz + j,none⟩ = some u /\ u.oneCell' = true /\ PRel (fun b=>(if b = w.heap.size then Kind.frozen else G.kind b) = .frozen) w' c u:=fun k x j c hk hj=>by
  have hklt : k < ps.toList.length:=by
   have:=(lgs.1 hk).1
   omega
  obtain ⟨x',v,h1,h2,h3⟩:=hel k _ (lgg hklt)
  rw [hk] at h1
  simp at h1
  subst h1
  obtain ⟨u,e1,e2,e3⟩:=(freeze_rel h2 h3).2.1 j c hj
  have hjlt : j < sz:=by rw [<- hcs x (lmg hk)]; exact (lgs.1 hj).1
  have:=f4 k _ j (lgg hklt) hjlt
  rw [Nat.zero_add] at this
  refine ⟨u,?_,e2,e3.mono hkeep (by omega)⟩
  rw [<- hw']
  have hc:=World.cell?_alloc_mark w cells' e (0,0) (k * sz + j)
  rw [hc,this,e1]
 refine opWp_value (G':=_) (c:=.slice (some ⟨w.heap.size,0,none⟩) len len) (w':=w') hrun s1 i1 (.p (.lit (.slice ⟨w.heap.size,0,none⟩ (fun k j=>(w'.cell? ⟨w.heap.size,k * sz + j,none⟩).getD .nilIface) hxs.symm (lrf _) (fun _=>⟨rfl,by simp,hszw⟩) hcs (fun k x j c hk hj=>?_) (fun k x j c hk hj=>?_) (fun k x j c hk hj=>?_))) rfl)
 ·obtain ⟨u,h1,h2,_⟩:=hcell k x j c hk hj
  rw [h1]; exact h2
 ·obtain ⟨u,h1,_,_⟩:=hcell k x j c hk hj
  rw [add_lit,Nat.zero_add,h1]; rfl
 ·obtain ⟨u,h1,_,h3⟩:=hcell k x j c hk hj
  rw [h1]; exact h3
end
end
end Go.V
namespace Go.V
open Go.RowKit
theorem addNew_nodup : ∀ (is R : List Id),R.Nodup -> (addNew R is).Nodup
 | [],_,h=>h
 | i :: is,R,h=>by
  simp only [addNew]
  refine addNew_nodup is _ ?_
  split
  ·exact h
  ·rename_i hc
   refine List.nodup_append.2 ⟨h,by simp,fun a ha b hb e=>hc ?_⟩
   simp at hb
   subst hb
   subst e
   simpa using ha
theorem roots_nodup (h : VHeap) (args : List VVal) : (roots h args).Nodup:=by
 simp only [roots]
 split
 .simp
 .exact addNew_nodup _ _ (addNew_nodup _ _ (addNew_nodup _ _ (by simp)))
theorem posOf_get {R : List Id} {id : Id} : ∀ {i : Nat},posOf R id = some i -> R[i]? = some id:=by
 induction R with
 | nil=>intro i h; simp [posOf] at h
 | cons r rs ih =>
  intro i h
  simp only [posOf] at h
  split at h
  ·rename_i e; simp at h; subst h; simp [e]
  ·simp only [Option.map_eq_some_iff] at h
   obtain ⟨j,hj,rfl⟩:=h
   simpa using ih hj
theorem posOf_of_get {R : List Id} {id : Id} (hn : R.Nodup) : ∀ {i : Nat},R[i]? = some id -> posOf R id = some i:=by
 induction R with
 | nil=>intro i h; simp at h
 | cons r rs ih =>
  intro i h
  simp only [posOf]
  cases i with
  | zero=>simp at h; simp [h]
  | succ i =>
   simp at h
   have hm:=lmg h
   rw [if_neg (fun (e : r = id)=>(List.nodup_cons.1 hn).1 (e ▸ hm)),ih (List.nodup_cons.1 hn).2 h]
   rfl
def calleeG (G : Gh) (R : List Id) (lend : Bool) : Gh where
 kind b:=match G.kind b with
  | .frozen=>.frozen
  | .other=>.other
  | .mine id=>match (if b = G.blk id then posOf R id else none) with
   | some i=>.mine (.arg i 0)
   | none=>if lend then .frozen else .other
 blk id:=match id with
  | .arg i 0=>match R[i]? with
   | some q=>G.blk q
   | none=>0
  | _=>0
 cap id:=match id with
  | .arg i 0=>match R[i]? with
   | some q=>G.cap q
   | none=>0
  | _=>0
theorem calleeG_frozen {G : Gh} {R : List Id} {lend : Bool} {b : Nat} (h : G.kind b = .frozen) : (calleeG G R lend).kind b = .frozen:=by simp [calleeG,h]
theorem calleeG_other {G : Gh} {R : List Id} {lend : Bool} {b : Nat} (h : G.kind b = .other) : (calleeG G R lend).kind b = .other:=by simp [calleeG,h]
theorem calleeG_mine {G : Gh} {R : List Id} {lend : Bool} {b : Nat} {q : Id} (h : (calleeG G R lend).kind b = .mine q) : ∃ i id,q = .arg i 0 /\ R[i]? = some id /\ b = G.blk id /\ G.kind b = .mine id:=by
 simp only [calleeG] at h
 split at h <;> try (cases h; done)
 rename_i id hk
 split at h
 ·rename_i i hp
  split at hp
  ·rename_i hb
   simp at h
   exact ⟨i,id,h.symm,posOf_get hp,hb,hk⟩
  .cases hp
 .split at h <;> cases h
theorem calleeG_frozen' {G : Gh} {R : List Id} {b : Nat} (h : (calleeG G R false).kind b = .frozen) : G.kind b = .frozen:=by
 simp only [calleeG] at h
 split at h
 .assumption
 .cases h
 .split at h <;> simp at h
theorem calleeG_root {G : Gh} {R : List Id} {lend : Bool} {i : Nat} {id : Id} (hn : R.Nodup) (hi : R[i]? = some id) (hk : G.kind (G.blk id) = .mine id) : (calleeG G R lend).kind (G.blk id) = .mine (.arg i 0):=by
 simp [calleeG,hk,posOf_of_get hn hi]
theorem calleeG_rest {G : Gh} {R : List Id} {lend : Bool} {b : Nat} {id : Id} (hk : G.kind b = .mine id) (hno : id ∉ R \/ b ≠ G.blk id) : (calleeG G R lend).kind b = if lend then .frozen else .other:=by
 simp only [calleeG,hk]
 have : (if b = G.blk id then posOf R id else none) = none:=by
  split
  ·rename_i hb
   rcases hno with h | h
   ·cases hp : posOf R id with
    | none=>rfl
    | some i=>exact absurd (lmg (posOf_get hp)) h
   .exact absurd hb h
  .rfl
 rw [this]
theorem calleeG_keeps {G : Gh} {R : List Id} {lend : Bool} (w : World) : Keeps (fun b=>G.kind b = .frozen) (fun b=>(calleeG G R lend).kind b = .frozen) w w:=fun _ h _=>⟨calleeG_frozen h,rfl⟩
def RootLike (o o' : Ob) : Prop:=(∃ cs cs',o = .box cs /\ o' = .box cs') \/ (o' = o /\ ((∃ sz xs,o = .arr sz xs) \/ ∃ kt ks vs,o = .map kt ks vs))
def RootsOk (h : VHeap) (R : List Id) (H : List Ob) : Prop:=∀ (i : Nat) (id : Id),R[i]? = some id -> ∃ v o o',h id = some (v,o) /\ H[i]? = some o' /\ RootLike o o'
section
variable {G : Gh} {h : VHeap} {w : World} {R : List Id} {H : List Ob} {lend : Bool}
theorem root_box (hH : mapO (extBox R h) R = some H) {i : Nat} {id : Id} (hi : R[i]? = some id) :
  ∃ v cs cs',h id = some (v,.box cs) /\ cs.any lends = false /\ mapO (ext1 R h) cs = some cs' /\ H[i]? = some (.box cs'):=by
 obtain ⟨o,ho,he⟩:=mapO_get' hH i id hi
 simp only [extBox] at he
 split at he
 ·rename_i v cs hh
  obtain ⟨h1,he⟩:=gd_eq he
  obtain ⟨cs',h2,he⟩:=ob_eq he
  simp at he
  subst he
  exact ⟨v,cs,cs',hh,h1,h2,ho⟩
 .cases he
theorem roots_ok (hH : mapO (extBox R h) R = some H) : RootsOk h R H:=fun i id hi=>by
 obtain ⟨v,cs,cs',h1,_,_,h4⟩:=root_box hH hi
 exact ⟨v,.box cs,.box cs',h1,h4,.inl ⟨cs,cs',rfl,rfl⟩⟩
theorem not_root (hH : mapO (extBox R h) R = some H) {id : Id} {v : Nat} {o : Ob} (hh : h id = some (v,o)) (ho : ∀ cs,o ≠ .box cs) : id ∉ R:=by
 intro hm
 obtain ⟨i,hi,he⟩:=List.getElem_of_mem hm
 obtain ⟨v',cs,cs',h1,_⟩:=root_box hH (i:=i) (id:=id) (by rw [lgg hi,he])
 rw [hh] at h1
 simp at h1
 exact ho _ h1.2
theorem ext0_rel (hinv : HeapInv G h w) (hH : mapO (extBox R h) R = some H) {v v' : VVal} {c : Value} (hv : VRel G h w v c) (hl : lends0 v = true -> lend = true) (he : ext0 R h v = some v') :
  VRel (calleeG G R lend) (enterH H) w v' c:=by
 cases hv with
 | plist=>simp [ext0] at he
 | pcell=>simp [ext0] at he
 | p hp h1 =>
  simp [ext0] at he
  subst he
  exact .p (hp.mono (calleeG_keeps w) (lrf _)) h1
 | @own id ver off len a n cap v o hn hcap hh hle hoo =>
  have hlend:=hl rfl
  simp only [ext0,velems,hh] at he
  cases o <;> try (simp only [ob_none] at he; cases he; done)
  rename_i sz xs
  simp only at he
  obtain ⟨r,hr,he1⟩:=ob_eq he
  obtain ⟨rfl,hr1⟩:=gd_eq hr
  simp at hr1 he1
  subst hr1
  subst he1
  obtain ⟨sz2,xs2,e,hlen,hreal⟩:=hoo rfl
  simp at e
  obtain ⟨rfl,rfl⟩:=e
  obtain ⟨hcs,_,hall⟩:=hinv _ _ _ hh
  subst hn
  have hyl : ((xs.drop off).take n).length = n:=by simp; omega
  refine .p ?_ rfl
  by_cases h0 : n = 0
  ·subst h0
   exact .slice ⟨0,0,none⟩ (fun _ _=>Go.undef) (by simp) hcap (fun h=>absurd h (by omega)) (by simp) (fun i x j c h=>by simp at h) (fun i x j c h=>by simp at h) (fun i x j c h=>by simp at h)
  ·rcases hreal with ⟨hc0,_⟩ | ⟨hm,hce,ha⟩
   ·omega
   ·obtain ⟨hxc,arr,t,hb,has,hcell⟩:=hall hm
    have hrest:=calleeG_rest (R:=R) (lend:=lend) hm (.inl (not_root hH hh (by simp)))
    rw [hlend] at hrest
    simp only [if_true] at hrest
    have hgk : ∀ (i : Nat) (y : PV),((xs.drop off).take n)[i]? = some y -> xs[off + i]? = some y /\ i < n:=fun i y hy=>by
     rw [List.getElem?_take] at hy
     split at hy
     ·rw [List.getElem?_drop] at hy; exact ⟨hy,by assumption⟩
     ·cases hy
    have hg : ∀ (i : Nat) (y : PV) (j : Nat) (cc : PV),((xs.drop off).take n)[i]? = some y -> y.cells[j]? = some cc -> arr[off * sz + (i * sz + j)]? = some (arr.getD (off * sz + (i * sz + j)) Go.undef) /\ (arr.getD (off * sz + (i * sz + j)) Go.undef).oneCell' = true /\ PRel (fun b=>G.kind b = .frozen) w cc (arr.getD (off * sz + (i * sz + j)) Go.undef):=fun i y j cc hy hj=>by
     obtain ⟨hy',hin⟩:=hgk i y hy
     obtain ⟨u,e1,e2,e3⟩:=hcell (off + i) y j cc hy' hj
     rw [Nat.add_mul,Nat.add_assoc] at e1
     have hu : arr.getD (off * sz + (i * sz + j)) Go.undef = u:=by
      obtain ⟨hlt,e⟩:=ags.1 e1
      simp [Array.getD,hlt,e]
     rw [hu]
     exact ⟨e1,e2,e3⟩
    refine .slice ⟨G.blk id,off * sz,none⟩ (fun i j=>arr.getD (off * sz + (i * sz + j)) Go.undef) hyl.symm hcap (fun _=>⟨ha (by omega),by rw [hlend]; exact hrest,(ags.1 hb).1⟩)
     (fun x hx=>hcs x (List.mem_of_mem_drop (List.mem_of_mem_take hx))) (fun i y j cc hy hj=>(hg i y j cc hy hj).2.1) (fun i y j cc hy hj=>?_) (fun i y j cc hy hj=>((hg i y j cc hy hj).2.2).mono (calleeG_keeps w) (lrf _))
    rw [add_lit,cell_block hb]
    exact (hg i y j cc hy hj).1
 | @ptr id ver off a v o hh hle hoo =>
  simp only [ext0] at he
  obtain ⟨hal,he⟩:=gd_eq he
  obtain ⟨i,hp,he⟩:=ob_eq he
  simp at he
  subst he
  simp only [alive,hh,decide_eq_true_eq] at hal
  obtain ⟨v2,cs,cs',h1,_,_,h4⟩:=root_box hH (posOf_get hp)
  refine .ptr (v:=0) (o:=.box cs') (by simp [enterH,h4]) (lrf _) fun _=>?_
  rw [hoo hal.symm]
  simp [calleeG,posOf_get hp]
 | @vptr cs off a ad val ha hf hb h1 hc hr =>
  simp [ext0] at he
  subst he
  exact .vptr ad val ha (calleeG_frozen hf) hb h1 hc fun j c hj=>(hr j c hj).mono (calleeG_keeps w) (lrf _)
 | @eptr id ver i off a v o hh hle hoo =>
  have hlend:=hl rfl
  simp only [ext0,hh] at he
  cases o <;> try (simp only at he; cases he; done)
  rename_i sz xs
  simp only at he
  obtain ⟨rfl,he1⟩:=gd_eq he
  obtain ⟨x,hx,he2⟩:=ob_eq he1
  simp at he2
  subst he2
  obtain ⟨sz2,xs2,e,hlt,ha⟩:=hoo rfl
  simp at e
  obtain ⟨rfl,rfl⟩:=e
  obtain ⟨hcs,hm,hall⟩:=hinv _ _ _ hh
  have hmine : G.kind (G.blk id) = .mine id:=by
   rcases hm with h0 | h0
   ·rw [h0] at hlt; simp at hlt
   ·exact h0
  obtain ⟨hxc,arr,t,hb,has,hcell⟩:=hall hmine
  have hrest:=calleeG_rest (R:=R) (lend:=lend) hmine (.inl (not_root hH hh (by simp)))
  rw [hlend] at hrest
  simp only [if_true] at hrest
  have hg : ∀ (j : Nat) (cc : PV),x.cells[j]? = some cc -> arr[i * sz + j]? = some (arr.getD (i * sz + j) Go.undef) /\ (arr.getD (i * sz + j) Go.undef).oneCell' = true /\ PRel (fun b=>G.kind b = .frozen) w cc (arr.getD (i * sz + j) Go.undef):=fun j cc hj=>by
   obtain ⟨u,e1,e2,e3⟩:=hcell i x j cc hx hj
   have hu : arr.getD (i * sz + j) Go.undef = u:=by
    obtain ⟨hlt,e⟩:=ags.1 e1
    simp [Array.getD,hlt,e]
   rw [hu]
   exact ⟨e1,e2,e3⟩
  refine .vptr ⟨G.blk id,i * sz,none⟩ (fun j=>arr.getD (i * sz + j) Go.undef) (by rw [ha,add_lit]) (by rw [hlend]; exact hrest) (ags.1 hb).1 (fun j cc hj=>(hg j cc hj).2.1) (fun j cc hj=>?_) (fun j cc hj=>(hg j cc hj).2.2.mono (calleeG_keeps w) (lrf _))
  rw [add_lit,cell_block hb]
  exact (hg j cc hj).1
 | @mref id ver r v o hh hle hoo =>
  have hlend:=hl rfl
  simp only [ext0,ventries,hh] at he
  cases o <;> try (simp only [ob_none] at he; cases he; done)
  rename_i kt ks vs
  simp only at he
  obtain ⟨q,hq,he1⟩:=ob_eq he
  obtain ⟨rfl,hq1⟩:=gd_eq hq
  simp at hq1 he1
  subst hq1
  subst he1
  have hr:=hoo rfl
  subst hr
  obtain ⟨hm,es,cl,hb,⟨h3,_⟩,h4,h5,h6⟩:=hinv _ _ _ hh
  have hrest:=calleeG_rest (R:=R) (lend:=lend) hm (.inl (not_root hH hh (by simp)))
  rw [hlend] at hrest
  simp only [if_true] at hrest
  exact .p (.map (by rw [hlend]; exact hrest) hb h3 h4 h5 fun i v e hv he=>(h6 i v e hv he).mono (calleeG_keeps w) (lrf _)) rfl
 | fn _ _=>simp [ext0] at he
 | agg _ _ _=>simp [ext0] at he
 | tup _ _=>simp [ext0] at he
 | undef=>simp [ext0] at he
 | dead c=>simp [ext0] at he
theorem ext1_rel (hinv : HeapInv G h w) (hH : mapO (extBox R h) R = some H) {v v' : VVal} {c : Value} (hv : VRel G h w v c) (hl : lends v = true -> lend = true) (he : ext1 R h v = some v') :
  VRel (calleeG G R lend) (enterH H) w v' c:=by
 cases hv with
 | plist=>simp [ext1,ext0] at he
 | pcell=>simp [ext1,ext0] at he
 | @fn f caps arr hlen hr =>
  simp only [ext1] at he
  obtain ⟨cs',hcs,he⟩:=ob_eq he
  simp at he
  subst he
  obtain ⟨h1,h2⟩:=mapO_get hcs
  refine .fn (by omega) fun i v c hv hc=>?_
  obtain ⟨x,hx,hex⟩:=h2 i v hv
  exact ext0_rel hinv hH (hr i x c hx hc) (fun hlx=>hl (by simp only [lends,List.any_eq_true]; exact ⟨x,lmg hx,hlx⟩)) hex
 | @agg cs arr hlen h1c hr =>
  simp only [ext1] at he
  obtain ⟨cs',hcs,he⟩:=ob_eq he
  simp at he
  subst he
  obtain ⟨h1,h2⟩:=mapO_get hcs
  refine .agg (by omega) h1c fun i v c hv hc=>?_
  obtain ⟨x,hx,hex⟩:=h2 i v hv
  exact ext0_rel hinv hH (hr i x c hx hc) (fun hlx=>hl (by simp only [lends,List.any_eq_true]; exact ⟨x,lmg hx,hlx⟩)) hex
 | p hp h1=>exact ext0_rel hinv hH (.p hp h1) hl he
 | own hn hcap hh hle hoo=>exact ext0_rel hinv hH (.own hn hcap hh hle hoo) hl he
 | ptr hh hle hoo=>exact ext0_rel hinv hH (.ptr hh hle hoo) hl he
 | vptr ad val ha hf hb h1 hc hr=>exact ext0_rel hinv hH (.vptr ad val ha hf hb h1 hc hr) hl he
 | eptr hh hle hoo=>exact ext0_rel hinv hH (.eptr hh hle hoo) hl he
 | mref hh hle hoo=>exact ext0_rel hinv hH (.mref hh hle hoo) hl he
 | tup _ _=>simp [ext1,ext0] at he
 | undef=>simp [ext1,ext0] at he
 | dead c=>simp [ext1,ext0] at he
theorem enter_inv (hinv : HeapInv G h w) (hn : R.Nodup) (hH : mapO (extBox R h) R = some H) : HeapInv (calleeG G R lend) (enterH H) w:=by
 intro id v o hid
 simp only [enterH] at hid
 split at hid <;> try (cases hid; done)
 rename_i i
 simp only [Option.map_eq_some_iff,pmi] at hid
 obtain ⟨o',ho',rfl,rfl⟩:=hid
 have hilt : i < R.length:=by
  have:=(mapO_get hH).1
  rw [<- this]
  exact (lgs.1 ho').1
 have hRi : R[i]? = some R[i]:=lgg hilt
 obtain ⟨v1,cs,cs',h1,h2,h3,h4⟩:=root_box hH hRi
 rw [ho'] at h4
 simp at h4
 subst h4
 obtain ⟨hk,arr,t,hb,hl,h1c,hc⟩:=hinv _ _ _ h1
 have hblk : (calleeG G R lend).blk (.arg i 0) = G.blk R[i]:=by simp [calleeG,hRi]
 obtain ⟨e1,e2⟩:=mapO_get h3
 refine ⟨by rw [hblk]; exact calleeG_root hn hRi hk,arr,t,by rw [hblk]; exact hb,by omega,h1c,fun j u c hu hcj=>?_⟩
 obtain ⟨x,hx,hex⟩:=e2 j u hu
 refine ext1_rel hinv hH (hc j x c hx hcj) (fun hlx=>?_) hex
 rw [List.any_eq_false] at h2
 exact absurd hlx (h2 x (lmg hx))
theorem rootsW_nodup (h : VHeap) (args : List VVal) : (rootsW h args).Nodup:=by
 simp only [rootsW]
 split
 .simp
 .exact addNew_nodup _ _ (addNew_nodup _ _ (addNew_nodup _ _ (by simp)))
theorem rootW (hH : mapO (extObW R h) R = some H) {i : Nat} {id : Id} (hi : R[i]? = some id) :
  ∃ v o o',h id = some (v,o) /\ H[i]? = some o' /\ ((∃ cs cs',o = .box cs /\ o' = .box cs' /\ mapO (extW1 R h) cs = some cs') \/ (o' = o /\ ((∃ sz xs,o = .arr sz xs) \/ ∃ kt ks vs,o = .map kt ks vs))):=by
 obtain ⟨o',ho,he⟩:=mapO_get' hH i id hi
 simp only [extObW] at he
 split at he
 ·rename_i v cs hh
  obtain ⟨cs',h2,he⟩:=ob_eq he
  simp at he
  exact ⟨v,_,o',hh,ho,.inl ⟨cs,cs',rfl,he.symm,h2⟩⟩
 ·rename_i v sz xs hh
  simp at he
  exact ⟨v,_,o',hh,ho,.inr ⟨he.symm,.inl ⟨sz,xs,rfl⟩⟩⟩
 ·rename_i v kt ks vs hh
  simp at he
  exact ⟨v,_,o',hh,ho,.inr ⟨he.symm,.inr ⟨kt,ks,vs,rfl⟩⟩⟩
 .cases he
theorem rootsW_ok (hH : mapO (extObW R h) R = some H) : RootsOk h R H:=fun i id hi=>by
 obtain ⟨v,o,o',h1,h2,h3⟩:=rootW hH hi
 refine ⟨v,o,o',h1,h2,?_⟩
 rcases h3 with ⟨cs,cs',e1,e2,_⟩ | h3
 .exact .inl ⟨cs,cs',e1,e2⟩
 .exact .inr h3
theorem extW0_rel (hn : R.Nodup) (hr : RootsOk h R H) {v v' : VVal} {c : Value} (hv : VRel G h w v c) (he : extW0 R h v = some v') :
  VRel (calleeG G R false) (enterH H) w v' c:=by
 cases hv with
 | plist=>simp [extW0] at he
 | pcell=>simp [extW0] at he
 | p hp h1 =>
  simp [extW0] at he
  subst he
  exact .p (hp.mono (calleeG_keeps w) (lrf _)) h1
 | @own id ver off len a n cap v o hn' hcap hh hle hoo =>
  simp only [extW0] at he
  obtain ⟨hal,he⟩:=gd_eq he
  obtain ⟨i,hp,he⟩:=ob_eq he
  simp at he
  subst he
  simp only [alive,hh,decide_eq_true_eq] at hal
  obtain ⟨v2,o2,o',h1,h2,h3⟩:=hr i id (posOf_get hp)
  rw [hh] at h1
  simp at h1
  obtain ⟨rfl,rfl⟩:=h1
  obtain ⟨sz,xs,rfl,hlen,hreal⟩:=hoo hal.symm
  rcases h3 with ⟨_,_,e,_⟩ | ⟨rfl,_⟩
  ·cases e
  ·refine .own (v:=0) (o:=.arr sz xs) hn' hcap (by simp [enterH,h2]) (lrf _) fun _=>⟨sz,xs,rfl,hlen,?_⟩
   have e1 : (calleeG G R false).blk (.arg i 0) = G.blk id:=by simp [calleeG,posOf_get hp]
   have e2 : (calleeG G R false).cap (.arg i 0) = G.cap id:=by simp [calleeG,posOf_get hp]
   rw [e1,e2]
   rcases hreal with h0 | ⟨k1,k2,k3⟩
   .exact .inl h0
   .exact .inr ⟨calleeG_root hn (posOf_get hp) k1,k2,k3⟩
 | @ptr id ver off a v o hh hle hoo =>
  simp only [extW0] at he
  obtain ⟨hal,he⟩:=gd_eq he
  obtain ⟨i,hp,he⟩:=ob_eq he
  simp at he
  subst he
  simp only [alive,hh,decide_eq_true_eq] at hal
  obtain ⟨v2,o2,o',h1,h2,h3⟩:=hr i id (posOf_get hp)
  refine .ptr (v:=0) (o:=o') (by simp [enterH,h2]) (lrf _) fun _=>?_
  rw [hoo hal.symm]
  simp [calleeG,posOf_get hp]
 | @vptr cs off a ad val ha hf hb h1 hc hr' =>
  simp [extW0] at he
  subst he
  exact .vptr ad val ha (calleeG_frozen hf) hb h1 hc fun j c hj=>(hr' j c hj).mono (calleeG_keeps w) (lrf _)
 | @eptr id ver j off a v o hh hle hoo =>
  simp only [extW0] at he
  obtain ⟨hal,he⟩:=gd_eq he
  obtain ⟨i,hp,he⟩:=ob_eq he
  simp at he
  subst he
  simp only [alive,hh,decide_eq_true_eq] at hal
  obtain ⟨v2,o2,o',h1,h2,h3⟩:=hr i id (posOf_get hp)
  rw [hh] at h1
  simp at h1
  obtain ⟨rfl,rfl⟩:=h1
  obtain ⟨sz,xs,rfl,hlt,ha⟩:=hoo hal.symm
  rcases h3 with ⟨_,_,e,_⟩ | ⟨rfl,_⟩
  ·cases e
  ·refine .eptr (v:=0) (o:=.arr sz xs) (by simp [enterH,h2]) (lrf _) fun _=>⟨sz,xs,rfl,hlt,?_⟩
   rw [ha]
   simp [calleeG,posOf_get hp]
 | @mref id ver r v o hh hle hoo =>
  simp only [extW0] at he
  obtain ⟨hal,he⟩:=gd_eq he
  obtain ⟨i,hp,he⟩:=ob_eq he
  simp at he
  subst he
  simp only [alive,hh,decide_eq_true_eq] at hal
  obtain ⟨v2,o2,o',h1,h2,h3⟩:=hr i id (posOf_get hp)
  refine .mref (v:=0) (o:=o') (by simp [enterH,h2]) (lrf _) fun _=>?_
  rw [hoo hal.symm]
  simp [calleeG,posOf_get hp]
 | fn _ _=>simp [extW0] at he
 | agg _ _ _=>simp [extW0] at he
 | tup _ _=>simp [extW0] at he
 | undef=>simp [extW0] at he
 | dead c=>simp [extW0] at he
theorem extW1_rel (hn : R.Nodup) (hr : RootsOk h R H) {v v' : VVal} {c : Value} (hv : VRel G h w v c) (he : extW1 R h v = some v') :
  VRel (calleeG G R false) (enterH H) w v' c:=by
 cases hv with
 | plist=>simp [extW1,extW0] at he
 | pcell=>simp [extW1,extW0] at he
 | @fn f caps arr hlen hr' =>
  simp only [extW1] at he
  obtain ⟨cs',hcs,he⟩:=ob_eq he
  simp at he
  subst he
  obtain ⟨h1,h2⟩:=mapO_get hcs
  refine .fn (by omega) fun i v c hv hc=>?_
  obtain ⟨x,hx,hex⟩:=h2 i v hv
  exact extW0_rel hn hr (hr' i x c hx hc) hex
 | @agg cs arr hlen h1c hr' =>
  simp only [extW1] at he
  obtain ⟨cs',hcs,he⟩:=ob_eq he
  simp at he
  subst he
  obtain ⟨h1,h2⟩:=mapO_get hcs
  refine .agg (by omega) h1c fun i v c hv hc=>?_
  obtain ⟨x,hx,hex⟩:=h2 i v hv
  exact extW0_rel hn hr (hr' i x c hx hc) hex
 | p hp h1=>exact extW0_rel hn hr (.p hp h1) he
 | own hn' hcap hh hle hoo=>exact extW0_rel hn hr (.own hn' hcap hh hle hoo) he
 | ptr hh hle hoo=>exact extW0_rel hn hr (.ptr hh hle hoo) he
 | vptr ad val ha hf hb h1 hc hr'=>exact extW0_rel hn hr (.vptr ad val ha hf hb h1 hc hr') he
 | eptr hh hle hoo=>exact extW0_rel hn hr (.eptr hh hle hoo) he
 | mref hh hle hoo=>exact extW0_rel hn hr (.mref hh hle hoo) he
 | tup _ _=>simp [extW1,extW0] at he
 | undef=>simp [extW1,extW0] at he
 | dead c=>simp [extW1,extW0] at he
theorem enterW_inv (hinv : HeapInv G h w) (hn : R.Nodup) (hH : mapO (extObW R h) R = some H) : HeapInv (calleeG G R false) (enterH H) w:=by
 intro id v o hid
 simp only [enterH] at hid
 split at hid <;> try (cases hid; done)
 rename_i i
 simp only [Option.map_eq_some_iff,pmi] at hid
 obtain ⟨o',ho',rfl,rfl⟩:=hid
 have hilt : i < R.length:=by
  have:=(mapO_get hH).1
  rw [<- this]
  exact (lgs.1 ho').1
 have hRi : R[i]? = some R[i]:=lgg hilt
 have hblk : (calleeG G R false).blk (.arg i 0) = G.blk R[i]:=by simp [calleeG,hRi]
 have hcap : (calleeG G R false).cap (.arg i 0) = G.cap R[i]:=by simp [calleeG,hRi]
 obtain ⟨v1,o1,o2,h1,h2,h3⟩:=rootW hH hRi
 rw [ho'] at h2
 simp at h2
 subst h2
 have hob:=hinv _ _ _ h1
 rcases h3 with ⟨cs,cs',rfl,rfl,h3⟩ | ⟨rfl,⟨sz,xs,rfl⟩ | ⟨kt,ks,vs,rfl⟩⟩
 ·obtain ⟨hk,arr,t,hb,hl,h1c,hc⟩:=hob
  obtain ⟨e1,e2⟩:=mapO_get h3
  refine ⟨by rw [hblk]; exact calleeG_root hn hRi hk,arr,t,by rw [hblk]; exact hb,by omega,h1c,fun j u c hu hcj=>?_⟩
  obtain ⟨x,hx,hex⟩:=e2 j u hu
  exact extW1_rel hn (rootsW_ok hH) (hc j x c hx hcj) hex
 ·obtain ⟨a1,a2,a3⟩:=hob
  refine ⟨a1,?_,fun hk=>?_⟩
  ·rcases a2 with a2 | a2
   ·exact .inl a2
   ·right
    rw [hblk]
    exact calleeG_root hn hRi a2
  ·rw [hblk] at hk
   obtain ⟨i',id',e1,e2,_,e4⟩:=calleeG_mine hk
   simp at e1
   subst e1
   rw [hRi] at e2
   simp at e2
   subst e2
   obtain ⟨b1,arr,t,b2,b3,b4⟩:=a3 e4
   refine ⟨by rw [hcap]; exact b1,arr,t,by rw [hblk]; exact b2,by rw [hcap]; exact b3,fun i x j c hx hj=>?_⟩
   obtain ⟨u,c1,c2,c3⟩:=b4 i x j c hx hj
   exact ⟨u,c1,c2,c3.mono (calleeG_keeps w) (lrf _)⟩
 ·obtain ⟨hk,es,cl,b2,b3,b4,b5,b6⟩:=hob
  exact ⟨by rw [hblk]; exact calleeG_root hn hRi hk,es,cl,by rw [hblk]; exact b2,b3,b4,b5,fun i v e hv he=>(b6 i v e hv he).mono (calleeG_keeps w) (lrf _)⟩
end
end Go.V
namespace Go.V
open Go.RowKit
def hand0 (d j : Nat) : VVal -> List (Id × Id)
 | .own q _ _ _=>[(q,.slot d (j + 1))]
 | _=>[]
def handL (d : Nat) : Nat -> List VVal -> List (Id × Id)
 | _,[]=>[]
 | j,v :: vs=>hand0 d j v ++ handL d (j + 1) vs
def hand1 (h1 : VHeap) (d j : Nat) : VVal -> List (Id × Id)
 | .agg cs=>handL d j cs
 | .ptr (.slot s i) _ _=>match h1 (.slot s i) with
  | some (_,.box cs)=>(.slot s i,.slot d (j + 1)) :: handL d (j + 1) cs
  | _=>[]
 | v=>hand0 d j v
def handT (h1 : VHeap) (d : Nat) : Nat -> List VVal -> List VVal -> List (Id × Id)
 | j,v :: vs,r :: rs=>hand1 h1 d j v ++ handT h1 d (j + width r) vs rs
 | _,_,_=>[]
def fwd (q : Id) : List (Id × Id) -> Option Id
 | []=>none
 | (a,b) :: hs=>if a = q then some b else fwd q hs
theorem fwd_mem {q id : Id} : ∀ {hs : List (Id × Id)},fwd q hs = some id -> (q,id) ∈ hs
 | [],h=>by cases h
 | (a,b) :: hs,h=>by
  simp only [fwd] at h
  split at h
  .rename_i e; simp at h; subst h; subst e; exact lms ..
  .exact lmc _ (fwd_mem h)
theorem fwd_of {q id : Id} : ∀ {hs : List (Id × Id)},(hs.map (·.1)).Nodup -> (q,id) ∈ hs -> fwd q hs = some id
 | [],_,h=>by cases h
 | (a,b) :: hs,hn,h=>by
  simp only [lpc,List.nodup_cons] at hn
  simp only [fwd]
  rcases lmk.1 h with e | e
  .simp at e; rw [if_pos e.1.symm,e.2]
  .rw [if_neg (fun e'=>hn.1 (lmm.2 ⟨_,e,e'.symm⟩)),fwd_of hn.2 e]
def bwd (id : Id) : List (Id × Id) -> Option Id
 | []=>none
 | (a,b) :: hs=>if b = id then some a else bwd id hs
theorem bwd_mem {q id : Id} : ∀ {hs : List (Id × Id)},bwd id hs = some q -> (q,id) ∈ hs
 | [],h=>by cases h
 | (a,b) :: hs,h=>by
  simp only [bwd] at h
  split at h
  .rename_i e; simp at h; subst h; subst e; exact lms ..
  .exact lmc _ (bwd_mem h)
theorem bwd_of {q id : Id} : ∀ {hs : List (Id × Id)},(hs.map (·.2)).Nodup -> (q,id) ∈ hs -> bwd id hs = some q
 | [],_,h=>by cases h
 | (a,b) :: hs,hn,h=>by
  simp only [lpc,List.nodup_cons] at hn
  simp only [bwd]
  rcases lmk.1 h with e | e
  .simp at e; rw [if_pos e.2.symm,e.1]
  .rw [if_neg (fun e'=>hn.1 (lmm.2 ⟨_,e,e'.symm⟩)),bwd_of hn.2 e]
theorem bwd_none {id : Id} {hs : List (Id × Id)} (h : ∀ q,(q,id) ∉ hs) : bwd id hs = none:=by
 cases hb : bwd id hs with
 | none=>rfl
 | some q=>exact absurd (bwd_mem hb) (h q)
def bump (v : Nat) : Nat:=if v = 0 then 0 else 1
open Classical in
noncomputable def afterG (G G1 : Gh) (h1 : VHeap) (R : List Id) (n n1 : Nat) (hs : List (Id × Id)) : Gh where
 kind b:=if b < n then G.kind b else if b < n1 then (match G1.kind b with
   | .mine q=>match fwd q hs with
    | some id=>.mine id
    | none=>match q with
     | .arg i 0=>match R[i]? with
      | some id=>.mine id
      | none=>.frozen
     | _=>.frozen
   | k=>k) else .other
 blk id:=match bwd id hs with
  | some q=>if G1.kind (G1.blk q) = .mine q then G1.blk q else n1
  | none=>match posOf R id with
   | some i=>match h1 (.arg i 0) with
    | some (0,_)=>G.blk id
    | _=>if G1.kind (G1.blk (.arg i 0)) = .mine (.arg i 0) then G1.blk (.arg i 0) else n1
   | none=>G.blk id
 cap id:=match bwd id hs with
  | some q=>G1.cap q
  | none=>match posOf R id with
   | some i=>G1.cap (.arg i 0)
   | none=>G.cap id
theorem in0_p {R : List Id} {h : VHeap} {d j : Nat} {x : PV} {v' : VVal} {qs : List (Id × Nat × Ob)} (hi : in0 R h d j (.p x) = some (v',qs)) : v' = .p x /\ qs = []:=by
 simp [in0,back0,ob] at hi
 exact ⟨hi.1.symm,hi.2⟩
def SameKind (o o1 : Ob) : Prop:=(∃ cs cs1,o = .box cs /\ o1 = .box cs1) \/ (∃ sz xs sz1 xs1,o = .arr sz xs /\ o1 = .arr sz1 xs1) \/ ∃ kt ks vs kt1 ks1 vs1,o = .map kt ks vs /\ o1 = .map kt1 ks1 vs1
def ObLike (o1 o2 : Ob) : Prop:=(∃ cs1 cs2,o1 = .box cs1 /\ o2 = .box cs2) \/ (o2 = o1 /\ ∀ cs,o1 ≠ .box cs)
structure After (G : Gh) (h : VHeap) (w : World) (R : List Id) (H : List Ob) (lend : Bool) (G1 : Gh) (h1 : VHeap) (w1 : World) (hs : List (Id × Id)) (h2 : VHeap) : Prop where
 hinv : HeapInv G h w
 hn : R.Nodup
 roots : RootsOk h R H
 st : Step (calleeG G R lend) (enterH H) w G1 h1 w1
 inv1 : HeapInv G1 h1 w1
 nd1 : (hs.map (·.1)).Nodup
 nd2 : (hs.map (·.2)).Nodup
 own : ∀ q id,(q,id) ∈ hs -> (∃ s j,q = .slot s j) /\ ∃ v o,h1 q = some (v,o) /\ o ≠ .gone /\ ∀ kt ks vs,o ≠ .map kt ks vs
 h2a : ∀ q id,(q,id) ∈ hs -> ∃ v o,h2 id = some (v,o) /\ nv (h id) <= v /\ (id ∈ R -> (∃ v0 cs,h id = some (v0,.box cs)) \/ nv (h id) < v)
 h2b : ∀ id,(∀ q,(q,id) ∉ hs) -> id ∉ R -> h2 id = h id
 h2c : ∀ i id v o v1 o1,(∀ q,(q,id) ∉ hs) -> R[i]? = some id -> h id = some (v,o) -> h1 (.arg i 0) = some (v1,o1) -> ∃ o2,h2 id = some (v + bump v1,o2) /\ ObLike o1 o2
 args0 : ∀ i,i < R.length -> ∃ v1 o1,h1 (.arg i 0) = some (v1,o1)
 shape : ∀ i id v o v1 o1,R[i]? = some id -> h id = some (v,o) -> h1 (.arg i 0) = some (v1,o1) -> SameKind o o1 /\ (v1 = 0 \/ ∃ sz xs,o1 = .arr sz xs)
section
variable {G : Gh} {h : VHeap} {w : World} {R : List Id} {H : List Ob} {lend : Bool} {G1 : Gh} {h1 : VHeap} {w1 : World} {hs : List (Id × Id)} {h2 : VHeap}
theorem posOf_no {R : List Id} {id : Id} (h : id ∉ R) : posOf R id = none:=by
 cases hp : posOf R id with
 | none=>rfl
 | some i=>exact absurd (lmg (posOf_get hp)) h
theorem nodup_get {R : List Id} (hn : R.Nodup) {i j : Nat} {id : Id} (hi : R[i]? = some id) (hj : R[j]? = some id) : i = j:=by
 have h1:=posOf_of_get hn hi
 rw [posOf_of_get hn hj] at h1
 exact (Option.some.inj h1).symm
theorem afterG_old {b : Nat} (hb : b < w.heap.size) : (afterG G G1 h1 R w.heap.size w1.heap.size hs).kind b = G.kind b:=by simp [afterG,hb]
theorem After.prel (A : After G h w R H lend G1 h1 w1 hs h2) {d : PV} {c : Value} (hd : lend = false \/ d.flat = true) (hp : PRel (fun b=>G1.kind b = .frozen) w1 d c) : PRel (fun b=>(afterG G G1 h1 R w.heap.size w1.heap.size hs).kind b = .frozen) w1 d c:=by
 rcases hd with rfl | hd
 ·refine hp.mono (fun b hb hlt=>⟨?_,rfl⟩) (lrf _)
  by_cases hbn : b < w.heap.size
  ·rw [afterG_old hbn]
   rcases A.st.frz b hbn hb with hf | ⟨s,j,hm⟩
   ·exact calleeG_frozen' hf
   ·obtain ⟨i,id,e,_⟩:=calleeG_mine hm
    cases e
  .simp [afterG,hbn,hlt,hb]
 .exact hp.flat hd
theorem After.made (A : After G h w R H lend G1 h1 w1 hs h2) {s j b : Nat} (hm : G1.kind b = .mine (.slot s j)) : w.heap.size <= b:=by
 rcases Nat.lt_or_ge b w.heap.size with hlt | hge
 .rcases A.st.mine b _ hlt hm with h0 | ⟨_,_,_,h0⟩ <;> (obtain ⟨i,id,e,_⟩:=calleeG_mine h0; cases e)
 .exact hge
theorem After.adopt (A : After G h w R H lend G1 h1 w1 hs h2) {q id : Id} (hq : (q,id) ∈ hs) (hm : G1.kind (G1.blk q) = .mine q) : (afterG G G1 h1 R w.heap.size w1.heap.size hs).blk id = G1.blk q /\ (afterG G G1 h1 R w.heap.size w1.heap.size hs).kind (G1.blk q) = .mine id /\ G1.blk q < w1.heap.size:=by
 obtain ⟨⟨s,j,rfl⟩,v,o,hh,hg,_⟩:=A.own q id hq
 have hge:=A.made hm
 have hlt:=blk_lt A.inv1 hh hm hg
 refine ⟨by simp [afterG,bwd_of A.nd2 hq,hm],?_,hlt⟩
 simp [afterG,Nat.not_lt.2 hge,hlt,hm,fwd_of A.nd1 hq]
theorem After.adopt_not (A : After G h w R H lend G1 h1 w1 hs h2) {q id : Id} (hq : (q,id) ∈ hs) (hm : ¬ G1.kind (G1.blk q) = .mine q) : (afterG G G1 h1 R w.heap.size w1.heap.size hs).kind ((afterG G G1 h1 R w.heap.size w1.heap.size hs).blk id) = .other:=by
 have hb : (afterG G G1 h1 R w.heap.size w1.heap.size hs).blk id = w1.heap.size:=by simp [afterG,bwd_of A.nd2 hq,hm]
 have:=A.st.size
 rw [hb]
 simp [afterG,Nat.not_lt.2 this]
theorem After.blk (_ : After G h w R H lend G1 h1 w1 hs h2) {id : Id} (hq : ∀ q,(q,id) ∉ hs) (hR : id ∉ R) : (afterG G G1 h1 R w.heap.size w1.heap.size hs).blk id = G.blk id /\ (afterG G G1 h1 R w.heap.size w1.heap.size hs).cap id = G.cap id:=by simp [afterG,bwd_none hq,posOf_no hR]
theorem After.at (A : After G h w R H lend G1 h1 w1 hs h2) {i : Nat} {id : Id} (hi : R[i]? = some id) : ∃ v o o' v1 o1,h id = some (v,o) /\ RootLike o o' /\ h1 (.arg i 0) = some (v1,o1) /\
  (v1 = 0 -> G1.blk (.arg i 0) = G.blk id /\ G1.cap (.arg i 0) = G.cap id /\ SameOb o' o1 /\ ∀ sz xs,o' = .arr sz xs -> G.kind (G.blk id) = .mine id -> G1.kind (G.blk id) = .mine (.arg i 0)):=by
 obtain ⟨v,o,o',e1,e2,e3⟩:=A.roots i id hi
 obtain ⟨v1,o1,e4⟩:=A.args0 i (lgs.1 hi).1
 obtain ⟨v',o'',e5,_,e7⟩:=A.st.vers (.arg i 0) 0 o' (by simp [enterH,e2])
 rw [e4] at e5
 simp at e5
 obtain ⟨rfl,rfl⟩:=e5
 refine ⟨v,o,o',v1,o1,e1,e3,e4,fun h0=>?_⟩
 obtain ⟨f1,f2,f3,f4⟩:=e7 h0
 have g1 : (calleeG G R lend).blk (.arg i 0) = G.blk id:=by simp [calleeG,hi]
 have g2 : (calleeG G R lend).cap (.arg i 0) = G.cap id:=by simp [calleeG,hi]
 rw [g1] at f1 f4
 rw [g2] at f2
 exact ⟨f1,f2,f3,fun sz xs ho hk=>f4 sz xs ho (calleeG_root A.hn hi hk)⟩
theorem After.blk0 (A : After G h w R H lend G1 h1 w1 hs h2) {i : Nat} {id : Id} (hi : R[i]? = some id) (hq : ∀ q,(q,id) ∉ hs) {o1 : Ob} (h0 : h1 (.arg i 0) = some (0,o1)) : (afterG G G1 h1 R w.heap.size w1.heap.size hs).blk id = G.blk id:=by
 simp [afterG,bwd_none hq,posOf_of_get A.hn hi,h0]
theorem After.blk1 (A : After G h w R H lend G1 h1 w1 hs h2) {i : Nat} {id : Id} (hi : R[i]? = some id) (hq : ∀ q,(q,id) ∉ hs) {v1 : Nat} {o1 : Ob} (h0 : h1 (.arg i 0) = some (v1,o1)) (hv : v1 ≠ 0) (hm : G1.kind (G1.blk (.arg i 0)) = .mine (.arg i 0)) : (afterG G G1 h1 R w.heap.size w1.heap.size hs).blk id = G1.blk (.arg i 0):=by
 obtain ⟨n,rfl⟩ : ∃ n,v1 = n + 1:=⟨v1 - 1,by omega⟩
 simp [afterG,bwd_none hq,posOf_of_get A.hn hi,h0,hm]
theorem After.blk2 (A : After G h w R H lend G1 h1 w1 hs h2) {i : Nat} {id : Id} (hi : R[i]? = some id) (hq : ∀ q,(q,id) ∉ hs) {v1 : Nat} {o1 : Ob} (h0 : h1 (.arg i 0) = some (v1,o1)) (hv : v1 ≠ 0) (hm : ¬ G1.kind (G1.blk (.arg i 0)) = .mine (.arg i 0)) : (afterG G G1 h1 R w.heap.size w1.heap.size hs).blk id = w1.heap.size:=by
 obtain ⟨n,rfl⟩ : ∃ n,v1 = n + 1:=⟨v1 - 1,by omega⟩
 simp [afterG,bwd_none hq,posOf_of_get A.hn hi,h0,hm]
theorem After.capR (A : After G h w R H lend G1 h1 w1 hs h2) {i : Nat} {id : Id} (hi : R[i]? = some id) (hq : ∀ q,(q,id) ∉ hs) : (afterG G G1 h1 R w.heap.size w1.heap.size hs).cap id = G1.cap (.arg i 0):=by
 simp [afterG,bwd_none hq,posOf_of_get A.hn hi]
theorem After.fwdArg (A : After G h w R H lend G1 h1 w1 hs h2) (i : Nat) : fwd (.arg i 0) hs = none:=by
 cases hf : fwd (.arg i 0) hs with
 | none=>rfl
 | some id =>
  obtain ⟨⟨s,j,e⟩,_⟩:=A.own _ _ (fwd_mem hf)
  cases e
theorem After.rootMine (A : After G h w R H lend G1 h1 w1 hs h2) {i : Nat} {id : Id} (hi : R[i]? = some id) (hq : ∀ q,(q,id) ∉ hs) (hg : ∀ v,h1 (.arg i 0) ≠ some (v,.gone)) (hm : G1.kind (G1.blk (.arg i 0)) = .mine (.arg i 0)) :
  (afterG G G1 h1 R w.heap.size w1.heap.size hs).blk id = G1.blk (.arg i 0) /\ (afterG G G1 h1 R w.heap.size w1.heap.size hs).kind (G1.blk (.arg i 0)) = .mine id:=by
 obtain ⟨v,o,o',v1,o1,e1,e2,e3,e4⟩:=A.at hi
 have hlt:=blk_lt A.inv1 e3 hm (fun e=>hg v1 (by rw [e3,e]))
 constructor
 ·by_cases h0 : v1 = 0
  ·subst h0
   rw [A.blk0 hi hq e3,(e4 rfl).1]
  ·exact A.blk1 hi hq e3 h0 hm
 ·by_cases hb : G1.blk (.arg i 0) < w.heap.size
  ·rw [afterG_old hb]
   have hm0 : (calleeG G R lend).kind (G1.blk (.arg i 0)) = .mine (.arg i 0):=by
    rcases A.st.mine _ _ hb hm with h0 | ⟨⟨_,_,e⟩,_⟩
    .exact h0
    .cases e
   obtain ⟨i',id',f1,f2,_,f4⟩:=calleeG_mine hm0
   simp at f1
   subst f1
   rw [hi] at f2
   simp at f2
   rw [f2]
   exact f4
  .simp [afterG,hb,hlt,hm,A.fwdArg i,hi]
theorem After.rootArr (A : After G h w R H lend G1 h1 w1 hs h2) {i : Nat} {id : Id} (hi : R[i]? = some id) (hq : ∀ q,(q,id) ∉ hs) {v sz : Nat} {xs : List PV} (ho : h id = some (v,.arr sz xs)) (hk : (afterG G G1 h1 R w.heap.size w1.heap.size hs).kind ((afterG G G1 h1 R w.heap.size w1.heap.size hs).blk id) = .mine id) : G1.kind (G1.blk (.arg i 0)) = .mine (.arg i 0):=by
 obtain ⟨v',o,o',v1,o1,e1,e2,e3,e4⟩:=A.at hi
 rw [ho] at e1
 simp at e1
 obtain ⟨rfl,rfl⟩:=e1
 have ho' : o' = .arr sz xs:=by
  rcases e2 with ⟨_,_,e,_⟩ | ⟨e,_⟩
  ·cases e
  ·exact e
 by_cases h0 : v1 = 0
 ·subst h0
  obtain ⟨f1,f2,f3,f4⟩:=e4 rfl
  rw [A.blk0 hi hq e3] at hk
  rw [f1]
  by_cases hb : G.blk id < w.heap.size
  ·rw [afterG_old hb] at hk
   exact f4 _ _ ho' hk
  ·simp only [afterG,hb,if_false] at hk
   split at hk
   ·split at hk
    ·rename_i q hq1
     split at hk
     ·rename_i id' hf
      simp at hk
      subst hk
      exact absurd (fwd_mem hf) (hq _)
     ·split at hk
      ·rename_i i' _ _
       split at hk
       ·rename_i id' hi'
        simp at hk
        subst hk
        rw [nodup_get A.hn hi hi']
        exact hq1
       .cases hk
      .cases hk
    ·rename_i hno
     exact absurd hk (hno _)
   .cases hk
 ·by_cases hm : G1.kind (G1.blk (.arg i 0)) = .mine (.arg i 0)
  ·exact hm
  ·rw [A.blk2 hi hq e3 h0 hm] at hk
   have:=A.st.size
   simp [afterG,Nat.not_lt.2 this] at hk
theorem After.step (A : After G h w R H lend G1 h1 w1 hs h2) : Step G h w (afterG G G1 h1 R w.heap.size w1.heap.size hs) h2 w1 where
 frozen:=fun b hb hl=>⟨by rw [afterG_old hl]; exact hb,(A.st.frozen b (calleeG_frozen hb) hl).2⟩
 other:=fun b hb hl=>⟨by rw [afterG_old hl]; exact hb,(A.st.other b (calleeG_other hb) hl).2⟩
 mine:=fun b id hl hm=>.inl (by rwa [afterG_old hl] at hm)
 frz := fun b hl hm=>.inl (by rwa [afterG_old hl] at hm)
 size:=A.st.size
 os := A.st.os
 tape:=A.st.tape
 output:=A.st.output
 vers:=fun id v o hh=>by
  by_cases hq : ∃ q,(q,id) ∈ hs
  ·obtain ⟨q,hq⟩:=hq
   obtain ⟨v2,o2,h2o,hle,_⟩:=A.h2a q id hq
   rw [nv_gt hh] at hle
   exact ⟨v2,o2,h2o,by omega,fun e=>by omega⟩
  ·have hq' : ∀ q,(q,id) ∉ hs:=fun q hm=>hq ⟨q,hm⟩
   have harr : ∀ sz xs,o = .arr sz xs -> G.kind (G.blk id) = .mine id -> (afterG G G1 h1 R w.heap.size w1.heap.size hs).kind (G.blk id) = .mine id:=fun sz xs ho hm=>by
    rw [afterG_old (blk_lt A.hinv hh hm (by rw [ho]; simp))]
    exact hm
   by_cases hR : id ∈ R
   ·obtain ⟨i,hil,e⟩:=List.getElem_of_mem hR
    have hi : R[i]? = some id:=by rw [lgg hil,e]
    obtain ⟨v',o0,o',v1,o1,e1,e2,e3,e4⟩:=A.at hi
    rw [hh] at e1
    simp at e1
    obtain ⟨rfl,rfl⟩:=e1
    obtain ⟨o2,f1,f2⟩:=A.h2c i id v o v1 o1 hq' hi hh e3
    refine ⟨_,o2,f1,by omega,fun e=>?_⟩
    have h0 : v1 = 0:=by
     by_cases h0 : v1 = 0
     .exact h0
     .simp [bump,h0] at e
    subst h0
    obtain ⟨g1,g2,g3,g4⟩:=e4 rfl
    refine ⟨A.blk0 hi hq' e3,by rw [A.capR hi hq',g2],?_,harr⟩
    rcases e2 with ⟨cs,cs',rfl,rfl⟩ | ⟨rfl,⟨sz,xs,rfl⟩ | ⟨kt,ks,vs,rfl⟩⟩
    ·simp [SameOb]
    ·rcases f2 with ⟨cs1,cs2,rfl,rfl⟩ | ⟨rfl,_⟩
     .simp [SameOb] at g3
     .exact g3
    .simp [SameOb]
   ·obtain ⟨hb,hc⟩:=A.blk hq' hR
    exact ⟨v,o,by rw [A.h2b id hq' hR]; exact hh,lrf _,fun _=>⟨hb,hc,by cases o <;> simp [SameOb],harr⟩⟩
theorem After.ptr (A : After G h w R H lend G1 h1 w1 hs h2) {i off : Nat} {c : Value} (hv : VRel G1 h1 w1 (.ptr (.arg i 0) 0 off) c) {id : Id} (hi : R[i]? = some id) {o : Nat × Ob} (ho : h id = some o) : VRel (afterG G G1 h1 R w.heap.size w1.heap.size hs) h2 w1 (.ptr id o.1 off) c:=by
 obtain ⟨v,o⟩:=o
 cases hv with
 | @ptr _ _ _ a v1 o1 hh hle hoo =>
  by_cases hq : ∃ q,(q,id) ∈ hs
  ·obtain ⟨q,hq⟩:=hq
   obtain ⟨v2,o2,h2o,hlt,_⟩:=A.h2a q id hq
   rw [nv_gt ho] at hlt
   exact .ptr h2o (by simp only; omega) fun e=>by simp only at e; omega
  ·have hq' : ∀ q,(q,id) ∉ hs:=fun q hm=>hq ⟨q,hm⟩
   obtain ⟨o2,f1,_⟩:=A.h2c i id v o v1 o1 hq' hi ho hh
   refine .ptr f1 (by simp only; omega) fun e=>?_
   have h0 : v1 = 0:=by
    by_cases h0 : v1 = 0
    .exact h0
    .simp [bump,h0] at e
   subst h0
   obtain ⟨_,_,_,v1',o1',_,_,e3,e4⟩:=A.at hi
   rw [hh] at e3
   simp at e3
   rw [hoo rfl,A.blk0 hi hq' hh,(e4 e3.1.symm).1]
theorem After.eptr (A : After G h w R H lend G1 h1 w1 hs h2) {i j off : Nat} {c : Value} (hv : VRel G1 h1 w1 (.eptr (.arg i 0) 0 j off) c) {id : Id} (hi : R[i]? = some id) {o : Nat × Ob} (ho : h id = some o) : VRel (afterG G G1 h1 R w.heap.size w1.heap.size hs) h2 w1 (.eptr id o.1 j off) c:=by
 obtain ⟨v,o⟩:=o
 cases hv with
 | @eptr _ _ _ _ a v1 o1 hh hle hoo =>
  by_cases hq : ∃ q,(q,id) ∈ hs
  ·obtain ⟨q,hq⟩:=hq
   obtain ⟨v2,o2,h2o,hlt,_⟩:=A.h2a q id hq
   rw [nv_gt ho] at hlt
   exact .eptr h2o (by simp only; omega) fun e=>by simp only at e; omega
  ·have hq' : ∀ q,(q,id) ∉ hs:=fun q hm=>hq ⟨q,hm⟩
   obtain ⟨o2,f1,f2⟩:=A.h2c i id v o v1 o1 hq' hi ho hh
   refine .eptr f1 (by simp only; omega) fun e=>?_
   have h0 : v1 = 0:=by
    by_cases h0 : v1 = 0
    .exact h0
    .simp [bump,h0] at e
   subst h0
   obtain ⟨_,_,_,v1',o1',_,_,e3,e4⟩:=A.at hi
   rw [hh] at e3
   simp at e3
   obtain ⟨sz,xs,rfl,g1,g2⟩:=hoo rfl
   have e5 : o2 = .arr sz xs:=by
    rcases f2 with ⟨_,_,e6,_⟩ | ⟨e6,_⟩
    .cases e6
    .exact e6
   exact ⟨sz,xs,e5,g1,by rw [g2,A.blk0 hi hq' hh,(e4 e3.1.symm).1]⟩
theorem After.mref (A : After G h w R H lend G1 h1 w1 hs h2) {i : Nat} {c : Value} (hv : VRel G1 h1 w1 (.mref (.arg i 0) 0) c) {id : Id} (hi : R[i]? = some id) {o : Nat × Ob} (ho : h id = some o) : VRel (afterG G G1 h1 R w.heap.size w1.heap.size hs) h2 w1 (.mref id o.1) c:=by
 obtain ⟨v,o⟩:=o
 cases hv with
 | @mref _ _ r v1 o1 hh hle hoo =>
  by_cases hq : ∃ q,(q,id) ∈ hs
  ·obtain ⟨q,hq⟩:=hq
   obtain ⟨v2,o2,h2o,hlt,_⟩:=A.h2a q id hq
   rw [nv_gt ho] at hlt
   exact .mref h2o (by simp only; omega) fun e=>by simp only at e; omega
  ·have hq' : ∀ q,(q,id) ∉ hs:=fun q hm=>hq ⟨q,hm⟩
   obtain ⟨o2,f1,_⟩:=A.h2c i id v o v1 o1 hq' hi ho hh
   refine .mref f1 (by simp only; omega) fun e=>?_
   have h0 : v1 = 0:=by
    by_cases h0 : v1 = 0
    .exact h0
    .simp [bump,h0] at e
   subst h0
   obtain ⟨_,_,_,v1',o1',_,_,e3,e4⟩:=A.at hi
   rw [hh] at e3
   simp at e3
   rw [hoo rfl,A.blk0 hi hq' hh,(e4 e3.1.symm).1]
theorem After.ownArg (A : After G h w R H lend G1 h1 w1 hs h2) {i ver off len : Nat} {c : Value} (hv : VRel G1 h1 w1 (.own (.arg i 0) ver off len) c) (hal : alive h1 (.arg i 0) ver = true) {id : Id} (hi : R[i]? = some id) {o : Nat × Ob} (ho : h id = some o) :
  VRel (afterG G G1 h1 R w.heap.size w1.heap.size hs) h2 w1 (.own id (o.1 + bump ver) off len) c:=by
 obtain ⟨v,o⟩:=o
 cases hv with
 | @own _ _ _ _ a n cap v1 o1 hn' hcap hh hle hoo =>
  simp only [alive,hh,decide_eq_true_eq] at hal
  subst hal
  obtain ⟨sz,xs,rfl,hlen,hreal⟩:=hoo rfl
  obtain ⟨hk,_⟩:=A.shape i id v o v1 _ hi ho hh
  have hbox : ¬ ∃ v0 cs,h id = some (v0,.box cs):=by
   rintro ⟨v0,cs,e⟩
   rw [ho] at e
   simp at e
   rcases hk with ⟨_,_,_,e'⟩ | ⟨_,_,_,_,e',_⟩ | ⟨_,_,_,_,_,_,_,e'⟩
   ·cases e'
   ·rw [e.2] at e'; cases e'
   ·cases e'
  have hb1 : bump v1 <= 1:=by unfold bump; split <;> omega
  by_cases hq : ∃ q,(q,id) ∈ hs
  ·obtain ⟨q,hq⟩:=hq
   obtain ⟨v2,o2,h2o,hlt,hst⟩:=A.h2a q id hq
   rcases hst (lmg hi) with h0 | hst
   ·exact absurd h0 hbox
   ·rw [nv_gt ho] at hst
    exact .own hn' hcap h2o (by simp only; omega) fun e=>by simp only at e; omega
  ·have hq' : ∀ q,(q,id) ∉ hs:=fun q hm=>hq ⟨q,hm⟩
   obtain ⟨o2,f1,f2⟩:=A.h2c i id v o v1 _ hq' hi ho hh
   refine .own hn' hcap f1 (lrf _) fun _=>?_
   rcases f2 with ⟨_,_,e,_⟩ | ⟨rfl,_⟩
   ·cases e
   ·refine ⟨sz,xs,rfl,hlen,?_⟩
    rcases hreal with h0 | ⟨k1,k2,k3⟩
    ·exact .inl h0
    ·obtain ⟨b1,b2⟩:=A.rootMine hi hq' (fun v' e=>by rw [hh] at e; cases e) k1
     refine .inr ⟨by rw [b1]; exact b2,by rw [A.capR hi hq']; exact k2,fun h0=>by rw [b1]; exact k3 h0⟩
theorem After.adoptVal (A : After G h w R H lend G1 h1 w1 hs h2) {s i ver len sz ver' : Nat} {xs : List PV} {id : Id} {c : Value} (hv : VRel G1 h1 w1 (.own (.slot s i) ver 0 len) c) (hh : h1 (.slot s i) = some (ver,.arr sz xs)) (hm : (Id.slot s i,id) ∈ hs) (h2o : h2 id = some (ver',.arr sz ((xs.drop 0).take len))) :
  VRel (afterG G G1 h1 R w.heap.size w1.heap.size hs) h2 w1 (.own id ver' 0 ((xs.drop 0).take len).length) c:=by
 cases hv with
 | @own _ _ _ _ a n cap v o hn hcap hh' hle hoo =>
  rw [hh] at hh'
  simp at hh'
  obtain ⟨rfl,rfl⟩:=hh'
  obtain ⟨sz',xs',e,hlen,hreal⟩:=hoo rfl
  simp at e
  obtain ⟨rfl,rfl⟩:=e
  have hlen' : ((xs.drop 0).take len).length = len:=by simp; omega
  rw [hlen']
  refine .own hn hcap h2o (lrf _) fun _=>⟨sz,_,rfl,by simp; omega,?_⟩
  rcases hreal with ⟨hc0,_⟩ | ⟨hk,hce,ha⟩
  ·exact .inl ⟨hc0,rfl⟩
  ·obtain ⟨b1,b2,_⟩:=A.adopt hm hk
   refine .inr ⟨by rw [b1]; exact b2,?_,fun h0=>by rw [b1]; exact ha h0⟩
   refine Nat.le_trans hce (Nat.le_of_eq ?_)
   simp [afterG,bwd_of A.nd2 hm]
theorem out0_clo {h : VHeap} {f : FuncId} {c : VVal} {cs : List VVal} {r : VVal} (ho : out0 h (.fn f (c :: cs)) = some r) : ∃ ds,mapO (outCap h) (c :: cs) = some ds /\ r = .p (.clo f ds):=by
 simp only [out0] at ho
 obtain ⟨ds,e,h0⟩:=ob_eq ho
 simp only [osi] at h0
 exact ⟨ds,e,h0.symm⟩
theorem outCap_some {h : VHeap} {v : VVal} {x : PV} (ho : outCap h v = some x) : ∃ s j ver cs ds,v = .ptr (.slot s j) ver 0 /\ h (.slot s j) = some (ver,.box cs) /\ mapO unP cs = some ds /\ x = .agg ds:=by
 unfold outCap at ho
 split at ho
 ·rename_i s j ver
  split at ho
  ·rename_i v cs hh
   obtain ⟨rfl,ho1⟩:=gd_eq ho
   obtain ⟨ds,e,h0⟩:=ob_eq ho1
   simp only [osi] at h0
   exact ⟨s,j,_,cs,ds,rfl,hh,e,h0.symm⟩
  .cases ho
 .cases ho
def idOf : VVal -> Id
 | .ptr id _ _=>id
 | _=>.arg 0 0
theorem After.clo (A : After G h w R H lend G1 h1 w1 hs h2) (hlf : lend = false) {f : FuncId} {caps : List VVal} {arr : Array Value} (hl : caps.length = arr.size) (hr : ∀ (i : Nat) (v : VVal) (c : Value),caps[i]? = some v -> arr[i]? = some c -> VRel G1 h1 w1 v c)
  {ds : List PV} (hds : mapO (outCap h1) caps = some ds) (hcp : ∀ q ∈ capIds0 (.fn f caps),∀ id,(q,id) ∉ hs) : VRel (afterG G G1 h1 R w.heap.size w1.heap.size hs) h2 w1 (.p (.clo f ds)) (.func (.func f) #[] arr):=by
 obtain ⟨g1,g2⟩:=mapO_get hds
 have key : ∀ (i : Nat) (x : PV),ds[i]? = some x -> ∃ (b : Nat) (cs : List VVal) (dl : List PV) (ar : Array Value) (t : TypeId),arr[i]? = some (.pointer (some ⟨b,0,none⟩)) /\ b = G1.blk (idOf (caps.getD i .undef)) /\ x = .agg dl /\ mapO unP cs = some dl /\
   (afterG G G1 h1 R w.heap.size w1.heap.size hs).kind b = .frozen /\ b < w1.heap.size /\ w1.heap[b]? = some (.cells ar t (0,0)) /\ cs.length = ar.size /\ (∀ (i : Nat) (c : Value),ar[i]? = some c -> c.oneCell' = true) /\ ∀ (i : Nat) (v : VVal) (c : Value),cs[i]? = some v -> ar[i]? = some c -> VRel G1 h1 w1 v c:=fun i x hx=>by
  obtain ⟨v,hv,ho⟩:=g2 i x hx
  obtain ⟨s,j,ver,cs,dl,rfl,hh,hu,rfl⟩:=outCap_some ho
  have hlt : i < arr.size:=by rw [<- hl]; exact (lgs.1 hv).1
  have hc:=aggz hlt
  generalize arr[i] = c at hc
  have hvr:=hr i _ c hv hc
  cases hvr with
  | @ptr _ _ _ a v' o hh' hle hoo =>
   rw [hh] at hh'
   simp only [osi,pmi] at hh'
   obtain ⟨hm,ar,t,hb,e3,e4,e5⟩:=A.inv1 _ _ _ hh
   have hge:=A.made hm
   have hlt:=(ags.1 hb).1
   have hfw : fwd (.slot s j) hs = none:=by
    cases hf : fwd (.slot s j) hs with
    | none=>rfl
    | some id=>exact absurd (fwd_mem hf) (hcp _ (List.mem_flatMap.2 ⟨_,lmg hv,by simp [ids0]⟩) id)
   refine ⟨_,cs,dl,ar,t,by rw [hc,hoo hh'.1],by rw [List.getD_eq_getElem?_getD,hv]; rfl,rfl,hu,by simp [afterG,Nat.not_lt.2 hge,hlt,hm,hfw],hlt,hb,e3,e4,e5⟩
 refine .p (.clo (fun i=>⟨G1.blk (idOf (caps.getD i .undef)),0,none⟩) (fun i j=>(w1.cell? ⟨G1.blk (idOf (caps.getD i .undef)),j,none⟩).getD Go.undef) (by omega) (fun i x hx=>?_) (fun i x j y hx hy=>?_) (fun i x j y hx hy=>?_) fun i x j y hx hy=>?_) rfl
 ·obtain ⟨b,cs,dl,ar,t,k1,rfl,_,_,k5,k6,_⟩:=key i x hx
  exact ⟨k1,k5,k6⟩
 all_goals
  obtain ⟨b,cs,dl,ar,t,k1,rfl,rfl,k4,k5,k6,k7,k8,k9,k10⟩:=key i x hx
  obtain ⟨u1,u2⟩:=mapO_get k4
  simp only [PV.cells] at hy
  obtain ⟨v,hv,hu⟩:=u2 j y hy
  have hlt : j < ar.size:=by rw [<- k8]; exact (lgs.1 hv).1
  have hcell:=cell_block (o:=j) k7
  rw [aggz hlt] at hcell
 ·rw [hcell]
  exact k9 j _ (aggz hlt)
 ·rw [add_lit,Nat.zero_add,hcell]
  rfl
 ·rw [hcell]
  have hvr:=k10 j v _ hv (aggz hlt)
  exact A.prel (.inl hlf) (unP_rel hvr hu).1
theorem out0_eptr {h : VHeap} {id : Id} {ver j off : Nat} {r : VVal} (ho : out0 h (.eptr id ver j off) = some r) : ∃ i,id = .arg i 0 /\ ver = 0 /\ r = .eptr (.arg i 0) 0 j off:=by
 cases id with
 | slot=>simp [out0] at ho
 | arg i k =>
  cases k with
  | succ=>simp [out0] at ho
  | zero =>
   simp only [out0] at ho
   obtain ⟨rfl,ho1⟩:=gd_eq ho
   simp at ho1
   exact ⟨i,rfl,rfl,ho1.symm⟩
theorem After.leaf (A : After G h w R H lend G1 h1 w1 hs h2) {d j : Nat} {v r v' : VVal} {c : Value} {qs : List (Id × Nat × Ob)} (hv : VRel G1 h1 w1 v c) (ho : out0 h1 v = some r) (hi : in0 R h d j r = some (v',qs))
  (hal : lend = true -> noAlias0 r = true) (hsub : ∀ x ∈ hand0 d j v,x ∈ hs) (hq : ∀ x ∈ qs,h2 x.1 = some x.2) (hcp : ∀ q ∈ capIds0 v,∀ id,(q,id) ∉ hs) : VRel (afterG G G1 h1 R w.heap.size w1.heap.size hs) h2 w1 v' c:=by
 cases hv with
 | @p d' c hp h1c =>
  simp [out0] at ho
  subst ho
  obtain ⟨rfl,_⟩:=in0_p hi
  refine .p (A.prel ?_ hp) h1c
  cases lend with
  | false=>exact .inl rfl
  | true=>exact .inr (by simpa [noAlias0] using hal rfl)
 | @own id ver off len a n cap v o hn hcap hh hle hoo =>
  cases id with
  | arg=>simp [out0] at ho
  | slot s i =>
   simp only [out0,velems,hh] at ho
   cases o <;> try (simp only [ob_none] at ho; cases ho; done)
   rename_i sz xs
   simp only at ho
   obtain ⟨r',hr',ho1⟩:=ob_eq ho
   obtain ⟨rfl,hr2⟩:=gd_eq hr'
   obtain ⟨rfl,ho2⟩:=gd_eq ho1
   simp at hr2 ho2
   subst hr2
   subst ho2
   simp only [in0] at hi
   simp at hi
   obtain ⟨rfl,rfl⟩:=hi
   obtain ⟨sz',xs',e,hlen,hreal⟩:=hoo rfl
   simp at e
   obtain ⟨rfl,rfl⟩:=e
   have hm:=hsub (.slot s i,.slot d (j + 1)) (by simp [hand0])
   have hlen' : min len xs.length = len:=by omega
   rw [hlen']
   refine .own hn hcap (hq _ (List.mem_singleton.2 rfl)) (lrf _) fun _=>⟨sz,_,rfl,by simp; omega,?_⟩
   rcases hreal with ⟨hc0,_⟩ | ⟨hk,hce,ha⟩
   ·exact .inl ⟨hc0,rfl⟩
   ·obtain ⟨b1,b2,_⟩:=A.adopt hm hk
    refine .inr ⟨by rw [b1]; exact b2,?_,fun h0=>by rw [b1]; exact ha h0⟩
    refine Nat.le_trans hce (Nat.le_of_eq ?_)
    simp [afterG,bwd_of A.nd2 hm]
 | @ptr id ver off a v o hh hle hoo =>
  cases id with
  | slot=>simp [out0] at ho
  | arg i k =>
   cases k with
   | succ=>simp [out0] at ho
   | zero =>
    simp only [out0] at ho
    obtain ⟨rfl,ho1⟩:=gd_eq ho
    simp at ho1
    subst ho1
    simp only [in0] at hi
    obtain ⟨u,hu,hi1⟩:=ob_eq hi
    simp only [back0] at hu
    obtain ⟨id,hid,hu1⟩:=ob_eq hu
    obtain ⟨o2,ho2,hu2⟩:=ob_eq hu1
    simp at hu2 hi1
    obtain ⟨rfl,_⟩:=hi1
    subst hu2
    exact A.ptr (.ptr hh hle hoo) hid ho2
 | @mref id ver r' v o hh hle hoo =>
  cases id with
  | arg=>simp [out0] at ho
  | slot s i =>
   simp only [out0,ventries,hh] at ho
   cases o <;> try (simp only [ob_none] at ho; cases ho; done)
   rename_i kt ks vs
   simp only at ho
   obtain ⟨q,hq',ho1⟩:=ob_eq ho
   obtain ⟨rfl,hq2⟩:=gd_eq hq'
   simp at hq2 ho1
   subst hq2
   subst ho1
   obtain ⟨rfl,_⟩:=in0_p hi
   have hlf : lend = false:=by
    cases lend with
    | false=>rfl
    | true=>have:=hal rfl; simp [noAlias0,PV.flat,PV.flat0] at this
   have hr:=hoo rfl
   subst hr
   obtain ⟨hm,es,cl,hb,⟨e3,_⟩,e4,e5,e6⟩:=A.inv1 _ _ _ hh
   have hge:=A.made hm
   have hlt:=(ags.1 hb).1
   have hfw : fwd (.slot s i) hs = none:=by
    cases hf : fwd (.slot s i) hs with
    | none=>rfl
    | some id =>
     obtain ⟨_,v',o',e1,_,e2⟩:=A.own _ _ (fwd_mem hf)
     rw [hh] at e1
     simp at e1
     exact absurd e1.2.symm (e2 _ _ _)
   exact .p (.map (by simp [afterG,Nat.not_lt.2 hge,hlt,hm,hfw]) hb e3 e4 e5 fun i v e hv he=>A.prel (.inl hlf) (e6 i v e hv he)) rfl
 | @fn f caps arr hl hr =>
  cases caps with
  | cons c0 cs0 =>
   obtain ⟨ds,hds,rfl⟩:=out0_clo ho
   obtain ⟨rfl,_⟩:=in0_p hi
   have hlf : lend = false:=by
    cases lend with
    | false=>rfl
    | true=>have:=hal rfl; simp [noAlias0,PV.flat,PV.flat0] at this
   exact A.clo hlf hl hr hds hcp
  | nil =>
   simp [out0] at ho
   subst ho
   obtain ⟨rfl,_⟩:=in0_p hi
   have : arr = #[]:=Array.eq_empty_of_size_eq_zero (by simpa using hl.symm)
   subst this
   exact .p (.fn f) rfl
 | vptr=>simp [out0] at ho
 | @eptr id ver jj off a v o hh hle hoo =>
  cases id with
  | slot=>simp [out0] at ho
  | arg i k =>
   cases k with
   | succ=>simp [out0] at ho
   | zero =>
    simp only [out0] at ho
    obtain ⟨rfl,ho1⟩:=gd_eq ho
    simp at ho1
    subst ho1
    simp only [in0] at hi
    obtain ⟨u,hu,hi1⟩:=ob_eq hi
    simp only [back0] at hu
    obtain ⟨id,hid,hu1⟩:=ob_eq hu
    obtain ⟨o2,ho2,hu2⟩:=ob_eq hu1
    simp at hu2 hi1
    obtain ⟨rfl,_⟩:=hi1
    subst hu2
    exact A.eptr (.eptr hh hle hoo) hid ho2
 | plist=>simp [out0] at ho
 | pcell=>simp [out0] at ho
 | agg _ _ _=>simp [out0] at ho
 | tup _ _=>simp [out0] at ho
 | undef=>simp [out0] at ho
 | dead c=>simp [out0] at ho
end
end Go.V
namespace Go.V
open Go.RowKit
theorem upds_not : ∀ (us : List (Id × Nat × Ob)) (h : VHeap) (id : Id),id ∉ us.map (·.1) -> h.upds us id = h id
 | [],_,_,_=>rfl
 | (i,o) :: us,h,id,hn=>by
  simp only [lpc,lmk,not_or] at hn
  rw [upds_cons,upds_not us _ id hn.2,upd_other _ _ hn.1]
theorem upds_get : ∀ (us : List (Id × Nat × Ob)) (h : VHeap) (x : Id × Nat × Ob),(us.map (·.1)).Nodup -> x ∈ us -> h.upds us x.1 = some x.2
 | [],_,_,_,hx=>by cases hx
 | (i,o) :: us,h,x,hn,hx=>by
  simp only [lpc,List.nodup_cons] at hn
  rw [upds_cons]
  rcases lmk.1 hx with e | e
  ·subst e
   rw [upds_not us _ _ hn.1,upd_same]
  .exact upds_get us _ x hn.2 e
theorem nodup_of : ∀ {l : List Id},nodupB l = true -> l.Nodup
 | [],_=>by simp
 | i :: is,h=>by
  simp [nodupB] at h
  exact List.nodup_cons.2 ⟨h.1,nodup_of h.2⟩
structure Pre (h1 h : VHeap) (d e : Nat) (hs : List (Id × Id)) (qs : List (Id × Nat × Ob)) (lo hi : Nat) : Prop where
 ids : ∀ x ∈ hs,∃ k,x.2 = .slot d k /\ lo < k /\ k <= hi
 keys : qs.map (·.1) = hs.map (·.2)
 nd : (hs.map (·.2)).Nodup
 own : ∀ x ∈ hs,(∃ s j,x.1 = .slot s j) /\ ∃ v o,h1 x.1 = some (v,o) /\ o ≠ .gone /\ ∀ kt ks vs,o ≠ .map kt ks vs
 ver : ∀ x ∈ qs,x.2.1 = nv (h x.1) + e
theorem Pre.nil (h1 h : VHeap) (d e lo hi : Nat) : Pre h1 h d e [] [] lo hi:=⟨by simp,rfl,by simp,by simp,by simp⟩
theorem Pre.append {h1 h : VHeap} {d e : Nat} {hs hs' : List (Id × Id)} {qs qs' : List (Id × Nat × Ob)} {lo mid hi : Nat} (p : Pre h1 h d e hs qs lo mid) (q : Pre h1 h d e hs' qs' mid hi) (h12 : lo <= mid) (h23 : mid <= hi) : Pre h1 h d e (hs ++ hs') (qs ++ qs') lo hi where
 ids:=fun x hx=>by
  rcases lmp.1 hx with hx | hx
  .obtain ⟨k,e,a,b⟩:=p.ids x hx; exact ⟨k,e,a,by omega⟩
  .obtain ⟨k,e,a,b⟩:=q.ids x hx; exact ⟨k,e,by omega,b⟩
 keys:=by simp [p.keys,q.keys]
 nd:=by
  rw [lma]
  refine List.nodup_append.2 ⟨p.nd,q.nd,fun a ha b hb e=>?_⟩
  obtain ⟨x,hx,rfl⟩:=lmm.1 ha
  obtain ⟨y,hy,rfl⟩:=lmm.1 hb
  obtain ⟨k,e1,_,_⟩:=p.ids x hx
  obtain ⟨k',e2,_,_⟩:=q.ids y hy
  rw [e1,e2] at e
  simp at e
  omega
 own:=fun x hx=>by
  rcases lmp.1 hx with hx | hx
  .exact p.own x hx
  .exact q.own x hx
 ver:=fun x hx=>by
  rcases lmp.1 hx with hx | hx
  .exact p.ver x hx
  .exact q.ver x hx
theorem Pre.one {h1 h : VHeap} {d e s i k : Nat} {v : Nat} {o o' : Ob} {lo hi : Nat} (hh : h1 (.slot s i) = some (v,o)) (hg : o ≠ .gone) (hm : ∀ kt ks vs,o ≠ .map kt ks vs) (hlo : lo < k) (hhi : k <= hi) :
  Pre h1 h d e [(.slot s i,.slot d k)] [(.slot d k,nv (h (.slot d k)) + e,o')] lo hi :=
 ⟨by simp; omega,rfl,by simp,by simp [hh,hg]; exact ⟨v,o,⟨rfl,rfl⟩,hg,hm⟩,by simp⟩
section
variable {h1 h : VHeap} {R : List Id} {d : Nat}
theorem out0_own {v r : VVal} (ho : out0 h1 v = some r) : (∀ j,hand0 d j v = []) /\ (∀ sz xs,r ≠ .fresh sz xs) \/ ∃ s i ver len sz xs,v = .own (.slot s i) ver 0 len /\ h1 (.slot s i) = some (ver,.arr sz xs) /\ r = .fresh sz ((xs.drop 0).take len):=by
 cases v with
 | own id ver off len =>
  cases id with
  | arg=>simp [out0] at ho
  | slot s i =>
   right
   simp only [out0,velems] at ho
   obtain ⟨r',hr',ho1⟩:=ob_eq ho
   split at hr' <;> try (cases hr'; done)
   rename_i v sz xs hh
   obtain ⟨rfl,hr2⟩:=gd_eq hr'
   obtain ⟨rfl,ho2⟩:=gd_eq ho1
   simp only [osi] at hr2 ho2
   subst hr2
   exact ⟨s,i,_,len,sz,xs,rfl,hh,ho2.symm⟩
 | p x=>left; simp [out0] at ho; subst ho; exact ⟨fun _=>rfl,by simp⟩
 | ptr id ver off =>
  left
  refine ⟨fun _=>rfl,fun sz xs e=>?_⟩
  subst e
  unfold out0 at ho
  split at ho <;> try (simp_all; done)
  obtain ⟨_,ho⟩:=gd_eq ho
  simp at ho
 | mref id ver =>
  left
  refine ⟨fun _=>rfl,fun sz xs e=>?_⟩
  subst e
  unfold out0 at ho
  split at ho <;> try (simp_all; done)
  obtain ⟨_,_,ho⟩:=ob_eq ho
  simp at ho
 | fn f caps =>
  left
  refine ⟨fun _=>rfl,fun sz xs e=>?_⟩
  subst e
  cases caps with
  | nil=>simp [out0] at ho
  | cons=>obtain ⟨_,_,e⟩:=out0_clo ho; cases e
 | eptr id ver j off =>
  left
  obtain ⟨i,_,_,rfl⟩:=out0_eptr ho
  exact ⟨fun _=>rfl,by simp⟩
 | _=>simp [out0] at ho
theorem in0_other {j : Nat} {r v' : VVal} {qs : List (Id × Nat × Ob)} (hr : ∀ sz xs,r ≠ .fresh sz xs) (hi : in0 R h d j r = some (v',qs)) : qs = []:=by
 unfold in0 at hi
 split at hi
 ·exact absurd rfl (hr _ _)
 ·obtain ⟨_,_,hi⟩:=ob_eq hi
  simp at hi
  exact hi.2
theorem pre0 {j : Nat} {v r v' : VVal} {qs : List (Id × Nat × Ob)} (ho : out0 h1 v = some r) (hi : in0 R h d j r = some (v',qs)) : Pre h1 h d 0 (hand0 d j v) qs j (j + 1):=by
 rcases out0_own (d:=d) ho with ⟨h0,hr⟩ | ⟨s,i,ver,len,sz,xs,rfl,hh,rfl⟩
 ·rw [h0,in0_other hr hi]
  exact .nil ..
 ·simp only [in0,osi,pmi] at hi
  obtain ⟨_,rfl⟩:=hi
  exact .one hh (by simp) (by simp) (by omega) (lrf _)
theorem preL : ∀ {vs rs us : List VVal} {qs : List (Id × Nat × Ob)} {j : Nat},mapO (out0 h1) vs = some rs -> inL R h d j rs = some (us,qs) -> Pre h1 h d 0 (handL d j vs) qs j (j + vs.length)
 | [],rs,us,qs,j,ho,hi=>by
  simp [mapO] at ho
  subst ho
  simp [inL] at hi
  obtain ⟨_,rfl⟩:=hi
  exact .nil ..
 | v :: vs,rs,us,qs,j,ho,hi=>by
  simp only [mapO] at ho
  obtain ⟨r,hr,ho⟩:=ob_eq ho
  obtain ⟨rs',hrs,ho⟩:=ob_eq ho
  simp at ho
  subst ho
  simp only [inL] at hi
  obtain ⟨q,hq,hi⟩:=ob_eq hi
  obtain ⟨q',hq',hi⟩:=ob_eq hi
  simp at hi
  obtain ⟨_,rfl⟩:=hi
  have:=(pre0 hr hq).append (preL hrs hq') (by omega) (by omega)
  simpa [handL,Nat.add_assoc,Nat.add_comm 1] using this
theorem out1_cases {j : Nat} {v r u : VVal} {qs : List (Id × Nat × Ob)} (ho : out1 h1 v = some r) (hi : in1 R h d j r = some (u,qs)) :
  (∃ rs us,mapO (out0 h1) (vcells v) = some rs /\ inL R h d j rs = some (us,qs) /\ hand1 h1 d j v = handL d j (vcells v) /\ width r = (vcells v).length /\ ((∃ cs,v = .agg cs /\ u = .agg us) \/ (vcells v = [v] /\ us = [u])) /\ (noAlias1 r = true -> rs.all noAlias0 = true)) \/
  ∃ s i ver cs rs us qs',v = .ptr (.slot s i) ver 0 /\ h1 (.slot s i) = some (ver,.box cs) /\ mapO (out0 h1) cs = some rs /\ inL R h d (j + 1) rs = some (us,qs') /\ u = .ptr (.slot d (j + 1)) (nv (h (.slot d (j + 1)))) 0 /\
   qs = (.slot d (j + 1),nv (h (.slot d (j + 1))),.box us) :: qs' /\ hand1 h1 d j v = (.slot s i,.slot d (j + 1)) :: handL d (j + 1) cs /\ width r = cs.length + 1 /\ (noAlias1 r = true -> rs.all noAlias0 = true):=by
 have key : (∀ cs,v ≠ .agg cs) -> (∀ s i ver,v ≠ .ptr (.slot s i) ver 0) -> hand1 h1 d j v = hand0 d j v -> out0 h1 v = some r -> (∀ cs,r ≠ .agg cs) -> (∀ cs,r ≠ .boxed cs) ->
   ∃ rs us,mapO (out0 h1) (vcells v) = some rs /\ inL R h d j rs = some (us,qs) /\ hand1 h1 d j v = handL d j (vcells v) /\ width r = (vcells v).length /\ ((∃ cs,v = .agg cs /\ u = .agg us) \/ (vcells v = [v] /\ us = [u])) /\ (noAlias1 r = true -> rs.all noAlias0 = true):=by
  intro hva _ hh ho0 hra hrb
  have hvc : vcells v = [v]:=by cases v <;> first | rfl | exact absurd rfl (hva _)
  have hin : in0 R h d j r = some (u,qs):=by cases r <;> first | exact hi | exact absurd rfl (hra _) | exact absurd rfl (hrb _)
  refine ⟨[r],[u],by simp [hvc,mapO,ho0,ob],by simp [inL,hin,ob],by simp [hvc,handL,hh],?_,.inr ⟨hvc,rfl⟩,?_⟩
  ·rw [hvc]
   cases r <;> first | rfl | exact absurd rfl (hra _) | exact absurd rfl (hrb _)
  ·cases r <;> first | exact absurd rfl (hra _) | exact absurd rfl (hrb _) | simp [noAlias1]
 cases v with
 | agg cs =>
  simp only [out1] at ho
  obtain ⟨rs,hrs,ho1⟩:=ob_eq ho
  simp at ho1
  subst ho1
  simp only [in1] at hi
  obtain ⟨q,hq,hi1⟩:=ob_eq hi
  simp at hi1
  obtain ⟨rfl,rfl⟩:=hi1
  exact .inl ⟨rs,q.1,hrs,hq,rfl,by simp [width,vcells,(mapO_get hrs).1],.inl ⟨cs,rfl,rfl⟩,by simp [noAlias1]⟩
 | ptr id ver off =>
  cases id with
  | slot s i =>
   cases off with
   | zero =>
    right
    simp only [out1] at ho
    split at ho <;> try (cases ho; done)
    rename_i v cs hh
    obtain ⟨rfl,ho1⟩:=gd_eq ho
    obtain ⟨rs,hrs,ho2⟩:=ob_eq ho1
    simp at ho2
    subst ho2
    simp only [in1] at hi
    obtain ⟨q,hq,hi1⟩:=ob_eq hi
    simp at hi1
    obtain ⟨rfl,rfl⟩:=hi1
    exact ⟨s,i,_,cs,rs,q.1,q.2,rfl,hh,hrs,hq,rfl,rfl,by simp [hand1,hh],by simp [width,(mapO_get hrs).1],by simp [noAlias1]⟩
   | succ=>simp [out1,out0] at ho
  | arg i k =>
   left
   have ho0 : out0 h1 (.ptr (.arg i k) ver off) = some r:=by simpa [out1] using ho
   refine key (by simp) (by simp) rfl ho0 ?_ ?_ <;>
   ·intro cs e
    subst e
    unfold out0 at ho0
    split at ho0 <;> try (simp_all; done)
    obtain ⟨_,ho0⟩:=gd_eq ho0
    simp at ho0
 | p x =>
  left
  have ho0 : out0 h1 (.p x) = some r:=ho
  simp [out0] at ho0
  subst ho0
  exact key (by simp) (by simp) rfl ho (by simp) (by simp)
 | own id ver off len =>
  left
  rcases out0_own (d:=d) (v:=.own id ver off len) ho with ⟨h0,_⟩ | ⟨_,_,_,_,_,_,_,_,rfl⟩
  ·simp [hand0] at h0
  ·exact key (by simp) (by simp) rfl ho (by simp) (by simp)
 | mref id ver =>
  left
  have ho0 : out0 h1 (.mref id ver) = some r:=ho
  refine key (by simp) (by simp) rfl ho0 ?_ ?_ <;>
  ·intro cs e
   subst e
   unfold out0 at ho0
   split at ho0 <;> try (simp_all; done)
   obtain ⟨_,_,ho0⟩:=ob_eq ho0
   simp at ho0
 | fn f caps =>
  left
  have ho0 : out0 h1 (.fn f caps) = some r:=ho
  cases caps with
  | cons =>
   obtain ⟨_,_,e⟩:=out0_clo ho0
   subst e
   exact key (by simp) (by simp) rfl ho0 (by simp) (by simp)
  | nil =>
   have ho1:=ho0
   simp [out0] at ho1
   subst ho1
   exact key (by simp) (by simp) rfl ho0 (by simp) (by simp)
 | eptr id ver jj off =>
  left
  have ho0 : out0 h1 (.eptr id ver jj off) = some r:=ho
  obtain ⟨i,_,_,rfl⟩:=out0_eptr ho0
  exact key (by simp) (by simp) rfl ho0 (by simp) (by simp)
 | _=>simp [out1,out0] at ho
theorem pre1 {j : Nat} {v r u : VVal} {qs : List (Id × Nat × Ob)} (ho : out1 h1 v = some r) (hi : in1 R h d j r = some (u,qs)) : Pre h1 h d 0 (hand1 h1 d j v) qs j (j + width r):=by
 rcases out1_cases ho hi with ⟨rs,us,e1,e2,e3,e4,_⟩ | ⟨s,i,ver,cs,rs,us,qs',rfl,hh,e1,e2,rfl,rfl,e3,e4,_⟩
 ·rw [e3,e4]
  exact preL e1 e2
 ·rw [e3,e4]
  have:=(Pre.one (h:=h) (d:=d) (e:=0) (o':=.box us) (lo:=j) (k:=j + 1) hh (by simp) (by simp) (by omega) (lrf _)).append (preL e1 e2) (by omega) (by omega)
  simpa [Nat.add_assoc,Nat.add_comm 1] using this
theorem preT : ∀ {vs rs us : List VVal} {qs : List (Id × Nat × Ob)} {j : Nat},mapO (out1 h1) vs = some rs -> inT R h d j rs = some (us,qs) -> ∃ hi,j <= hi /\ Pre h1 h d 0 (handT h1 d j vs rs) qs j hi
 | [],rs,us,qs,j,ho,hi=>by
  simp [mapO] at ho
  subst ho
  simp [inT] at hi
  obtain ⟨_,rfl⟩:=hi
  exact ⟨j,lrf _,.nil ..⟩
 | v :: vs,rs,us,qs,j,ho,hi=>by
  simp only [mapO] at ho
  obtain ⟨r,hr,ho⟩:=ob_eq ho
  obtain ⟨rs',hrs,ho⟩:=ob_eq ho
  simp at ho
  subst ho
  simp only [inT] at hi
  obtain ⟨q,hq,hi⟩:=ob_eq hi
  obtain ⟨q',hq',hi⟩:=ob_eq hi
  simp at hi
  obtain ⟨_,rfl⟩:=hi
  obtain ⟨hi',hle,hp⟩:=preT hrs hq'
  exact ⟨hi',by omega,(pre1 hr hq).append hp (by omega) hle⟩
theorem handL_fst : ∀ (vs : List VVal) (j : Nat),(handL d j vs).map (·.1) = vs.flatMap ownIds0
 | [],_=>rfl
 | v :: vs,j=>by
  simp only [handL,lma,handL_fst vs,lfc]
  congr 1
  cases v <;> rfl
theorem hand1_fst (v : VVal) (j : Nat) : List.Sublist ((hand1 h1 d j v).map (·.1)) (ownIds1 h1 v):=by
 cases v with
 | agg cs=>simp only [hand1,ownIds1,handL_fst]; exact List.Sublist.refl _
 | ptr id ver off =>
  cases id with
  | arg=>simp [hand1,hand0]
  | slot s i =>
   simp only [hand1,ownIds1]
   split
   .rename_i hh; simp only [lpc,handL_fst,hh]; exact List.Sublist.refl _
   .exact List.nil_sublist _
 | own=>exact List.Sublist.refl _
 | _=>simp [hand1,hand0]
theorem handT_fst : ∀ (vs rs : List VVal) (j : Nat),List.Sublist ((handT h1 d j vs rs).map (·.1)) (vs.flatMap (ownIds1 h1))
 | [],_,_=>by simp [handT]
 | v :: vs,[],j=>by simp [handT]
 | v :: vs,r :: rs,j=>by
  simp only [handT,lma,lfc]
  exact (hand1_fst v j).append (handT_fst vs rs _)
def handC (d j : Nat) : VVal -> List (Id × Id)
 | .own (.slot s i) _ _ _=>[(.slot s i,.slot d (j + 1))]
 | _=>[]
def handCL (d : Nat) : Nat -> List VVal -> List (Id × Id)
 | _,[]=>[]
 | j,v :: vs=>handC d j v ++ handCL d (j + 1) vs
def handO (h1 : VHeap) (d : Nat) : Nat -> Nat -> Nat -> List (Id × Id)
 | _,_,0=>[]
 | j,i,n + 1=>match h1 (.arg i 0) with
  | some (_,.box cs)=>handCL d j cs ++ handO h1 d (j + cs.length) (i + 1) n
  | _=>handO h1 d j (i + 1) n
theorem outArg_own {v r : VVal} (ho : outArg h1 v = some r) : (∀ d j,handC d j v = []) /\ (∀ sz xs,r ≠ .fresh sz xs) /\ r ≠ .undef \/ ∃ s i ver len sz xs,v = .own (.slot s i) ver 0 len /\ h1 (.slot s i) = some (ver,.arr sz xs) /\ r = .fresh sz ((xs.drop 0).take len):=by
 cases v with
 | own id ver off len =>
  cases id with
  | arg i k =>
   left
   cases k with
   | zero =>
    simp only [outArg,outArg1] at ho
    obtain ⟨_,ho1⟩:=gd_eq ho
    simp at ho1
    subst ho1
    exact ⟨fun _ _=>rfl,by simp,by simp⟩
   | succ=>simp [outArg,outArg1] at ho
  | slot s i =>
   right
   simp only [outArg,outArg1,velems] at ho
   obtain ⟨r',hr',ho1⟩:=ob_eq ho
   split at hr' <;> try (cases hr'; done)
   rename_i v sz xs hh
   obtain ⟨rfl,hr2⟩:=gd_eq hr'
   obtain ⟨rfl,ho2⟩:=gd_eq ho1
   simp only [osi] at hr2 ho2
   subst hr2
   exact ⟨s,i,_,len,sz,xs,rfl,hh,ho2.symm⟩
 | p x=>left; simp [outArg,outArg1] at ho; subst ho; exact ⟨fun _ _=>rfl,by simp,by simp⟩
 | ptr id ver off =>
  left
  cases id with
  | slot=>simp [outArg,outArg1] at ho
  | arg i k =>
   cases k with
   | succ=>simp [outArg,outArg1] at ho
   | zero =>
    simp only [outArg,outArg1] at ho
    obtain ⟨_,ho1⟩:=gd_eq ho
    simp at ho1
    subst ho1
    exact ⟨fun _ _=>rfl,by simp,by simp⟩
 | mref id ver =>
  left
  cases id with
  | slot=>simp [outArg,outArg1] at ho
  | arg i k =>
   cases k with
   | succ=>simp [outArg,outArg1] at ho
   | zero =>
    simp only [outArg,outArg1] at ho
    obtain ⟨_,ho1⟩:=gd_eq ho
    simp at ho1
    subst ho1
    exact ⟨fun _ _=>rfl,by simp,by simp⟩
 | fn f caps =>
  left
  simp only [outArg] at ho
  obtain ⟨cs,_,ho1⟩:=ob_eq ho
  simp at ho1
  subst ho1
  exact ⟨fun _ _=>rfl,by simp,by simp⟩
 | _=>simp [outArg,outArg1] at ho
theorem inC_other {j : Nat} {r v' : VVal} {qs : List (Id × Nat × Ob)} (hr : ∀ sz xs,r ≠ .fresh sz xs) (hi : inC R h d j r = some (v',qs)) : backW1 R h r = some v' /\ qs = []:=by
 unfold inC at hi
 split at hi
 ·exact absurd rfl (hr _ _)
 ·obtain ⟨u,hu,hi⟩:=ob_eq hi
  simp at hi
  exact ⟨by rw [hu,hi.1],hi.2⟩
theorem preC {j : Nat} {v r v' : VVal} {qs : List (Id × Nat × Ob)} (ho : outArg h1 v = some r) (hi : inC R h d j r = some (v',qs)) : Pre h1 h d 1 (handC d j v) qs j (j + 1):=by
 rcases outArg_own ho with ⟨h0,hr,_⟩ | ⟨s,i,ver,len,sz,xs,rfl,hh,rfl⟩
 ·rw [h0,(inC_other hr hi).2]
  exact .nil ..
 ·simp only [inC,osi,pmi] at hi
  obtain ⟨_,rfl⟩:=hi
  exact .one hh (by simp) (by simp) (by omega) (lrf _)
theorem preCL : ∀ {vs rs us : List VVal} {qs : List (Id × Nat × Ob)} {j : Nat},mapO (outArg h1) vs = some rs -> inCL R h d j rs = some (us,qs) -> Pre h1 h d 1 (handCL d j vs) qs j (j + vs.length)
 | [],rs,us,qs,j,ho,hi=>by
  simp [mapO] at ho
  subst ho
  simp [inCL] at hi
  obtain ⟨_,rfl⟩:=hi
  exact .nil ..
 | v :: vs,rs,us,qs,j,ho,hi=>by
  simp only [mapO] at ho
  obtain ⟨r,hr,ho⟩:=ob_eq ho
  obtain ⟨rs',hrs,ho⟩:=ob_eq ho
  simp at ho
  subst ho
  simp only [inCL] at hi
  obtain ⟨q,hq,hi⟩:=ob_eq hi
  obtain ⟨q',hq',hi⟩:=ob_eq hi
  simp at hi
  obtain ⟨_,rfl⟩:=hi
  have:=(preC hr hq).append (preCL hrs hq') (by omega) (by omega)
  simpa [handCL,Nat.add_assoc,Nat.add_comm 1] using this
theorem outBox_cases {i : Nat} {o : Ob} (ho : outBox h1 i = some o) : (∃ cs cs',h1 (.arg i 0) = some (0,.box cs) /\ mapO (outArg h1) cs = some cs' /\ o = .box cs' /\ ∀ x ∈ cs',x ≠ .undef) \/
  (∃ v sz xs,h1 (.arg i 0) = some (v,.arr sz xs) /\ ((v = 0 /\ o = .arr sz xs) \/ (v ≠ 0 /\ o = .box [.undef,.fresh sz xs]))) \/ ∃ kt ks vs,h1 (.arg i 0) = some (0,.map kt ks vs) /\ o = .map kt ks vs:=by
 simp only [outBox] at ho
 split at ho
 ·rename_i v cs hh
  obtain ⟨rfl,ho1⟩:=gd_eq ho
  obtain ⟨cs',hcs,ho2⟩:=ob_eq ho1
  simp at ho2
  refine .inl ⟨cs,cs',hh,hcs,ho2.symm,fun x hx e=>?_⟩
  obtain ⟨k,hk⟩:=lgm hx
  obtain ⟨y,_,hy⟩:=(mapO_get hcs).2 k x hk
  rcases outArg_own hy with ⟨_,_,h0⟩ | ⟨_,_,_,_,_,_,_,_,h0⟩
  ·exact h0 e
  ·rw [e] at h0; cases h0
 ·rename_i v sz xs hh
  simp at ho
  refine .inr (.inl ⟨v,sz,xs,hh,?_⟩)
  by_cases h0 : v = 0
  ·rw [if_pos h0] at ho
   exact .inl ⟨h0,ho.symm⟩
  ·rw [if_neg h0] at ho
   exact .inr ⟨h0,ho.symm⟩
 ·rename_i v kt ks vs hh
  obtain ⟨rfl,ho1⟩:=gd_eq ho
  simp at ho1
  exact .inr (.inr ⟨kt,ks,vs,hh,ho1.symm⟩)
 .cases ho
theorem inCL_undef {j : Nat} {cs : List VVal} : inCL R h d j (.undef :: cs) = none:=by
 simp [inCL,inC,backW1,backW0,ob]
inductive RootBack (R : List Id) (h h1 : VHeap) (d j i : Nat) (id : Id) : (Id × Nat × Ob) -> List (Id × Nat × Ob) -> Nat -> Prop where
 | box {v : Nat} {cs0 cs cs' us : List VVal} {as_ : List (Id × Nat × Ob)} (hh : h id = some (v,.box cs0)) (h1h : h1 (.arg i 0) = some (0,.box cs)) (ho : mapO (outArg h1) cs = some cs') (hi : inCL R h d j cs' = some (us,as_)) : RootBack R h h1 d j i id (id,v,.box us) as_ (j + cs'.length)
 | arr {v v1 sz0 sz : Nat} {xs0 xs : List PV} (hh : h id = some (v,.arr sz0 xs0)) (h1h : h1 (.arg i 0) = some (v1,.arr sz xs)) : RootBack R h h1 d j i id (id,v + bump v1,.arr sz xs) [] j
 | map {v : Nat} {kt0 kt : KT} {ks0 ks : List MKey} {vs0 vs : List PV} (hh : h id = some (v,.map kt0 ks0 vs0)) (h1h : h1 (.arg i 0) = some (0,.map kt ks vs)) : RootBack R h h1 d j i id (id,v,.map kt ks vs) [] j
theorem backObs_cons {j i n : Nat} {id : Id} {ids : List Id} {os : List Ob} {us : List (Id × Nat × Ob) × List (Id × Nat × Ob)} (ho : outH h1 i (n + 1) = some os) (hb : backObs R h d j (id :: ids) os = some us) :
  ∃ u as_ j' os' us',RootBack R h h1 d j i id u as_ j' /\ outH h1 (i + 1) n = some os' /\ backObs R h d j' ids os' = some us' /\ us = (u :: us'.1,as_ ++ us'.2):=by
 simp only [outH] at ho
 obtain ⟨o,ho1,ho⟩:=ob_eq ho
 obtain ⟨os',hos,ho⟩:=ob_eq ho
 simp at ho
 subst ho
 simp only [backObs] at hb
 obtain ⟨⟨v,q⟩,hq,hb⟩:=ob_eq hb
 rcases outBox_cases ho1 with ⟨cs,cs',e1,e2,rfl,e4⟩ | ⟨v1,sz,xs,e1,⟨rfl,rfl⟩ | ⟨hv,rfl⟩⟩ | ⟨kt,ks,vs,e1,rfl⟩
 ·cases q with
  | box cs0 =>
   simp only at hb
   obtain ⟨r,hr,hb⟩:=ob_eq hb
   obtain ⟨us',hus,hb⟩:=ob_eq hb
   simp at hb
   subst hb
   exact ⟨_,r.2,_,os',us',.box hq e1 e2 hr,hos,hus,rfl⟩
  | arr sz0 xs0 =>
   exfalso
   simp only at hb
   split at hb <;> try (cases hb; done)
   all_goals simp_all
  | map=>simp at hb
  | gone=>simp at hb
  | iter=>simp at hb
 ·cases q with
  | arr sz0 xs0 =>
   simp only at hb
   obtain ⟨us',hus,hb⟩:=ob_eq hb
   simp at hb
   subst hb
   exact ⟨_,[],j,os',us',by simpa [bump] using RootBack.arr (d:=d) (j:=j) (R:=R) hq e1,hos,hus,rfl⟩
  | _=>simp at hb
 ·cases q with
  | arr sz0 xs0 =>
   simp only at hb
   obtain ⟨us',hus,hb⟩:=ob_eq hb
   simp at hb
   subst hb
   exact ⟨_,[],j,os',us',by simpa [bump,hv] using RootBack.arr (d:=d) (j:=j) (R:=R) hq e1,hos,hus,rfl⟩
  | box cs0 =>
   simp only [inCL_undef,ob_none] at hb
   cases hb
  | _=>simp at hb
 ·cases q with
  | map =>
   simp only at hb
   obtain ⟨us',hus,hb⟩:=ob_eq hb
   simp at hb
   subst hb
   exact ⟨_,[],j,os',us',.map hq e1,hos,hus,rfl⟩
  | _=>simp at hb
theorem preO : ∀ {ids : List Id} {os : List Ob} {us : List (Id × Nat × Ob) × List (Id × Nat × Ob)} {i j : Nat},outH h1 i ids.length = some os -> backObs R h d j ids os = some us -> ∃ hi,j <= hi /\ Pre h1 h d 1 (handO h1 d j i ids.length) us.2 j hi
 | [],os,us,i,j,ho,hb=>by
  simp [outH] at ho
  subst ho
  simp [backObs] at hb
  subst hb
  exact ⟨j,lrf _,.nil ..⟩
 | id :: ids,os,us,i,j,ho,hb=>by
  obtain ⟨u,as_,j',os',us',hrb,ho',hb',rfl⟩:=backObs_cons ho hb
  obtain ⟨hi,hle,hp⟩:=preO ho' hb'
  simp only [llc,handO]
  cases hrb with
  | @box v cs0 cs cs' us1 as1 hh h1h ho2 hi2 =>
   have hl : cs'.length = cs.length:=(mapO_get ho2).1
   rw [h1h]
   simp only
   have p1:=preCL ho2 hi2
   rw [hl] at hp hle
   exact ⟨hi,by omega,p1.append hp (by omega) hle⟩
  | arr hh h1h =>
   rw [h1h]
   exact ⟨hi,hle,by simpa using hp⟩
  | map hh h1h =>
   rw [h1h]
   exact ⟨hi,hle,by simpa using hp⟩
theorem handCL_fst : ∀ (vs : List VVal) (j : Nat),(handCL d j vs).map (·.1) = vs.flatMap newIds0
 | [],_=>rfl
 | v :: vs,j=>by
  simp only [handCL,lma,handCL_fst vs,lfc]
  congr 1
  cases v with
  | own id=>cases id <;> rfl
  | _=>rfl
theorem handO_fst : ∀ (n i j : Nat),(handO h1 d j i n).map (·.1) = argOwns h1 i n
 | 0,_,_=>rfl
 | n + 1,i,j=>by
  simp only [handO,argOwns]
  cases hh : h1 (.arg i 0) with
  | none=>simp [handO_fst n]
  | some p =>
   obtain ⟨v,o⟩:=p
   cases o <;> simp [handCL_fst,handO_fst n]
end
end Go.V
namespace Go.V
open Go.RowKit
section
variable {G : Gh} {h : VHeap} {w : World} {R : List Id} {H : List Ob} {lend : Bool} {G1 : Gh} {h1 : VHeap} {w1 : World} {hs : List (Id × Id)} {h2 : VHeap} {d : Nat}
theorem After.leaves (A : After G h w R H lend G1 h1 w1 hs h2) : ∀ {vs rs us : List VVal} {qs : List (Id × Nat × Ob)} {j : Nat},mapO (out0 h1) vs = some rs -> inL R h d j rs = some (us,qs) -> (lend = true -> rs.all noAlias0 = true) ->
  (∀ x ∈ handL d j vs,x ∈ hs) -> (∀ x ∈ qs,h2 x.1 = some x.2) -> (∀ q ∈ vs.flatMap capIds0,∀ id,(q,id) ∉ hs) -> us.length = vs.length /\ ∀ (i : Nat) (v u : VVal) (c : Value),vs[i]? = some v -> us[i]? = some u -> VRel G1 h1 w1 v c -> VRel (afterG G G1 h1 R w.heap.size w1.heap.size hs) h2 w1 u c
 | [],rs,us,qs,j,ho,hi,_,_,_,_=>by
  simp [mapO] at ho
  subst ho
  simp [inL] at hi
  obtain ⟨rfl,_⟩:=hi
  exact ⟨rfl,fun i v u c hv=>by simp at hv⟩
 | v :: vs,rs,us,qs,j,ho,hi,hal,hsub,hq,hcp=>by
  rw [lfc] at hcp
  simp only [mapO] at ho
  obtain ⟨r,hr,ho1⟩:=ob_eq ho
  obtain ⟨rs',hrs,ho2⟩:=ob_eq ho1
  simp at ho2
  subst ho2
  simp only [inL] at hi
  obtain ⟨q,hq1,hi1⟩:=ob_eq hi
  obtain ⟨q',hq2,hi2⟩:=ob_eq hi1
  simp at hi2
  obtain ⟨rfl,rfl⟩:=hi2
  obtain ⟨hl,hall⟩:=A.leaves hrs hq2 (fun e=>by have:=hal e; simp at this; simpa using this.2) (fun x hx=>hsub x (List.mem_append_right _ hx)) (fun x hx=>hq x (List.mem_append_right _ hx)) (fun q hq=>hcp q (List.mem_append_right _ hq))
  refine ⟨by simp [hl],fun i v' u c hv' hu hvr=>?_⟩
  cases i with
  | zero =>
   simp at hv' hu
   subst hv'
   subst hu
   exact A.leaf hvr hr hq1 (fun e=>by have:=hal e; simp at this; exact this.1) (fun x hx=>hsub x (List.mem_append_left _ hx)) (fun x hx=>hq x (List.mem_append_left _ hx)) (fun q hq=>hcp q (List.mem_append_left _ hq))
  | succ i=>simp at hv' hu; exact hall i v' u c hv' hu hvr
theorem After.obj0 (A : After G h w R H lend G1 h1 w1 hs h2) {j : Nat} {v r v' : VVal} {c : Value} {qs : List (Id × Nat × Ob)} (hv : VRel G1 h1 w1 v c) (ho : out0 h1 v = some r) (hi : in0 R h d j r = some (v',qs))
  (hal : lend = true -> noAlias0 r = true) (hsub : ∀ x ∈ hand0 d j v,x ∈ hs) : ∀ x ∈ qs,OBRel (afterG G G1 h1 R w.heap.size w1.heap.size hs) h2 w1 x.1 x.2.2:=by
 rcases out0_own (d:=d) ho with ⟨h0,hr⟩ | ⟨s,i,ver,len,sz,xs,rfl,hh,rfl⟩
 ·rw [in0_other hr hi]
  simp
 ·simp only [in0,osi,pmi] at hi
  obtain ⟨_,rfl⟩:=hi
  intro x hx
  simp at hx
  subst hx
  have hm:=hsub (.slot s i,.slot d (j + 1)) (by simp [hand0])
  obtain ⟨hcs,hz,hall⟩:=A.inv1 _ _ _ hh
  have htake : ∀ (k : Nat) (x : PV),(xs.take len)[k]? = some x -> xs[k]? = some x:=fun k x hx=>by
   rw [List.getElem?_take] at hx
   split at hx
   ·exact hx
   ·cases hx
  refine ⟨fun x hx=>hcs x (List.mem_of_mem_take hx),?_,fun hk=>?_⟩
  ·by_cases hk : G1.kind (G1.blk (.slot s i)) = .mine (.slot s i)
   ·obtain ⟨b1,b2,_⟩:=A.adopt hm hk
    exact .inr (by rw [b1]; exact b2)
   ·rcases hz with hz | hz
    ·exact .inl (by simp [hz])
    ·exact absurd hz hk
  ·by_cases hk1 : G1.kind (G1.blk (.slot s i)) = .mine (.slot s i)
   ·obtain ⟨b1,b2,_⟩:=A.adopt hm hk1
    obtain ⟨a1,arr,t,a2,a3,a4⟩:=hall hk1
    have hcap : (afterG G G1 h1 R w.heap.size w1.heap.size hs).cap (.slot d (j + 1)) = G1.cap (.slot s i):=by simp [afterG,bwd_of A.nd2 hm]
    refine ⟨by rw [hcap]; simp; omega,arr,t,by rw [b1]; exact a2,by rw [hcap]; exact a3,fun k x jj cc hx hj=>?_⟩
    obtain ⟨u,e1,e2,e3⟩:=a4 k x jj cc (htake k x hx) hj
    refine ⟨u,e1,e2,A.prel ?_ e3⟩
    cases lend with
    | false=>exact .inl rfl
    | true =>
     right
     have:=hal rfl
     simp only [noAlias0,List.all_eq_true] at this
     have hxf:=this x (lmg hx)
     have hcc:=lmg hj
     cases x with
     | agg ds =>
      simp only [PV.flat,List.all_eq_true] at hxf
      have:=hxf cc hcc
      cases cc <;> simp_all [PV.flat,PV.flat0]
     | _ =>
      simp only [PV.cells,List.mem_singleton] at hcc
      subst hcc
      exact hxf
   ·rw [A.adopt_not hm hk1] at hk
    cases hk
theorem After.objs (A : After G h w R H lend G1 h1 w1 hs h2) : ∀ {vs rs us : List VVal} {qs : List (Id × Nat × Ob)} {j : Nat},mapO (out0 h1) vs = some rs -> inL R h d j rs = some (us,qs) -> (lend = true -> rs.all noAlias0 = true) ->
  (∀ x ∈ handL d j vs,x ∈ hs) -> (∀ (i : Nat) (v : VVal),vs[i]? = some v -> ∃ c,VRel G1 h1 w1 v c) -> ∀ x ∈ qs,OBRel (afterG G G1 h1 R w.heap.size w1.heap.size hs) h2 w1 x.1 x.2.2
 | [],rs,us,qs,j,ho,hi,_,_,_=>by
  simp [mapO] at ho
  subst ho
  simp [inL] at hi
  obtain ⟨_,rfl⟩:=hi
  simp
 | v :: vs,rs,us,qs,j,ho,hi,hal,hsub,hv=>by
  simp only [mapO] at ho
  obtain ⟨r,hr,ho1⟩:=ob_eq ho
  obtain ⟨rs',hrs,ho2⟩:=ob_eq ho1
  simp at ho2
  subst ho2
  simp only [inL] at hi
  obtain ⟨q,hq1,hi1⟩:=ob_eq hi
  obtain ⟨q',hq2,hi2⟩:=ob_eq hi1
  simp at hi2
  obtain ⟨_,rfl⟩:=hi2
  intro x hx
  rcases lmp.1 hx with hx | hx
  ·obtain ⟨c,hc⟩:=hv 0 v rfl
   exact A.obj0 hc hr hq1 (fun e=>by have:=hal e; simp at this; exact this.1) (fun x hx=>hsub x (List.mem_append_left _ hx)) x hx
  .exact A.objs hrs hq2 (fun e=>by have:=hal e; simp at this; simpa using this.2) (fun x hx=>hsub x (List.mem_append_right _ hx)) (fun i v hi=>hv (i + 1) v (by simpa using hi)) x hx
theorem capIds1_cells {h : VHeap} {v : VVal} {q : Id} (hq : q ∈ (vcells v).flatMap capIds0) : q ∈ capIds1 h v:=by
 cases v with
 | agg cs=>exact hq
 | ptr id ver off=>simp [vcells,capIds0] at hq
 | _=>simpa [vcells,capIds1] using hq
theorem After.res1 (A : After G h w R H lend G1 h1 w1 hs h2) {j : Nat} {v r u : VVal} {c : Value} {qs : List (Id × Nat × Ob)} (hv : VRel G1 h1 w1 v c) (ho : out1 h1 v = some r) (hi : in1 R h d j r = some (u,qs)) (hal : lend = true -> noAlias1 r = true)
  (hsub : ∀ x ∈ hand1 h1 d j v,x ∈ hs) (hq : ∀ x ∈ qs,h2 x.1 = some x.2) (hcp : ∀ q ∈ capIds1 h1 v,∀ id,(q,id) ∉ hs) : VRel (afterG G G1 h1 R w.heap.size w1.heap.size hs) h2 w1 u c /\ ∀ x ∈ qs,OBRel (afterG G G1 h1 R w.heap.size w1.heap.size hs) h2 w1 x.1 x.2.2:=by
 rcases out1_cases ho hi with ⟨rs,us,e1,e2,e3,e4,e5,e6⟩ | ⟨s,i,ver,cs,rs,us,qs',rfl,hh,e1,e2,rfl,rfl,e3,e4,e6⟩
 ·rw [e3] at hsub
  obtain ⟨hl,hall⟩:=A.leaves e1 e2 (fun e=>e6 (hal e)) hsub hq (fun q hq=>hcp q (capIds1_cells hq))
  have hcells : ∀ (i : Nat) (v' : VVal),(vcells v)[i]? = some v' -> ∃ c,VRel G1 h1 w1 v' c:=fun i v' hv'=>by
   rcases e5 with ⟨cs,rfl,rfl⟩ | ⟨hvc,_⟩
   ·cases hv with
    | @agg _ arr hlen h1c hr =>
     simp only [vcells] at hv'
     have hlt : i < arr.size:=by rw [<- hlen]; exact (lgs.1 hv').1
     exact ⟨arr[i],hr i v' _ hv' (aggz hlt)⟩
   ·rw [hvc] at hv'
    cases i with
    | zero=>simp at hv'; subst hv'; exact ⟨c,hv⟩
    | succ=>simp at hv'
  refine ⟨?_,A.objs e1 e2 (fun e=>e6 (hal e)) hsub hcells⟩
  rcases e5 with ⟨cs,rfl,rfl⟩ | ⟨hvc,rfl⟩
  ·cases hv with
   | @agg _ arr hlen h1c hr =>
    simp only [vcells] at hl
    refine .agg (by omega) h1c fun i u c hu hc=>?_
    have hlt : i < cs.length:=by rw [<- hl]; exact (lgs.1 hu).1
    exact hall i cs[i] u c (lgg hlt) hu (hr i _ c (lgg hlt) hc)
  ·exact hall 0 v u c (by rw [hvc]; rfl) rfl hv
 ·rw [e3] at hsub
  have hm:=hsub _ (lms ..)
  have hsub' : ∀ x ∈ handL d (j + 1) cs,x ∈ hs:=fun x hx=>hsub x (lmc _ hx)
  have hq' : ∀ x ∈ qs',h2 x.1 = some x.2:=fun x hx=>hq x (lmc _ hx)
  obtain ⟨hl,hall⟩:=A.leaves e1 e2 (fun e=>e6 (hal e)) hsub' hq' (fun q hq=>hcp q (by simp only [capIds1,hh]; exact hq))
  obtain ⟨hk,arr,t,hb,hlen,h1c,hr⟩:=A.inv1 _ _ _ hh
  obtain ⟨b1,b2,_⟩:=A.adopt hm hk
  refine ⟨?_,fun x hx=>?_⟩
  ·cases hv with
   | @ptr _ _ _ a v o hh' hle hoo =>
    rw [hh] at hh'
    simp at hh'
    refine .ptr (hq _ (lms ..)) (lrf _) fun _=>?_
    rw [hoo hh'.1,b1]
  ·rcases lmk.1 hx with rfl | hx
   ·refine ⟨by simp only; rw [b1]; exact b2,arr,t,by simp only; rw [b1]; exact hb,by omega,h1c,fun i u c hu hc=>?_⟩
    have hlt : i < cs.length:=by rw [<- hl]; exact (lgs.1 hu).1
    exact hall i cs[i] u c (lgg hlt) hu (hr i _ c (lgg hlt) hc)
   ·exact A.objs e1 e2 (fun e=>e6 (hal e)) hsub' (fun i v hv=>by
     have hlt : i < arr.size:=by rw [<- hlen]; exact (lgs.1 hv).1
     exact ⟨arr[i],hr i v _ hv (aggz hlt)⟩) x hx
theorem After.resT (A : After G h w R H lend G1 h1 w1 hs h2) : ∀ {vs rs us : List VVal} {cs : List Value} {qs : List (Id × Nat × Ob)} {j : Nat},vs.length = cs.length -> (∀ (i : Nat) (v : VVal) (c : Value),vs[i]? = some v -> cs[i]? = some c -> VRel G1 h1 w1 v c) -> mapO (out1 h1) vs = some rs -> inT R h d j rs = some (us,qs) ->
  (lend = true -> rs.all noAlias1 = true) -> (∀ x ∈ handT h1 d j vs rs,x ∈ hs) -> (∀ x ∈ qs,h2 x.1 = some x.2) -> (∀ q ∈ vs.flatMap (capIds1 h1),∀ id,(q,id) ∉ hs) ->
  us.length = cs.length /\ (∀ (i : Nat) (u : VVal) (c : Value),us[i]? = some u -> cs[i]? = some c -> VRel (afterG G G1 h1 R w.heap.size w1.heap.size hs) h2 w1 u c) /\ ∀ x ∈ qs,OBRel (afterG G G1 h1 R w.heap.size w1.heap.size hs) h2 w1 x.1 x.2.2
 | [],rs,us,cs,qs,j,hlen,hv,ho,hi,hal,hsub,hq,_=>by
  simp [mapO] at ho
  subst ho
  simp [inT] at hi
  obtain ⟨rfl,rfl⟩:=hi
  exact ⟨by simpa using hlen,fun i u c hu=>by simp at hu,by simp⟩
 | v :: vs,rs,us,[],qs,j,hlen,_,_,_,_,_,_,_=>by simp at hlen
 | v :: vs,rs,us,c :: cs,qs,j,hlen,hv,ho,hi,hal,hsub,hq,hcp=>by
  rw [lfc] at hcp
  simp only [mapO] at ho
  obtain ⟨r,hr,ho1⟩:=ob_eq ho
  obtain ⟨rs',hrs,ho2⟩:=ob_eq ho1
  simp at ho2
  subst ho2
  simp only [inT] at hi
  obtain ⟨q,hq1,hi1⟩:=ob_eq hi
  obtain ⟨q',hq2,hi2⟩:=ob_eq hi1
  simp at hi2
  obtain ⟨rfl,rfl⟩:=hi2
  obtain ⟨a1,a2⟩:=A.res1 (hv 0 v c rfl rfl) hr hq1 (fun e=>by have:=hal e; simp at this; exact this.1) (fun x hx=>hsub x (List.mem_append_left _ hx)) (fun x hx=>hq x (List.mem_append_left _ hx)) (fun q hq=>hcp q (List.mem_append_left _ hq))
  obtain ⟨b1,b2,b3⟩:=A.resT (by simpa using hlen) (fun i v c h1 h2=>hv (i + 1) v c (by simpa using h1) (by simpa using h2)) hrs hq2 (fun e=>by have:=hal e; simp at this; simpa using this.2) (fun x hx=>hsub x (List.mem_append_right _ hx)) (fun x hx=>hq x (List.mem_append_right _ hx)) (fun q hq=>hcp q (List.mem_append_right _ hq))
  refine ⟨by simp [b1],fun i u c' hu hc=>?_,fun x hx=>?_⟩
  ·cases i with
   | zero=>simp at hu hc; subst hu; subst hc; exact a1
   | succ i=>simp at hu hc; exact b2 i u c' hu hc
  ·rcases lmp.1 hx with hx | hx
   .exact a2 x hx
   .exact b3 x hx
theorem After.argW0 (A : After G h w R H lend G1 h1 w1 hs h2) {v r v' : VVal} {c : Value} (hv : VRel G1 h1 w1 v c) (ho : outArg1 h1 v = some r) (hi : backW0 R h r = some v') (hal : lend = true -> noAlias0 r = true) : VRel (afterG G G1 h1 R w.heap.size w1.heap.size hs) h2 w1 v' c:=by
 cases v with
 | p x =>
  simp [outArg1] at ho
  subst ho
  simp [backW0] at hi
  subst hi
  cases hv with
  | p hp h1c =>
   refine .p (A.prel ?_ hp) h1c
   cases lend with
   | false=>exact .inl rfl
   | true=>exact .inr (by simpa [noAlias0] using hal rfl)
 | ptr id ver off =>
  cases id with
  | slot=>simp [outArg1] at ho
  | arg i k =>
   cases k with
   | succ=>simp [outArg1] at ho
   | zero =>
    simp only [outArg1] at ho
    obtain ⟨rfl,ho1⟩:=gd_eq ho
    simp at ho1
    subst ho1
    simp only [backW0] at hi
    obtain ⟨id,hid,hi1⟩:=ob_eq hi
    obtain ⟨o,hoo,hi2⟩:=ob_eq hi1
    simp at hi2
    subst hi2
    exact A.ptr hv hid hoo
 | mref id ver =>
  cases id with
  | slot=>simp [outArg1] at ho
  | arg i k =>
   cases k with
   | succ=>simp [outArg1] at ho
   | zero =>
    simp only [outArg1] at ho
    obtain ⟨rfl,ho1⟩:=gd_eq ho
    simp at ho1
    subst ho1
    simp only [backW0] at hi
    obtain ⟨id,hid,hi1⟩:=ob_eq hi
    obtain ⟨o,hoo,hi2⟩:=ob_eq hi1
    simp at hi2
    subst hi2
    exact A.mref hv hid hoo
 | own id ver off len =>
  cases id with
  | slot s j =>
   simp only [outArg1] at ho
   obtain ⟨x,_,ho1⟩:=ob_eq ho
   obtain ⟨_,ho2⟩:=gd_eq ho1
   simp at ho2
   subst ho2
   simp [backW0] at hi
  | arg i k =>
   cases k with
   | succ=>simp [outArg1] at ho
   | zero =>
    simp only [outArg1] at ho
    obtain ⟨hal',ho1⟩:=gd_eq ho
    simp at ho1
    subst ho1
    simp only [backW0] at hi
    obtain ⟨id,hid,hi1⟩:=ob_eq hi
    obtain ⟨o,hoo,hi2⟩:=ob_eq hi1
    simp only [osi] at hi2
    subst hi2
    exact A.ownArg hv hal' hid hoo
 | _=>simp [outArg1] at ho
theorem After.argW1 (A : After G h w R H lend G1 h1 w1 hs h2) {v r v' : VVal} {c : Value} (hv : VRel G1 h1 w1 v c) (ho : outArg h1 v = some r) (hi : backW1 R h r = some v') (hal : lend = true -> flatC r = true) : VRel (afterG G G1 h1 R w.heap.size w1.heap.size hs) h2 w1 v' c:=by
 cases v with
 | fn f caps =>
  simp only [outArg] at ho
  obtain ⟨cs,hcs,ho1⟩:=ob_eq ho
  simp at ho1
  subst ho1
  simp only [backW1] at hi
  obtain ⟨cs',hcs',hi1⟩:=ob_eq hi
  simp at hi1
  subst hi1
  cases hv with
  | @fn _ _ arr hl hr =>
   obtain ⟨a1,a2⟩:=mapO_get hcs
   obtain ⟨b1,b2⟩:=mapO_get hcs'
   refine .fn (by omega) fun i u c hu hc=>?_
   obtain ⟨x,hx,hxu⟩:=b2 i u hu
   obtain ⟨y,hy,hyx⟩:=a2 i x hx
   exact A.argW0 (hr i y c hy hc) hyx hxu fun e=>by
    have:=hal e
    simp only [flatC,List.all_eq_true] at this
    exact this x (lmg hx)
 | p x =>
  have ho1 : r = .p x:=by simpa [outArg,outArg1] using ho.symm
  subst ho1
  exact A.argW0 hv ho hi fun e=>by simpa [flatC,noAlias0] using hal e
 | ptr id ver off =>
  have ho1 : ∃ i,r = .ptr (.arg i 0) 0 off:=by
   cases id with
   | slot=>simp [outArg,outArg1] at ho
   | arg i k =>
    cases k with
    | succ=>simp [outArg,outArg1] at ho
    | zero =>
     simp only [outArg,outArg1] at ho
     obtain ⟨_,ho1⟩:=gd_eq ho
     simp at ho1
     exact ⟨i,ho1.symm⟩
  obtain ⟨i,rfl⟩:=ho1
  exact A.argW0 hv ho hi fun _=>rfl
 | own id ver off len =>
  have hna : lend = false:=by
   cases hl : lend with
   | false=>rfl
   | true =>
    have:=hal hl
    cases id with
    | slot s j =>
     simp only [outArg,outArg1] at ho
     obtain ⟨x,_,ho1⟩:=ob_eq ho
     obtain ⟨_,ho2⟩:=gd_eq ho1
     simp at ho2
     subst ho2
     simp [flatC] at this
    | arg i k =>
     cases k with
     | succ=>simp [outArg,outArg1] at ho
     | zero =>
      simp only [outArg,outArg1] at ho
      obtain ⟨_,ho1⟩:=gd_eq ho
      simp at ho1
      subst ho1
      simp [flatC] at this
  have hi' : backW0 R h r = some v':=by
   cases id with
   | slot s j =>
    simp only [outArg,outArg1] at ho
    obtain ⟨x,_,ho1⟩:=ob_eq ho
    obtain ⟨_,ho2⟩:=gd_eq ho1
    simp at ho2
    subst ho2
    exact hi
   | arg i k =>
    cases k with
    | succ=>simp [outArg,outArg1] at ho
    | zero =>
     simp only [outArg,outArg1] at ho
     obtain ⟨_,ho1⟩:=gd_eq ho
     simp at ho1
     subst ho1
     exact hi
  exact A.argW0 hv ho hi' fun e=>by rw [hna] at e; cases e
 | mref id ver =>
  have ho1 : ∃ i,r = .mref (.arg i 0) 0:=by
   cases id with
   | slot=>simp [outArg,outArg1] at ho
   | arg i k =>
    cases k with
    | succ=>simp [outArg,outArg1] at ho
    | zero =>
     simp only [outArg,outArg1] at ho
     obtain ⟨_,ho1⟩:=gd_eq ho
     simp at ho1
     exact ⟨i,ho1.symm⟩
  obtain ⟨i,rfl⟩:=ho1
  exact A.argW0 hv ho hi fun e=>by simpa [flatC] using hal e
 | _=>simp [outArg,outArg1] at ho
theorem back0_W {r v' : VVal} (hi : back0 R h r = some v') : backW0 R h r = some v':=by
 unfold back0 at hi
 split at hi
 .exact hi
 .exact hi
 .exact hi
 .cases hi
theorem back1_W {r v' : VVal} (hi : back1 R h r = some v') : backW1 R h r = some v':=by
 by_cases hf : ∃ f caps,r = .fn f caps
 ·obtain ⟨f,caps,rfl⟩:=hf
  simp only [back1] at hi
  obtain ⟨cs,hcs,hi1⟩:=ob_eq hi
  have : mapO (backW0 R h) caps = some cs:=by
   clear hi hi1
   induction caps generalizing cs with
   | nil=>exact hcs
   | cons x xs ih =>
    simp only [mapO] at hcs ⊢
    obtain ⟨y,hy,hcs⟩:=ob_eq hcs
    obtain ⟨ys,hys,hcs⟩:=ob_eq hcs
    rw [back0_W hy,ob_some,ih ys hys,ob_some]
    exact hcs
  simp only [backW1,this,ob_some]
  exact hi1
 ·have e1 : back1 R h r = back0 R h r:=by cases r <;> first | rfl | exact absurd ⟨_,_,rfl⟩ hf
  have e2 : backW1 R h r = backW0 R h r:=by cases r <;> first | rfl | exact absurd ⟨_,_,rfl⟩ hf
  rw [e1] at hi
  rw [e2]
  exact back0_W hi
theorem After.cell (A : After G h w R H lend G1 h1 w1 hs h2) {j : Nat} {v r v' : VVal} {c : Value} {qs : List (Id × Nat × Ob)} (hv : VRel G1 h1 w1 v c) (ho : outArg h1 v = some r) (hi : inC R h d j r = some (v',qs)) (hal : lend = false)
  (hsub : ∀ x ∈ handC d j v,x ∈ hs) (hq : ∀ x ∈ qs,h2 x.1 = some x.2) : VRel (afterG G G1 h1 R w.heap.size w1.heap.size hs) h2 w1 v' c /\ ∀ x ∈ qs,OBRel (afterG G G1 h1 R w.heap.size w1.heap.size hs) h2 w1 x.1 x.2.2:=by
 rcases outArg_own ho with ⟨h0,hr,_⟩ | ⟨s,i,ver,len,sz,xs,rfl,hh,rfl⟩
 ·obtain ⟨hb,rfl⟩:=inC_other hr hi
  exact ⟨A.argW1 hv ho hb (fun e=>by rw [hal] at e; cases e),by simp⟩
 ·simp only [inC,osi,pmi] at hi
  obtain ⟨rfl,rfl⟩:=hi
  have hm:=hsub (.slot s i,.slot d (j + 1)) (by simp [handC])
  refine ⟨A.adoptVal hv hh hm (hq _ (List.mem_singleton.2 rfl)),?_⟩
  have:=A.obj0 (d:=d) (j:=j) (r:=.fresh sz ((xs.drop 0).take len)) (qs:=[(.slot d (j + 1),nv (h (.slot d (j + 1))),.arr sz ((xs.drop 0).take len))]) hv (by simp [out0,velems,hh,ob,gd]) rfl (fun e=>by rw [hal] at e; cases e) (by simpa [hand0] using hm)
  intro x hx
  simp only [List.mem_singleton] at hx
  subst hx
  exact this (.slot d (j + 1),nv (h (.slot d (j + 1))),.arr sz ((xs.drop 0).take len)) (List.mem_singleton.2 rfl)
theorem After.cells (A : After G h w R H lend G1 h1 w1 hs h2) (hal : lend = false) : ∀ {vs rs us : List VVal} {qs : List (Id × Nat × Ob)} {j : Nat},mapO (outArg h1) vs = some rs -> inCL R h d j rs = some (us,qs) -> (∀ x ∈ handCL d j vs,x ∈ hs) -> (∀ x ∈ qs,h2 x.1 = some x.2) ->
  (∀ (i : Nat) (v : VVal),vs[i]? = some v -> ∃ c,VRel G1 h1 w1 v c) ->
  us.length = vs.length /\ (∀ (i : Nat) (v u : VVal) (c : Value),vs[i]? = some v -> us[i]? = some u -> VRel G1 h1 w1 v c -> VRel (afterG G G1 h1 R w.heap.size w1.heap.size hs) h2 w1 u c) /\ ∀ x ∈ qs,OBRel (afterG G G1 h1 R w.heap.size w1.heap.size hs) h2 w1 x.1 x.2.2
 | [],rs,us,qs,j,ho,hi,_,_,_=>by
  simp [mapO] at ho
  subst ho
  simp [inCL] at hi
  obtain ⟨rfl,rfl⟩:=hi
  exact ⟨rfl,fun i v u c hv=>by simp at hv,by simp⟩
 | v :: vs,rs,us,qs,j,ho,hi,hsub,hq,hex=>by
  simp only [mapO] at ho
  obtain ⟨r,hr,ho1⟩:=ob_eq ho
  obtain ⟨rs',hrs,ho2⟩:=ob_eq ho1
  simp at ho2
  subst ho2
  simp only [inCL] at hi
  obtain ⟨q,hq1,hi1⟩:=ob_eq hi
  obtain ⟨q',hq2,hi2⟩:=ob_eq hi1
  simp at hi2
  obtain ⟨rfl,rfl⟩:=hi2
  obtain ⟨hl,hall,hobs⟩:=A.cells hal hrs hq2 (fun x hx=>hsub x (List.mem_append_right _ hx)) (fun x hx=>hq x (List.mem_append_right _ hx)) (fun i v hv=>hex (i + 1) v (by simpa using hv))
  have hs0 : ∀ x ∈ handC d j v,x ∈ hs:=fun x hx=>hsub x (List.mem_append_left _ hx)
  have hq0 : ∀ x ∈ q.2,h2 x.1 = some x.2:=fun x hx=>hq x (List.mem_append_left _ hx)
  refine ⟨by simp [hl],fun i v' u c hv' hu hvr=>?_,fun x hx=>?_⟩
  ·cases i with
   | zero =>
    simp at hv' hu
    subst hv'
    subst hu
    exact (A.cell hvr hr hq1 hal hs0 hq0).1
   | succ i=>simp at hv' hu; exact hall i v' u c hv' hu hvr
  ·rcases lmp.1 hx with hx | hx
   ·obtain ⟨c,hc⟩:=hex 0 v rfl
    exact (A.cell hc hr hq1 hal hs0 hq0).2 x hx
   .exact hobs x hx
theorem outH_get : ∀ {n i : Nat} {os : List Ob},outH h1 i n = some os -> os.length = n /\ ∀ (k : Nat) (o : Ob),os[k]? = some o -> outBox h1 (i + k) = some o
 | 0,i,os,h=>by
  simp [outH] at h
  subst h
  exact ⟨rfl,fun k o hk=>by simp at hk⟩
 | n + 1,i,os,h=>by
  simp only [outH] at h
  obtain ⟨o,ho,h⟩:=ob_eq h
  obtain ⟨os',hos,h⟩:=ob_eq h
  simp at h
  subst h
  obtain ⟨a1,a2⟩:=outH_get hos
  refine ⟨by simp [a1],fun k o' hk=>?_⟩
  cases k with
  | zero=>simp at hk; subst hk; exact ho
  | succ k=>simp at hk; have:=a2 k o' hk; rwa [Nat.add_assoc,Nat.add_comm 1] at this
theorem backBoxes_get : ∀ {ids : List Id} {os : List Ob} {us : List (Id × Nat × Ob)},backBoxes R h ids os = some us -> us.map (·.1) = ids /\ ∀ (k : Nat) (id : Id),ids[k]? = some id -> ∃ cs cs' o,os[k]? = some (.box cs) /\ mapO (back1 R h) cs = some cs' /\ h id = some o /\ (id,o.1,.box cs') ∈ us
 | [],[],us,hb=>by
  simp [backBoxes] at hb
  subst hb
  exact ⟨rfl,fun k id hk=>by simp at hk⟩
 | [],_ :: _,us,hb=>by simp [backBoxes] at hb
 | id :: ids,[],us,hb=>by simp [backBoxes] at hb
 | id :: ids,o :: os,us,hb=>by
  cases o with
  | box cs =>
   simp only [backBoxes] at hb
   obtain ⟨cs',hcs,hb1⟩:=ob_eq hb
   obtain ⟨o,ho,hb2⟩:=ob_eq hb1
   obtain ⟨us',hus,hb3⟩:=ob_eq hb2
   simp at hb3
   subst hb3
   obtain ⟨a1,a2⟩:=backBoxes_get hus
   refine ⟨by simp [a1],fun k id' hk=>?_⟩
   cases k with
   | zero=>simp at hk; subst hk; exact ⟨cs,cs',o,rfl,hcs,ho,lms ..⟩
   | succ k =>
    simp at hk
    obtain ⟨c1,c2,c3,e1,e2,e3,e4⟩:=a2 k id' hk
    exact ⟨c1,c2,c3,by simpa using e1,e2,e3,lmc _ e4⟩
  | _=>simp [backBoxes] at hb
theorem After.inv (A : After G h w R H lend G1 h1 w1 hs h2)
  (hbox : ∀ (i : Nat) (id : Id) (v1 : Nat) (cs1 : List VVal),(∀ q,(q,id) ∉ hs) -> R[i]? = some id -> h1 (.arg i 0) = some (v1,.box cs1) -> ∀ v2 o2,h2 id = some (v2,o2) -> ∃ cs2,o2 = .box cs2 /\ cs2.length = cs1.length /\ ∀ (j : Nat) (u1 u2 : VVal) (c : Value),cs1[j]? = some u1 -> cs2[j]? = some u2 -> VRel G1 h1 w1 u1 c -> VRel (afterG G G1 h1 R w.heap.size w1.heap.size hs) h2 w1 u2 c)
  (hflat : ∀ (i : Nat) (v1 : Nat) (o1 : Ob),i < R.length -> h1 (.arg i 0) = some (v1,o1) -> (∀ cs,o1 ≠ .box cs) -> lend = false)
  (hobj : ∀ q id,(q,id) ∈ hs -> ∀ v o,h2 id = some (v,o) -> OBRel (afterG G G1 h1 R w.heap.size w1.heap.size hs) h2 w1 id o) : HeapInv (afterG G G1 h1 R w.heap.size w1.heap.size hs) h2 w1:=by
 intro id v o hid
 by_cases hq : ∃ q,(q,id) ∈ hs
 ·obtain ⟨q,hq⟩:=hq
  exact hobj q id hq v o hid
 ·have hq' : ∀ q,(q,id) ∉ hs:=fun q hm=>hq ⟨q,hm⟩
  by_cases hR : id ∈ R
  ·obtain ⟨i,hi,e⟩:=List.getElem_of_mem hR
   have hRi : R[i]? = some id:=by rw [lgg hi,e]
   obtain ⟨v0,o0,o',v1,o1,e1,e2,e3,e4⟩:=A.at hRi
   obtain ⟨hk,_⟩:=A.shape i id v0 o0 v1 o1 hRi e1 e3
   obtain ⟨o2,f1,f2⟩:=A.h2c i id v0 o0 v1 o1 hq' hRi e1 e3
   rw [hid] at f1
   simp at f1
   obtain ⟨_,rfl⟩:=f1
   rcases hk with ⟨cs0,cs1,rfl,rfl⟩ | ⟨sz0,xs0,sz1,xs1,rfl,rfl⟩ | ⟨kt0,ks0,vs0,kt1,ks1,vs1,rfl,rfl⟩
   ·obtain ⟨hk1,arr,t,hb1,hlen,h1c,hr⟩:=A.inv1 _ _ _ e3
    obtain ⟨b1,b2⟩:=A.rootMine hRi hq' (fun v' e'=>by rw [e3] at e'; cases e') hk1
    obtain ⟨cs2,rfl,hl2,hc2⟩:=hbox i id v1 cs1 hq' hRi e3 _ _ hid
    refine ⟨by rw [b1]; exact b2,arr,t,by rw [b1]; exact hb1,by omega,h1c,fun j u c hu hcj=>?_⟩
    have hj : j < cs1.length:=by rw [<- hl2]; exact (lgs.1 hu).1
    exact hc2 j _ u c (lgg hj) hu (hr j _ c (lgg hj) hcj)
   ·have hlf:=hflat i v1 _ hi e3 (by simp)
    rcases f2 with ⟨_,_,e5,_⟩ | ⟨rfl,_⟩
    ·cases e5
    ·obtain ⟨a1,a2,a3⟩:=A.inv1 _ _ _ e3
     refine ⟨a1,?_,fun hk2=>?_⟩
     ·rcases a2 with a2 | a2
      ·exact .inl a2
      ·obtain ⟨b1,b2⟩:=A.rootMine hRi hq' (fun v' e'=>by rw [e3] at e'; cases e') a2
       exact .inr (by rw [b1]; exact b2)
     ·have hm:=A.rootArr hRi hq' e1 hk2
      obtain ⟨b1,b2⟩:=A.rootMine hRi hq' (fun v' e'=>by rw [e3] at e'; cases e') hm
      obtain ⟨c1,arr,t,c2,c3,c4⟩:=a3 hm
      refine ⟨by rw [A.capR hRi hq']; exact c1,arr,t,by rw [b1]; exact c2,by rw [A.capR hRi hq']; exact c3,fun k x jj cc hx hj=>?_⟩
      obtain ⟨u,d1,d2,d3⟩:=c4 k x jj cc hx hj
      exact ⟨u,d1,d2,A.prel (.inl hlf) d3⟩
   ·have hlf:=hflat i v1 _ hi e3 (by simp)
    rcases f2 with ⟨_,_,e5,_⟩ | ⟨rfl,_⟩
    ·cases e5
    ·obtain ⟨hk1,es,cl,c2,c3,c4,c5,c6⟩:=A.inv1 _ _ _ e3
     obtain ⟨b1,b2⟩:=A.rootMine hRi hq' (fun v' e'=>by rw [e3] at e'; cases e') hk1
     exact ⟨by rw [b1]; exact b2,es,cl,by rw [b1]; exact c2,c3,c4,c5,fun k vv ee hvv hee=>A.prel (.inl hlf) (c6 k vv ee hvv hee)⟩
  ·obtain ⟨hb,hc⟩:=A.blk hq' hR
   rw [A.h2b id hq' hR] at hid
   by_cases hg : o = .gone
   ·subst hg; trivial
   ·refine OBRel.keep A.step (A.hinv id v o hid) hb hc (fun hm=>?_) (fun hm=>?_)
    ·have hlt:=blk_lt A.hinv hid hm hg
     refine ⟨by rw [afterG_old hlt]; exact hm,?_⟩
     have hrest:=calleeG_rest (R:=R) (lend:=lend) hm (.inl hR)
     cases lend with
     | true=>exact (A.st.frozen _ (by simpa using hrest) hlt).2
     | false=>exact (A.st.other _ (by simpa using hrest) hlt).2
    ·by_cases hlt : G.blk id < w.heap.size
     ·rwa [afterG_old hlt] at hm
     ·simp only [afterG,hlt,if_false] at hm
      split at hm
      ·split at hm
       ·split at hm
        ·rename_i hf
         simp at hm
         subst hm
         exact absurd (fwd_mem hf) (hq' _)
        ·split at hm
         ·split at hm
          ·rename_i hi'
           simp at hm
           subst hm
           exact absurd (lmg hi') hR
          .cases hm
         .cases hm
       ·rename_i hno
        exact absurd hm (hno _)
      .cases hm
end
end Go.V
namespace Go.V
open Go.RowKit
section
variable [GK]
def RetRel (G : Gh) (h : VHeap) (w : World) : List VVal -> Value -> Prop
 | [v],c=>VRel G h w v c
 | vs,c=>∃ arr : Array Value,c = .tuple arr /\ vs.length = arr.size /\ ∀ (i : Nat) (v : VVal) (c : Value),vs[i]? = some v -> arr[i]? = some c -> VRel G h w v c
theorem calleeG_good {G : Gh} {w : World} {R : List Id} {lend : Bool} (hg : Good G w) : Good (calleeG G R lend) w:=fun b B hb=>by
 obtain ⟨h1,h2⟩:=hg b B hb
 refine ⟨?_,h2⟩
 rcases h1 with h1 | h1 <;> simp [calleeG,h1]
def CallOK (P : Program) (f : FuncId) (args : List VVal) (H : List Ob) (res : VVal) (H' : List Ob) : Prop :=
 ∀ (G : Gh) (w : World) (cargs : Array Value),HeapInv G (enterH H) w -> Good G w -> args.length = cargs.size -> (∀ (i : Nat) (u : VVal) (c : Value),args[i]? = some u -> cargs[i]? = some c -> VRel G (enterH H) w u c) ->
  (∀ b id,G.kind b = .mine id -> ∃ i,id = .arg i 0) ->
  Calls P f cargs w fun e w'=>∃ c G' h' vs,e = .returned c /\ Step G (enterH H) w G' h' w' /\ HeapInv G' h' w' /\ RetRel G' h' w' vs c /\ outs h' H.length vs = some res /\ outH h' 0 H.length = some H'
def CallsSound (P : Program) (Γ : Sig) : Prop:=∀ f args H res H',Γ f args H = some (res,H') -> hasBody P f = true /\ CallOK P f args H res H'
theorem capsApart_no {h : VHeap} {n : Nat} {vs : List VVal} (hc : capsApart h n vs = true) : ∀ q ∈ vs.flatMap (capIds1 h),q ∉ vs.flatMap (ownIds1 h) ++ argOwns h 0 n:=fun q hq hm=>by
 have:=List.all_eq_true.1 hc q hq
 simp only [List.contains_eq_mem,Bool.not_eq_true',decide_eq_false_iff_not] at this
 exact this hm
theorem out0_notup (h1 : VHeap) (v : VVal) (rs : List VVal) : out0 h1 v ≠ some (.tup rs):=by
 intro ho
 unfold out0 at ho
 split at ho
 ·simp at ho
 ·obtain ⟨_,_,ho1⟩:=ob_eq ho
  obtain ⟨_,ho2⟩:=gd_eq ho1
  simp at ho2
 ·obtain ⟨_,_,ho1⟩:=ob_eq ho
  simp at ho1
 ·obtain ⟨_,ho1⟩:=gd_eq ho
  simp at ho1
 ·obtain ⟨_,ho1⟩:=gd_eq ho
  simp at ho1
 ·simp at ho
 ·obtain ⟨_,_,ho1⟩:=ob_eq ho
  simp at ho1
 .cases ho
theorem out1_notup (h1 : VHeap) (v : VVal) (rs : List VVal) : out1 h1 v ≠ some (.tup rs):=by
 intro ho
 unfold out1 at ho
 split at ho
 ·obtain ⟨_,_,ho1⟩:=ob_eq ho
  simp at ho1
 ·split at ho
  ·obtain ⟨_,ho1⟩:=gd_eq ho
   obtain ⟨_,_,ho2⟩:=ob_eq ho1
   simp at ho2
  .cases ho
 .exact out0_notup _ _ _ ho
theorem outW0_cases {h : VHeap} {v r : VVal} (ho : outW0 h v = some r) : (out0 h v = some r /\ ∀ i ver off len,v ≠ .own (.arg i 0) ver off len) \/ ∃ i ver off len,v = .own (.arg i 0) ver off len /\ alive h (.arg i 0) ver = true /\ r = .own (.arg i 0) (if ver = 0 then 0 else 1) off len:=by
 unfold outW0 at ho
 split at ho
 ·obtain ⟨ha,ho2⟩:=gd_eq ho
  simp only [osi] at ho2
  exact .inr ⟨_,_,_,_,rfl,ha,ho2.symm⟩
 ·rename_i hno
  exact .inl ⟨ho,fun i ver off len e=>hno i ver off len e⟩
theorem outO_cases {h : VHeap} {v r : VVal} (ho : outO h v = some r) : out1 h v = some r /\ (∀ cs,r ≠ .agg cs) \/ (∃ cs rs,v = .agg cs /\ mapO (outW0 h) cs = some rs /\ r = .agg rs) \/ ∃ i ver off len,v = .own (.arg i 0) ver off len /\ alive h (.arg i 0) ver = true /\ r = .own (.arg i 0) (if ver = 0 then 0 else 1) off len:=by
 unfold outO at ho
 split at ho
 ·obtain ⟨rs,h1,ho2⟩:=ob_eq ho
  simp only [osi] at ho2
  exact .inr (.inl ⟨_,_,rfl,h1,ho2.symm⟩)
 ·obtain ⟨ha,ho2⟩:=gd_eq ho
  simp only [osi] at ho2
  exact .inr (.inr ⟨_,_,_,_,rfl,ha,ho2.symm⟩)
 ·rename_i hna _
  refine .inl ⟨ho,fun cs e=>?_⟩
  subst e
  unfold out1 at ho
  split at ho
  ·exact hna _ rfl
  ·split at ho
   ·obtain ⟨_,ho⟩:=gd_eq ho
    obtain ⟨_,_,ho⟩:=ob_eq ho
    simp at ho
   ·cases ho
  ·unfold out0 at ho
   split at ho
   ·simp at ho
   ·obtain ⟨_,_,ho⟩:=ob_eq ho
    obtain ⟨_,ho⟩:=gd_eq ho
    simp at ho
   ·obtain ⟨_,_,ho⟩:=ob_eq ho
    simp at ho
   ·obtain ⟨_,ho⟩:=gd_eq ho
    simp at ho
   ·obtain ⟨_,ho⟩:=gd_eq ho
    simp at ho
   ·simp at ho
   ·obtain ⟨_,_,ho⟩:=ob_eq ho
    simp at ho
   .cases ho
theorem out0_noown {h : VHeap} {v : VVal} {id : Id} {ver off len : Nat} : out0 h v ≠ some (.own id ver off len):=by
 intro ho
 unfold out0 at ho
 split at ho
 ·simp at ho
 ·obtain ⟨_,_,ho1⟩:=ob_eq ho
  obtain ⟨_,ho2⟩:=gd_eq ho1
  simp at ho2
 ·obtain ⟨_,_,ho1⟩:=ob_eq ho
  simp at ho1
 ·obtain ⟨_,ho1⟩:=gd_eq ho
  simp at ho1
 ·obtain ⟨_,ho1⟩:=gd_eq ho
  simp at ho1
 ·simp at ho
 ·obtain ⟨_,_,ho1⟩:=ob_eq ho
  simp at ho1
 .cases ho
theorem out1_noown {h : VHeap} {v : VVal} {id : Id} {ver off len : Nat} : out1 h v ≠ some (.own id ver off len):=by
 intro ho
 unfold out1 at ho
 split at ho
 ·obtain ⟨_,_,ho1⟩:=ob_eq ho
  simp at ho1
 ·split at ho
  ·obtain ⟨_,ho1⟩:=gd_eq ho
   obtain ⟨_,_,ho2⟩:=ob_eq ho1
   simp at ho2
  .cases ho
 .exact out0_noown ho
theorem inResW_of {R : List Id} {h : VHeap} {d : Nat} {v : VVal} (hv : ∀ id ver off len,v ≠ .own id ver off len) (ha : ∀ cs,v ≠ .agg cs) : inResW R h d v = inRes R h d v:=by
 unfold inResW
 split
 .exact absurd rfl (hv _ _ _ _)
 .exact absurd rfl (hv _ _ _ _)
 .exact absurd rfl (ha _)
 .rfl
theorem inW0_of {R : List Id} {h : VHeap} {d j : Nat} {v : VVal} (hv : ∀ id ver off len,v ≠ .own id ver off len) : inW0 R h d j v = in0 R h d j v:=by
 unfold inW0
 split
 .exact absurd rfl (hv _ _ _ _)
 .exact absurd rfl (hv _ _ _ _)
 .rfl
theorem outW_plain {h1 h : VHeap} {R : List Id} {d : Nat} : ∀ {vs rs : List VVal} {j : Nat} {q : List VVal × List (Id × Nat × Ob)},mapO (outW0 h1) vs = some rs -> inL R h d j rs = some q -> mapO (out0 h1) vs = some rs
 | [],rs,j,q,ho,hi=>ho
 | v :: vs,rs,j,q,ho,hi=>by
  simp only [mapO] at ho ⊢
  obtain ⟨r,hr,ho1⟩:=ob_eq ho
  obtain ⟨rs',hrs,ho2⟩:=ob_eq ho1
  simp at ho2
  subst ho2
  simp only [inL] at hi
  obtain ⟨q0,hq1,hi1⟩:=ob_eq hi
  obtain ⟨q',hq2,_⟩:=ob_eq hi1
  have ih:=outW_plain hrs hq2
  rcases outW0_cases hr with ⟨h0,_⟩ | ⟨i,ver,off,len,rfl,_,rfl⟩
  ·rw [h0,ih]
   rfl
  .simp [in0,back0,ob] at hq1
def handW0 (d j : Nat) : VVal -> List (Id × Id)
 | .own (.slot s i) _ _ _=>[(.slot s i,.slot d (j + 1))]
 | _=>[]
def handLW (d : Nat) : Nat -> List VVal -> List (Id × Id)
 | _,[]=>[]
 | j,v :: vs=>handW0 d j v ++ handLW d (j + 1) vs
theorem handW0_of {h1 : VHeap} {d j : Nat} {v r : VVal} (ho : out0 h1 v = some r) : hand0 d j v = handW0 d j v:=by
 cases v with
 | own id ver off len =>
  cases id with
  | slot=>rfl
  | arg=>simp [out0] at ho
 | _=>rfl
theorem handLW_fst {d : Nat} : ∀ (vs : List VVal) (j : Nat),List.Sublist ((handLW d j vs).map (·.1)) (vs.flatMap ownIds0)
 | [],_=>List.Sublist.refl _
 | v :: vs,j=>by
  simp only [handLW,lma,lfc]
  refine List.Sublist.append ?_ (handLW_fst vs (j + 1))
  cases v with
  | own id ver off len =>
   cases id with
   | slot=>exact List.Sublist.refl _
   | arg=>exact List.nil_sublist _
  | _=>exact List.nil_sublist _
section
variable {h1 h : VHeap} {R : List Id} {d : Nat}
theorem preW0 {j : Nat} {v r v' : VVal} {qs : List (Id × Nat × Ob)} (ho : outW0 h1 v = some r) (hi : inW0 R h d j r = some (v',qs)) : Pre h1 h d 0 (handW0 d j v) qs j (j + 1):=by
 rcases outW0_cases ho with ⟨h0,_⟩ | ⟨i,ver,off,len,rfl,_,rfl⟩
 ·rw [inW0_of fun id ver off len e=>by rw [e] at h0; exact out0_noown h0] at hi
  rw [<- handW0_of h0]
  exact pre0 h0 hi
 ·have : qs = []:=by
   by_cases hv : ver = 0
   ·rw [if_pos hv] at hi
    simp only [inW0] at hi
    obtain ⟨_,_,hi⟩:=ob_eq hi
    obtain ⟨_,_,hi⟩:=ob_eq hi
    simp at hi
    exact hi.2
   ·rw [if_neg hv] at hi
    simp only [inW0] at hi
    obtain ⟨_,_,hi⟩:=ob_eq hi
    obtain ⟨_,_,hi⟩:=ob_eq hi
    simp at hi
    exact hi.2
  subst this
  exact .nil ..
theorem preLW : ∀ {vs rs us : List VVal} {qs : List (Id × Nat × Ob)} {j : Nat},mapO (outW0 h1) vs = some rs -> inLW R h d j rs = some (us,qs) -> Pre h1 h d 0 (handLW d j vs) qs j (j + vs.length)
 | [],rs,us,qs,j,ho,hi=>by
  simp [mapO] at ho
  subst ho
  simp [inLW] at hi
  obtain ⟨_,rfl⟩:=hi
  exact .nil ..
 | v :: vs,rs,us,qs,j,ho,hi=>by
  simp only [mapO] at ho
  obtain ⟨r,hr,ho⟩:=ob_eq ho
  obtain ⟨rs',hrs,ho⟩:=ob_eq ho
  simp at ho
  subst ho
  simp only [inLW] at hi
  obtain ⟨q,hq1,hi1⟩:=ob_eq hi
  obtain ⟨q',hq2,hi2⟩:=ob_eq hi1
  simp at hi2
  obtain ⟨_,rfl⟩:=hi2
  have ih:=preLW hrs hq2
  have e : j + (v :: vs).length = j + 1 + vs.length:=by simp; omega
  rw [e]
  exact (preW0 hr hq1).append ih (by omega) (by omega)
end
section
variable {G : Gh} {h : VHeap} {w : World} {R : List Id} {H : List Ob} {G1 : Gh} {h1 : VHeap} {w1 : World} {hs : List (Id × Id)} {h2 : VHeap} {d : Nat}
theorem After.leafW (A : After G h w R H false G1 h1 w1 hs h2) {j : Nat} {v r v' : VVal} {c : Value} {qs : List (Id × Nat × Ob)} (hv : VRel G1 h1 w1 v c) (ho : outW0 h1 v = some r) (hi : inW0 R h d j r = some (v',qs))
  (hsub : ∀ x ∈ handW0 d j v,x ∈ hs) (hq : ∀ x ∈ qs,h2 x.1 = some x.2) (hcp : ∀ q ∈ capIds0 v,∀ id,(q,id) ∉ hs) : VRel (afterG G G1 h1 R w.heap.size w1.heap.size hs) h2 w1 v' c:=by
 rcases outW0_cases ho with ⟨h0,_⟩ | ⟨i,ver,off,len,rfl,hal,rfl⟩
 ·rw [inW0_of fun id ver off len e=>by rw [e] at h0; exact out0_noown h0] at hi
  rw [<- handW0_of h0] at hsub
  exact A.leaf hv h0 hi (fun e=>by cases e) hsub hq hcp
 ·replace hi : (ob R[i]? fun id=>ob (h id) fun o=>some (VVal.own id (o.1 + bump ver) off len,([] : List (Id × Nat × Ob)))) = some (v',qs):=by
   by_cases h0 : ver = 0
   ·rw [show bump ver = 0 by simp [bump,h0]]
    rw [if_pos h0] at hi
    exact hi
   ·rw [show bump ver = 1 by simp [bump,h0]]
    rw [if_neg h0] at hi
    exact hi
  obtain ⟨id,hid,hi1⟩:=ob_eq hi
  obtain ⟨o,hoo,hi2⟩:=ob_eq hi1
  simp only [osi,pmi] at hi2
  obtain ⟨rfl,_⟩:=hi2
  exact A.ownArg hv hal hid hoo
theorem After.leavesW (A : After G h w R H false G1 h1 w1 hs h2) : ∀ {vs rs us : List VVal} {qs : List (Id × Nat × Ob)} {j : Nat},mapO (outW0 h1) vs = some rs -> inLW R h d j rs = some (us,qs) ->
  (∀ x ∈ handLW d j vs,x ∈ hs) -> (∀ x ∈ qs,h2 x.1 = some x.2) -> (∀ q ∈ vs.flatMap capIds0,∀ id,(q,id) ∉ hs) -> us.length = vs.length /\ ∀ (i : Nat) (v u : VVal) (c : Value),vs[i]? = some v -> us[i]? = some u -> VRel G1 h1 w1 v c -> VRel (afterG G G1 h1 R w.heap.size w1.heap.size hs) h2 w1 u c
 | [],rs,us,qs,j,ho,hi,_,_,_=>by
  simp [mapO] at ho
  subst ho
  simp [inLW] at hi
  obtain ⟨rfl,_⟩:=hi
  exact ⟨rfl,fun i v u c hv=>by simp at hv⟩
 | v :: vs,rs,us,qs,j,ho,hi,hsub,hq,hcp=>by
  rw [lfc] at hcp
  simp only [mapO] at ho
  obtain ⟨r,hr,ho1⟩:=ob_eq ho
  obtain ⟨rs',hrs,ho2⟩:=ob_eq ho1
  simp at ho2
  subst ho2
  simp only [inLW] at hi
  obtain ⟨q,hq1,hi1⟩:=ob_eq hi
  obtain ⟨q',hq2,hi2⟩:=ob_eq hi1
  simp at hi2
  obtain ⟨rfl,rfl⟩:=hi2
  obtain ⟨hl,hall⟩:=A.leavesW hrs hq2 (fun x hx=>hsub x (List.mem_append_right _ hx)) (fun x hx=>hq x (List.mem_append_right _ hx)) (fun q hq=>hcp q (List.mem_append_right _ hq))
  refine ⟨by simp [hl],fun i v' u c hv' hu hvr=>?_⟩
  cases i with
  | zero =>
   simp at hv' hu
   subst hv'
   subst hu
   exact A.leafW hvr hr hq1 (fun x hx=>hsub x (List.mem_append_left _ hx)) (fun x hx=>hq x (List.mem_append_left _ hx)) (fun q hq=>hcp q (List.mem_append_left _ hq))
  | succ i=>simp at hv' hu; exact hall i v' u c hv' hu hvr
theorem After.objsW (A : After G h w R H false G1 h1 w1 hs h2) : ∀ {vs rs us : List VVal} {qs : List (Id × Nat × Ob)} {j : Nat},mapO (outW0 h1) vs = some rs -> inLW R h d j rs = some (us,qs) ->
  (∀ x ∈ handLW d j vs,x ∈ hs) -> (∀ (i : Nat) (v : VVal),vs[i]? = some v -> ∃ c,VRel G1 h1 w1 v c) -> ∀ x ∈ qs,OBRel (afterG G G1 h1 R w.heap.size w1.heap.size hs) h2 w1 x.1 x.2.2
 | [],rs,us,qs,j,ho,hi,_,_=>by
  simp [mapO] at ho
  subst ho
  simp [inLW] at hi
  obtain ⟨_,rfl⟩:=hi
  simp
 | v :: vs,rs,us,qs,j,ho,hi,hsub,hv=>by
  simp only [mapO] at ho
  obtain ⟨r,hr,ho1⟩:=ob_eq ho
  obtain ⟨rs',hrs,ho2⟩:=ob_eq ho1
  simp at ho2
  subst ho2
  simp only [inLW] at hi
  obtain ⟨q,hq1,hi1⟩:=ob_eq hi
  obtain ⟨q',hq2,hi2⟩:=ob_eq hi1
  simp at hi2
  obtain ⟨_,rfl⟩:=hi2
  intro x hx
  rcases lmp.1 hx with hx | hx
  ·obtain ⟨c,hc⟩:=hv 0 v rfl
   rcases outW0_cases hr with ⟨h0,_⟩ | ⟨i,ver,off,len,rfl,_,rfl⟩
   ·rw [inW0_of fun id ver off len e=>by rw [e] at h0; exact out0_noown h0] at hq1
    exact A.obj0 hc h0 hq1 (fun e=>by cases e) (fun y hy=>hsub y (List.mem_append_left _ (by rw [<- handW0_of h0]; exact hy))) x hx
   ·have : q.2 = []:=by
     have:=(preW0 (h1:=h1) hr hq1).keys
     simpa [handW0] using this
    rw [this] at hx
    cases hx
  .exact A.objsW hrs hq2 (fun x hx=>hsub x (List.mem_append_right _ hx)) (fun i v hi=>hv (i + 1) v (by simpa using hi)) x hx
end
section
variable {h1 h : VHeap} {R : List Id} {d : Nat}
theorem backObs_get : ∀ {ids : List Id} {os : List Ob} {us : List (Id × Nat × Ob) × List (Id × Nat × Ob)} {i j : Nat},outH h1 i ids.length = some os -> backObs R h d j ids os = some us ->
  us.1.map (·.1) = ids /\
  (∀ (k : Nat) (id : Id),ids[k]? = some id -> ∃ u as_ j0 j1,RootBack R h h1 d j0 (i + k) id u as_ j1 /\ u ∈ us.1 /\ (∀ x ∈ as_,x ∈ us.2) /\ ∀ v1 cs,h1 (.arg (i + k) 0) = some (v1,.box cs) -> ∀ x ∈ handCL d j0 cs,x ∈ handO h1 d j i ids.length) /\
  ∀ x ∈ us.2,∃ (k : Nat) (id : Id) (u : Id × Nat × Ob) (as_ : List (Id × Nat × Ob)) (j0 j1 : Nat),ids[k]? = some id /\ RootBack R h h1 d j0 (i + k) id u as_ j1 /\ x ∈ as_ /\ (∀ y ∈ as_,y ∈ us.2) /\ ∀ v1 cs,h1 (.arg (i + k) 0) = some (v1,.box cs) -> ∀ y ∈ handCL d j0 cs,y ∈ handO h1 d j i ids.length
 | [],os,us,i,j,ho,hb=>by
  simp [outH] at ho
  subst ho
  simp [backObs] at hb
  subst hb
  exact ⟨rfl,fun k id hk=>by simp at hk,by simp⟩
 | id :: ids,os,us,i,j,ho,hb=>by
  obtain ⟨u,as_,j',os',us',hrb,ho',hb',rfl⟩:=backObs_cons ho hb
  obtain ⟨a1,a2,a3⟩:=backObs_get ho' hb'
  have hhead : ∀ v1 cs,h1 (.arg i 0) = some (v1,.box cs) -> ∀ x ∈ handCL d j cs,x ∈ handO h1 d j i (ids.length + 1):=fun v1 cs e x hx=>by
   simp only [handO,e]
   exact List.mem_append_left _ hx
  have htail : ∀ x ∈ handO h1 d j' (i + 1) ids.length,x ∈ handO h1 d j i (ids.length + 1):=fun x hx=>by
   simp only [handO]
   cases hrb with
   | box hh h1h ho2 hi2 =>
    rw [h1h]
    rw [(mapO_get ho2).1] at hx
    exact List.mem_append_right _ hx
   | arr hh h1h=>rw [h1h]; exact hx
   | map hh h1h=>rw [h1h]; exact hx
  have hu1 : u.1 = id:=by cases hrb <;> rfl
  refine ⟨by simp [a1,hu1],fun k id' hk=>?_,fun x hx=>?_⟩
  ·cases k with
   | zero =>
    simp at hk
    subst hk
    exact ⟨u,as_,j,j',hrb,lms ..,fun x hx=>List.mem_append_left _ hx,hhead⟩
   | succ k =>
    simp at hk
    obtain ⟨u2,as2,j0,j1,b1,b2,b3,b4⟩:=a2 k id' hk
    have e : i + 1 + k = i + (k + 1):=by omega
    rw [e] at b1 b4
    exact ⟨u2,as2,j0,j1,b1,lmc _ b2,fun x hx=>List.mem_append_right _ (b3 x hx),fun v1 cs e x hx=>htail x (b4 v1 cs e x hx)⟩
  ·rcases lmp.1 hx with hx | hx
   ·exact ⟨0,id,u,as_,j,j',rfl,hrb,hx,fun y hy=>List.mem_append_left _ hy,hhead⟩
   ·obtain ⟨k,id',u2,as2,j0,j1,b0,b1,b2,b3,b4⟩:=a3 x hx
    have e : i + 1 + k = i + (k + 1):=by omega
    rw [e] at b1 b4
    exact ⟨k + 1,id',u2,as2,j0,j1,by simpa using b0,b1,b2,fun y hy=>List.mem_append_right _ (b3 y hy),fun v1 cs e x hx=>htail x (b4 v1 cs e x hx)⟩
end
section
variable {P : Program} {Γ : Sig} (hΓ : CallsSound P Γ) {G : Gh} {h : VHeap} {w : World} {a : Act} {o : Oper} (hi : HeapInv G h w) (hgd : Good G w)
include hΓ hi hgd
theorem op_vcall {f : FuncId} {cargs : Array Value} {us : List VVal} {d : Nat} {val : VVal} {ups : List (Id × Nat × Ob)} (hrun : hasBody P f = true -> (execOp a.eval o).run P w = .ok (.enter f cargs) w) (hlen : us.length = cargs.size)
  (hargs : ∀ (i : Nat) (u : VVal) (c : Value),us[i]? = some u -> cargs[i]? = some c -> VRel G h w u c) (hv : vcallOp Γ h d f us = some (val,ups)) : OpWp P G h w a o val ups:=by
 unfold vcallOp at hv
 have hn:=roots_nodup h us
 generalize roots h us = R at hv hn
 unfold vcallR at hv
 obtain ⟨args',hargs',hv⟩:=ob_eq hv
 obtain ⟨H,hH,hv⟩:=ob_eq hv
 obtain ⟨⟨res,H'⟩,hcall,hv⟩:=ob_eq hv
 obtain ⟨hlend,hv⟩:=gd_eq hv
 obtain ⟨bs,hbs,hv⟩:=ob_eq hv
 obtain ⟨q,hq,hv⟩:=ob_eq hv
 simp only [osi,pmi] at hv
 obtain ⟨hval,hups⟩:=hv
 subst hval
 subst hups
 simp only at hlend hbs hq
 obtain ⟨hbody,hok⟩:=hΓ _ _ _ _ _ hcall
 generalize hle : us.any lends = lend at hlend
 have hal : lend = true -> noAlias res = true /\ H'.all flatBox = true:=fun e=>by
  rcases hlend with h0 | h0
  ·rw [e] at h0; cases h0
  ·exact h0
 obtain ⟨l1,l2⟩:=mapO_get hargs'
 have hcalls:=hok (calleeG G R lend) w cargs (enter_inv hi hn hH) (calleeG_good hgd) (by omega) (fun i u c hu hc=>by
  obtain ⟨x,hx,hxu⟩:=l2 i u hu
  refine ext1_rel hi hH (hargs i x c hx hc) (fun hl=>?_) hxu
  rw [<- hle,List.any_eq_true]
  exact ⟨x,lmg hx,hl⟩) (fun b id hm=>by
  obtain ⟨i,_,e,_⟩:=calleeG_mine hm
  exact ⟨i,e⟩)
 intro K Q hK
 unfold Oper.wp
 rw [hrun hbody,Oper.upon_enter]
 refine hcalls.mono fun e w' he=>?_
 obtain ⟨c,G1,h1,vs,rfl,hst,hinv1,hret,houts,houtH⟩:=he
 obtain ⟨hnd,houtT⟩:=gd_eq houts
 obtain ⟨hcap,houtT⟩:=gd_eq houtT
 have hcapq:=capsApart_no hcap
 have hHR : H.length = R.length:=(mapO_get hH).1
 rw [hHR] at houtH
 obtain ⟨o1,o2⟩:=outH_get houtH
 obtain ⟨k1,k2⟩:=backBoxes_get hbs
 have hroot : ∀ (i : Nat) (id : Id),R[i]? = some id -> ∃ v0 cs0 cs1 cs cs',h id = some (v0,.box cs0) /\ h1 (.arg i 0) = some (0,.box cs1) /\ mapO (outArg h1) cs1 = some cs /\ mapO (back1 R h) cs = some cs' /\ (id,v0,Ob.box cs') ∈ bs /\ H'[i]? = some (.box cs):=fun i id hRi=>by
  obtain ⟨cs,cs',o',b1,b2,b3,b4⟩:=k2 i id hRi
  obtain ⟨v0,cs0,cs0',r1,_,_,_⟩:=root_box hH hRi
  have hob:=o2 i _ b1
  rw [Nat.zero_add] at hob
  rw [r1] at b3
  simp at b3
  subst b3
  rcases outBox_cases hob with ⟨cs1,cs2,e1,e2,e3,_⟩ | ⟨v1,sz,xs,e1,⟨_,e3⟩ | ⟨_,e3⟩⟩ | ⟨kt,ks,vs,e1,e3⟩
  ·simp at e3
   subst e3
   exact ⟨v0,cs0,cs1,cs,cs',r1,e1,e2,b2,b4,b1⟩
  ·cases e3
  ·simp at e3
   subst e3
   simp [mapO,back1,back0,ob] at b2
  ·cases e3
 have main : ∀ (hs : List (Id × Id)) (hi' : Nat),Pre h1 h d 0 hs q.2 0 hi' -> List.Sublist (hs.map (·.1)) (vs.flatMap (ownIds1 h1)) ->
   (∀ h2 : VHeap,After G h w R H lend G1 h1 w' hs h2 -> (∀ x ∈ q.2,h2 x.1 = some x.2) -> (∀ q ∈ vs.flatMap (capIds1 h1),∀ id,(q,id) ∉ hs) -> VRel (afterG G G1 h1 R w.heap.size w'.heap.size hs) h2 w' q.1 c /\ ∀ x ∈ q.2,OBRel (afterG G G1 h1 R w.heap.size w'.heap.size hs) h2 w' x.1 x.2.2) ->
   K (a.put o.dst c) w':=by
  intro hs hi' hpre hsubl hres
  have hnd1 : (hs.map (·.1)).Nodup:=List.Sublist.nodup hsubl (List.nodup_append.1 (nodup_of hnd)).1
  have hcaph : ∀ q ∈ vs.flatMap (capIds1 h1),∀ id,(q,id) ∉ hs:=fun q hq id hm=>hcapq q hq (List.mem_append_left _ (hsubl.subset (lmm.2 ⟨_,hm,rfl⟩)))
  have hkn : (q.2.map (·.1)).Nodup:=by rw [hpre.keys]; exact hpre.nd
  have hbn : (bs.map (·.1)).Nodup:=by rw [k1]; exact hn
  have hin : ∀ id,id ∈ q.2.map (·.1) ↔ ∃ p,(p,id) ∈ hs:=fun id=>by
   rw [hpre.keys,lmm]
   exact ⟨fun ⟨x,hx,e⟩=>⟨x.1,by rw [<- e]; exact hx⟩,fun ⟨p,hp⟩=>⟨_,hp,rfl⟩⟩
  have hq2 : ∀ x ∈ q.2,(h.upds (bs ++ q.2)) x.1 = some x.2:=fun x hx=>by rw [upds_append]; exact upds_get _ _ x hkn hx
  have hb2 : ∀ x ∈ bs,(∀ p,(p,x.1) ∉ hs) -> (h.upds (bs ++ q.2)) x.1 = some x.2:=fun x hx hno=>by
   rw [upds_append,upds_not _ _ _ (fun hm=>by obtain ⟨p,hp⟩:=(hin _).1 hm; exact hno p hp)]
   exact upds_get _ _ x hbn hx
  have A : After G h w R H lend G1 h1 w' hs (h.upds (bs ++ q.2)):={
   hinv:=hi,hn:=hn,roots:=roots_ok hH,st:=hst,inv1:=hinv1,nd1:=hnd1,nd2:=hpre.nd
   own:=fun p id hp=>hpre.own (p,id) hp
   h2a:=fun p id hp=>by
    obtain ⟨x,hx,e⟩:=lmm.1 ((hin id).2 ⟨p,hp⟩)
    have:=hq2 x hx
    rw [e] at this
    refine ⟨x.2.1,x.2.2,this,?_,fun hR=>.inl ?_⟩
    ·rw [hpre.ver x hx,e]; omega
    ·obtain ⟨i,hilt,e'⟩:=List.getElem_of_mem hR
     obtain ⟨v0,cs0,_,_,_,r1,_⟩:=hroot i id (by rw [lgg hilt,e'])
     exact ⟨v0,cs0,r1⟩
   h2b:=fun id hno hR=>by
    rw [upds_append,upds_not _ _ _ (fun hm=>by obtain ⟨p,hp⟩:=(hin _).1 hm; exact hno p hp),upds_not _ _ _ (by rw [k1]; exact hR)]
   h2c:=fun i id v ob v1 ob1 hno hRi hh hh1=>by
    obtain ⟨v0,cs0,cs1,cs,cs',r1,r2,r3,r4,r5,_⟩:=hroot i id hRi
    rw [hh] at r1
    rw [hh1] at r2
    simp at r1 r2
    obtain ⟨rfl,rfl⟩:=r1
    obtain ⟨rfl,rfl⟩:=r2
    exact ⟨.box cs',by simpa [bump] using hb2 _ r5 hno,.inl ⟨cs1,cs',rfl,rfl⟩⟩
   args0:=fun i hilt=>by
    obtain ⟨_,_,cs1,_,_,_,r2,_⟩:=hroot i R[i] (lgg hilt)
    exact ⟨_,_,r2⟩
   shape:=fun i id v ob v1 ob1 hRi hh hh1=>by
    obtain ⟨v0,cs0,cs1,cs,cs',r1,r2,_⟩:=hroot i id hRi
    rw [hh] at r1
    rw [hh1] at r2
    simp at r1 r2
    obtain ⟨rfl,rfl⟩:=r1
    obtain ⟨rfl,rfl⟩:=r2
    exact ⟨.inl ⟨cs0,cs1,rfl,rfl⟩,.inl rfl⟩ }
  obtain ⟨hvr,hobj⟩:=hres _ A hq2 hcaph
  refine hK c w' _ A.step (A.inv ?_ ?_ fun p id hp v o' hh=>?_) hvr
  ·intro i id v1 cs1 hno hRi hh1 v2 o2' hh2
   obtain ⟨v0,cs0,cs1',cs,cs',r1,r2,r3,r4,r5,r6⟩:=hroot i id hRi
   rw [hh1] at r2
   simp at r2
   obtain ⟨rfl,rfl⟩:=r2
   have h2id:=hb2 _ r5 hno
   simp only at h2id
   rw [hh2] at h2id
   simp at h2id
   obtain ⟨_,rfl⟩:=h2id
   obtain ⟨m1,m2⟩:=mapO_get r3
   obtain ⟨n1,n2⟩:=mapO_get r4
   refine ⟨cs',rfl,by omega,fun j u1 u2 c' hu1 hu2 hvr'=>?_⟩
   obtain ⟨x,hx,hxu⟩:=n2 j u2 hu2
   obtain ⟨y,hy,hyx⟩:=m2 j x hx
   rw [hu1] at hy
   simp at hy
   subst hy
   refine A.argW1 hvr' hyx (back1_W hxu) fun e=>?_
   have:=(hal e).2
   simp only [List.all_eq_true] at this
   have:=this _ (lmg r6)
   simp only [flatBox,List.all_eq_true] at this
   exact this x (lmg hx)
  ·intro i v1 ob1 hilt hh1 hno
   obtain ⟨_,_,cs1,_,_,_,r2,_⟩:=hroot i R[i] (lgg hilt)
   rw [hh1] at r2
   simp at r2
   exact absurd r2.2 (hno _)
  ·obtain ⟨x,hx,e⟩:=lmm.1 ((hin id).2 ⟨p,hp⟩)
   have h1':=hq2 x hx
   rw [e,hh] at h1'
   simp at h1'
   have:=hobj x hx
   rw [e,<- h1'] at this
   exact this
 have hndI:=(List.nodup_append.1 (nodup_of hnd)).1
 by_cases hone : ∃ v,vs = [v]
 ·obtain ⟨v,rfl⟩:=hone
  simp only [outsT] at houtT
  replace houtT : out1 h1 v = some res:=by
   rcases outO_cases houtT with h0 | ⟨cs,rs,rfl,h0,rfl⟩ | ⟨i,ver,off,len,rfl,_,rfl⟩
   ·exact h0.1
   ·simp only [inRes,in1] at hq
    obtain ⟨q1,hq1,_⟩:=ob_eq hq
    simp only [out1]
    rw [outW_plain h0 hq1]
    rfl
   ·simp [inRes,in1,in0,back0,ob] at hq
  have hin1 : in1 R h d 0 res = some (q.1,q.2):=by
   cases res with
   | tup rs =>
    exact absurd houtT (out1_notup h1 v rs)
   | _=>exact hq
  have hna : noAlias res = true -> noAlias1 res = true:=fun e=>by
   cases res with
   | tup=>simp [in1,in0,back0,ob] at hin1
   | _=>exact e
  refine main (hand1 h1 d 0 v) _ (pre1 houtT hin1) (by simpa using hand1_fst v 0) fun h2 A hq2 hcp=>?_
  exact A.res1 hret houtT hin1 (fun e=>hna (hal e).1) (fun _ hx=>hx) hq2 (fun q hq=>hcp q (by simpa using hq))
 ·have hT : outsT h1 vs = ob (mapO (out1 h1) vs) fun vs=>some (.tup vs):=by
   unfold outsT
   split
   .exact absurd ⟨_,rfl⟩ hone
   .rfl
  rw [hT] at houtT
  obtain ⟨rs,hrs,houtT1⟩:=ob_eq houtT
  simp at houtT1
  subst houtT1
  simp only [inRes] at hq
  obtain ⟨r,hr,hq1⟩:=ob_eq hq
  simp at hq1
  subst hq1
  have hret' : ∃ arr : Array Value,c = .tuple arr /\ vs.length = arr.size /\ ∀ (i : Nat) (v : VVal) (c : Value),vs[i]? = some v -> arr[i]? = some c -> VRel G1 h1 w' v c:=by
   unfold RetRel at hret
   split at hret
   .exact absurd ⟨_,rfl⟩ hone
   .exact hret
  obtain ⟨arr,rfl,ha1,ha2⟩:=hret'
  obtain ⟨hi',_,hpre⟩:=preT hrs hr
  refine main (handT h1 d 0 vs rs) hi' hpre (handT_fst vs rs 0) fun h2 A hq2 hcp=>?_
  obtain ⟨b1,b2,b3⟩:=A.resT (cs:=arr.toList) (by simpa using ha1) (fun i v c hv hc=>ha2 i v c hv (by simpa using hc)) hrs hr (fun e=>(hal e).1) (fun _ hx=>hx) hq2 hcp
  exact ⟨.tup (by simpa using b1) fun i u c hu hc=>b2 i u c hu (by simpa using hc),b3⟩
theorem op_vcallW {f : FuncId} {cargs : Array Value} {us : List VVal} {d : Nat} {val : VVal} {ups : List (Id × Nat × Ob)} (hrun : hasBody P f = true -> (execOp a.eval o).run P w = .ok (.enter f cargs) w) (hlen : us.length = cargs.size)
  (hargs : ∀ (i : Nat) (u : VVal) (c : Value),us[i]? = some u -> cargs[i]? = some c -> VRel G h w u c) (hv : vcallW Γ h d f us = some (val,ups)) : OpWp P G h w a o val ups:=by
 unfold vcallW at hv
 have hn:=rootsW_nodup h us
 generalize rootsW h us = R at hv hn
 unfold vcallRW at hv
 obtain ⟨args',hargs',hv⟩:=ob_eq hv
 obtain ⟨H,hH,hv⟩:=ob_eq hv
 obtain ⟨⟨res,H'⟩,hcall,hv⟩:=ob_eq hv
 obtain ⟨⟨bs,as_⟩,hbs,hv⟩:=ob_eq hv
 obtain ⟨q,hq,hv⟩:=ob_eq hv
 obtain ⟨hap,hv⟩:=gd_eq hv
 simp only [osi,pmi] at hv
 obtain ⟨hval,hups⟩:=hv
 subst hval
 subst hups
 simp only at hbs hq hap
 obtain ⟨hbody,hok⟩:=hΓ _ _ _ _ _ hcall
 obtain ⟨l1,l2⟩:=mapO_get hargs'
 have hcalls:=hok (calleeG G R false) w cargs (enterW_inv hi hn hH) (calleeG_good hgd) (by omega) (fun i u c hu hc=>by
  obtain ⟨x,hx,hxu⟩:=l2 i u hu
  exact extW1_rel hn (rootsW_ok hH) (hargs i x c hx hc) hxu) (fun b id hm=>by
  obtain ⟨i,_,e,_⟩:=calleeG_mine hm
  exact ⟨i,e⟩)
 intro K Q hK
 unfold Oper.wp
 rw [hrun hbody,Oper.upon_enter]
 refine hcalls.mono fun e w' he=>?_
 obtain ⟨c,G1,h1,vs,rfl,hst,hinv1,hret,houts,houtH⟩:=he
 obtain ⟨hnd,houtT⟩:=gd_eq houts
 obtain ⟨hcap,houtT⟩:=gd_eq houtT
 have hcapq:=capsApart_no hcap
 have hHR : H.length = R.length:=(mapO_get hH).1
 rw [hHR] at houtH hnd
 obtain ⟨k1,k2,k3⟩:=backObs_get houtH hbs
 simp only [Nat.zero_add] at k2 k3
 have hback : ∀ (i : Nat) (id : Id),R[i]? = some id -> ∃ u as_' j0 j1,RootBack R h h1 d j0 i id u as_' j1 /\ u ∈ bs /\ (∀ x ∈ as_',x ∈ as_) /\ ∀ v1 cs,h1 (.arg i 0) = some (v1,.box cs) -> ∀ x ∈ handCL d j0 cs,x ∈ handO h1 d 1000 0 R.length:=k2
 obtain ⟨hiO,_,hpreO⟩:=preO houtH hbs
 simp only at hpreO
 simp only [apartRes,List.all_eq_true,bat,Bool.not_eq_true',decide_eq_false_iff_not] at hap
 have main : ∀ (hr : List (Id × Id)) (hi' : Nat),Pre h1 h d 0 hr q.2 0 hi' -> List.Sublist (hr.map (·.1)) (vs.flatMap (ownIds1 h1)) ->
   (∀ (hs : List (Id × Id)) (h2 : VHeap),After G h w R H false G1 h1 w' hs h2 -> (∀ x ∈ hr,x ∈ hs) -> (∀ x ∈ q.2,h2 x.1 = some x.2) -> (∀ q ∈ vs.flatMap (capIds1 h1),∀ id,(q,id) ∉ hs) -> VRel (afterG G G1 h1 R w.heap.size w'.heap.size hs) h2 w' q.1 c /\ ∀ x ∈ q.2,OBRel (afterG G G1 h1 R w.heap.size w'.heap.size hs) h2 w' x.1 x.2.2) ->
   K (a.put o.dst c) w':=by
  intro hr hi' hpre hsub hres
  generalize hhs : handO h1 d 1000 0 R.length ++ hr = hs
  have hmem : ∀ p id,(p,id) ∈ hs ↔ (p,id) ∈ handO h1 d 1000 0 R.length \/ (p,id) ∈ hr:=fun p id=>by rw [<- hhs,lmp]
  have hkn : ((as_ ++ q.2).map (·.1)).Nodup:=by
   rw [lma]
   refine List.nodup_append.2 ⟨by rw [hpreO.keys]; exact hpreO.nd,by rw [hpre.keys]; exact hpre.nd,fun x hx y hy e=>?_⟩
   obtain ⟨x',hx',rfl⟩:=lmm.1 hx
   obtain ⟨y',hy',rfl⟩:=lmm.1 hy
   exact (hap y' hy').2 x' hx' e
  have hkeys : (as_ ++ q.2).map (·.1) = hs.map (·.2):=by rw [<- hhs,lma,lma,hpreO.keys,hpre.keys]
  have hnd1 : (hs.map (·.1)).Nodup:=by
   rw [<- hhs,lma,handO_fst]
   have h0:=List.nodup_append.1 (nodup_of hnd)
   refine List.nodup_append.2 ⟨h0.2.1,hsub.nodup h0.1,fun x hx y hy e=>h0.2.2 y (hsub.subset hy) x hx e.symm⟩
  have hcaph : ∀ q ∈ vs.flatMap (capIds1 h1),∀ id,(q,id) ∉ hs:=fun q hq id hm=>by
   rw [<- hhs] at hm
   rcases lmp.1 hm with hm | hm
   ·exact hcapq q hq (List.mem_append_right _ (by
     have e : (handO h1 d 1000 0 R.length).map (·.1) = argOwns h1 0 R.length:=by rw [handO_fst]
     rw [hHR,<- e]
     exact lmm.2 ⟨_,hm,rfl⟩))
   ·exact hcapq q hq (List.mem_append_left _ (hsub.subset (lmm.2 ⟨_,hm,rfl⟩)))
  have hbn : (bs.map (·.1)).Nodup:=by rw [k1]; exact hn
  have hin : ∀ id,id ∈ (as_ ++ q.2).map (·.1) ↔ ∃ p,(p,id) ∈ hs:=fun id=>by
   rw [hkeys,lmm]
   exact ⟨fun ⟨x,hx,e⟩=>⟨x.1,by rw [<- e]; exact hx⟩,fun ⟨p,hp⟩=>⟨_,hp,rfl⟩⟩
  have hq2 : ∀ x ∈ as_ ++ q.2,(h.upds (bs ++ (as_ ++ q.2))) x.1 = some x.2:=fun x hx=>by rw [upds_append]; exact upds_get _ _ x hkn hx
  have hb2 : ∀ x ∈ bs,(∀ p,(p,x.1) ∉ hs) -> (h.upds (bs ++ (as_ ++ q.2))) x.1 = some x.2:=fun x hx hno=>by
   rw [upds_append,upds_not _ _ _ (fun hm=>by obtain ⟨p,hp⟩:=(hin _).1 hm; exact hno p hp)]
   exact upds_get _ _ x hbn hx
  have A : After G h w R H false G1 h1 w' hs (h.upds (bs ++ (as_ ++ q.2))):={
   hinv:=hi,hn:=hn,roots:=rootsW_ok hH,st:=hst,inv1:=hinv1,nd1:=hnd1,nd2:=by rw [<- hkeys]; exact hkn
   own:=fun p id hp=>by
    rcases (hmem p id).1 hp with h0 | h0
    ·exact hpreO.own (p,id) h0
    ·exact hpre.own (p,id) h0
   h2a:=fun p id hp=>by
    obtain ⟨x,hx,e⟩:=lmm.1 ((hin id).2 ⟨p,hp⟩)
    have:=hq2 x hx
    rw [e] at this
    rcases lmp.1 hx with hx' | hx'
    ·refine ⟨x.2.1,x.2.2,this,?_,fun _=>.inr ?_⟩
     ·rw [hpreO.ver x hx',e]; omega
     ·rw [hpreO.ver x hx',e]; omega
    ·refine ⟨x.2.1,x.2.2,this,?_,fun hR=>?_⟩
     ·rw [hpre.ver x hx',e]; omega
     ·have:=(hap x hx').1
      rw [e] at this
      simp at this
      exact absurd hR this
   h2b:=fun id hno hR=>by
    rw [upds_append,upds_not _ _ _ (fun hm=>by obtain ⟨p,hp⟩:=(hin _).1 hm; exact hno p hp),upds_not _ _ _ (by rw [k1]; exact hR)]
   h2c:=fun i id v ob v1 ob1 hno hRi hh hh1=>by
    obtain ⟨u,as_',j0,j1,r1,r2,_,_⟩:=hback i id hRi
    cases r1 with
    | @box v0 cs0 cs cs' us' as2 r3 r4 r5 r6 =>
     rw [hh] at r3
     rw [hh1] at r4
     simp at r3 r4
     obtain ⟨rfl,rfl⟩:=r3
     obtain ⟨rfl,rfl⟩:=r4
     exact ⟨.box us',by simpa [bump] using hb2 _ r2 hno,.inl ⟨cs,us',rfl,rfl⟩⟩
    | @arr v0 v1' sz0 sz xs0 xs r3 r4 =>
     rw [hh] at r3
     rw [hh1] at r4
     simp at r3 r4
     obtain ⟨rfl,rfl⟩:=r3
     obtain ⟨rfl,rfl⟩:=r4
     exact ⟨.arr sz xs,hb2 _ r2 hno,.inr ⟨rfl,by simp⟩⟩
    | @map v0 kt0 kt ks0 ks vs0 vs r3 r4 =>
     rw [hh] at r3
     rw [hh1] at r4
     simp at r3 r4
     obtain ⟨rfl,rfl⟩:=r3
     obtain ⟨rfl,rfl⟩:=r4
     exact ⟨.map kt ks vs,by simpa [bump] using hb2 _ r2 hno,.inr ⟨rfl,by simp⟩⟩
   args0:=fun i hilt=>by
    obtain ⟨u,as_',j0,j1,r1,_⟩:=hback i R[i] (lgg hilt)
    cases r1 with
    | box _ r4=>exact ⟨_,_,r4⟩
    | arr _ r4=>exact ⟨_,_,r4⟩
    | map _ r4=>exact ⟨_,_,r4⟩
   shape:=fun i id v ob v1 ob1 hRi hh hh1=>by
    obtain ⟨u,as_',j0,j1,r1,_⟩:=hback i id hRi
    cases r1 with
    | @box v0 cs0 cs cs' us' as2 r3 r4 r5 r6 =>
     rw [hh] at r3
     rw [hh1] at r4
     simp at r3 r4
     obtain ⟨rfl,rfl⟩:=r3
     obtain ⟨rfl,rfl⟩:=r4
     exact ⟨.inl ⟨cs0,cs,rfl,rfl⟩,.inl rfl⟩
    | @arr v0 v1' sz0 sz xs0 xs r3 r4 =>
     rw [hh] at r3
     rw [hh1] at r4
     simp at r3 r4
     obtain ⟨rfl,rfl⟩:=r3
     obtain ⟨rfl,rfl⟩:=r4
     exact ⟨.inr (.inl ⟨sz0,xs0,sz,xs,rfl,rfl⟩),.inr ⟨sz,xs,rfl⟩⟩
    | @map v0 kt0 kt ks0 ks vs0 vs r3 r4 =>
     rw [hh] at r3
     rw [hh1] at r4
     simp at r3 r4
     obtain ⟨rfl,rfl⟩:=r3
     obtain ⟨rfl,rfl⟩:=r4
     exact ⟨.inr (.inr ⟨kt0,ks0,vs0,kt,ks,vs,rfl,rfl⟩),.inl rfl⟩ }
  obtain ⟨hvr,hobj⟩:=hres hs _ A (fun x hx=>by rw [<- hhs]; exact List.mem_append_right _ hx) (fun x hx=>hq2 x (List.mem_append_right _ hx)) hcaph
  have hcells : ∀ (i : Nat) (id : Id) (v0 : Nat) (cs0 cs cs' us' : List VVal) (as_' : List (Id × Nat × Ob)) (j0 : Nat),h1 (.arg i 0) = some (0,.box cs) -> mapO (outArg h1) cs = some cs' -> inCL R h d j0 cs' = some (us',as_') -> (∀ x ∈ as_',x ∈ as_) ->
    (∀ v1 cs,h1 (.arg i 0) = some (v1,.box cs) -> ∀ x ∈ handCL d j0 cs,x ∈ handO h1 d 1000 0 R.length) ->
    us'.length = cs.length /\ (∀ (k : Nat) (v u : VVal) (c : Value),cs[k]? = some v -> us'[k]? = some u -> VRel G1 h1 w' v c -> VRel (afterG G G1 h1 R w.heap.size w'.heap.size hs) (h.upds (bs ++ (as_ ++ q.2))) w' u c) /\ ∀ x ∈ as_',OBRel (afterG G G1 h1 R w.heap.size w'.heap.size hs) (h.upds (bs ++ (as_ ++ q.2))) w' x.1 x.2.2:=by
   intro i id v0 cs0 cs cs' us' as_' j0 r4 r5 r6 r7 r8
   refine A.cells rfl r5 r6 (fun x hx=>by rw [<- hhs]; exact List.mem_append_left _ (r8 _ _ r4 x hx)) (fun x hx=>hq2 x (List.mem_append_left _ (r7 x hx))) fun k v hk=>?_
   obtain ⟨_,arr,t,_,hlen',_,hr'⟩:=hinv1 _ _ _ r4
   have hlt : k < arr.size:=by rw [<- hlen']; exact (lgs.1 hk).1
   exact ⟨arr[k],hr' k v _ hk (aggz hlt)⟩
  refine hK c w' _ A.step (A.inv ?_ (fun _ _ _ _ _ _=>rfl) fun p id hp v o' hh=>?_) hvr
  ·intro i id v1 cs1 hno hRi hh1 v2 o2' hh2
   obtain ⟨u,as_',j0,j1,r1,r2,r7,r8⟩:=hback i id hRi
   cases r1 with
   | @box v0 cs0 cs cs' us' as2 r3 r4 r5 r6 =>
    rw [hh1] at r4
    simp at r4
    obtain ⟨rfl,rfl⟩:=r4
    have h2id:=hb2 _ r2 hno
    simp only at h2id
    rw [hh2] at h2id
    simp at h2id
    obtain ⟨_,rfl⟩:=h2id
    obtain ⟨c1,c2,_⟩:=hcells i id v0 cs0 cs1 cs' us' _ j0 hh1 r5 r6 r7 r8
    exact ⟨us',rfl,c1,c2⟩
   | @arr v0 v1' sz0 sz xs0 xs r3 r4 =>
    rw [hh1] at r4
    simp at r4
   | @map v0 kt0 kt ks0 ks vs0 vs r3 r4 =>
    rw [hh1] at r4
    simp at r4
  ·obtain ⟨x,hx,e⟩:=lmm.1 ((hin id).2 ⟨p,hp⟩)
   have h1':=hq2 x hx
   rw [e,hh] at h1'
   simp at h1'
   have hall : OBRel (afterG G G1 h1 R w.heap.size w'.heap.size hs) (h.upds (bs ++ (as_ ++ q.2))) w' x.1 x.2.2:=by
    rcases lmp.1 hx with hx' | hx'
    ·obtain ⟨i,id',u,as_',j0,j1,r0,r1,r2,r7,r8⟩:=k3 x hx'
     cases r1 with
     | @box v0 cs0 cs cs' us' as2 r3 r4 r5 r6=>exact (hcells i id' v0 cs0 cs cs' us' _ j0 r4 r5 r6 r7 r8).2.2 x r2
     | arr=>simp at r2
     | map=>simp at r2
    ·exact hobj x hx'
   rw [e,<- h1'] at hall
   exact hall
 by_cases hone : ∃ v,vs = [v]
 ·obtain ⟨v,rfl⟩:=hone
  simp only [outsT] at houtT
  rcases outO_cases houtT with ⟨houtT,hnagg⟩ | ⟨cs,rs,rfl,houtW,rfl⟩ | ⟨i,ver,off,len,rfl,hal,rfl⟩
  case inr.inl =>
   simp only [inResW] at hq
   obtain ⟨q1,hq1,hq2⟩:=ob_eq hq
   simp only [osi] at hq2
   subst hq2
   refine main (handLW d 0 cs) _ (preLW houtW hq1) (by simpa [ownIds1] using handLW_fst cs 0) fun hs h2 A hsub hq2 hcp=>?_
   simp only [RetRel] at hret
   cases hret with
   | @agg _ arr hlen h1c hr =>
    obtain ⟨hl,hall⟩:=A.leavesW houtW hq1 hsub hq2 (fun q hq=>hcp q (by simpa [capIds1] using hq))
    refine ⟨.agg (by omega) h1c fun i u c hu hc=>?_,A.objsW houtW hq1 hsub fun i v hv=>?_⟩
    ·have hlt : i < cs.length:=by rw [<- hl]; exact (lgs.1 hu).1
     exact hall i cs[i] u c (lgg hlt) hu (hr i _ c (lgg hlt) hc)
    ·have hlt : i < arr.size:=by rw [<- hlen]; exact (lgs.1 hv).1
     exact ⟨arr[i],hr i v _ hv (aggz hlt)⟩
  case inr.inr =>
   replace hq : (ob R[i]? fun id=>ob (h id) fun o=>some (VVal.own id (o.1 + bump ver) off len,([] : List (Id × Nat × Ob)))) = some q:=by
    by_cases h0 : ver = 0
    ·rw [show bump ver = 0 by simp [bump,h0]]
     rw [if_pos h0] at hq
     exact hq
    ·rw [show bump ver = 1 by simp [bump,h0]]
     rw [if_neg h0] at hq
     exact hq
   obtain ⟨id,hid,hq1⟩:=ob_eq hq
   obtain ⟨o,ho,hq2⟩:=ob_eq hq1
   simp only [osi] at hq2
   subst hq2
   refine main [] 0 (Pre.nil ..) (List.nil_sublist _) fun hs h2 A _ _ _=>⟨?_,fun x hx=>by cases hx⟩
   simp only [RetRel] at hret
   exact A.ownArg hret hal hid ho
  rw [inResW_of (fun id ver off len e=>by rw [e] at houtT; exact out1_noown houtT) hnagg] at hq
  have hin1 : in1 R h d 0 res = some (q.1,q.2):=by
   cases res with
   | tup rs =>
    exact absurd houtT (out1_notup h1 v rs)
   | _=>exact hq
  refine main (hand1 h1 d 0 v) _ (pre1 houtT hin1) (by simpa using hand1_fst v 0) fun hs h2 A hsub hq2 hcp=>?_
  exact A.res1 hret houtT hin1 (fun e=>by cases e) hsub hq2 (fun q hq=>hcp q (by simpa using hq))
 ·have hT : outsT h1 vs = ob (mapO (out1 h1) vs) fun vs=>some (.tup vs):=by
   unfold outsT
   split
   .exact absurd ⟨_,rfl⟩ hone
   .rfl
  rw [hT] at houtT
  obtain ⟨rs,hrs,houtT1⟩:=ob_eq houtT
  simp at houtT1
  subst houtT1
  simp only [inResW,inRes] at hq
  obtain ⟨r,hr,hq1⟩:=ob_eq hq
  simp at hq1
  subst hq1
  have hret' : ∃ arr : Array Value,c = .tuple arr /\ vs.length = arr.size /\ ∀ (i : Nat) (v : VVal) (c : Value),vs[i]? = some v -> arr[i]? = some c -> VRel G1 h1 w' v c:=by
   unfold RetRel at hret
   split at hret
   .exact absurd ⟨_,rfl⟩ hone
   .exact hret
  obtain ⟨arr,rfl,ha1,ha2⟩:=hret'
  obtain ⟨hi',_,hpre⟩:=preT hrs hr
  refine main (handT h1 d 0 vs rs) hi' hpre (handT_fst vs rs 0) fun hs h2 A hsub hq2 hcp=>?_
  obtain ⟨b1,b2,b3⟩:=A.resT (cs:=arr.toList) (by simpa using ha1) (fun i v c hv hc=>ha2 i v c hv (by simpa using hc)) hrs hr (fun e=>by cases e) hsub hq2 hcp
  exact ⟨.tup (by simpa using b1) fun i u c hu hc=>b2 i u c hu (by simpa using hc),b3⟩
end
end
end Go.V
namespace Go.V
open Go.RowKit
section
variable [GK]
theorem row_splice0 {fz : Nat -> Prop} {w : World} {sz cap off : Nat} {xs zs : List PV} {arr N : Array Value} {news : List Value} (hlen : off + zs.length <= xs.length) (hxc : xs.length <= cap) (has : arr.size = cap * sz)
  (hcs : ∀ x ∈ xs,x.cells.length = sz) (hcell : ∀ (i : Nat) (x : PV) (j : Nat) (c : PV),xs[i]? = some x -> x.cells[j]? = some c -> ∃ v,arr[i * sz + j]? = some v /\ v.oneCell' = true /\ PRel fz w c v)
  (hnl : news.length = zs.length * sz) (hzcs : ∀ y ∈ zs,y.cells.length = sz) (hone : ∀ u ∈ news,u.oneCell' = true)
  (hzr : ∀ (i : Nat) (y : PV) (j : Nat) (c : PV),zs[i]? = some y -> y.cells[j]? = some c -> ∃ u,news[i * sz + j]? = some u /\ PRel fz w c u) (hN : N = (splice arr.toList (off * sz) news).toArray) :
  N.size = cap * sz /\ ∀ (i : Nat) (x : PV) (j : Nat) (c : PV),(splice xs off zs)[i]? = some x -> x.cells[j]? = some c -> ∃ v,N[i * sz + j]? = some v /\ v.oneCell' = true /\ PRel fz w c v:=by
 have hsp : off * sz + news.length <= arr.toList.length:=by
  have hal : arr.toList.length = arr.size:=by simp
  rw [hal,hnl,<- Nat.add_mul,has]
  exact Nat.mul_le_mul_right _ (by omega)
 have hNg : ∀ k : Nat,N[k]? = if off * sz <= k /\ k < off * sz + news.length then news[k - off * sz]? else arr[k]?:=fun k=>by
  rw [hN,List.getElem?_toArray,splice_get _ _ _ hsp,Array.getElem?_toList (xs:=arr)]
 refine ⟨by rw [hN,List.size_toArray,splice_length _ _ _ hsp,Array.length_toList,has],fun i x j c hx hj=>?_⟩
 rw [splice_get _ _ _ hlen] at hx
 by_cases hi : off <= i /\ i < off + zs.length
 ·rw [if_pos hi] at hx
  obtain ⟨u,e1,e2⟩:=hzr (i - off) x j c hx hj
  have hjlt : j < sz:=by rw [<- hzcs x (lmg hx)]; exact (lgs.1 hj).1
  have h3:=mul_add_lt (n:=zs.length) (show i - off < zs.length by omega) hjlt
  have he : i * sz + j = off * sz + ((i - off) * sz + j):=by
   rw [<- Nat.add_assoc,<- Nat.add_mul]
   congr 2
   omega
  refine ⟨u,?_,hone u (lmg e1),e2⟩
  rw [he,hNg,if_pos (by omega),<- e1]
  congr 1
  omega
 ·rw [if_neg hi] at hx
  obtain ⟨v,e1,e2,e3⟩:=hcell i x j c hx hj
  have hjlt : j < sz:=by rw [<- hcs x (lmg hx)]; exact (lgs.1 hj).1
  refine ⟨v,?_,e2,e3⟩
  rw [hNg,if_neg ?_]
  ·exact e1
  ·rw [hnl,<- Nat.add_mul]
   rintro ⟨h1,h2⟩
   apply hi
   constructor
   ·rcases Nat.lt_or_ge i off with h3 | h3
    ·have:=mul_add_lt (n:=off) h3 hjlt
     omega
    ·exact h3
   ·rcases Nat.lt_or_ge i (off + zs.length) with h3 | h3
    ·exact h3
    ·have:=Nat.mul_le_mul_right sz h3
     omega
theorem row_splice {fz : Nat -> Prop} {w : World} {sz cap off : Nat} {xs zs : List PV} {arr N : Array Value} {news : List Value} (hlen : off + zs.length <= xs.length) (hxc : xs.length <= cap) (has : arr.size = cap * sz)
  (hcs : ∀ x ∈ xs,x.cells.length = sz) (hcell : ∀ (i : Nat) (x : PV) (j : Nat) (c : PV),xs[i]? = some x -> x.cells[j]? = some c -> ∃ v,arr[i * sz + j]? = some v /\ v.oneCell' = true /\ PRel fz w c v)
  {ad : Option Addr} (hrow : RowOf fz w sz zs ad news) (hN : N = (splice arr.toList (off * sz) news).toArray) :
  N.size = cap * sz /\ ∀ (i : Nat) (x : PV) (j : Nat) (c : PV),(splice xs off zs)[i]? = some x -> x.cells[j]? = some c -> ∃ v,N[i * sz + j]? = some v /\ v.oneCell' = true /\ PRel fz w c v:=row_splice0 hlen hxc has hcs hcell hrow.len hrow.cs hrow.one hrow.rel hN
theorem RowOf.take {fz : Nat -> Prop} {w : World} {sz m : Nat} {ys : List PV} {ad : Option Addr} {news : List Value} (h : RowOf fz w sz ys ad news) (hm : m <= ys.length) : RowOf fz w sz (ys.take m) ad (news.take (m * sz)) where
 len:=by
  have:=Nat.mul_le_mul_right sz hm
  rw [llt,llt,h.len]
  rw [Nat.min_eq_left this,Nat.min_eq_left hm]
 cs:=fun y hy=>h.cs y (List.mem_of_mem_take hy)
 at_:=fun h0=>by
  have h0' : 0 < ys.length:=by rw [llt] at h0; omega
  obtain ⟨a,e1,e2⟩:=h.at_ h0'
  refine ⟨a,e1,fun j u hu=>e2 j u ?_⟩
  rw [List.getElem?_take] at hu
  split at hu
  ·exact hu
  ·cases hu
 one:=fun u hu=>h.one u (List.mem_of_mem_take hu)
 rel:=fun i y j c hy hj=>by
  rw [List.getElem?_take] at hy
  split at hy
  ·rename_i him
   obtain ⟨u,e1,e2⟩:=h.rel i y j c hy hj
   have hjlt : j < sz:=by rw [<- h.cs y (lmg hy)]; exact (lgs.1 hj).1
   exact ⟨u,by rw [List.getElem?_take_of_lt (mul_add_lt him hjlt)]; exact e1,e2⟩
  .cases hy
theorem zero_cells {fz : Nat -> Prop} {w : World} {zero : PV} {z : Value} (hrel : PRel fz w zero z) (j : Nat) (c : PV) (hj : zero.cells[j]? = some c) : ∃ v,z.cells[j]? = some v /\ v.oneCell' = true /\ PRel fz w c v:=by
 by_cases hagg : ∃ ds,zero = .agg ds
 ·obtain ⟨ds,rfl⟩:=hagg
  cases hrel with
  | @agg ds arr hl1 h1c hrr =>
   simp only [PV.cells,Value.cells] at hj ⊢
   have hlt : j < arr.size:=by rw [<- hl1]; exact (lgs.1 hj).1
   exact ⟨arr[j],aggz hlt,h1c j _ (aggz hlt),hrr j c _ hj (aggz hlt)⟩
 ·have hd : ∀ ds,zero ≠ .agg ds:=fun ds e=>hagg ⟨ds,e⟩
  have hone:=hrel.one hd
  have hpc : zero.cells = [zero]:=by cases zero <;> first | rfl | exact absurd rfl (hd _)
  have hvc : z.cells = #[z]:=by
   cases hrel <;> first | rfl | exact absurd rfl (hd _)
  rw [hpc] at hj
  cases j with
  | zero =>
   simp at hj
   subst hj
   exact ⟨z,by rw [hvc]; rfl,hone,hrel⟩
  | succ j=>simp at hj
theorem zero_one {fz : Nat -> Prop} {w : World} {zero : PV} {z : Value} (hrel : PRel fz w zero z) : ∀ v ∈ z.cells.toList,v.oneCell' = true:=fun v hv=>by
 by_cases hagg : ∃ ds,zero = .agg ds
 ·obtain ⟨ds,rfl⟩:=hagg
  cases hrel with
  | @agg ds arr hl1 h1c hrr =>
   simp only [Value.cells,Array.mem_toList_iff] at hv
   obtain ⟨j,hj⟩:=Array.getElem?_of_mem hv
   exact h1c j _ hj
 ·have hd : ∀ ds,zero ≠ .agg ds:=fun ds e=>hagg ⟨ds,e⟩
  have hone:=hrel.one hd
  have hvc : z.cells = #[z]:=by
   cases hrel <;> first | rfl | exact absurd rfl (hd _)
  rw [hvc] at hv
  simp at hv
  rw [hv]
  exact hone
section
variable {P : Program} {vs : List Nat} {n d : Nat} {G : Gh} {r : RS} {a : Act} {w : World} (hr : RRel vs n G r a w) (hi : HeapInv G r.h w) {o : Oper}
include hr hi
theorem op_copy {xs : Array Operand} {ts : Array TypeId} (ho : o.op = .call { callee:=.builtin .copy,args:=xs,argTypes:=ts }) {x y : Operand} {t t' e : TypeId} (hxs : xs.toList = [x,y]) (hts : ts.toList = [t,t']) {x' y' : VArg} (hx : okArg vs x x' = true) (hy : okArg vs y y' = true)
  (hu : P.underlying t = some (.slice e)) {i : TypeInfo} (hinf : P.info? e = some i) {id : Id} {ver off len : Nat} {v : VVal} {us ys : List PV} {sz' : Nat} (hl : r.look x' = some (.own id ver off len)) (hl' : r.look y' = some v) (hh : r.h id = some (ver,.arr i.size us))
  (hel : velems r.h v = some (sz',ys)) (hsz : sz' = i.size \/ ys = []) :
  OpWp P G r.h w a o (.p (.int .i64 (min len ys.length : Nat))) [(id,ver,.arr i.size (splice us off (ys.take (min len ys.length))))]:=by
 obtain rfl : xs = #[x,y]:=by rw [<- Array.toList_inj]; simpa using hxs
 obtain rfl : ts = #[t,t']:=by rw [<- Array.toList_inj]; simpa using hts
 have h1:=look_rel hr hx hl
 have h2:=look_rel hr hy hl'
 have hexec : ∀ c w',(Builtin.copy_ #[t,t'] o.type #[a.eval x,a.eval y]).run P w = .ok c w' -> (execOp a.eval o).run P w = .ok (.value c) w':=fun c w' h=>by
  simp [execOp,ho,resolve,invoke,builtin,h]
 generalize hcx : a.eval x = cx at h1 hexec
 generalize hcy : a.eval y = cy at h2 hexec
 cases h1 with
 | @own _ _ _ _ ad n' cap v' o' hn hcap hh' hle hoo =>
  rw [hh] at hh'
  simp at hh'
  obtain ⟨rfl,rfl⟩:=hh'
  subst hn
  obtain ⟨sz3,xs3,he,hin,hreal⟩:=hoo rfl
  simp at he
  obtain ⟨rfl,rfl⟩:=he
  obtain ⟨ady,capy,news,rfl,hrow0⟩:=elems_row hi h2 hel
  have hrow : RowOf (fun b=>G.kind b = .frozen) w i.size ys ady news:=by
   rcases hsz with rfl | hys
   ·exact hrow0
   ·subst hys
    have : news = []:=lez (by simpa using hrow0.len)
    subst this
    exact ⟨by simp,by simp,fun h=>by simp at h,by simp,fun i y j c h=>by simp at h⟩
  obtain ⟨hcs,hxm,hall⟩:=hi _ _ _ hh
  generalize hm : min n' ys.length = m
  have hmy : m <= ys.length:=by omega
  have hrow':=hrow.take hmy
  have hlenT : (ys.take m).length = m:=by simp; omega
  by_cases hm0 : m = 0
  ·subst hm0
   have hs : splice us off (ys.take 0) = us:=by simp [splice]
   rw [hs]
   have hupd : r.h.upd id (ver,.arr i.size us) = r.h:=by
    funext q
    by_cases hq : q = id
    ·subst hq; rw [upd_same,hh]
    ·rw [upd_other _ _ hq]
   have hrun : (Builtin.copy_ #[t,t'] o.type #[.slice ad n' cap,.slice ady ys.length capy]).run P w = .ok (goInt 0) w:=by
    have hmin : Nat.min ys.length n' = 0:=by rw [<- hm]; exact Nat.min_comm _ _
    cases ad <;> cases ady <;> simp [Builtin.copy_,run_underlying hu,Builtin.lenOf,Builtin.firstCells,sizeOf,typeInfo,hinf,hmin,storeCells,loadCells,loadCellsFrom]
   exact opWp_value (G':=G) (hexec _ _ hrun) (by simp only [VHeap.upds]; rw [hupd]; exact Step.refl _ _ _) (by simp only [VHeap.upds]; rw [hupd]; exact hi) (vrel_mkInt _ _)
  ·rcases hreal with ⟨h0,_⟩ | ⟨g1,g2,g3⟩
   ·omega
   ·have hmn : m <= n':=by omega
    have hmin : PLift (Nat.min ys.length n' = m):=⟨by rw [<- hm]; exact Nat.min_comm _ _⟩
    clear hm
    generalize ys.take m = zs at hrow' hlenT
    have hsp : off + zs.length <= us.length:=by rw [hlenT]; omega
    have hpos : 0 < zs.length:=by rw [hlenT]; omega
    have hadd:=g3 (by omega)
    subst hadd
    obtain ⟨hxc,arr,tt,hb,has,hcell⟩:=hall g1
    obtain ⟨ay,rfl,hay⟩:=hrow'.at_ hpos
    have hnl:=hrow'.len
    rw [hlenT] at hnl
    obtain ⟨q1,q2⟩:=row_splice (N:=(splice arr.toList (off * i.size) (news.take (m * i.size))).toArray) (cap:=G.cap id) hsp hxc has hcs hcell hrow' rfl
    generalize hN : (splice arr.toList (off * i.size) (news.take (m * i.size))).toArray = N at q1 q2
    have hfit : off * i.size + (news.take (m * i.size)).length <= arr.size:=by
     rw [hnl,<- Nat.add_mul,has]
     exact Nat.mul_le_mul_right _ (by rw [<- hlenT]; exact Nat.le_trans hsp hxc)
    have hf:=run_firstCells_some (P:=P) w i.size m ay ys.length capy (news.take (m * i.size)) hnl hay
    have hst:=run_storeCells_at P (G.blk id) (off * i.size) tt (news.take (m * i.size)) 0 arr w hb (by simpa using hfit) hrow'.one
    simp only [Nat.add_zero] at hst
    have hrun : (Builtin.copy_ #[t,t'] o.type #[.slice (some ⟨G.blk id,off * i.size,none⟩) n' cap,.slice (some ay) ys.length capy]).run P w = .ok (goInt m) (w.setRow (G.blk id) N):=by
     have hmin:=hmin.down
     rw [<- hN]
     simp [Builtin.copy_,run_underlying hu,Builtin.lenOf,sizeOf,typeInfo,hinf,hmin,hf,hst,splice]
    have hblk : ∀ b,b ≠ G.blk id -> (w.setRow (G.blk id) N).heap[b]? = w.heap[b]?:=fun b hb'=>setRow_other w _ _ _ hb'
    have hst2 : Step G r.h w G (r.h.upd id (ver,.arr i.size (splice us off zs))) (w.setRow (G.blk id) N) :=
     Step.write id hh g1 (by simp only [SameOb,true_and]; exact (splice_length _ _ _ hsp)) (by simp [World.setRow]) hblk rfl rfl rfl
    refine opWp_value (G':=G) (hexec _ _ hrun) hst2 (HeapInv.write hi id hst2 g1 hblk ⟨fun q hq=>?_,.inr g1,fun _=>⟨by rw [splice_length _ _ _ hsp]; exact hxc,N,tt,setRow_heap w _ _ _ _ _ hb,q1,fun k x j c hk hj=>?_⟩⟩) (vrel_mkInt _ _)
    ·obtain ⟨k,hk⟩:=lgm hq
     rw [splice_get _ _ _ hsp] at hk
     split at hk
     .exact hrow'.cs q (lmg hk)
     .exact hcs q (lmg hk)
    ·obtain ⟨u,e1,e2,e3⟩:=q2 k x j c hk hj
     exact ⟨u,e1,e2,e3.mono hst2.keeps hst2.size⟩
theorem op_clear {xs : Array Operand} {ts : Array TypeId} (ho : o.op = .call { callee:=.builtin .clear,args:=xs,argTypes:=ts }) {x : Operand} {t e : TypeId} (hxs : xs.toList = [x]) (hts : ts.toList = [t]) {x' : VArg} (hx : okArg vs x x' = true)
  (hu : P.underlying t = some (.slice e)) {i : TypeInfo} {z : Value} (hinf : P.info? e = some i) (hz : i.zero = some z) (hzs : z.cells.size = i.size) {zero : PV} (hz0 : okZeroPV z zero = true) (hzc : zero.cells.length = i.size)
  {id : Id} {ver off len : Nat} {us : List PV} (hl : r.look x' = some (.own id ver off len)) (hh : r.h id = some (ver,.arr i.size us)) :
  OpWp P G r.h w a o .dead [(id,ver,.arr i.size (splice us off (List.replicate len zero)))]:=by
 obtain rfl : xs = #[x]:=by rw [<- Array.toList_inj]; simpa using hxs
 obtain rfl : ts = #[t]:=by rw [<- Array.toList_inj]; simpa using hts
 have h1:=look_rel hr hx hl
 have hexec : ∀ c w',(Builtin.clear_ #[t] o.type #[a.eval x]).run P w = .ok c w' -> (execOp a.eval o).run P w = .ok (.value c) w':=fun c w' h=>by
  simp [execOp,ho,resolve,invoke,builtin,h]
 generalize hcx : a.eval x = cx at h1 hexec
 cases h1 with
 | @own _ _ _ _ ad n' cap v' o' hn hcap hh' hle hoo =>
  rw [hh] at hh'
  simp at hh'
  obtain ⟨rfl,rfl⟩:=hh'
  subst hn
  obtain ⟨sz3,xs3,he,hin,hreal⟩:=hoo rfl
  simp at he
  obtain ⟨rfl,rfl⟩:=he
  obtain ⟨hcs,hxm,hall⟩:=hi _ _ _ hh
  by_cases hm0 : n' = 0
  ·subst hm0
   have hs : splice us off (List.replicate 0 zero) = us:=by simp [splice]
   rw [hs]
   have hupd : r.h.upd id (ver,.arr i.size us) = r.h:=by
    funext q
    by_cases hq : q = id
    ·subst hq; rw [upd_same,hh]
    ·rw [upd_other _ _ hq]
   have hrun : (Builtin.clear_ #[t] o.type #[.slice ad 0 cap]).run P w = .ok (.tuple #[]) w:=by
    cases ad <;> simp [Builtin.clear_,run_underlying hu]
   exact opWp_value (G':=G) (hexec _ _ hrun) (by simp only [VHeap.upds]; rw [hupd]; exact Step.refl _ _ _) (by simp only [VHeap.upds]; rw [hupd]; exact hi) (.dead _)
  ·rcases hreal with ⟨h0,_⟩ | ⟨g1,g2,g3⟩
   ·omega
   ·have hadd:=g3 (by omega)
    subst hadd
    obtain ⟨hxc,arr,tt,hb,has,hcell⟩:=hall g1
    have hsp : off + (List.replicate n' zero).length <= us.length:=by rw [List.length_replicate]; omega
    have hrel : PRel (fun b=>G.kind b = .frozen) w zero z:=okZeroPV_rel hz0
    have hcells : ∀ (j : Nat) (c : PV),zero.cells[j]? = some c -> ∃ v,z.cells[j]? = some v /\ v.oneCell' = true /\ PRel (fun b=>G.kind b = .frozen) w c v:=zero_cells hrel
    have hzone : ∀ v ∈ z.cells.toList,v.oneCell' = true:=zero_one hrel
    obtain ⟨news,hnews⟩ : ∃ news,news = (Builtin.zeroCells z.cells n').toList:=⟨_,rfl⟩
    have hnl : news.length = n' * i.size:=by rw [hnews]; simp [size_zeroCells,hzs]
    have hget : ∀ k,k < n' * i.size -> news[k]? = z.cells[k % i.size]?:=fun k hk=>by
     have hp : k % i.size < z.cells.size:=by rw [hzs]; exact (div_lt_mul hk).2
     rw [hnews,Array.getElem?_toList,Builtin.zeroCells,Array.getElem?_map,Array.getElem?_range,if_pos (by rw [hzs]; exact hk)]
     simp only [Option.map_some,hzs]
     rw [Array.getElem!_eq_getD,agd,aggz hp]
     rfl
    have hone : ∀ u ∈ news,u.oneCell' = true:=fun u hu=>by
     obtain ⟨k,hk⟩:=lgm hu
     have hkl : k < n' * i.size:=by rw [<- hnl]; exact (lgs.1 hk).1
     rw [hget k hkl] at hk
     exact hzone u (by simpa using Array.mem_of_getElem? hk)
    have hzr : ∀ (q : Nat) (y : PV) (j : Nat) (c : PV),(List.replicate n' zero)[q]? = some y -> y.cells[j]? = some c -> ∃ u,news[q * i.size + j]? = some u /\ PRel (fun b=>G.kind b = .frozen) w c u:=fun q y j c hq hj=>by
     have hx0:=List.eq_of_mem_replicate (lmg hq)
     subst hx0
     have hqlt : q < n':=by have:=(lgs.1 hq).1; simpa using this
     have hjlt : j < i.size:=by rw [<- hzc]; exact (lgs.1 hj).1
     obtain ⟨u,e1,e2,e3⟩:=hcells j c hj
     refine ⟨u,?_,e3⟩
     rw [hget _ (mul_add_lt hqlt hjlt),(mul_add_div' (i:=q) hjlt).2,e1]
    obtain ⟨q1,q2⟩:=row_splice0 (N:=(splice arr.toList (off * i.size) news).toArray) (cap:=G.cap id) hsp hxc has hcs hcell (by rw [List.length_replicate]; exact hnl) (fun y hy=>by rw [List.eq_of_mem_replicate hy]; exact hzc) hone hzr rfl
    generalize hN : (splice arr.toList (off * i.size) news).toArray = N at q1 q2
    have hfit : off * i.size + news.length <= arr.size:=by
     rw [hnl,<- Nat.add_mul,has]
     exact Nat.mul_le_mul_right _ (by omega)
    have hst:=run_storeCells_at P (G.blk id) (off * i.size) tt news 0 arr w hb (by simpa using hfit) hone
    simp only [Nat.add_zero] at hst
    have hrun : (Builtin.clear_ #[t] o.type #[.slice (some ⟨G.blk id,off * i.size,none⟩) n' cap]).run P w = .ok (.tuple #[]) (w.setRow (G.blk id) N):=by
     rw [<- hN]
     cases n' with
     | zero=>exact absurd rfl hm0
     | succ m'=>simp [Builtin.clear_,run_underlying hu,zeroValue,typeInfo,hinf,hz,<- hnews,hst,splice]
    have hblk : ∀ b,b ≠ G.blk id -> (w.setRow (G.blk id) N).heap[b]? = w.heap[b]?:=fun b hb'=>setRow_other w _ _ _ hb'
    have hst2 : Step G r.h w G (r.h.upd id (ver,.arr i.size (splice us off (List.replicate n' zero)))) (w.setRow (G.blk id) N) :=
     Step.write id hh g1 (by simp only [SameOb,true_and]; exact (splice_length _ _ _ hsp)) (by simp [World.setRow]) hblk rfl rfl rfl
    refine opWp_value (G':=G) (hexec _ _ hrun) hst2 (HeapInv.write hi id hst2 g1 hblk ⟨fun q hq=>?_,.inr g1,fun _=>⟨by rw [splice_length _ _ _ hsp]; exact hxc,N,tt,setRow_heap w _ _ _ _ _ hb,q1,fun k x j c hk hj=>?_⟩⟩) (.dead _)
    ·obtain ⟨k,hk⟩:=lgm hq
     rw [splice_get _ _ _ hsp] at hk
     split at hk
     .rw [List.eq_of_mem_replicate (lmg hk)]; exact hzc
     .exact hcs q (lmg hk)
    ·obtain ⟨u,e1,e2,e3⟩:=q2 k x j c hk hj
     exact ⟨u,e1,e2,e3.mono hst2.keeps hst2.size⟩
theorem op_make {t e : TypeId} {x y : Operand} (ho : o.op = .makeSlice t x y) {x' : VArg} (hx : okArg vs x x' = true) (hy : okArg vs y x' = true) (hu : P.underlying t = some (.slice e)) {i : TypeInfo} {z : Value} (hinf : P.info? e = some i) (hz : i.zero = some z) (hzs : z.cells.size = i.size)
  {zero : PV} (hz0 : okZeroPV z zero = true) (hzc : zero.cells.length = i.size) {k : IntKind} {m : Int} (hl : r.look x' = some (.p (.int k m))) (h0 : 0 <= m) (hby : (i.bytes : Int) * m <= 281474976710656) (h63 : m <= 9223372036854775807) :
  OpWp P G r.h w a o (.own (.slot d 0) (nv (r.h (.slot d 0))) 0 m.toNat) [(.slot d 0,nv (r.h (.slot d 0)),.arr i.size (List.replicate m.toNat zero))]:=by
 have c1:=vrel_int (look_rel hr hx hl)
 have c2:=vrel_int (look_rel hr hy hl)
 have hrun:=run_make (P:=P) w t e i z hu hinf hz k k m m h0 (Int.le_refl _) hby h63
 have hexec : (execOp a.eval o).run P w = .ok (.value (.slice (some ⟨w.heap.size,0,none⟩) m.toNat m.toNat)) (w.alloc (.cells (madeCells z.cells (m.toNat * i.size)) e)):=by
  simp [execOp,ho,c1,c2,hrun]
 have hrel : PRel (fun b=>G.kind b = .frozen) w zero z:=okZeroPV_rel hz0
 have hcells : ∀ (j : Nat) (c : PV),zero.cells[j]? = some c -> ∃ v,z.cells[j]? = some v /\ v.oneCell' = true /\ PRel (fun b=>G.kind b = .frozen) w c v:=by
  intro j c hj
  by_cases hagg : ∃ ds,zero = .agg ds
  ·obtain ⟨ds,rfl⟩:=hagg
   cases hrel with
   | @agg ds arr hl1 h1c hrr =>
    simp only [PV.cells,Value.cells] at hj ⊢
    have hlt : j < arr.size:=by rw [<- hl1]; exact (lgs.1 hj).1
    exact ⟨arr[j],aggz hlt,h1c j _ (aggz hlt),hrr j c _ hj (aggz hlt)⟩
  ·have hd : ∀ ds,zero ≠ .agg ds:=fun ds e=>hagg ⟨ds,e⟩
   have hone:=hrel.one hd
   have hpc : zero.cells = [zero]:=by cases zero <;> first | rfl | exact absurd rfl (hd _)
   have hvc : z.cells = #[z]:=by
    cases hrel <;> first | rfl | exact absurd rfl (hd _)
   rw [hpc] at hj
   cases j with
   | zero =>
    simp at hj
    subst hj
    exact ⟨z,by rw [hvc]; rfl,hone,hrel⟩
   | succ j=>simp at hj
 obtain ⟨G',s1,i1,v1⟩:=new_arr (w':=w.alloc (.cells (madeCells z.cells (m.toNat * i.size)) e)) hi (.slot d 0) i.size (List.replicate m.toNat zero) m.toNat (arr:=madeCells z.cells (m.toNat * i.size)) (t:=e) (by simp) (fun b hb=>Below.heap_alloc w _ b hb) rfl rfl rfl (heap_alloc_new w _)
  (fun q hq=>by rw [List.eq_of_mem_replicate hq]; exact hzc) (by simp) (by simp [madeCells]) (fun q x j c hq hj=>by
   have hx0:=List.eq_of_mem_replicate (lmg hq)
   subst hx0
   have hqlt : q < m.toNat:=by have:=(lgs.1 hq).1; simpa using this
   have hjlt : j < i.size:=by rw [<- hzc]; exact (lgs.1 hj).1
   obtain ⟨u,e1,e2,e3⟩:=hcells j c hj
   refine ⟨u,?_,e2,e3⟩
   have h3:=mul_add_lt hqlt hjlt
   simp only [madeCells]
   rw [Array.getElem?_map,Array.getElem?_range,if_pos h3]
   simp only [Option.map_some,hzs,(mul_add_div' (i:=q) hjlt).2]
   rw [Array.getElem!_eq_getD,agd,e1]
   rfl)
 rw [List.length_replicate] at v1
 exact opWp_value (G':=G') hexec s1 i1 v1
end
end
end Go.V
namespace Go.V
open Go.RowKit Go.MapKept
section
variable [GK]
theorem kpos_sound {P : Program} {t : TypeId} {kt : KT} (hkt : ktIs P t kt = true) {k : MKey} {c : Value} (hc : MKey.val kt k = some c) {dsc : TypeDesc} (hd : P.underlying t = some dsc) :
  ∀ (es : List MapEntry) (ks : List MKey) (i0 : Nat),ks.length = es.length -> (∀ (i : Nat) (k : MKey) (e : MapEntry),ks[i]? = some k -> es[i]? = some e -> MKey.val kt k = some e.key) ->
   (Instr.findNow dsc c es i0 = some none /\ kpos ks k = es.length) \/ ∃ v,Instr.findNow dsc c es i0 = some (some (i0 + kpos ks k,v))
 | [], ks, i0, h1, _=>by
  have e1 : ks = []:=lez (by simpa using h1)
  subst e1
  exact .inl ⟨rfl,rfl⟩
 | e :: es,ks,i0,h1,h3=>by
  cases ks with
  | nil=>simp at h1
  | cons k0 ks =>
   have hk0:=h3 0 k0 e rfl rfl
   obtain ⟨dsc',hd',hkey⟩:=key_isKey hkt hc
   obtain ⟨dsc2,hd2,hkey0⟩:=key_isKey hkt hk0
   rw [hd] at hd' hd2
   simp at hd' hd2
   subst hd'
   subst hd2
   obtain ⟨rr,hsame,hiff⟩:=sameNow_of_keys hkey hkey0
   by_cases hkk : k = k0
   ·subst hkk
    rw [hc] at hk0
    simp at hk0
    have hrt : rr = true:=hiff.2 hk0
    subst hrt
    exact .inr ⟨e.val,by simp [Instr.findNow,hsame,kpos]⟩
   ·have hrf : rr = false:=by
     cases rr with
     | false=>rfl
     | true =>
      have:=hiff.1 rfl
      rw [<- this] at hk0
      exact absurd (val_inj hc hk0) hkk
    subst hrf
    rcases kpos_sound hkt hc hd es ks (i0 + 1) (by simpa using h1) (fun i k e hk he=>h3 (i + 1) k e (by simpa using hk) (by simpa using he)) with ⟨a1,a2⟩ | ⟨v,a1⟩
    .exact .inl ⟨by simp [Instr.findNow,hsame,a1],by simp [kpos,hkk,a2]⟩
    .exact .inr ⟨v,by simp [Instr.findNow,hsame,a1,kpos,hkk]; omega⟩
theorem flat_len' {sz : Nat} : ∀ (xs : List PV),(∀ x ∈ xs,x.cells.length = sz) -> (xs.flatMap PV.cells).length = xs.length * sz
 | [],_=>by simp
 | x :: xs,h=>by
  have ih:=flat_len' xs fun y hy=>h y (by simp [hy])
  have hx:=h x (by simp)
  rw [lfc,lla,ih,hx,llc,Nat.add_mul,Nat.one_mul,Nat.add_comm]
theorem flat_get {sz : Nat} (hsz : 0 < sz) : ∀ (xs : List PV),(∀ x ∈ xs,x.cells.length = sz) -> ∀ q,(xs.flatMap PV.cells)[q]? = (xs[q / sz]?).bind fun x=>x.cells[q % sz]?
 | [],_,q=>by simp
 | x :: xs,h,q=>by
  have hx:=h x (by simp)
  rw [lfc]
  by_cases hq : q < sz
  ·rw [List.getElem?_append_left (by omega),Nat.div_eq_of_lt hq,Nat.mod_eq_of_lt hq]
   rfl
  ·have ih:=flat_get hsz xs (fun y hy=>h y (by simp [hy])) (q - sz)
   rw [lgr (by omega),hx,ih]
   have e1 : q / sz = (q - sz) / sz + 1:=by rw [Nat.div_eq_sub_div hsz (by omega)]
   have e2 : q % sz = (q - sz) % sz:=Nat.mod_eq_sub_mod (by omega)
   rw [e1,e2,List.getElem?_cons_succ]
section
variable {P : Program} {vs : List Nat} {n : Nat} {G : Gh} {r : RS} {a : Act} {w : World} (hr : RRel vs n G r a w) (hi : HeapInv G r.h w) {o : Oper} (d : Nat)
include hr hi
theorem op_mapEntry {t key e : TypeId} {m k : Operand} (ho : o.op = .mapEntry t m k) {m' k' : VArg} (hm : okArg vs m m' = true) (hk : okArg vs k k' = true) (hu : P.underlying t = some (.map key e)) {kt : KT} (hkt : ktIs P key kt = true) {i : TypeInfo} {z : Value} (hinf : P.info? e = some i) (hz : i.zero = some z) {zero : PV} (hz0 : okZeroPV z zero = true)
  {id : Id} {ver : Nat} {kv : VVal} {ks : List MKey} {us : List PV} {kk : MKey} (hlm : r.look m' = some (.mref id ver)) (hlk : r.look k' = some kv) (hh : r.h id = some (ver,.map kt ks us)) (hmk : mkey kt kv = some kk) :
  OpWp P G r.h w a o (.tup [thaw ((mget ks us kk).getD zero),.p (.int .i64 (kpos ks kk))]) [(id,ver,.map kt (mput ks us kk ((mget ks us kk).getD zero)).1 (mput ks us kk ((mget ks us kk).getD zero)).2)]:=by
 have hkc:=mkey_val hmk (look_rel hr hk hlk)
 obtain ⟨dsc,hd,hkey⟩:=key_isKey hkt hkc
 have hce:=run_checkKey (P:=P) (w:=w) hd hkey false 9999
 simp only [rA] at hce
 have hzr : (zeroValue e).run P w = .ok z w:=by simp [zeroValue,typeInfo,hinf,hz]
 obtain ⟨hmine,es,clock,hb,⟨hk1,hkc1,hkb⟩,hk2,hk3,hk4⟩:=hi _ _ _ hh
 have hmv:=look_rel hr hm hlm
 have hc : a.eval m = .map (some (G.blk id)):=by
  generalize hcm : a.eval m = cm at hmv
  cases hmv with
  | mref hh' hle hoo =>
   rw [hh] at hh'
   simp at hh'
   rw [hoo hh'.1]
 have hget:=Go.MapKept.run_getObj_map (P:=P) hb
 have hlt : G.blk id < w.heap.size:=(ags.1 hb).1
 have hset : ∀ ob,(setObj (G.blk id) ob).run P w = .ok () { w with heap:=w.heap.setIfInBounds (G.blk id) ob }:=fun ob=>Go.MapKept.run_setObj_map (P:=P) ob hb
 have hfin : ∀ (es' : Array MapEntry) (clock' : Nat) (ks' : List MKey) (us' : List PV) (v : PV) (c : Value) (s : Nat),(execOp a.eval o).run P w = .ok (.value (.tuple #[c,.int .i64 s])) { w with heap:=w.heap.setIfInBounds (G.blk id) (.map es' clock') } -> (ks'.length = es'.size /\ clock' = es'.size /\ ∀ (i : Nat) (e : MapEntry),es'[i]? = some e -> e.born = i) -> us'.length = es'.size ->
   (∀ (i : Nat) (k : MKey) (e : MapEntry),ks'[i]? = some k -> es'[i]? = some e -> MKey.val kt k = some e.key) -> (∀ (i : Nat) (v : PV) (e : MapEntry),us'[i]? = some v -> es'[i]? = some e -> PRel (fun b=>G.kind b = .frozen) w v e.val) -> PRel (fun b=>G.kind b = .frozen) w v c ->
   OpWp P G r.h w a o (.tup [thaw v,.p (.int .i64 s)]) [(id,ver,.map kt ks' us')]:=by
  intro es' clock' ks' us' v c s hrun h1 h2 h3 h4 h5
  have hblk : ∀ b,b ≠ G.blk id -> ({ w with heap:=w.heap.setIfInBounds (G.blk id) (.map es' clock') } : World).heap[b]? = w.heap[b]?:=fun b hne=>by
   simp only [Array.getElem?_setIfInBounds]
   rw [if_neg (fun e=>hne e.symm)]
  have hst:=Step.write (G:=G) (h:=r.h) (w':={ w with heap:=w.heap.setIfInBounds (G.blk id) (.map es' clock') }) id (o':=.map kt ks' us') hh hmine (by simp [SameOb]) (by simp) hblk rfl rfl rfl
  refine opWp_value (G':=G) hrun hst (HeapInv.write hi id hst hmine hblk ⟨hmine,es',clock',?_,h1,h2,h3,fun i v e hv he=>(h4 i v e hv he).mono hst.keeps hst.size⟩) ?_
  ·simp [hlt]
  ·refine .tup rfl fun i u x hu hx=>?_
   match i with
   | 0=>simp at hu hx; subst hu; subst hx; exact thaw_rel (h5.mono hst.keeps hst.size)
   | 1=>simp at hu hx; subst hu; subst hx; exact vrel_mkInt _ _
   | i + 2=>simp at hu
 have hpos:=kpos_sound hkt hkc hd es.toList ks 0 (by simpa using hk1) (fun i k e h1 h2=>hk3 i k e h1 (by simpa using h2))
 rcases mget_sound (fz:=fun b=>G.kind b = .frozen) (w:=w) hkt hkc hd es.toList ks us 0 (by simpa using hk1) (by simpa using hk2) (fun i k e h1 h2=>hk3 i k e h1 (by simpa using h2)) (fun i v e hv he=>hk4 i v e hv (by simpa using he)) with ⟨a1,a2,a3⟩ | ⟨j,e',v,a1,a2,a3,a4,a5,a6⟩
 ·have hff:=run_findKey (P:=P) (w:=w) hd a2
  have hkp : kpos ks kk = es.size:=by
   rcases hpos with ⟨_,h⟩ | ⟨v,h⟩
   ·simpa using h
   ·rw [a2] at h
    simp at h
  rw [a3,a1,hkp]
  refine hfin (es.push { key:=a.eval k,val:=z,born:=clock }) (clock + 1) _ _ zero z es.size ?_ ⟨by simp [hk1],by simp [hkc1],fun i e0 h2=>?_⟩ (by simp [hk2]) (fun i k0 e0 h1 h2=>?_) (fun i v0 e0 h1 h2=>?_) (okZeroPV_rel hz0)
  ·simp [execOp,ho,Instr.mapEntry,run_underlying hu,hc,hget,hce,hff,hset,hzr,goInt,hkc1]
  ·rw [Array.getElem?_push] at h2
   by_cases hie : i = es.size
   ·rw [if_pos hie] at h2
    simp at h2
    subst h2
    show clock = i
    omega
   ·rw [if_neg hie] at h2
    exact hkb i e0 h2
  ·rw [Array.getElem?_push] at h2
   by_cases hie : i = es.size
   ·rw [if_pos hie] at h2
    simp at h2
    subst h2
    rw [lgr (by omega)] at h1
    have : i - ks.length = 0:=by omega
    rw [this] at h1
    simp at h1
    subst h1
    exact hkc
   ·rw [if_neg hie] at h2
    have:=(ags.1 h2).1
    rw [List.getElem?_append_left (by omega)] at h1
    exact hk3 i k0 e0 h1 h2
  ·rw [Array.getElem?_push] at h2
   by_cases hie : i = es.size
   ·rw [if_pos hie] at h2
    simp at h2
    subst h2
    rw [lgr (by omega)] at h1
    have : i - us.length = 0:=by omega
    rw [this] at h1
    simp at h1
    subst h1
    exact okZeroPV_rel hz0
   ·rw [if_neg hie] at h2
    have:=(ags.1 h2).1
    rw [List.getElem?_append_left (by omega)] at h1
    exact hk4 i v0 e0 h1 h2
 ·have hff:=run_findKey (P:=P) (w:=w) hd a2
  have hkp : kpos ks kk = j:=by
   rcases hpos with ⟨h,_⟩ | ⟨v,h⟩
   ·rw [a2] at h
    simp at h
   ·rw [a2] at h
    simp at h
    exact h.1.symm
  rw [a6,a1,hkp]
  simp only [Nat.zero_add] at hff
  have hje : es[j]? = some e':=by simpa using a3
  have hjb:=hkb j e' hje
  have hstay : (Instr.keyThatStays e'.key (a.eval k)).run P w = .ok (a.eval k) w:=by
   simp only [a4,Instr.keyThatStays]
   have hsb : Instr.sameBits 10000 (a.eval k) (a.eval k) = true:=by
    obtain ⟨_,_,_⟩:=ktIs_underlying hkt
    revert hkc
    cases kt <;> cases kk <;> simp [MKey.val] <;> (intro h; rw [<- h]; simp [Instr.sameBits,beq_toListBytes])
   simp [hsb]
  refine hfin (es.modify j fun e=>{ e with key:=a.eval k }) clock _ _ v e'.val j ?_ ⟨by simp [hk1],by simp [hkc1],fun i e0 h2=>?_⟩ (by simp [hk2]) (fun i k0 e0 h1 h2=>?_) (fun i v0 e0 h1 h2=>?_) a5
  ·simp [execOp,ho,Instr.mapEntry,run_underlying hu,hc,hget,hce,hff,hje,hstay,hset,goInt,hjb]
  ·rw [Array.getElem?_modify] at h2
   by_cases hij : j = i
   ·subst hij
    rw [if_pos rfl,hje] at h2
    simp at h2
    subst h2
    exact hjb
   ·rw [if_neg hij] at h2
    exact hkb i e0 h2
  ·rw [Array.getElem?_modify] at h2
   by_cases hij : j = i
   ·subst hij
    rw [if_pos rfl,hje] at h2
    simp at h2
    subst h2
    have:=hk3 j k0 e' h1 hje
    rw [a4] at this
    exact this
   ·rw [if_neg hij] at h2
    exact hk3 i k0 e0 h1 h2
  ·rw [Array.getElem?_modify] at h2
   rw [Option.getD_some,List.getElem?_set] at h1
   by_cases hij : j = i
   ·subst hij
    rw [if_pos rfl,hje] at h2
    simp at h2
    subst h2
    have hjl:=(ags.1 hje).1
    rw [if_pos rfl,if_pos (by omega)] at h1
    simp at h1
    subst h1
    exact a5
   ·rw [if_neg hij] at h2
    rw [if_neg hij] at h1
    exact hk4 i v0 e0 h1 h2
theorem op_entryStore {t : TypeId} {m s x : Operand} (ho : o.op = .entryStore t m s x) {m' s' x' : VArg} (hm : okArg vs m m' = true) (hs : okArg vs s s' = true) (hx : okArg vs x x' = true) {kt : KT}
  {id : Id} {ver : Nat} {xv : VVal} {ks : List MKey} {us : List PV} {q : Int} {xx : PV} (hlm : r.look m' = some (.mref id ver)) (hls : r.look s' = some (.p (.int .i64 q))) (hlx : r.look x' = some xv) (hh : r.h id = some (ver,.map kt ks us)) (hq0 : 0 <= q) (hq1 : q.toNat < us.length) (hfx : freezeP xv = some xx) :
  OpWp P G r.h w a o .undef [(id,ver,.map kt ks (us.set q.toNat xx))]:=by
 obtain ⟨hmine,es,clock,hb,⟨hk1,hkc1,hkb⟩,hk2,hk3,hk4⟩:=hi _ _ _ hh
 have hmv:=look_rel hr hm hlm
 have hc : a.eval m = .map (some (G.blk id)):=by
  generalize hcm : a.eval m = cm at hmv
  cases hmv with
  | mref hh' hle hoo =>
   rw [hh] at hh'
   simp at hh'
   rw [hoo hh'.1]
 have hsv:=vrel_int (look_rel hr hs hls)
 have hxp:=(freeze_rel (look_rel hr hx hlx) hfx).2.2
 have hget:=Go.MapKept.run_getObj_map (P:=P) hb
 have hlt : G.blk id < w.heap.size:=(ags.1 hb).1
 have hset : ∀ ob,(setObj (G.blk id) ob).run P w = .ok () { w with heap:=w.heap.setIfInBounds (G.blk id) ob }:=fun ob=>Go.MapKept.run_setObj_map (P:=P) ob hb
 have hidx : es.findIdx? (fun e=>((e.born : Int) == q)) = some q.toNat:=by
  rw [Array.findIdx?_eq_some_iff_getElem]
  refine ⟨by omega,?_,fun j hj=>?_⟩
  ·have:=hkb q.toNat _ (aggz (by omega))
   rw [this]
   simp
   omega
  ·have:=hkb j _ (aggz (by omega))
   rw [this]
   simp
   omega
 have hblk : ∀ b,b ≠ G.blk id -> ({ w with heap:=w.heap.setIfInBounds (G.blk id) (.map (es.modify q.toNat fun e=>{ e with val:=a.eval x }) clock) } : World).heap[b]? = w.heap[b]?:=fun b hne=>by
  simp only [Array.getElem?_setIfInBounds]
  rw [if_neg (fun e=>hne e.symm)]
 have hst:=Step.write (G:=G) (h:=r.h) (w':={ w with heap:=w.heap.setIfInBounds (G.blk id) (.map (es.modify q.toNat fun e=>{ e with val:=a.eval x }) clock) }) id (o':=.map kt ks (us.set q.toNat xx)) hh hmine (by simp [SameOb]) (by simp) hblk rfl rfl rfl
 refine opWp_skip (G':=G) (w':={ w with heap:=w.heap.setIfInBounds (G.blk id) (.map (es.modify q.toNat fun e=>{ e with val:=a.eval x }) clock) }) ?_ hst (HeapInv.write hi id hst hmine hblk ⟨hmine,es.modify q.toNat fun e=>{ e with val:=a.eval x },clock,by simp [hlt],⟨by simp [hk1],by simp [hkc1],fun i e0 h2=>?_⟩,by simp [hk2],fun i k0 e0 h1 h2=>?_,fun i v0 e0 h1 h2=>?_⟩)
 ·simp [execOp,ho,Instr.entryStore,hc,hget,hsv,asInt,asIntOf,hidx,hset]
 ·rw [Array.getElem?_modify] at h2
  by_cases hij : q.toNat = i
  ·rw [if_pos hij,Option.map_eq_some_iff] at h2
   obtain ⟨e1,he1,rfl⟩:=h2
   exact hkb i e1 he1
  ·rw [if_neg hij] at h2
   exact hkb i e0 h2
 ·rw [Array.getElem?_modify] at h2
  by_cases hij : q.toNat = i
  ·rw [if_pos hij,Option.map_eq_some_iff] at h2
   obtain ⟨e1,he1,rfl⟩:=h2
   exact hk3 i k0 e1 h1 he1
  ·rw [if_neg hij] at h2
   exact hk3 i k0 e0 h1 h2
 ·rw [Array.getElem?_modify] at h2
  rw [List.getElem?_set] at h1
  by_cases hij : q.toNat = i
  ·rw [if_pos hij,Option.map_eq_some_iff] at h2
   obtain ⟨e1,he1,rfl⟩:=h2
   rw [if_pos hij,if_pos (by omega)] at h1
   simp at h1
   subst h1
   exact hxp.mono hst.keeps hst.size
  ·rw [if_neg hij] at h2
   rw [if_neg hij] at h1
   exact (hk4 i v0 e0 h1 h2).mono hst.keeps hst.size
theorem op_indexArr {t e : TypeId} {len : Nat} {x ix : Operand} (ho : o.op = .index t x ix) {y z : VArg} (hx : okArg vs x y = true) (hz : okArg vs ix z = true) (hu : P.underlying t = some (.array len e)) {sz : Nat} (hsz : szIs P e sz = true)
  {agg : Option Nat} (hagg : aggIs P e agg = true) {cs : List VVal} {q : IntKind} {k : Int} {v : VVal} (hl : r.look y = some (.agg cs)) (hlz : r.look z = some (.p (.int q k))) (h0 : 0 <= k) (h1 : k < len) (hv : ofCells agg cs (k.toNat * sz) = some v) : OpWp P G r.h w a o v []:=by
 have hv1:=look_rel hr hx hl
 have hzv:=vrel_int (look_rel hr hz hlz)
 have hrange : 0 <= k /\ k < (len : Int):=⟨h0,h1⟩
 generalize hcp : a.eval x = cp at hv1
 cases hv1 with
 | @agg _ arr hlen hone hrel =>
  cases agg with
  | none =>
   simp only [ofCells] at hv
   simp only [aggIs,beq_iff_eq] at hagg
   have hlt : k.toNat * sz < arr.size:=by rw [<- hlen]; exact (lgs.1 hv).1
   have hg : arr[k.toNat * sz]? = some arr[k.toNat * sz]:=aggz hlt
   refine opWp_silent (c:=arr[k.toNat * sz]) ?_ hi (hrel _ _ _ hv hg)
   simp [execOp,ho,Instr.index,run_underlying hu,hcp,hzv,asIntOf,Go.part,run_isAgg hagg,run_sizeOf hsz,hg,h0,h1]
  | some m =>
   simp only [ofCells] at hv
   obtain ⟨hle,hv⟩:=gd_eq hv
   simp at hv
   subst hv
   simp only [aggIs,bat,beq_iff_eq] at hagg
   have hmz : m = sz:=by
    have h2:=hagg.2
    simp only [szIs] at hsz h2
    split at hsz
    ·rename_i i hi'
     rw [hi'] at h2
     simp at hsz h2
     omega
    .cases hsz
   subst hmz
   refine opWp_silent (c:=.agg (arr.extract (k.toNat * m) (k.toNat * m + m))) ?_ hi (.agg ?_ ?_ ?_)
   ·simp [execOp,ho,Instr.index,run_underlying hu,hcp,hzv,asIntOf,Go.part,run_isAgg hagg.1,run_sizeOf hagg.2,h0,h1]
   ·simp; omega
   ·intro i c hc
    rw [Array.getElem?_extract] at hc
    split at hc
    .exact hone _ _ hc
    .cases hc
   ·intro i u c hu' hc
    rw [Array.getElem?_extract] at hc
    rw [List.getElem?_take] at hu'
    split at hu' <;> try (cases hu'; done)
    rw [List.getElem?_drop] at hu'
    split at hc
    .exact hrel _ _ _ hu' hc
    .cases hc
theorem op_buildArr {t e : TypeId} {len : Nat} {ps : Array (Nat × Operand)} (ho : o.op = .build t ps) {sz : Nat} {as_ : List VArg} (hal : as_.length = len) (hok : okParts vs 0 ps.toList as_ = true)
  (hu : P.underlying t = some (.array len e)) (hse : szIs P e sz = true) {i : TypeInfo} {z : Value} (hinf : P.info? t = some i) (hz : i.zero = some z) (hzs : z.cells.size = len * sz) {xs : List PV}
  (hx : mapO (fun x=>ob (r.look x) fun v=>freezeP v) as_ = some xs) (hall : xs.all (fun x=>decide (x.cells.length = sz)) = true) : OpWp P G r.h w a o (.agg ((xs.flatMap PV.cells).map .p)) []:=by
 obtain ⟨hl1,hp1⟩:=okParts_get hok
 obtain ⟨hxl,hxg⟩:=mapO_get hx
 have hcs : ∀ x ∈ xs,x.cells.length = sz:=fun x hx=>by simpa using List.all_eq_true.1 hall x hx
 have hel : ∀ (q : Nat) (p : Nat × Operand),ps.toList[q]? = some p -> ∃ x v,xs[q]? = some x /\ VRel G r.h w v (a.eval p.2) /\ freezeP v = some x:=fun q p hq=>by
  have hqlt : q < ps.toList.length:=(lgs.1 hq).1
  obtain ⟨y,hy,hf⟩:=hxg q (xs[q]'(by omega)) (lgg (by omega))
  obtain ⟨v,hv,hf2⟩:=ob_eq hf
  exact ⟨_,v,lgg (by omega),look_rel hr (hp1 q p y hq hy) hv,hf2⟩
 have hsizes : ∀ p ∈ ps.toList,(a.eval p.2).cells.size = sz:=fun p hp=>by
  obtain ⟨q,hq,rfl⟩:=List.getElem_of_mem hp
  obtain ⟨x,v,h1,h2,h3⟩:=hel q _ (lgg hq)
  rw [<- (freeze_rel h2 h3).1]
  exact hcs x (lmg h1)
 obtain ⟨cells',f1,f2,f3,f4⟩:=fillS_sound (a:=a) (len:=len) (sz:=sz) ps.toList as_ 0 z.cells hok hsizes (by omega) hzs
 have hszr:=run_sizeOf (P:=P) hse w
 have hxs : xs.length = len:=by omega
 have hps : ps.toList.length = len:=by omega
 have key : ∀ q,q < len * sz -> ∃ dd u,(xs.flatMap PV.cells)[q]? = some dd /\ cells'[q]? = some u /\ u.oneCell' = true /\ PRel (fun b=>G.kind b = .frozen) w dd u:=fun q hq=>by
  have hsz0 : 0 < sz:=by
   rcases Nat.eq_zero_or_pos sz with h | h
   .subst h; simp at hq
   .exact h
  have hdiv : q / sz < len:=Nat.div_lt_of_lt_mul (by rw [Nat.mul_comm]; exact hq)
  have hmod : q % sz < sz:=Nat.mod_lt _ hsz0
  have hqe : q = q / sz * sz + q % sz:=by rw [Nat.mul_comm]; exact (Nat.div_add_mod q sz).symm
  have hp : ps.toList[q / sz]? = some (ps.toList[q / sz]'(by omega)):=lgg (by omega)
  obtain ⟨x,v,h1,h2,h3⟩:=hel (q / sz) _ hp
  have hxc:=hcs x (lmg h1)
  have hj : x.cells[q % sz]? = some (x.cells[q % sz]'(by omega)):=lgg (by omega)
  obtain ⟨u,e1,e2,e3⟩:=(freeze_rel h2 h3).2.1 (q % sz) _ hj
  have h4:=f4 (q / sz) _ (q % sz) hp hmod
  rw [Nat.zero_add,<- hqe,e1] at h4
  exact ⟨_,u,by rw [flat_get hsz0 xs hcs q,h1]; exact hj,h4,e2,e3⟩
 have hfl : (xs.flatMap PV.cells).length = len * sz:=by rw [flat_len' xs hcs,hxs]
 refine opWp_silent (c:=.agg cells') ?_ hi (.agg (by rw [llm,hfl,f2,hzs]) (fun q c hc=>?_) (fun q u c hu' hc=>?_))
 ·simp only [Nat.zero_add] at f1
  have f1' : Instr.fill (fun k=>some (k * sz,sz)) z.cells (ps.map fun (i,x)=>(i,a.eval x)).toList = some cells':=by rw [Array.toList_map]; exact f1
  simp at f1'
  simp [execOp,ho,Instr.build,run_underlying hu,hszr,zeroValue,typeInfo,hinf,hz,f1']
 ·obtain ⟨dd,u,h1,h2,h3,h4⟩:=key q (by rw [<- hzs,<- f2]; exact (ags.1 hc).1)
  rw [hc] at h2
  simp at h2
  subst h2
  exact h3
 ·obtain ⟨dd,u0,h1,h2,h3,h4⟩:=key q (by rw [<- hzs,<- f2]; exact (ags.1 hc).1)
  rw [hc] at h2
  simp at h2
  subst h2
  rw [List.getElem?_map,h1] at hu'
  simp at hu'
  subst hu'
  exact .p h4 h3
end
end
end Go.V
namespace Go.V
open Go.RowKit
section
variable [GK]
section
variable {P : Program} {vs : List Nat} {n : Nat} {G : Gh} {r : RS} {a : Act} {w : World} (hr : RRel vs n G r a w) (hi : HeapInv G r.h w) {o : Oper} (d : Nat)
include hr hi
theorem op_range {t : TypeId} {x : Operand} (ho : o.op = .range t x) {y : VArg} (hx : okArg vs x y = true) (hu : P.underlying t = some .string) {s : ByteArray} (hl : r.look y = some (.p (.str s))) :
  OpWp P G r.h w a o (.ptr (.slot d 0) (nv (r.h (.slot d 0))) 0) [(.slot d 0,nv (r.h (.slot d 0)),.iter s 0)]:=by
 have hv:=look_rel hr hx hl
 have hc : a.eval x = .string s:=by
  generalize a.eval x = c at hv
  cases hv with
  | p hp _=>cases hp; rfl
 have hblk : ∀ b,b < w.heap.size -> (w.alloc (.stringIter s 0)).heap[b]? = w.heap[b]?:=fun b hb=>Below.heap_alloc w _ b hb
 have hst:=Step.newOb (G:=G) hi (.slot d 0) (.mine (.slot d 0)) 0 (.iter s 0) (w':=w.alloc (.stringIter s 0)) (by simp) hblk rfl rfl rfl
 refine opWp_value (c:=.pointer (some ⟨w.heap.size,0,none⟩)) (w':=w.alloc (.stringIter s 0)) ?_ hst (HeapInv.newOb hi (.slot d 0) (.mine (.slot d 0)) 0 (.iter s 0) (by simp) hblk rfl rfl rfl (.inr rfl) ⟨by simp [Gh.set],?_⟩) (.ptr (upd_same _ _ _) (lrf _) fun _=>by simp [Gh.set])
 ·have:=run_range_string (P:=P) w t s hu
  simp [execOp,ho,hc,this,World.iter]
 ·simp only [Gh.set,if_true]
  exact heap_alloc_new w _
omit d in
theorem op_next {x : Operand} (ho : o.op = .next x true) {y : VArg} (hx : okArg vs x y = true) {p : VVal} (hl : r.look y = some p) {q : VVal × List (Id × Nat × Ob)} (he : vnext r.h p = some q) : OpWp P G r.h w a o q.1 q.2:=by
 have hv:=look_rel hr hx hl
 unfold vnext at he
 split at he
 ·rename_i id ver
  split at he
  ·rename_i v s pos hh
   obtain ⟨rfl,he1⟩:=gd_eq he
   obtain ⟨hm,hb⟩:=hi _ _ _ hh
   have hc : a.eval x = .pointer (some ⟨G.blk id,0,none⟩):=by
    generalize a.eval x = c at hv
    cases hv with
    | ptr hh' hle hoo =>
     rw [hh] at hh'
     simp only [osi,pmi] at hh'
     rw [hoo hh'.1]
   have hlt : G.blk id < w.heap.size:=(ags.1 hb).1
   by_cases hp : pos < s.size
   ·have hc0 : s[pos]? = some s[pos]:=by simp [hp]
    rw [hc0] at he1
    simp only at he1
    obtain ⟨ha,he2⟩:=gd_eq he1
    simp only [osi] at he2
    subst he2
    have hdec:=decode_ascii s pos hp ha
    have hblk : ∀ b,b ≠ G.blk id -> ({ w with heap:=w.heap.setIfInBounds (G.blk id) (.stringIter s (pos + 1)) } : World).heap[b]? = w.heap[b]?:=fun b hne=>by
     simp only [Array.getElem?_setIfInBounds]
     rw [if_neg (fun e=>hne e.symm)]
    have hst:=Step.write (G:=G) (h:=r.h) (w':={ w with heap:=w.heap.setIfInBounds (G.blk id) (.stringIter s (pos + 1)) }) id (o':=.iter s (pos + 1)) hh hm (by simp [SameOb]) (by simp) hblk rfl rfl rfl
    refine opWp_value (G':=G) (c:=.tuple #[.bool true,.int .i64 pos,.int .i32 s[pos].toNat]) ?_ hst (HeapInv.write hi id hst hm hblk ⟨hm,by simp [hlt]⟩) (.tup rfl fun i v c hv hc=>?_)
    ·have hb' : w.heap[G.blk id] = .stringIter s pos:=(ags.1 hb).2
     simp [execOp,ho,hc,Instr.next,getObj,setObj,Sem.run,hb',hp,hdec,goInt,Result.andThen,hlt]
    ·rcases i with _ | _ | _ | i
     ·simp at hv hc
      subst hv hc
      exact .p (.bool _) rfl
     ·simp at hv hc
      subst hv hc
      exact .p (.int _ _) rfl
     ·simp at hv hc
      subst hv hc
      exact .p (.int _ _) rfl
     ·simp at hv
   ·have hc0 : s[pos]? = none:=by simp [hp]
    rw [hc0] at he1
    simp only [osi] at he1
    subst he1
    refine opWp_silent (c:=.tuple #[.bool false]) ?_ hi (.tup rfl fun i v c hv hc=>?_)
    ·have hb' : w.heap[G.blk id] = .stringIter s pos:=(ags.1 hb).2
     simp [execOp,ho,hc,Instr.next,getObj,Sem.run,hb',hp,hlt,Result.andThen]
    ·rcases i with _ | i
     ·simp at hv hc
      subst hv hc
      exact .p (.bool _) rfl
     .simp at hv
  .cases he
 .cases he
end
end
end Go.V
namespace Go.V
open Go.RowKit
section
variable [GK]
theorem okApp_eq {P : Program} {ts : Array TypeId} {sz bytes : Nat} (h : okOp.okApp P ts sz bytes = true) : ∃ t e i z,ts.toList = [t,t] /\ P.underlying t = some (.slice e) /\ P.info? e = some i /\ i.size = sz /\ i.bytes = bytes /\ i.zero = some z /\ z.cells.size = i.size:=by
 unfold okOp.okApp at h
 split at h <;> try (cases h; done)
 rename_i t t' hts
 simp only [bat,beq_iff_eq] at h
 obtain ⟨rfl,h⟩:=h
 split at h <;> try (cases h; done)
 rename_i e hu
 split at h <;> try (cases h; done)
 rename_i i hi
 split at h <;> try (simp at h; done)
 rename_i z hz
 simp at h
 exact ⟨t,e,i,z,hts,hu,hi,h.1.1.1,h.1.1.2,hz,by omega⟩
theorem okArgs_one {vs : List Nat} {xs : List Operand} {y : VArg} (h : okArgs vs xs [y] = true) : ∃ x,xs = [x] /\ okArg vs x y = true:=by
 match xs,h with
 | [x],h=>simp [okArgs] at h; exact ⟨x,rfl,h⟩
 | [],h=>simp [okArgs] at h
 | _ :: _ :: _,h=>simp [okArgs] at h
theorem okArgs_two {vs : List Nat} {xs : List Operand} {y z : VArg} (h : okArgs vs xs [y,z] = true) : ∃ x x',xs = [x,x'] /\ okArg vs x y = true /\ okArg vs x' z = true:=by
 match xs,h with
 | [x,x'],h=>simp [okArgs] at h; exact ⟨x,x',rfl,h.1,h.2⟩
 | [],h=>simp [okArgs] at h
 | [_],h=>simp [okArgs] at h
 | _ :: _ :: _ :: _,h=>simp [okArgs] at h
theorem run_callFunc {P : Program} {f : FuncId} (h : hasBody P f = true) (args : Array Value) (w : World) : (callFunc f args).run P w = .ok (.enter f args) w:=by
 unfold hasBody at h
 cases hf : P.funcs[f]? with
 | none=>simp [hf] at h
 | some fn =>
  simp [hf] at h
  obtain ⟨h1,h2⟩:=h
  obtain ⟨b,hb⟩:=Option.isSome_iff_exists.1 h1
  simp [callFunc,hf,h2,hb]
theorem upds_same {h : VHeap} : ∀ (us : List (Id × Nat × Ob)),stillC h us = true -> h.upds us = h
 | [],_=>rfl
 | (i,n,o) :: us,hs=>by
  rw [stillC_cons] at hs
  have e : VHeap.upd h i (n,o) = h:=by
   funext t
   unfold VHeap.upd
   split
   ·rename_i ht
    rw [ht,hs.1]
   .rfl
  show (VHeap.upd h i (n,o)).upds us = h
  rw [e]
  exact upds_same us hs.2
theorem upds_old {h : VHeap} {d : Nat} : ∀ (us : List (Id × Nat × Ob)) (h' : VHeap),(∀ i : Id,i.at d = false -> h' i = h i) -> stillC h (oldU d us) = true -> h'.upds us = h'.upds (newU d us)
 | [],_,_,_=>rfl
 | (i,n,o) :: us,h',ha,hs=>by
  unfold newU
  unfold oldU at hs
  cases hi : Id.at i d with
  | true =>
   simp only [hi,if_true] at hs ⊢
   refine upds_old us (VHeap.upd h' i (n,o)) (fun j hj=>?_) hs
   unfold VHeap.upd
   rw [if_neg (fun e=>by rw [e,hi] at hj; cases hj)]
   exact ha j hj
  | false =>
   simp only [hi,bft,if_false] at hs ⊢
   rw [stillC_cons] at hs
   have e : VHeap.upd h' i (n,o) = h':=by
    funext t
    unfold VHeap.upd
    split
    ·rename_i ht
     rw [ht,ha i hi,hs.1]
    .rfl
   show (VHeap.upd h' i (n,o)).upds us = _
   rw [e]
   exact upds_old us h' ha hs.2
theorem evalOp_sound {P : Program} {Γ : Sig} (hΓ : CallsSound P Γ) {vs : List Nat} {n : Nat} {G : Gh} {r : RS} {a : Act} {w : World} (hr : RRel vs n G r a w) (hi : HeapInv G r.h w) {o : Oper} {op : Op} (hop : o.op = op) {ty : TypeId} {b : Bool} {v : VOp} (hok : okOp P vs b op ty v = true) {d : Nat} {val : VVal} {us : List (Id × Nat × Ob)} (he : evalOp Γ r.look r.h d v = some (val,us)) : OpWp P G r.h w a o val us:=by
 unfold okOp at hok
 split at hok
 case h_1 x y =>
  simp only [evalOp] at he
  obtain ⟨u,hu,he⟩:=ob_eq he
  simp at he
  obtain ⟨rfl,rfl⟩:=he
  exact op_move hr hi (.inl hop) hok hu
 case h_2 x y =>
  simp only [evalOp] at he
  obtain ⟨u,hu,he⟩:=ob_eq he
  simp at he
  obtain ⟨rfl,rfl⟩:=he
  exact op_move hr hi (.inr hop) hok hu
 case h_3 sz =>
  simp only [evalOp] at he
  simp at he
  obtain ⟨rfl,rfl⟩:=he
  exact op_newArr hi d (.inl hop) sz
 case h_4 sz =>
  simp only [evalOp] at he
  simp at he
  obtain ⟨rfl,rfl⟩:=he
  exact op_newArr hi d (.inr hop) sz
 case h_5 c x y c' x' y' =>
  simp only [bat] at hok
  simp only [evalOp] at he
  obtain ⟨u,hu,he⟩:=ob_eq he
  split at he <;> try (cases he; done)
  rename_i t
  cases t with
  | true =>
   rw [br_true] at he
   obtain ⟨q,hq,he⟩:=ob_eq he
   simp at he
   obtain ⟨rfl,rfl⟩:=he
   exact op_pick hr hi hop hok.1.1 hok.1.2 hok.2 hu (by simpa using hq)
  | false =>
   rw [br_false] at he
   obtain ⟨q,hq,he⟩:=ob_eq he
   simp at he
   obtain ⟨rfl,rfl⟩:=he
   exact op_pick hr hi hop hok.1.1 hok.1.2 hok.2 hu (by simpa using hq)
 case h_6 t zs =>
  simp only [bat] at hok
  obtain ⟨_,hok⟩:=hok
  split at hok <;> try (cases hok; done)
  rename_i i hinf
  split at hok <;> try (cases hok; done)
  rename_i z hz
  simp only [evalOp] at he
  simp only [osi,pmi] at he
  obtain ⟨rfl,rfl⟩:=he
  exact op_alloc hi d hop hinf hz hok
 case h_7 t x n' y =>
  simp only [bat] at hok
  simp only [evalOp] at he
  obtain ⟨u,hu,he⟩:=ob_eq he
  obtain ⟨_,he⟩:=gd_eq he
  obtain ⟨hs,he⟩:=gd_eq he
  simp only [osi,pmi] at he
  obtain ⟨rfl,rfl⟩:=he
  exact op_box hr hi d hop hok.2 hu hs
 case h_8 t ps bs =>
  simp only [bat] at hok
  obtain ⟨_,hok⟩:=hok
  split at hok <;> try (cases hok; done)
  rename_i fs i hu hinf
  split at hok <;> try (cases hok; done)
  rename_i z hz
  simp only [bat] at hok
  obtain ⟨⟨h1,h2⟩,h3⟩:=hok
  split at h3 <;> try (cases h3; done)
  rename_i cs hov
  simp only [evalOp] at he
  obtain ⟨q,hq,he⟩:=ob_eq he
  simp only [osi,pmi] at he
  obtain ⟨rfl,rfl⟩:=he
  exact op_build hr hi d hop hu hinf hz h1 h2 hov h3 hq
 case h_9 t len ps sz as_ =>
  simp only [bat,decide_eq_true_eq,beq_iff_eq] at hok
  obtain ⟨⟨⟨⟨⟨_,hal⟩,h0⟩,hbig⟩,hp⟩,hok⟩:=hok
  split at hok <;> try (cases hok; done)
  rename_i e hu
  split at hok <;> try (cases hok; done)
  rename_i i hinf
  split at hok <;> try (simp at hok; done)
  rename_i z hz
  simp only [bat,beq_iff_eq] at hok
  simp only [evalOp] at he
  obtain ⟨xs,hxs,he⟩:=ob_eq he
  obtain ⟨hall,he⟩:=gd_eq he
  simp only [osi,pmi] at he
  obtain ⟨rfl,rfl⟩:=he
  exact op_buildSlice hr hi d hop hal hbig hp hu hinf hok.1 hz hxs hall
 case h_10 t x agg y =>
  simp only [bat] at hok
  simp only [evalOp] at he
  obtain ⟨p,hp,he⟩:=ob_eq he
  obtain ⟨u,hu,he⟩:=ob_eq he
  simp only [osi,pmi] at he
  obtain ⟨rfl,rfl⟩:=he
  exact op_load hr hi hop hok.1 hok.2 hp hu
 case h_11 t x y n' x' y' =>
  simp only [bat] at hok
  simp only [evalOp] at he
  obtain ⟨p,hp,he⟩:=ob_eq he
  obtain ⟨u,hu,he⟩:=ob_eq he
  obtain ⟨q,hq,he⟩:=ob_eq he
  simp only [osi,pmi] at he
  obtain ⟨rfl,rfl⟩:=he
  exact op_store hr hi hop hok.1.1 hok.1.2 hok.2 hp hu hq
 case h_12 t x f off y =>
  simp only [bat] at hok
  obtain ⟨h1,hok⟩:=hok
  split at hok <;> try (cases hok; done)
  rename_i fs hu
  split at hok <;> try (cases hok; done)
  rename_i fl hf
  simp only [bat,beq_iff_eq] at hok
  obtain ⟨rfl,hok⟩:=hok
  split at hok <;> try (cases hok; done)
  rename_i inf hinf
  simp only [evalOp] at he
  obtain ⟨p,hp,he⟩:=ob_eq he
  have hus : us = []:=by
   split at he <;> simp at he <;> exact he.2
  subst hus
  exact op_fieldAddr hr hi hop h1 hu hf hinf (by simpa using hok) hp he
 case h_13 t x f off agg y =>
  simp only [bat] at hok
  obtain ⟨h1,hok⟩:=hok
  split at hok <;> try (cases hok; done)
  rename_i fs hu
  split at hok <;> try (cases hok; done)
  rename_i fl hf
  simp only [bat,beq_iff_eq] at hok
  obtain ⟨rfl,hok⟩:=hok
  simp only [evalOp] at he
  obtain ⟨p,hp,he⟩:=ob_eq he
  split at he <;> try (cases he; done)
  obtain ⟨u,hu',he⟩:=ob_eq he
  simp only [osi,pmi] at he
  obtain ⟨rfl,rfl⟩:=he
  exact op_field hr hi hop h1 hu hf hok hp hu'
 case h_14 t x i sz y z =>
  simp only [bat] at hok
  obtain ⟨⟨h1,h2⟩,hok⟩:=hok
  split at hok <;> try (cases hok; done)
  rename_i e hu
  simp only [evalOp] at he
  obtain ⟨p,hp,he⟩:=ob_eq he
  obtain ⟨q,hq,he⟩:=ob_eq he
  split at he <;> try (cases he; done)
  obtain ⟨u,hu',he⟩:=ob_eq he
  simp only [osi,pmi] at he
  obtain ⟨rfl,rfl⟩:=he
  exact op_indexAddr hr hi hop h1 h2 hu hok hp hq hu'
 case h_15 t x i y z =>
  simp only [bat] at hok
  obtain ⟨⟨h1,h2⟩,hok⟩:=hok
  split at hok <;> try (cases hok; done)
  rename_i hu
  simp only [evalOp] at he
  obtain ⟨p,hp,he⟩:=ob_eq he
  obtain ⟨q,hq,he⟩:=ob_eq he
  split at he <;> try (cases he; done)
  obtain ⟨h0,he⟩:=gd_eq he
  obtain ⟨u,hu',he⟩:=ob_eq he
  simp only [osi,pmi] at he
  obtain ⟨rfl,rfl⟩:=he
  exact op_indexStr hr hi hop h1 h2 hu hp hq h0 hu'
 case h_16 op t x y t' op' x' y' =>
  simp only [bat,beq_iff_eq] at hok
  obtain ⟨⟨⟨⟨h1,h2⟩,rfl⟩,h4⟩,hok⟩:=hok
  simp only [evalOp] at he
  obtain ⟨p,hp,he⟩:=ob_eq he
  obtain ⟨q,hq,he⟩:=ob_eq he
  obtain ⟨u,hu,he⟩:=ob_eq he
  simp only [osi,pmi] at he
  obtain ⟨rfl,rfl⟩:=he
  unfold vbin at hu
  split at hu <;> try (cases hu; done)
  ·cases hsh : isSh op with
   | true =>
    rw [hsh,br_true] at hu
    exact op_shift hr hi hop h1 h2 hp hq hu
   | false =>
    rw [hsh,br_false] at hu
    obtain ⟨rfl,hu1⟩:=gd_eq hu
    exact op_bin_int hr hi hop h4 h1 h2 hp hq hu1
  ·exact op_bin_str hr hi hop h1 h2 hp hq hu
 case h_17 op t x y t' neg x' y' =>
  simp only [bat,bot,beq_iff_eq,Bool.not_eq_true'] at hok
  obtain ⟨⟨⟨h1,h2⟩,h3⟩,hok⟩:=hok
  simp only [evalOp] at he
  obtain ⟨p,hp,he⟩:=ob_eq he
  obtain ⟨q,hq,he⟩:=ob_eq he
  split at he <;> try (cases he; done)
  simp only [osi,pmi] at he
  obtain ⟨rfl,rfl⟩:=he
  exact op_eqB hr hi hop h3 ((ktIs_underlying hok).2.2 rfl) h1 h2 hp hq
 case h_18 op t x y t' neg kts x' y' =>
  simp only [bat,bot,beq_iff_eq,Bool.not_eq_true'] at hok
  obtain ⟨⟨⟨h1,h2⟩,h3⟩,hok⟩:=hok
  simp only [evalOp] at he
  obtain ⟨p,hp,he⟩:=ob_eq he
  obtain ⟨q,hq,he⟩:=ob_eq he
  split at he <;> try (cases he; done)
  obtain ⟨xs,hxs,he⟩:=ob_eq he
  obtain ⟨ys,hys,he⟩:=ob_eq he
  obtain ⟨u,hu,he⟩:=ob_eq he
  simp only [osi,pmi] at he
  obtain ⟨rfl,rfl⟩:=he
  exact op_eqAgg hr hi hop h3 hok h1 h2 hp hq hxs hys hu
 case h_19 t x y =>
  simp only [evalOp] at he
  obtain ⟨p,hp,he⟩:=ob_eq he
  split at he <;> try (cases he; done)
  simp only [osi,pmi] at he
  obtain ⟨rfl,rfl⟩:=he
  exact op_not hr hi hop hok hp
 case h_20 t x y =>
  simp only [evalOp] at he
  obtain ⟨p,hp,he⟩:=ob_eq he
  split at he <;> try (cases he; done)
  simp only [osi,pmi] at he
  obtain ⟨rfl,rfl⟩:=he
  exact op_neg hr hi hop hok hp
 case h_21 xs ts y =>
  simp only [bat] at hok
  obtain ⟨h1,hok⟩:=hok
  obtain ⟨x,hxs,hx⟩:=okArgs_one h1
  split at hok <;> try (cases hok; done)
  rename_i t hts
  split at hok <;> try (cases hok; done)
  rename_i e hu
  simp only [evalOp] at he
  obtain ⟨p,hp,he⟩:=ob_eq he
  obtain ⟨m,hm,he⟩:=ob_eq he
  simp only [osi,pmi] at he
  obtain ⟨rfl,rfl⟩:=he
  exact op_len hr hi hop hxs hts hx hu hp hm
 case h_22 xs ts y =>
  simp only [bat] at hok
  obtain ⟨h1,hok⟩:=hok
  obtain ⟨x,hxs,hx⟩:=okArgs_one h1
  split at hok <;> try (cases hok; done)
  rename_i t hts
  simp only [evalOp] at he
  obtain ⟨p,hp,he⟩:=ob_eq he
  obtain ⟨m,hm,he⟩:=ob_eq he
  simp only [osi,pmi] at he
  obtain ⟨rfl,rfl⟩:=he
  unfold vlenS at hm
  split at hm <;> try (cases hm; done)
  simp at hm
  subst hm
  exact op_lenStr hr hi hop hxs hts hx ((ktIs_underlying hok).2.1 rfl) hp
 case h_23 xs ts y =>
  simp only [bat] at hok
  obtain ⟨h1,hok⟩:=hok
  obtain ⟨x,hxs,hx⟩:=okArgs_one h1
  split at hok <;> try (cases hok; done)
  rename_i t hts
  split at hok <;> try (cases hok; done)
  rename_i e k hu
  simp only [evalOp] at he
  obtain ⟨p,hp,he⟩:=ob_eq he
  obtain ⟨⟨kt,ks,us'⟩,hm,he⟩:=ob_eq he
  simp only [osi,pmi] at he
  obtain ⟨rfl,rfl⟩:=he
  exact op_mapLen hr hi hop hxs hts hx hu hp hm
 case h_24 xs ts sz bytes y z =>
  simp only [bat] at hok
  obtain ⟨h1,hok⟩:=hok
  obtain ⟨x,x',hxs,hx,hx'⟩:=okArgs_two h1
  obtain ⟨t,e,i,zz,hts,hu,hinf,rfl,rfl,hz,hzs⟩:=okApp_eq hok
  simp only [evalOp] at he
  obtain ⟨p,hp,he⟩:=ob_eq he
  obtain ⟨q,hq,he⟩:=ob_eq he
  exact op_append hr hi hop hxs hts hx hx' hu hinf hz hzs hp hq he
 case h_25 xs ts sz bytes z =>
  simp only [bat] at hok
  obtain ⟨⟨_,h1⟩,hok⟩:=hok
  split at h1 <;> try (cases h1; done)
  rename_i x hxs
  obtain ⟨t,e,i,zz,hts,hu,hinf,rfl,rfl,hz,hzs⟩:=okApp_eq hok
  simp only [evalOp] at he
  obtain ⟨q,hq,he⟩:=ob_eq he
  exact op_appendNil hr hi d hop hxs hts h1 hu hinf hz hzs hq he
 case h_26 xs ts as_ =>
  simp only [evalOp] at he
  obtain ⟨p,hp,he⟩:=ob_eq he
  obtain ⟨q,hq,he⟩:=ob_eq he
  simp only [osi,pmi] at he
  obtain ⟨rfl,rfl⟩:=he
  exact op_minmax (isMax:=true) hr hi hop hok hp hq
 case h_27 xs ts as_ =>
  simp only [evalOp] at he
  obtain ⟨p,hp,he⟩:=ob_eq he
  obtain ⟨q,hq,he⟩:=ob_eq he
  simp only [osi,pmi] at he
  obtain ⟨rfl,rfl⟩:=he
  exact op_minmax (isMax:=false) hr hi hop hok hp hq
 case h_28 t x lo hi' mx str sz lo' hi2 mx' y =>
  simp only [bat] at hok
  obtain ⟨⟨⟨⟨h1,h2⟩,h3⟩,h4⟩,hok⟩:=hok
  simp only [evalOp] at he
  obtain ⟨p,hp,he⟩:=ob_eq he
  split at hok <;> try (cases hok; done)
  ·rename_i hu
   simp only [bat,Option.isNone_iff_eq_none] at hok
   obtain ⟨hm,rfl⟩:=hok
   exact op_sliceS hr hi hop hm h1 h2 h3 hu hp he
  ·rename_i e hu
   simp only [bat,bot,Option.isNone_iff_eq_none,Bool.not_eq_true'] at hok
   obtain ⟨⟨hm,hsz⟩,rfl⟩:=hok
   exact op_slice hr hi d hop hm h1 h2 h3 h4 hu hsz hp he
 case h_29 t m k ok ok' kt' zero y z =>
  simp only [bat,beq_iff_eq] at hok
  obtain ⟨⟨⟨h1,h2⟩,rfl⟩,hok⟩:=hok
  split at hok <;> try (cases hok; done)
  rename_i kt e hu
  simp only [bat] at hok
  obtain ⟨hkt,hok⟩:=hok
  split at hok <;> try (cases hok; done)
  rename_i i hinf
  split at hok <;> try (cases hok; done)
  rename_i zz hz
  simp only [evalOp] at he
  obtain ⟨p,hp,he⟩:=ob_eq he
  obtain ⟨q,hq,he⟩:=ob_eq he
  obtain ⟨⟨kt2,ks,us'⟩,hm,he⟩:=ob_eq he
  obtain ⟨hor,he⟩:=gd_eq he
  obtain ⟨kk,hkk,he⟩:=ob_eq he
  simp only [osi,pmi] at he
  obtain ⟨rfl,rfl⟩:=he
  exact op_lookup hr hi hop h1 h2 hu hkt hinf hz hok hp hq hm hor hkk
 case h_30 t m k x kt' m' k' x' =>
  simp only [bat] at hok
  obtain ⟨⟨⟨h1,h2⟩,h3⟩,hok⟩:=hok
  split at hok <;> try (cases hok; done)
  rename_i kt e hu
  simp only [evalOp] at he
  obtain ⟨mv,hm,he⟩:=ob_eq he
  obtain ⟨kv,hk,he⟩:=ob_eq he
  obtain ⟨xv,hx,he⟩:=ob_eq he
  obtain ⟨kk,hkk,he⟩:=ob_eq he
  obtain ⟨xx,hxx,he⟩:=ob_eq he
  split at he <;> try (cases he; done)
  split at he <;> try (cases he; done)
  rename_i hh
  obtain ⟨rfl,he1⟩:=gd_eq he
  obtain ⟨rfl,he2⟩:=gd_eq he1
  simp only [osi,pmi] at he2
  obtain ⟨rfl,rfl⟩:=he2
  exact op_mapUpdate hr hi hop h1 h2 h3 hu hok hm hk hx hh hkk hxx
 case h_31 t kt =>
  simp only [evalOp] at he
  simp only [osi,pmi] at he
  obtain ⟨rfl,rfl⟩:=he
  exact op_makeMap hi d hop kt
 case h_32 x i y j =>
  simp only [bat,beq_iff_eq] at hok
  obtain ⟨h1,rfl⟩:=hok
  simp only [evalOp] at he
  obtain ⟨p,hp,he⟩:=ob_eq he
  split at he <;> try (cases he; done)
  obtain ⟨u,hu,he⟩:=ob_eq he
  simp only [osi,pmi] at he
  obtain ⟨rfl,rfl⟩:=he
  exact op_extract hr hi hop h1 hp hu
 case h_33 s t x k y =>
  simp only [bat] at hok
  obtain ⟨h1,hok⟩:=hok
  split at hok <;> try (cases hok; done)
  rename_i k0 k1 hs ht
  simp only [beq_iff_eq] at hok
  subst hok
  simp only [evalOp] at he
  obtain ⟨p,hp,he⟩:=ob_eq he
  split at he <;> try (cases he; done)
  simp only [osi,pmi] at he
  obtain ⟨rfl,rfl⟩:=he
  exact op_conv hr hi hop h1 hs ht hp
 case h_34 s t x y =>
  simp only [bat] at hok
  obtain ⟨⟨_,h1⟩,hok⟩:=hok
  split at hok <;> try (cases hok; done)
  rename_i e hs ht
  split at hok <;> try (cases hok; done)
  rename_i hu8
  simp only [evalOp] at he
  obtain ⟨p,hp,he⟩:=ob_eq he
  split at he <;> try (cases he; done)
  simp only [osi,pmi] at he
  obtain ⟨rfl,rfl⟩:=he
  exact op_strBytes hr hi hop h1 hs ht hu8 hp
 case h_35 x y =>
  simp only [evalOp] at he
  obtain ⟨p,hp,he⟩:=ob_eq he
  split at he <;> try (cases he; done)
  all_goals
   simp only [osi,pmi] at he
   obtain ⟨rfl,rfl⟩:=he
   exact op_nilCheck hr hi hop hok hp rfl
 case h_36 f first caps g as_ =>
  simp only [bat,beq_iff_eq] at hok
  obtain ⟨⟨rfl,h1⟩,hok⟩:=hok
  simp only [evalOp] at he
  obtain ⟨p,hp,he⟩:=ob_eq he
  simp only [osi,pmi] at he
  obtain ⟨rfl,rfl⟩:=he
  exact op_makeFunc hr hi hop (by simpa using h1) hok hp
 case h_37 f xs ts g as_ =>
  simp only [bat,beq_iff_eq] at hok
  obtain ⟨⟨⟨_,rfl⟩,h1⟩,_⟩:=hok
  simp only [evalOp] at he
  obtain ⟨p,hp,he⟩:=ob_eq he
  obtain ⟨l1,l2⟩:=looks_rel hr h1 hp
  refine op_vcall (cargs:=xs.map a.eval) hΓ hi hr.good (fun hb=>?_) (by simpa using l1) (fun i u c hu hc=>l2 i u c hu (by simpa using hc)) he
  simp [execOp,hop,resolve,Act.eval,Deferred.ofValue,invoke,run_callFunc hb]
 case h_38 x xs ts y as_ =>
  simp only [bat] at hok
  obtain ⟨⟨_,h1⟩,h2⟩:=hok
  simp only [evalOp] at he
  obtain ⟨g,hg,he⟩:=ob_eq he
  obtain ⟨p,hp,he⟩:=ob_eq he
  obtain ⟨l1,l2⟩:=looks_rel hr h2 hp
  have hgr:=look_rel hr h1 hg
  generalize hev : a.eval x = cx at hgr
  split at he <;> try (cases he; done)
  ·rename_i f caps
   cases hgr with
   | @fn _ _ arr hl hcr =>
    refine op_vcall (cargs:=xs.map a.eval ++ arr) hΓ hi hr.good (fun hb=>?_) (by simp at l1; simp [l1,hl]) (fun i u c hu hc=>?_) he
    ·simp [execOp,hop,resolve,hev,Deferred.ofValue,invoke,run_callFunc hb]
    ·simp at l1
     by_cases hlt : i < p.length
     ·rw [List.getElem?_append_left hlt] at hu
      rw [Array.getElem?_append_left (by simp; omega)] at hc
      exact l2 i u c hu (by simpa using hc)
     ·rw [lgr (by omega)] at hu
      rw [Array.getElem?_append_right (by simp; omega)] at hc
      exact hcr (i - p.length) u c hu (by rw [<- hc]; simp [l1])
  ·rename_i f
   cases hgr with
   | p hpr h1c =>
    cases hpr
    refine op_vcall (cargs:=xs.map a.eval) hΓ hi hr.good (fun hb=>?_) (by simpa using l1) (fun i u c hu hc=>l2 i u c hu (by simpa using hc)) he
    simp [execOp,hop,resolve,hev,Deferred.ofValue,invoke,run_callFunc hb]
  ·rename_i f cs
   cases hgr with
   | p hpr h1c =>
    have hgf:=clo_fn (G:=G) (h:=r.h) hpr
    cases hgf with
    | @fn _ _ arr hl hcr =>
     refine op_vcall (cargs:=xs.map a.eval ++ arr) hΓ hi hr.good (fun hb=>?_) (by simp at l1; simp [l1,hl]) (fun i u c hu hc=>?_) he
     ·simp [execOp,hop,resolve,hev,Deferred.ofValue,invoke,run_callFunc hb]
     ·simp at l1
      by_cases hlt : i < p.length
      ·rw [List.getElem?_append_left hlt] at hu
       rw [Array.getElem?_append_left (by simp; omega)] at hc
       exact l2 i u c hu (by simpa using hc)
      ·rw [lgr (by omega)] at hu
       rw [Array.getElem?_append_right (by simp; omega)] at hc
       exact hcr (i - p.length) u c hu (by rw [<- hc]; simp [l1])
 case h_39 t len ps sz as_ =>
  simp only [bat,decide_eq_true_eq,beq_iff_eq] at hok
  obtain ⟨⟨⟨⟨⟨_,hal⟩,h0⟩,hbig⟩,hp⟩,hok⟩:=hok
  split at hok <;> try (cases hok; done)
  rename_i e hu
  split at hok <;> try (cases hok; done)
  rename_i i hinf
  split at hok <;> try (simp at hok; done)
  rename_i z hz
  simp only [bat,beq_iff_eq] at hok
  simp only [evalOp] at he
  obtain ⟨xs,hxs,he⟩:=ob_eq he
  obtain ⟨hall,he⟩:=gd_eq he
  simp only [osi,pmi] at he
  obtain ⟨rfl,rfl⟩:=he
  exact op_buildFz hr hi hop hal h0 hbig hp hu hinf hok.1 hz hxs hall
 case h_40 f xs ts g as_ =>
  simp only [bat,beq_iff_eq] at hok
  obtain ⟨⟨⟨_,rfl⟩,h1⟩,_⟩:=hok
  simp only [evalOp] at he
  obtain ⟨p,hp,he⟩:=ob_eq he
  obtain ⟨l1,l2⟩:=looks_rel hr h1 hp
  refine op_vcallW (cargs:=xs.map a.eval) hΓ hi hr.good (fun hb=>?_) (by simpa using l1) (fun i u c hu hc=>l2 i u c hu (by simpa using hc)) he
  simp [execOp,hop,resolve,Act.eval,Deferred.ofValue,invoke,run_callFunc hb]
 case h_41 x xs ts y as_ =>
  simp only [bat] at hok
  obtain ⟨⟨_,h1⟩,h2⟩:=hok
  simp only [evalOp] at he
  obtain ⟨g,hg,he⟩:=ob_eq he
  obtain ⟨p,hp,he⟩:=ob_eq he
  obtain ⟨l1,l2⟩:=looks_rel hr h2 hp
  have hgr:=look_rel hr h1 hg
  generalize hev : a.eval x = cx at hgr
  split at he <;> try (cases he; done)
  ·rename_i f caps
   cases hgr with
   | @fn _ _ arr hl hcr =>
    refine op_vcallW (cargs:=xs.map a.eval ++ arr) hΓ hi hr.good (fun hb=>?_) (by simp at l1; simp [l1,hl]) (fun i u c hu hc=>?_) he
    ·simp [execOp,hop,resolve,hev,Deferred.ofValue,invoke,run_callFunc hb]
    ·simp at l1
     by_cases hlt : i < p.length
     ·rw [List.getElem?_append_left hlt] at hu
      rw [Array.getElem?_append_left (by simp; omega)] at hc
      exact l2 i u c hu (by simpa using hc)
     ·rw [lgr (by omega)] at hu
      rw [Array.getElem?_append_right (by simp; omega)] at hc
      exact hcr (i - p.length) u c hu (by rw [<- hc]; simp [l1])
  ·rename_i f
   cases hgr with
   | p hpr h1c =>
    cases hpr
    refine op_vcallW (cargs:=xs.map a.eval) hΓ hi hr.good (fun hb=>?_) (by simpa using l1) (fun i u c hu hc=>l2 i u c hu (by simpa using hc)) he
    simp [execOp,hop,resolve,hev,Deferred.ofValue,invoke,run_callFunc hb]
  ·rename_i f cs
   cases hgr with
   | p hpr h1c =>
    have hgf:=clo_fn (G:=G) (h:=r.h) hpr
    cases hgf with
    | @fn _ _ arr hl hcr =>
     refine op_vcallW (cargs:=xs.map a.eval ++ arr) hΓ hi hr.good (fun hb=>?_) (by simp at l1; simp [l1,hl]) (fun i u c hu hc=>?_) he
     ·simp [execOp,hop,resolve,hev,Deferred.ofValue,invoke,run_callFunc hb]
     ·simp at l1
      by_cases hlt : i < p.length
      ·rw [List.getElem?_append_left hlt] at hu
       rw [Array.getElem?_append_left (by simp; omega)] at hc
       exact l2 i u c hu (by simpa using hc)
      ·rw [lgr (by omega)] at hu
       rw [Array.getElem?_append_right (by simp; omega)] at hc
       exact hcr (i - p.length) u c hu (by rw [<- hc]; simp [l1])
 case h_42 t x y sz bytes zero z =>
  simp only [bat] at hok
  obtain ⟨⟨⟨_,h1⟩,h2⟩,hok⟩:=hok
  split at hok <;> try (cases hok; done)
  rename_i e hu
  split at hok <;> try (cases hok; done)
  rename_i i hinf
  split at hok <;> try (simp at hok; done)
  rename_i z0 hz
  simp only [bat,beq_iff_eq] at hok
  obtain ⟨⟨⟨rfl,rfl⟩,hzc⟩,hzs,hz0⟩:=hok
  simp only [evalOp] at he
  obtain ⟨v,hl,he⟩:=ob_eq he
  split at he <;> try (cases he; done)
  obtain ⟨g0,he⟩:=gd_eq he
  obtain ⟨g1,he⟩:=gd_eq he
  obtain ⟨g2,he⟩:=gd_eq he
  simp only [osi,pmi] at he
  obtain ⟨rfl,rfl⟩:=he
  exact op_make hr hi hop h1 h2 hu hinf hz hzs hz0 hzc hl g0 g1 g2
 case h_43 xs ts sz y z =>
  simp only [bat] at hok
  obtain ⟨h1,hok⟩:=hok
  split at hok <;> try (cases hok; done)
  rename_i t t' hts
  split at hok <;> try (cases hok; done)
  rename_i e hu
  unfold szIs at hok
  split at hok <;> try (cases hok; done)
  rename_i i hinf
  simp only [beq_iff_eq] at hok
  subst hok
  have hxs : ∃ x1 x2,xs.toList = [x1,x2] /\ okArg vs x1 y = true /\ okArg vs x2 z = true:=by
   match hx : xs.toList,h1 with
   | [x1,x2],h1 =>
    simp only [okArgs,bat] at h1
    exact ⟨x1,x2,rfl,h1.1,h1.2.1⟩
   | [],h1=>simp [okArgs] at h1
   | [_],h1=>simp [okArgs] at h1
   | _ :: _ :: _ :: _,h1=>simp [okArgs] at h1
  obtain ⟨x1,x2,hxs,ha1,ha2⟩:=hxs
  simp only [evalOp] at he
  obtain ⟨va,hla,he⟩:=ob_eq he
  obtain ⟨vx,hlx,he⟩:=ob_eq he
  unfold vcopy at he
  split at he <;> try (cases he; done)
  split at he <;> try (cases he; done)
  rename_i hh
  obtain ⟨hve,he⟩:=gd_eq he
  obtain ⟨hsz0,he⟩:=gd_eq he
  rw [hve] at hh
  rw [hsz0] at hh
  obtain ⟨⟨sz2,ys⟩,hel,he⟩:=ob_eq he
  obtain ⟨hsz,he⟩:=gd_eq he
  simp only [osi,pmi] at he
  obtain ⟨rfl,rfl⟩:=he
  rw [hve]
  exact op_copy hr hi hop hxs hts ha1 ha2 hu hinf hla hlx hh hel hsz
 case h_44 t m k kt' zero ma ka =>
  simp only [bat] at hok
  obtain ⟨⟨⟨h0,h1⟩,h2⟩,hok⟩:=hok
  split at hok <;> try (cases hok; done)
  rename_i kt e hu
  simp only [bat] at hok
  obtain ⟨hkt,hok⟩:=hok
  split at hok <;> try (cases hok; done)
  rename_i inf hinf
  split at hok <;> try (cases hok; done)
  rename_i z hz
  simp only [evalOp] at he
  obtain ⟨mv,hm,he⟩:=ob_eq he
  obtain ⟨kv,hk,he⟩:=ob_eq he
  obtain ⟨kk,hkk,he⟩:=ob_eq he
  split at he <;> try (cases he; done)
  split at he <;> try (cases he; done)
  rename_i hh
  obtain ⟨rfl,he1⟩:=gd_eq he
  obtain ⟨rfl,he2⟩:=gd_eq he1
  simp only [osi,pmi] at he2
  obtain ⟨rfl,rfl⟩:=he2
  exact op_mapEntry hr hi hop h1 h2 hu hkt hinf hz hok hm hk hh hkk
 case h_45 t m s x ma sa xa =>
  simp only [bat] at hok
  obtain ⟨⟨h1,h2⟩,h3⟩:=hok
  simp only [evalOp] at he
  obtain ⟨mv,hm,he⟩:=ob_eq he
  obtain ⟨sv,hs,he⟩:=ob_eq he
  obtain ⟨xv,hx,he⟩:=ob_eq he
  obtain ⟨xx,hxx,he⟩:=ob_eq he
  split at he <;> try (cases he; done)
  split at he <;> try (cases he; done)
  rename_i hh
  obtain ⟨rfl,he1⟩:=gd_eq he
  obtain ⟨hq0,he1⟩:=gd_eq he1
  obtain ⟨hq1,he2⟩:=gd_eq he1
  simp only [osi,pmi] at he2
  obtain ⟨rfl,rfl⟩:=he2
  exact op_entryStore hr hi hop h1 h2 h3 hm hs hx hh hq0 hq1 hxx
 case h_46 t ps sz as_ =>
  simp only [bat,decide_eq_true_eq] at hok
  obtain ⟨⟨⟨h0,h1⟩,h2⟩,hok⟩:=hok
  split at hok <;> try (cases hok; done)
  rename_i len e inf hu hinf
  simp only [bat,beq_iff_eq] at hok
  obtain ⟨⟨h3,h4⟩,hok⟩:=hok
  split at hok <;> try (cases hok; done)
  rename_i z hz
  simp only [beq_iff_eq] at hok
  simp only [evalOp] at he
  obtain ⟨xs,hxs,he⟩:=ob_eq he
  obtain ⟨hall,he⟩:=gd_eq he
  simp only [osi,pmi] at he
  obtain ⟨rfl,rfl⟩:=he
  exact op_buildArr hr hi hop h4 h2 hu h3 hinf hz hok hxs hall
 case h_47 t x ix n sz agg xa ia =>
  simp only [bat] at hok
  obtain ⟨⟨h1,h2⟩,hok⟩:=hok
  split at hok <;> try (cases hok; done)
  rename_i len e hu
  simp only [bat,beq_iff_eq] at hok
  obtain ⟨⟨rfl,h3⟩,h4⟩:=hok
  simp only [evalOp] at he
  obtain ⟨xv,hx,he⟩:=ob_eq he
  obtain ⟨iv,hiv,he⟩:=ob_eq he
  split at he <;> try (cases he; done)
  obtain ⟨hk0,he⟩:=gd_eq he
  obtain ⟨hk1,he⟩:=gd_eq he
  obtain ⟨rr,hrr,he⟩:=ob_eq he
  simp only [osi,pmi] at he
  obtain ⟨rfl,rfl⟩:=he
  exact op_indexArr hr hi hop h1 h2 hu h3 h4 hx hiv hk0 hk1 hrr
 case h_48 f xs ts g as_ =>
  simp only [bat,beq_iff_eq] at hok
  obtain ⟨⟨⟨_,rfl⟩,h1⟩,_⟩:=hok
  simp only [evalOp] at he
  obtain ⟨p,hp,he⟩:=ob_eq he
  obtain ⟨⟨v1,us1⟩,hv,he⟩:=ob_eq he
  obtain ⟨hst,he⟩:=gd_eq he
  simp only [osi,pmi] at he
  obtain ⟨rfl,rfl⟩:=he
  obtain ⟨l1,l2⟩:=looks_rel hr h1 hp
  have hw : OpWp P G r.h w a o v1 us1:=by
   refine op_vcallW (cargs:=xs.map a.eval) hΓ hi hr.good (fun hb=>?_) (by simpa using l1) (fun i u c hu hc=>l2 i u c hu (by simpa using hc)) hv
   simp [execOp,hop,resolve,Act.eval,Deferred.ofValue,invoke,run_callFunc hb]
  unfold OpWp at hw ⊢
  rw [upds_same us1 hst] at hw
  exact hw
 case h_49 s t x y =>
  simp only [bat] at hok
  obtain ⟨h1,hok⟩:=hok
  split at hok <;> try (cases hok; done)
  rename_i e hs ht
  split at hok <;> try (cases hok; done)
  rename_i hu8
  simp only [evalOp] at he
  obtain ⟨p,hp,he⟩:=ob_eq he
  obtain ⟨rr,hrr,he⟩:=ob_eq he
  obtain ⟨hsz,he⟩:=gd_eq he
  obtain ⟨ns,hns,he⟩:=ob_eq he
  simp only [osi,pmi] at he
  obtain ⟨rfl,rfl⟩:=he
  exact op_bytesStr hr hi hop h1 hs ht hu8 hp hrr hsz hns
 case h_50 xs ts sz zero y =>
  simp only [bat,beq_iff_eq] at hok
  obtain ⟨⟨h1,hzc⟩,hok⟩:=hok
  split at hok <;> try (cases hok; done)
  rename_i t hts
  split at hok <;> try (cases hok; done)
  rename_i e hu
  split at hok <;> try (cases hok; done)
  rename_i i hinf
  simp only [bat,beq_iff_eq] at hok
  obtain ⟨rfl,hok⟩:=hok
  split at hok <;> try (cases hok; done)
  rename_i z hz
  simp only [bat,beq_iff_eq] at hok
  have hxs : ∃ x1,xs.toList = [x1] /\ okArg vs x1 y = true:=by
   match hx : xs.toList,h1 with
   | [x1],h1 =>
    simp only [okArgs,bat] at h1
    exact ⟨x1,rfl,h1.1⟩
   | [],h1=>simp [okArgs] at h1
   | _ :: _ :: _,h1=>simp [okArgs] at h1
  obtain ⟨x1,hxs,ha1⟩:=hxs
  simp only [evalOp] at he
  obtain ⟨va,hla,he⟩:=ob_eq he
  unfold vclear at he
  split at he <;> try (cases he; done)
  split at he <;> try (cases he; done)
  rename_i hh
  obtain ⟨hve,he⟩:=gd_eq he
  obtain ⟨hsz0,he⟩:=gd_eq he
  rw [hve] at hh
  rw [hsz0] at hh
  simp only [osi,pmi] at he
  obtain ⟨rfl,rfl⟩:=he
  rw [hve]
  exact op_clear hr hi hop hxs hts ha1 hu hinf hz hok.1 hok.2 hzc hla hh
 case h_51 t x k m off y =>
  simp only [bat] at hok
  obtain ⟨h1,hok⟩:=hok
  split at hok <;> try (cases hok; done)
  rename_i len e hu
  simp only [bat,decide_eq_true_eq] at hok
  obtain ⟨⟨h0,hm⟩,hok⟩:=hok
  split at hok <;> try (cases hok; done)
  rename_i inf hinf
  simp only [beq_iff_eq] at hok
  subst hok
  simp only [evalOp] at he
  obtain ⟨p,hp,he⟩:=ob_eq he
  have hus : us = []:=by
   split at he <;> simp at he <;> exact he.2
  subst hus
  exact op_arrAddr hr hi hop h1 hu h0 hm hinf hp he
 case h_52 x y =>
  simp only [evalOp] at he
  obtain ⟨v,hv,he⟩:=ob_eq he
  split at he <;> try (cases he; done)
  simp only [osi,pmi] at he
  obtain ⟨rfl,rfl⟩:=he
  have h1:=look_rel hr hok hv
  refine opWp_silent (c:=a.eval x) (by simp [execOp,hop]) hi ?_
  generalize a.eval x = cx at h1
  cases h1 with
  | p hp h2 =>
   cases hp with
   | lit h3=>exact .p h3 rfl
 case h_53 t len ps sz as_ =>
  simp only [bat,decide_eq_true_eq,beq_iff_eq] at hok
  obtain ⟨⟨⟨⟨⟨_,hal⟩,h0⟩,hbig⟩,hp⟩,hok⟩:=hok
  split at hok <;> try (cases hok; done)
  rename_i e hu
  split at hok <;> try (cases hok; done)
  rename_i i hinf
  split at hok <;> try (simp at hok; done)
  rename_i z hz
  simp only [bat,beq_iff_eq] at hok
  simp only [evalOp] at he
  obtain ⟨xs,hxs,he⟩:=ob_eq he
  obtain ⟨hall,he⟩:=gd_eq he
  simp only [osi,pmi] at he
  obtain ⟨rfl,rfl⟩:=he
  exact op_buildLit hr hi hop hal h0 hbig hp hu hinf hok.1 hz hxs hall
 case h_54 xs ts sz bytes y z =>
  simp only [bat] at hok
  obtain ⟨⟨_,h1⟩,hok⟩:=hok
  obtain ⟨x,x',hxs,hx,hx'⟩:=okArgs_two h1
  obtain ⟨t,e,i,zz,hts,hu,hinf,rfl,rfl,hz,hzs⟩:=okApp_eq hok
  simp only [evalOp] at he
  obtain ⟨p,hp,he⟩:=ob_eq he
  obtain ⟨q,hq,he⟩:=ob_eq he
  exact op_appendLit hr hi d hop hxs hts hx hx' hu hinf hz hzs hp hq he
 case h_55 t x y =>
  simp only [bat] at hok
  obtain ⟨⟨_,h1⟩,hu⟩:=hok
  split at hu <;> try (cases hu; done)
  rename_i hut
  simp only [evalOp] at he
  obtain ⟨p,hp,he⟩:=ob_eq he
  split at he <;> try (cases he; done)
  simp only [osi,pmi] at he
  obtain ⟨rfl,rfl⟩:=he
  exact op_range hr hi d hop h1 hut hp
 case h_56 x y =>
  simp only [evalOp] at he
  obtain ⟨p,hp,he⟩:=ob_eq he
  exact op_next hr hi hop hok hp he
 case h_57 t len ps as_ =>
  simp only [bat,decide_eq_true_eq,beq_iff_eq] at hok
  obtain ⟨⟨⟨⟨_,hal⟩,hbig⟩,hp⟩,hok⟩:=hok
  split at hok <;> try (cases hok; done)
  rename_i e hu
  split at hok <;> try (cases hok; done)
  rename_i i hinf
  split at hok <;> try (simp at hok; done)
  rename_i z hz
  simp only [bat,beq_iff_eq] at hok
  simp only [evalOp] at he
  obtain ⟨us,hus,he⟩:=ob_eq he
  obtain ⟨hall,he⟩:=gd_eq he
  simp only [osi,pmi] at he
  obtain ⟨rfl,rfl⟩:=he
  exact op_buildPtrs hr hi hop hal hbig hp hu hinf hok.1 hz hus hall
 case h_58 f xs ts g as_ =>
  simp only [bat,beq_iff_eq] at hok
  obtain ⟨⟨⟨_,rfl⟩,h1⟩,_⟩:=hok
  simp only [evalOp] at he
  obtain ⟨p,hp,he⟩:=ob_eq he
  obtain ⟨⟨v1,us1⟩,hv,he⟩:=ob_eq he
  obtain ⟨hst,he⟩:=gd_eq he
  simp only [osi,pmi] at he
  obtain ⟨rfl,rfl⟩:=he
  obtain ⟨l1,l2⟩:=looks_rel hr h1 hp
  have hw : OpWp P G r.h w a o v1 us1:=by
   refine op_vcallW (cargs:=xs.map a.eval) hΓ hi hr.good (fun hb=>?_) (by simpa using l1) (fun i u c hu hc=>l2 i u c hu (by simpa using hc)) hv
   simp [execOp,hop,resolve,Act.eval,Deferred.ofValue,invoke,run_callFunc hb]
  unfold OpWp at hw ⊢
  rw [upds_old us1 r.h (fun _ _=>rfl) hst] at hw
  exact hw
 case h_59 t x ix n sz xa ia =>
  simp only [bat] at hok
  obtain ⟨⟨h1,h2⟩,hok⟩:=hok
  split at hok <;> try (cases hok; done)
  rename_i len e hu
  simp only [bat,beq_iff_eq] at hok
  obtain ⟨rfl,hok⟩:=hok
  split at hok <;> try (cases hok; done)
  rename_i inf hinf
  simp only [beq_iff_eq] at hok
  subst hok
  simp only [evalOp] at he
  obtain ⟨xv,hxv,he⟩:=ob_eq he
  obtain ⟨iv,hiv,he⟩:=ob_eq he
  split at he <;> try (cases he; done)
  obtain ⟨hk0,he⟩:=gd_eq he
  obtain ⟨hk1,he⟩:=gd_eq he
  have hus : us = []:=by
   split at he <;> simp at he <;> exact he.2
  subst hus
  exact op_arrAddrV hr hi hop h1 h2 hu hinf hxv hiv hk0 hk1 he
 case h_60=>simp at hok
end
end Go.V
