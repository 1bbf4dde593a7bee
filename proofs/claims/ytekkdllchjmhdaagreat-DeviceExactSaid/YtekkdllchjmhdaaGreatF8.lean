/- Part 8 of the proof. -/
import Derived.Test.YtekkdllchjmhdaaGreatF7
import Derived.Laws.IdiomStrings
import Derived.Laws.BytesString
import Derived.Laws.MakeOwn
import Derived.Laws.RangeString
set_option linter.unusedSectionVars false
set_option linter.unusedSimpArgs false
set_option linter.unusedVariables false
set_option maxHeartbeats 32000000
open Nat renaming le_refl → lrf
open List renaming getElem?_eq_getElem → lgg, getElem?_eq_some_iff → lgs, mem_of_getElem? → lmg, mem_cons_of_mem → lmc, map_cons → lpc, mem_map → lmm, mem_cons_self → lms, map_append → lma, getElem?_of_mem → lgm, length_cons → llc, length_append → lla, flatMap_cons → lfc, getElem?_append_right → lgr, mem_cons → lmk, mem_append → lmp, length_map → llm, length_take → llt
open Option renaming some.injEq → osi
open Bool renaming and_eq_true → bat, false_eq_true → bft, or_eq_true → bot
open Array renaming getElem?_eq_some_iff → ags, getElem?_eq_getElem → aggz, getD_eq_getD_getElem? → agd
open Prod renaming mk.injEq → pmi
namespace Go.V
open Go.RowKit
section
variable [GK]
def F8 (v:Option Value) (dflt x:Nat):Prop:=(v=none/\x=dflt) \/ ∃ (k:IntKind) (i:Int),v=some (.int k i)/\0<=i/\i.toNat=x
theorem NF {P:Program} {w:World} (isSlice:Bool) {len cap l m:Nat} {lo hi:Option Value} (hl:F8 lo 0 l) (hh:F8 hi len m) (h1:l<=m) (h2:m<=len) (h3:len<=cap) :
  (Instr.sliceBounds isSlice len cap lo hi none).run P w=.ok (l,m,cap) w:=by
 rcases hl with ⟨rfl,rfl⟩|⟨k,i,rfl,hi0,rfl⟩<;>rcases hh with ⟨rfl,rfl⟩|⟨k',i',rfl,hi0',rfl⟩
 ·simp [Instr.sliceBounds]
 ·have:i'<=(cap:Int):=by omega
  simp [Instr.sliceBounds,Instr.sliceBound,asIntOf,hi0',this]
 ·have:i<=(m:Int):=by omega
  simp [Instr.sliceBounds,Instr.sliceBound,asIntOf,hi0,this]
 ·have e1:i'<=(cap:Int):=by omega
  have e2:i<=((i'.toNat:Nat):Int):=by omega
  simp only [Instr.sliceBounds,Instr.sliceBound,asIntOf,hi0,hi0',e1,e2,Sem.run_bind,Sem.run_pure,Result.andThen_ok,and_self,if_true]
theorem VA {P:Program} {w:World} {len cap l m:Nat} {lo hi mx:Option Value} (hl:F8 lo 0 l) (hh:F8 hi len m) (hhi:hi.isSome=true) (hm:∃ (k:IntKind) (i:Int),mx=some (.int k i)/\0<=i/\i.toNat=m) (h1:l<=m) (h2:m<=len) (h3:len<=cap) :
  (Instr.sliceBounds true len cap lo hi mx).run P w=.ok (l,m,m) w:=by
 obtain ⟨k2,i2,rfl,hi2,he2⟩:=hm
 have e3:i2<=(cap:Int):=by omega
 rcases hh with ⟨rfl,rfl⟩|⟨k',i',rfl,hi0',he'⟩
 ·simp at hhi
 ·have e1:i'<=(m:Int):=by omega
  rcases hl with ⟨rfl,h0⟩|⟨k,i,rfl,hi0,he⟩
  ·simp only [Instr.sliceBounds,Instr.sliceBound,asIntOf,hi0',hi2,e3,Sem.run_bind,Sem.run_pure,Result.andThen_ok,and_self,if_true,he2,he',e1,h0]
  ·have e2:i<=(m:Int):=by omega
   simp only [Instr.sliceBounds,Instr.sliceBound,asIntOf,hi0',hi0,hi2,e3,Sem.run_bind,Sem.run_pure,Result.andThen_ok,and_self,if_true,he2,he',he,e1,e2]
theorem Wc {P:Program} {w:World} {len cap l:Nat} {lo hi mx:Option Value} (hl:F8 lo 0 l) (hh:F8 hi len l) (hhi:hi.isSome=true) (hm:∃ (k:IntKind) (i:Int),mx=some (.int k i)/\0<=i/\i.toNat=l) (h2:l<=len) (h3:len<=cap) :
  (Instr.sliceBounds true len cap lo hi mx).run P w=.ok (l,l,l) w:=by
 obtain ⟨k2,i2,rfl,hi2,he2⟩:=hm
 have e3:i2<=(cap:Int):=by omega
 rcases hh with ⟨rfl,rfl⟩|⟨k',i',rfl,hi0',he'⟩
 ·simp at hhi
 ·have e1:i'<=(l:Int):=by omega
  rcases hl with ⟨rfl,h0⟩|⟨k,i,rfl,hi0,he⟩
  ·simp only [Instr.sliceBounds,Instr.sliceBound,asIntOf,hi0',hi2,e3,Sem.run_bind,Sem.run_pure,Result.andThen_ok,and_self,if_true,he2,he',e1,h0]
   subst h0
   have:i'<=0:=by omega
   simp [this]
  ·have e2:i<=(l:Int):=by omega
   simp only [Instr.sliceBounds,Instr.sliceBound,asIntOf,hi0,hi0',hi2,e1,e2,e3,Sem.run_bind,Sem.run_pure,Result.andThen_ok,and_self,if_true,he2,he',he]
section
variable {P:Program} {vs:List Nat} {n:Nat} {G:Gh} {r:RS} {a:Act} {w:World} (hr:RRel vs n G r a w) (hi:HeapInv G r.h w) {o:Oper} (d:Nat)
include hr
theorem NM {y:VArg} {x:Operand} (hx:Al vs x y=true) {v:VVal} {m:Nat} (hl:r.look y=some v) (hm:Ii v=some m):∃ (k:IntKind) (i:Int),a.eval x=.int k i/\0<=i/\i.toNat=m:=by
 have h1:=Av hr hx hl
 unfold Ii at hm
 split at hm
 ·obtain ⟨h0,hm2⟩:=Ab hm
  simp at hm2
  exact ⟨_,_,DS h1,h0,hm2⟩
 .cases hm
theorem Ix {y:Option VArg} {x:Option Operand} (hx:C3 vs x y=true) {dflt m:Nat} (hm:Cj r.look dflt y=some m):F8 (x.map a.eval) dflt m:=by
 cases y with
 | none =>
  cases x with
  | none=>simp [Cj] at hm;exact .inl ⟨rfl,hm.symm⟩
  | some x=>simp [C3] at hx
 | some y =>
  cases x with
  | none=>simp [C3] at hx
  | some x =>
   simp only [Cj] at hm
   obtain ⟨v,hv,hm2⟩:=Aa hm
   obtain ⟨k,i,h1,h2,h3⟩:=NM hr (by simpa [C3] using hx) hv hm2
   exact .inr ⟨k,i,by simp [h1],h2,h3⟩
include hi
theorem Ym {t:TypeId} {x:Operand} {lo hi' mx:Option Operand} (ho:o.op=.slice t x lo hi' mx) (hmx:mx=none) {y:VArg} {lo' hi2:Option VArg} (hx:Al vs x y=true) (hlo:C3 vs lo lo'=true) (hhi:C3 vs hi' hi2=true) (hu:P.underlying t=some .string) {v val:VVal} {us:List (Id × Nat × Ob)}
  (hl:r.look y=some v) (hv:Fh r.look lo' hi2 v=some (val,us)):Az P G r.h w a o val us:=by
 obtain ⟨n0,hn0,hv2⟩:=Aa hv
 obtain ⟨l,hl0,hv3⟩:=Aa hv2
 obtain ⟨m,hm0,hv4⟩:=Aa hv3
 obtain ⟨h1,hv5⟩:=Ab hv4
 obtain ⟨h2,hv6⟩:=Ab hv5
 unfold JI at hv6
 split at hv6
 ·rename_i s
  simp at hv6
  obtain ⟨rfl,rfl⟩:=hv6
  simp [Ga] at hn0
  subst hn0
  have hs:=FN (Av hr hx hl)
  refine AW (c:=.string (s.extract l m)) ?_ hi (N3 _)
  have hb:=NF (P:=P) (w:=w) false (Ix hr hlo hl0) (Ix hr hhi hm0) h1 h2 (lrf _)
  subst hmx
  simp [execOp,ho,Instr.sliceAt,Instr.slice,run_underlying hu,hs,hb]
 .cases hv6
theorem ZS {t e:TypeId} {x:Operand} {lo hi' mx:Option Operand} (ho:o.op=.slice t x lo hi' mx) (hmx:mx=none \/ hi'.isSome=true) {y:VArg} {lo' hi2 mx':Option VArg} (hx:Al vs x y=true) (hlo:C3 vs lo lo'=true) (hhi:C3 vs hi' hi2=true) (hmm:C3 vs mx mx'=true)
    (hu : P.underlying t=some (.slice e)) {sz : Nat} (hsz : Bi P e sz=true) {v val : VVal} {us : List (Id × Nat × Ob)} (hl : r.look y=some v) (hv : DY d r.h r.look sz lo' hi2 mx' v=some (val,us)) : Az P G r.h w a o val us:=by
  obtain ⟨n0, hn0, hv2⟩:=Aa hv
  obtain ⟨l, hl0, hv3⟩:=Aa hv2
  obtain ⟨m, hm0, hv4⟩:=Aa hv3
  obtain ⟨h1, hv5⟩:=Ab hv4
  obtain ⟨h2, hv6⟩:=Ab hv5
  clear hv hv2 hv3 hv4 hv5
  have hxv := Av hr hx hl
  obtain ⟨ad, cap, hc, hcap⟩:=N5 hxv hn0
  have o1 := Ix hr hlo hl0
  have o2 := Ix hr hhi hm0
  cases mx' with
  | none =>
    have hmx0 : mx=none:=by cases mx<;>simp_all [C3]
    subst hmx0
    simp only [DJ] at hv6
    have hb := NF (P := P) (w := w) true o1 o2 h1 h2 hcap
    have hrun : (execOp a.eval o).run P w=.ok (.value (.slice (if cap=l then ad else ad.map (·.add (l*sz))) (m - l) (cap - l))) w:=by
      simp [execOp,ho,Instr.sliceAt,Instr.slice,run_underlying hu,hc,hb,Dk hsz]
    rw [hc] at hxv
    cases hxv with
    | @p dd c hp hone =>
      cases hp with
      | @slice sz' xs _ _ _ ad' val' hn hcap' ha hszs h1' hcell hrel =>
        simp only [Du] at hv6
        obtain ⟨rfl,hv7⟩:=Ab hv6
        simp at hv7
        obtain ⟨rfl,rfl⟩:=hv7
        refine AW (c:=_) hrun hi (.p (.slice (ad'.add (l*sz')) (fun i j=>val' (l+i) j) (by simp;omega) (by omega) (fun h0=>?_) (fun q hq=>hszs q (List.mem_of_mem_drop (List.mem_of_mem_take hq))) (fun i q j c hq hj=>?_) (fun i q j c hq hj=>?_) (fun i q j c hq hj=>?_)) rfl)
        · obtain ⟨e1,e2,e3⟩:=ha (by omega)
          refine ⟨?_,by rw [DQ];exact e2,by rw [DQ];exact e3⟩
          rw [if_neg (by omega),e1]
          rfl
        all_goals
          rw [List.getElem?_take] at hq
          split at hq
          · rw [List.getElem?_drop] at hq
            first
            | exact h1' _ _ _ _ hq hj
            | exact hrel _ _ _ _ hq hj
            | (rw [F1]
               have:=hcell _ _ _ _ hq hj
               rw [Nat.add_mul,Nat.add_assoc] at this
               exact this)
          · cases hq
      | _ => simp [Du] at hv6
    | @own id ver off len _ n' _ v' o' hn hcap' hh hle hoo =>
      simp only [Du,hh] at hv6
      cases o' with
      | arr sz' xs =>
        simp only at hv6
        obtain ⟨rfl,hv7⟩:=Ab hv6
        obtain ⟨rfl,hv8⟩:=Ab hv7
        simp at hv8
        obtain ⟨rfl,rfl⟩:=hv8
        simp [D5] at hn0
        subst hn0
        obtain ⟨sz2,xs2,he,hlen,hreal⟩:=hoo rfl
        simp at he
        obtain ⟨rfl,rfl⟩:=he
        refine AW (c:=_) hrun hi (.own rfl (by omega) hh (lrf _) fun _=>⟨sz',xs,rfl,by omega,?_⟩)
        rcases hreal with ⟨g1,g2⟩|⟨g1,g2,g3⟩
        · exact .inl ⟨by omega,by omega⟩
        · refine .inr ⟨g1,by omega,fun h0=>?_⟩
          rw [if_neg (by omega),g3 (by omega)]
          simp only [Option.map_some,add_lit,Nat.add_mul]
      | _ => simp at hv6
    | _ => simp [Du] at hv6
  | some xm =>
    simp only [DJ] at hv6
    obtain ⟨vm,hvm,hv7⟩:=Aa hv6
    obtain ⟨k, hk, hv8⟩:=Aa hv7
    obtain ⟨rfl,hv9⟩:=Ab hv8
    cases mx with
    | none => simp [C3] at hmm
    | some x3 =>
      obtain ⟨k3,i3,q1,q2,q3⟩:=NM hr (by simpa [C3] using hmm) hvm hk
      by_cases hown:∃ id ver off len,v=.own id ver off len
      · obtain ⟨id,ver,off,len,rfl⟩:=hown
        have hsome:(Option.map a.eval hi').isSome=true:=by
          rcases hmx with h|h
          · simp at h
          · simpa using h
        have hb:=VA (P:=P) (w:=w) (mx:=some (a.eval x3)) o1 o2 hsome ⟨k3,i3,by rw [q1],q2,q3⟩ h1 h2 hcap
        have hrun:(execOp a.eval o).run P w=.ok (.value (.slice (if k=l then ad else ad.map (·.add (l*sz))) (k - l) (k - l))) w:=by
          simp [execOp,ho,Instr.sliceAt,Instr.slice,run_underlying hu,hc,hb,Dk hsz]
        rw [hc] at hxv
        cases hxv with
        | @own _ _ _ _ _ n' _ v' o' hn hcap' hh hle hoo =>
          simp only [Fo,Du,hh] at hv9
          cases o' with
          | arr sz' xs =>
            simp only at hv9
            obtain ⟨rfl,hv10⟩:=Ab hv9
            obtain ⟨rfl,hv11⟩:=Ab hv10
            simp at hv11
            obtain ⟨rfl,rfl⟩:=hv11
            simp [D5] at hn0
            subst hn0
            obtain ⟨sz2,xs2,he,hlen,hreal⟩:=hoo rfl
            simp at he
            obtain ⟨rfl,rfl⟩:=he
            refine AW (c:=_) hrun hi (.own rfl (lrf _) hh (lrf _) fun _=>⟨sz',xs,rfl,by omega,?_⟩)
            rcases hreal with ⟨g1,g2⟩|⟨g1,g2,g3⟩
            · exact .inl ⟨by omega,by omega⟩
            · refine .inr ⟨g1,by omega,fun h0=>?_⟩
              rw [if_neg (by omega),g3 (by omega)]
              simp only [Option.map_some,add_lit,Nat.add_mul]
          | _=>simp at hv9
      have hv10:gd (l=k) (Hh d r.h sz)=some (val,us):=by
        unfold Fo at hv9
        split at hv9
        .exact absurd ⟨_,_,_,_,rfl⟩ hown
        .exact hv9
      obtain ⟨rfl,hv11⟩:=Ab hv10
      simp [Hh] at hv11
      obtain ⟨rfl,rfl⟩:=hv11
      have hsome:(Option.map a.eval hi').isSome=true:=by
        rcases hmx with h|h
        .simp at h
        .simpa using h
      have hb:=Wc (P:=P) (w:=w) (mx:=some (a.eval x3)) o1 o2 hsome ⟨k3,i3,by rw [q1],q2,q3⟩ h2 hcap
      obtain ⟨G',s1,i1,v1⟩:=H3 hi (.slot d 0) sz ad
      refine CB (G':=G') (c:=.slice ad 0 0) ?_ s1 i1 v1
      simp [execOp,ho,Instr.sliceAt,Instr.slice,run_underlying hu,hc,hb,Dk hsz]
end
end
end Go.V
namespace Go.V
open Go.RowKit
section
variable [GK]
theorem Step.newFrozen {G:Gh} {h:VHeap} {w w':World} (hinv:HeapInv G h w) (hsz:w.heap.size<=w'.heap.size) (hblk:∀ b,b<w.heap.size->w'.heap[b]?=w.heap[b]?)
    (hos:w'.os=w.os) (htp:w'.tape=w.tape) (hout:w'.output=w.output) :
    Step G h w { G with kind:=fun x=>if x=w.heap.size then .frozen else G.kind x } h w'/\HeapInv { G with kind:=fun x=>if x=w.heap.size then .frozen else G.kind x } h w':=by
  have hst:Step G h w { G with kind:=fun x=>if x=w.heap.size then .frozen else G.kind x } h w' :=
    { frozen:=fun b hb hl=>⟨by simp [Nat.ne_of_lt hl,hb],hblk b hl⟩
      other:=fun b hb hl=>⟨by simp [Nat.ne_of_lt hl,hb],hblk b hl⟩
      mine:=fun b i hl hm=>.inl (by simpa [Nat.ne_of_lt hl] using hm)
      frz:=fun b hl hm=>.inl (by simpa [Nat.ne_of_lt hl] using hm)
      size:=hsz,os:=hos,tape:=htp,output:=hout
      vers:=fun i v o' hi=>⟨v,o',hi,lrf _,fun _=>⟨rfl,rfl,by cases o'<;>simp [SameOb],fun sz xs ho' hm=>by
        have hlt:=D0 hinv hi hm (by rw [ho'];simp)
        simp [Nat.ne_of_lt hlt,hm]⟩⟩ }
  refine ⟨hst,fun i v o hi=>?_⟩
  by_cases hg:o=.gone
  · subst hg;trivial
  · refine OBRel.keep hst (hinv i v o hi) rfl rfl (fun hm=>?_) (fun hm=>?_)
    · have hlt:=D0 hinv hi hm hg
      exact ⟨by simp [Nat.ne_of_lt hlt,hm],hblk _ hlt⟩
    · simp only at hm
      split at hm
      .cases hm
      .exact hm
theorem Wl {P:Program} {vs:List Nat} {n:Nat} {G:Gh} {r:RS} {a:Act} {w:World} (hr:RRel vs n G r a w) (hi:HeapInv G r.h w) {o:Oper} {src dst e:TypeId} {x:Operand} (ho:o.op=.convert src dst x) {y:VArg} (hx:Al vs x y=true)
  (hs:P.underlying src=some .string) (hd:P.underlying dst=some (.slice e)) (he:P.underlying e=some (.int .u8)) {s:ByteArray} (hl:r.look y=some (.p (.str s))) :
  Az P G r.h w a o (.p (.slice 1 (s.data.toList.map fun b=>.int .u8 b.toNat))) []:=by
 have h1:=FN (Av hr hx hl)
 have hrun:=run_bytes_of_string (P:=P) w src dst e s hs hd he
 generalize hw':w.drew.alloc (.cells (bytesRow s (grownCap w s.size 0 e)) e ((bytesRow s (grownCap w s.size 0 e)).size,(bytesRow s (grownCap w s.size 0 e)).size+1))=w' at hrun
 have hsz:w.heap.size<w'.heap.size:=by rw [<- hw'];simp
 have hblk:∀ b,b<w.heap.size->w'.heap[b]?=w.heap[b]?:=fun b hb=>by rw [<- hw'];exact Below.heap_alloc w.drew _ b hb
 obtain ⟨s1,i1⟩:=Step.newFrozen (G:=G) (w':=w') hi (by omega) hblk (by rw [<- hw'];rfl) (by rw [<- hw'];rfl) (by rw [<- hw'];rfl)
 have hge:=grownCap_ge w s.size 0 e
 have hcell:∀ j,j<s.data.size->w'.cell? ⟨w.heap.size,j,none⟩=some (.int .u8 ((s.data.toList.getD j 0).toNat:Int)):=fun j hj=>by
  rw [<- hw']
  have:=World.cell?_alloc_mark w.drew (bytesRow s (grownCap w s.size 0 e)) e ((bytesRow s (grownCap w s.size 0 e)).size,(bytesRow s (grownCap w s.size 0 e)).size+1) j
  rw [show (w.drew.heap.size)=w.heap.size from rfl] at this
  rw [this,bytesRow_at s _ j hj]
  simp [List.getD,aggz hj]
 have hel:∀ (i:Nat) (q:PV),(s.data.toList.map fun b=>PV.int .u8 b.toNat)[i]?=some q->q=.int .u8 ((s.data.toList.getD i 0).toNat:Int)/\i<s.data.size:=fun i q hq=>by
  simp only [List.getElem?_map,Option.map_eq_some_iff] at hq
  obtain ⟨b,hb,rfl⟩:=hq
  have hlt:=(lgs.1 hb).1
  exact ⟨by simp [List.getD,hb],by simpa using hlt⟩
 refine CB (G':=_) (c:=.slice (some ⟨w.heap.size,0,none⟩) s.size (grownCap w s.size 0 e)) (w':=w') ?_ s1 i1 (.p (.slice ⟨w.heap.size,0,none⟩ (fun i _=>.int .u8 ((s.data.toList.getD i 0).toNat:Int)) ?_ hge (fun _=>⟨rfl,by simp,hsz⟩) (fun q hq=>?_) (fun _ _ _ _ _ _=>rfl) (fun i q j c hq hj=>?_) (fun i q j c hq hj=>?_)) rfl)
 ·unfold execOp
  rw [ho]
  show (Sem.bind (convert src dst (a.eval x)) fun c=>Sem.pure (Next.value c)).run P w=_
  rw [h1]
  have:=Sem.run_bind (P:=P) (w:=w) (convert src dst (.string s)) (fun c=>(Sem.pure (Next.value c):Sem Next))
  refine Eq.trans this ?_
  rw [hrun]
  rfl
 ·rw [llm,Array.length_toList]
  rfl
 ·simp only [lmm] at hq
  obtain ⟨b,_,rfl⟩:=hq
  rfl
 ·obtain ⟨rfl,hlt⟩:=hel i q hq
  cases j with
  | zero=>rw [add_lit];simp only [Nat.zero_add,Nat.mul_one,Nat.add_zero];exact hcell i hlt
  | succ j=>simp [PV.cells] at hj
 ·obtain ⟨rfl,hlt⟩:=hel i q hq
  cases j with
  | zero=>simp only [PV.cells,List.getElem?_cons_zero,osi] at hj;rw [<- hj];exact .int _ _
  | succ j=>simp [PV.cells] at hj
section
variable {P:Program} {vs:List Nat} {n:Nat} {G:Gh} {r:RS} {a:Act} {w:World} (hr:RRel vs n G r a w) (hi:HeapInv G r.h w) {o:Oper} (d:Nat)
include hr hi
theorem Xg {t e:TypeId} {len:Nat} {ps:Array (Nat × Operand)} (ho:o.op=.buildSlice t len ps) {sz:Nat} {as_:List VArg} (hal:as_.length=len) (hsz0:0<sz) (hbig:len*sz<=16777216) (hok:CD vs 0 ps.toList as_=true)
  (hu:P.underlying t=some (.slice e)) {i:TypeInfo} {z:Value} (hinf:P.info? e=some i) (his:i.size=sz) (hz:i.zero=some z) {xs:List PV}
  (hx:Ad (fun x=>ob (r.look x) fun v=>BF v) as_=some xs) (hall:xs.all (fun x=>decide (x.cells.length=sz))=true) :
  Az P G r.h w a o (.p (.slice sz xs)) []:=by
 obtain ⟨hl1,hp1⟩:=Hu hok
 obtain ⟨hxl,hxg⟩:=A3 hx
 have hcs:∀ x∈xs,x.cells.length=sz:=fun x hx=>by simpa using List.all_eq_true.1 hall x hx
 have hel:∀ (q:Nat) (p:Nat × Operand),ps.toList[q]?=some p->∃ x v,xs[q]?=some x/\VRel G r.h w v (a.eval p.2)/\BF v=some x:=fun q p hq=>by
  have hqlt:q<ps.toList.length:=(lgs.1 hq).1
  obtain ⟨y,hy,hf⟩:=hxg q (xs[q]'(by omega)) (lgg (by omega))
  obtain ⟨v,hv,hf2⟩:=Aa hf
  exact ⟨_,v,lgg (by omega),Av hr (hp1 q p y hq hy) hv,hf2⟩
 have hsizes:∀ p∈ps.toList,(a.eval p.2).cells.size=sz:=fun p hp=>by
  obtain ⟨q,hq,rfl⟩:=List.getElem_of_mem hp
  obtain ⟨x,v,h1,h2,h3⟩:=hel q _ (lgg hq)
  rw [<- (FJ h2 h3).1]
  exact hcs x (lmg h1)
 have hrunAll:∃ zc:Array Value,∀ cells',Instr.fill (fun i=>some (i*sz,sz)) ((Array.range (len*sz)).map (zc[· % zc.size]!)) (ps.map fun (i,x)=>(i,a.eval x)).toList=some cells' ->
   (execOp a.eval o).run P w=.ok (.value (.slice (some ⟨w.heap.size,0,none⟩) len len)) (w.alloc (.cells cells' e)):=by
  have h24:¬ (2 ^ 24<len*sz):=by omega
  have hszr:=Dk (P:=P) (show Bi P e sz=true by simp [Bi,hinf,his]) w
  by_cases hl0:len*sz=0
  ·refine ⟨#[],fun cells' hf=>?_⟩
   simp only [hl0] at hf
   simp [execOp,ho,Instr.buildSlice,run_underlying hu,hszr,hl0]
   simp at hf
   simp [hf,newRow]
  ·refine ⟨z.cells,fun cells' hf=>?_⟩
   simp at hf
   simp [execOp,ho,Instr.buildSlice,run_underlying hu,hszr,h24,hl0,zeroValue,typeInfo,hinf,hz,hf,newRow]
 obtain ⟨zc,hrunAll⟩:=hrunAll
 obtain ⟨cells',f1,f2,f3,f4⟩:=Hy (a:=a) (len:=len) (sz:=sz) ps.toList as_ 0 ((Array.range (len*sz)).map (zc[· % zc.size]!)) hok hsizes (by omega) (by simp)
 have hrun:=hrunAll cells' (by rw [Array.toList_map];exact f1)
 generalize hw':w.alloc (.cells cells' e)=w' at hrun
 have hszw:w.heap.size<w'.heap.size:=by rw [<- hw'];simp
 have hblk:∀ b,b<w.heap.size->w'.heap[b]?=w.heap[b]?:=fun b hb=>by rw [<- hw'];exact Below.heap_alloc w _ b hb
 obtain ⟨s1,i1⟩:=Step.newFrozen (G:=G) (w':=w') hi (by omega) hblk (by rw [<- hw'];rfl) (by rw [<- hw'];rfl) (by rw [<- hw'];rfl)
 have hxs:xs.length=len:=by omega
 have hkeep:JW (fun b=>G.kind b=.frozen) (fun b=>(if b=w.heap.size then Kind.frozen else G.kind b)=.frozen) w w':=fun b hb hl=>⟨by simp [Nat.ne_of_lt hl,hb],hblk b hl⟩
 have hcell:∀ (k:Nat) (x:PV) (j:Nat) (c:PV),xs[k]?=some x->x.cells[j]?=some c->∃ u,w'.cell? ⟨w.heap.size,k*sz+j,none⟩=some u/\u.oneCell'=true/\PRel (fun b=>(if b=w.heap.size then Kind.frozen else G.kind b)=.frozen) w' c u:=fun k x j c hk hj=>by
  have hklt:k<ps.toList.length:=by
   have:=(lgs.1 hk).1
   omega
  obtain ⟨x',v,h1,h2,h3⟩:=hel k _ (lgg hklt)
  rw [hk] at h1
  simp at h1
  subst h1
  obtain ⟨u,e1,e2,e3⟩:=(FJ h2 h3).2.1 j c hj
  have hjlt:j<sz:=by rw [<- hcs x (lmg hk)];exact (lgs.1 hj).1
  have:=f4 k _ j (lgg hklt) hjlt
  rw [Nat.zero_add] at this
  refine ⟨u,?_,e2,e3.mono hkeep (by omega)⟩
  rw [<- hw']
  have hc:=World.cell?_alloc_mark w cells' e (0,0) (k*sz+j)
  rw [hc,this,e1]
 refine CB (G':=_) (c:=.slice (some ⟨w.heap.size,0,none⟩) len len) (w':=w') hrun s1 i1 (.p (.slice ⟨w.heap.size,0,none⟩ (fun k j=>(w'.cell? ⟨w.heap.size,k*sz+j,none⟩).getD .nilIface) hxs.symm (lrf _) (fun _=>⟨rfl,by simp,hszw⟩) hcs (fun k x j c hk hj=>?_) (fun k x j c hk hj=>?_) (fun k x j c hk hj=>?_)) rfl)
 ·obtain ⟨u,h1,h2,_⟩:=hcell k x j c hk hj
  rw [h1];exact h2
 ·obtain ⟨u,h1,_,_⟩:=hcell k x j c hk hj
  rw [add_lit,Nat.zero_add,h1];rfl
 ·obtain ⟨u,h1,_,h3⟩:=hcell k x j c hk hj
  rw [h1];exact h3
theorem VF {t e:TypeId} {len:Nat} {ps:Array (Nat × Operand)} (ho:o.op=.buildSlice t len ps) {as_:List VArg} (hal:as_.length=len) (hbig:len<=16777216) (hok:CD vs 0 ps.toList as_=true)
  (hu:P.underlying t=some (.slice e)) {i:TypeInfo} {z:Value} (hinf:P.info? e=some i) (his:i.size=1) (hz:i.zero=some z) {us:List VVal}
  (hx:Ad r.look as_=some us) (hall:us.all Hk=true):Az P G r.h w a o (.plist us) []:=by
 obtain ⟨hl1,hp1⟩:=Hu hok
 obtain ⟨hxl,hxg⟩:=A3 hx
 have hel:∀ (q:Nat) (p:Nat × Operand),ps.toList[q]?=some p->∃ v ad,us[q]?=some v/\VRel G r.h w v (a.eval p.2)/\a.eval p.2=.pointer (some ad):=fun q p hq=>by
  have hqlt:q<ps.toList.length:=(lgs.1 hq).1
  have hg:us[q]?=some us[q]:=lgg (by omega)
  obtain ⟨y,hy,hf⟩:=hxg q (us[q]'(by omega)) hg
  have hv:=Av hr (hp1 q p y hq hy) hf
  obtain ⟨ad,had⟩:=zbr hv (List.all_eq_true.1 hall _ (lmg hg))
  exact ⟨_,ad,hg,hv,had⟩
 have hsizes:∀ p∈ps.toList,(a.eval p.2).cells.size=1:=fun p hp=>by
  obtain ⟨q,hq,rfl⟩:=List.getElem_of_mem hp
  obtain ⟨v,ad,h1,h2,h3⟩:=hel q _ (lgg hq)
  rw [h3]
  rfl
 have hrunAll:∃ zc:Array Value,∀ cells',Instr.fill (fun i=>some (i*1,1)) ((Array.range (len*1)).map (zc[· % zc.size]!)) (ps.map fun (i,x)=>(i,a.eval x)).toList=some cells' ->
   (execOp a.eval o).run P w=.ok (.value (.slice (some ⟨w.heap.size,0,none⟩) len len)) (w.alloc (.cells cells' e)):=by
  have h24:¬ (2 ^ 24<len*1):=by omega
  have hszr:=Dk (P:=P) (show Bi P e 1=true by simp [Bi,hinf,his]) w
  by_cases hl0:len*1=0
  ·refine ⟨#[],fun cells' hf=>?_⟩
   simp only [hl0] at hf
   simp [execOp,ho,Instr.buildSlice,run_underlying hu,hszr,hl0]
   simp at hf hl0
   simp [hf,newRow,hl0]
  ·refine ⟨z.cells,fun cells' hf=>?_⟩
   simp at hf hl0
   simp [execOp,ho,Instr.buildSlice,run_underlying hu,hszr,h24,hl0,zeroValue,typeInfo,hinf,hz,hf,newRow]
   omega
 obtain ⟨zc,hrunAll⟩:=hrunAll
 obtain ⟨cells',f1,f2,f3,f4⟩:=Hy (a:=a) (len:=len) (sz:=1) ps.toList as_ 0 ((Array.range (len*1)).map (zc[· % zc.size]!)) hok hsizes (by omega) (by simp)
 have hrun:=hrunAll cells' (by rw [Array.toList_map];exact f1)
 generalize hw':w.alloc (.cells cells' e)=w' at hrun
 have hszw:w.heap.size<w'.heap.size:=by rw [<- hw'];simp
 have hblk:∀ b,b<w.heap.size->w'.heap[b]?=w.heap[b]?:=fun b hb=>by rw [<- hw'];exact Below.heap_alloc w _ b hb
 obtain ⟨s1,i1⟩:=Step.newFrozen (G:=G) (w':=w') hi (by omega) hblk (by rw [<- hw'];rfl) (by rw [<- hw'];rfl) (by rw [<- hw'];rfl)
 have hxs:us.length=len:=by omega
 have hcell:∀ (k:Nat) (p:VVal),us[k]?=some p->∃ u,w'.cell? ⟨w.heap.size,k,none⟩=some u/\u.oneCell'=true/\VRel G r.h w p u:=fun k p hk=>by
  have hklt:k<ps.toList.length:=by
   have:=(lgs.1 hk).1
   omega
  obtain ⟨v,ad,h1,h2,h3⟩:=hel k _ (lgg hklt)
  rw [hk] at h1
  simp at h1
  subst h1
  have:=f4 k _ 0 (lgg hklt) (by omega)
  rw [Nat.zero_add,Nat.mul_one,Nat.add_zero] at this
  refine ⟨a.eval (ps.toList[k]).2,?_,by rw [h3];rfl,h2⟩
  rw [<- hw']
  have hc:=World.cell?_alloc_mark w cells' e (0,0) k
  rw [hc,this,h3]
  rfl
 refine CB (G':=_) (c:=.slice (some ⟨w.heap.size,0,none⟩) len len) (w':=w') hrun s1 i1 (.plist ⟨w.heap.size,0,none⟩ (fun k=>(w'.cell? ⟨w.heap.size,k,none⟩).getD .nilIface) hxs.symm (lrf _) (fun _=>⟨rfl,by simp,hszw⟩) (fun k p hk=>?_) (fun k p hk=>?_) (fun k p hk=>?_))
 ·obtain ⟨u,h1,h2,_⟩:=hcell k p hk
  rw [h1];exact h2
 ·obtain ⟨u,h1,_,_⟩:=hcell k p hk
  rw [add_lit,Nat.zero_add,h1];rfl
 ·obtain ⟨u,h1,_,h3⟩:=hcell k p hk
  rw [h1];exact h3.mono s1
end
end
end Go.V
namespace Go.V
open Go.RowKit
theorem FH:∀ (is R:List Id),R.Nodup->(B9 R is).Nodup
 | [],_,h=>h
 | i::is,R,h=>by
  simp only [B9]
  refine FH is _ ?_
  split
  ·exact h
  ·rename_i hc
   refine List.nodup_append.2 ⟨h,by simp,fun a ha b hb e=>hc ?_⟩
   simp at hb
   subst hb
   subst e
   simpa using ha
theorem Wf (h:VHeap) (args:List VVal):(roots h args).Nodup:=by
 simp only [roots]
 split
 .simp
 .exact FH _ _ (FH _ _ (FH _ _ (by simp)))
theorem CM {R:List Id} {id:Id}:∀ {i:Nat},BN R id=some i->R[i]?=some id:=by
 induction R with
 | nil=>intro i h;simp [BN] at h
 | cons r rs ih =>
  intro i h
  simp only [BN] at h
  split at h
  ·rename_i e;simp at h;subst h;simp [e]
  ·simp only [Option.map_eq_some_iff] at h
   obtain ⟨j,hj,rfl⟩:=h
   simpa using ih hj
theorem FG {R:List Id} {id:Id} (hn:R.Nodup):∀ {i:Nat},R[i]?=some id->BN R id=some i:=by
 induction R with
 | nil=>intro i h;simp at h
 | cons r rs ih =>
  intro i h
  simp only [BN]
  cases i with
  | zero=>simp at h;simp [h]
  | succ i =>
   simp at h
   have hm:=lmg h
   rw [if_neg (fun (e:r=id)=>(List.nodup_cons.1 hn).1 (e ▸ hm)),ih (List.nodup_cons.1 hn).2 h]
   rfl
def calleeG (G:Gh) (R:List Id) (lend:Bool):Gh where
 kind b:=match G.kind b with
  | .frozen=>.frozen
  | .other=>.other
  | .mine id=>match (if b=G.blk id then BN R id else none) with
   | some i=>.mine (.arg i 0)
   | none=>if lend then .frozen else .other
 blk id:=match id with
  | .arg i 0=>match R[i]? with
   | some q=>G.blk q
   | none=>0
  | _=>0
 cap id:=match id with
  | .arg i 0=>match R[i]? with
   | some q=>G.cap q
   | none=>0
  | _=>0
theorem Is {G:Gh} {R:List Id} {lend:Bool} {b:Nat} (h:G.kind b=.frozen):(calleeG G R lend).kind b=.frozen:=by simp [calleeG,h]
theorem Vp {G:Gh} {R:List Id} {lend:Bool} {b:Nat} (h:G.kind b=.other):(calleeG G R lend).kind b=.other:=by simp [calleeG,h]
theorem Gs {G:Gh} {R:List Id} {lend:Bool} {b:Nat} {q:Id} (h:(calleeG G R lend).kind b=.mine q):∃ i id,q=.arg i 0/\R[i]?=some id/\b=G.blk id/\G.kind b=.mine id:=by
 simp only [calleeG] at h
 split at h<;>try (cases h;done)
 rename_i id hk
 split at h
 ·rename_i i hp
  split at hp
  ·rename_i hb
   simp at h
   exact ⟨i,id,h.symm,CM hp,hb,hk⟩
  .cases hp
 .split at h<;>cases h
theorem UM {G:Gh} {R:List Id} {b:Nat} (h:(calleeG G R false).kind b=.frozen):G.kind b=.frozen:=by
 simp only [calleeG] at h
 split at h
 .assumption
 .cases h
 .split at h<;>simp at h
theorem Gr {G:Gh} {R:List Id} {lend:Bool} {i:Nat} {id:Id} (hn:R.Nodup) (hi:R[i]?=some id) (hk:G.kind (G.blk id)=.mine id):(calleeG G R lend).kind (G.blk id)=.mine (.arg i 0):=by
 simp [calleeG,hk,FG hn hi]
theorem IB {G:Gh} {R:List Id} {lend:Bool} {b:Nat} {id:Id} (hk:G.kind b=.mine id) (hno:id ∉ R \/ b ≠ G.blk id):(calleeG G R lend).kind b=if lend then .frozen else .other:=by
 simp only [calleeG,hk]
 have:(if b=G.blk id then BN R id else none)=none:=by
  split
  ·rename_i hb
   rcases hno with h|h
   ·cases hp:BN R id with
    | none=>rfl
    | some i=>exact absurd (lmg (CM hp)) h
   .exact absurd hb h
  .rfl
 rw [this]
theorem EF {G:Gh} {R:List Id} {lend:Bool} (w:World):JW (fun b=>G.kind b=.frozen) (fun b=>(calleeG G R lend).kind b=.frozen) w w:=fun _ h _=>⟨Is h,rfl⟩
def QE (o o':Ob):Prop:=(∃ cs cs',o=.box cs/\o'=.box cs') \/ (o'=o/\((∃ sz xs,o=.arr sz xs) \/ ∃ kt ks vs,o=.map kt ks vs))
def Ia (h:VHeap) (R:List Id) (H:List Ob):Prop:=∀ (i:Nat) (id:Id),R[i]?=some id->∃ v o o',h id=some (v,o)/\H[i]?=some o'/\QE o o'
section
variable {G:Gh} {h:VHeap} {w:World} {R:List Id} {H:List Ob} {lend:Bool}
theorem HO (hH:Ad (C0 R h) R=some H) {i:Nat} {id:Id} (hi:R[i]?=some id) :
  ∃ v cs cs',h id=some (v,.box cs)/\cs.any D3=false/\Ad (B3 R h) cs=some cs'/\H[i]?=some (.box cs'):=by
 obtain ⟨o,ho,he⟩:=Pk hH i id hi
 simp only [C0] at he
 split at he
 ·rename_i v cs hh
  obtain ⟨h1,he⟩:=Ab he
  obtain ⟨cs',h2,he⟩:=Aa he
  simp at he
  subst he
  exact ⟨v,cs,cs',hh,h1,h2,ho⟩
 .cases he
theorem ZB (hH:Ad (C0 R h) R=some H):Ia h R H:=fun i id hi=>by
 obtain ⟨v,cs,cs',h1,_,_,h4⟩:=HO hH hi
 exact ⟨v,.box cs,.box cs',h1,h4,.inl ⟨cs,cs',rfl,rfl⟩⟩
theorem Lr (hH:Ad (C0 R h) R=some H) {id:Id} {v:Nat} {o:Ob} (hh:h id=some (v,o)) (ho:∀ cs,o ≠ .box cs):id ∉ R:=by
 intro hm
 obtain ⟨i,hi,he⟩:=List.getElem_of_mem hm
 obtain ⟨v',cs,cs',h1,_⟩:=HO hH (i:=i) (id:=id) (by rw [lgg hi,he])
 rw [hh] at h1
 simp at h1
 exact ho _ h1.2
theorem Ff (hinv:HeapInv G h w) (hH:Ad (C0 R h) R=some H) {v v':VVal} {c:Value} (hv:VRel G h w v c) (hl:Hb v=true->lend=true) (he:Bj R h v=some v') :
  VRel (calleeG G R lend) (As H) w v' c:=by
 cases hv with
 | plist=>simp [Bj] at he
 | pcell=>simp [Bj] at he
 | p hp h1 =>
  simp [Bj] at he
  subst he
  exact .p (hp.mono (EF w) (lrf _)) h1
 | @own id ver off len a n cap v o hn hcap hh hle hoo =>
  have hlend:=hl rfl
  simp only [Bj,A0,hh] at he
  cases o<;>try (simp only [At] at he;cases he;done)
  rename_i sz xs
  simp only at he
  obtain ⟨r,hr,he1⟩:=Aa he
  obtain ⟨rfl,hr1⟩:=Ab hr
  simp at hr1 he1
  subst hr1
  subst he1
  obtain ⟨sz2,xs2,e,hlen,hreal⟩:=hoo rfl
  simp at e
  obtain ⟨rfl,rfl⟩:=e
  obtain ⟨hcs,_,hall⟩:=hinv _ _ _ hh
  subst hn
  have hyl:((xs.drop off).take n).length=n:=by simp;omega
  refine .p ?_ rfl
  by_cases h0:n=0
  ·subst h0
   exact .slice ⟨0,0,none⟩ (fun _ _=>Go.undef) (by simp) hcap (fun h=>absurd h (by omega)) (by simp) (fun i x j c h=>by simp at h) (fun i x j c h=>by simp at h) (fun i x j c h=>by simp at h)
  ·rcases hreal with ⟨hc0,_⟩|⟨hm,hce,ha⟩
   ·omega
   ·obtain ⟨hxc,arr,t,hb,has,hcell⟩:=hall hm
    have hrest:=IB (R:=R) (lend:=lend) hm (.inl (Lr hH hh (by simp)))
    rw [hlend] at hrest
    simp only [if_true] at hrest
    have hgk:∀ (i:Nat) (y:PV),((xs.drop off).take n)[i]?=some y->xs[off+i]?=some y/\i<n:=fun i y hy=>by
     rw [List.getElem?_take] at hy
     split at hy
     ·rw [List.getElem?_drop] at hy;exact ⟨hy,by assumption⟩
     ·cases hy
    have hg:∀ (i:Nat) (y:PV) (j:Nat) (cc:PV),((xs.drop off).take n)[i]?=some y->y.cells[j]?=some cc->arr[off*sz+(i*sz+j)]?=some (arr.getD (off*sz+(i*sz+j)) Go.undef)/\(arr.getD (off*sz+(i*sz+j)) Go.undef).oneCell'=true/\PRel (fun b=>G.kind b=.frozen) w cc (arr.getD (off*sz+(i*sz+j)) Go.undef):=fun i y j cc hy hj=>by
     obtain ⟨hy',hin⟩:=hgk i y hy
     obtain ⟨u,e1,e2,e3⟩:=hcell (off+i) y j cc hy' hj
     rw [Nat.add_mul,Nat.add_assoc] at e1
     have hu:arr.getD (off*sz+(i*sz+j)) Go.undef=u:=by
      obtain ⟨hlt,e⟩:=ags.1 e1
      simp [Array.getD,hlt,e]
     rw [hu]
     exact ⟨e1,e2,e3⟩
    refine .slice ⟨G.blk id,off*sz,none⟩ (fun i j=>arr.getD (off*sz+(i*sz+j)) Go.undef) hyl.symm hcap (fun _=>⟨ha (by omega),by rw [hlend];exact hrest,(ags.1 hb).1⟩)
     (fun x hx=>hcs x (List.mem_of_mem_drop (List.mem_of_mem_take hx))) (fun i y j cc hy hj=>(hg i y j cc hy hj).2.1) (fun i y j cc hy hj=>?_) (fun i y j cc hy hj=>((hg i y j cc hy hj).2.2).mono (EF w) (lrf _))
    rw [add_lit,BY hb]
    exact (hg i y j cc hy hj).1
 | @ptr id ver off a v o hh hle hoo =>
  simp only [Bj] at he
  obtain ⟨hal,he⟩:=Ab he
  obtain ⟨i,hp,he⟩:=Aa he
  simp at he
  subst he
  simp only [BG,hh,decide_eq_true_eq] at hal
  obtain ⟨v2,cs,cs',h1,_,_,h4⟩:=HO hH (CM hp)
  refine .ptr (v:=0) (o:=.box cs') (by simp [As,h4]) (lrf _) fun _=>?_
  rw [hoo hal.symm]
  simp [calleeG,CM hp]
 | @vptr cs off a ad val ha hf hb h1 hc hr =>
  simp [Bj] at he
  subst he
  exact .vptr ad val ha (Is hf) hb h1 hc fun j c hj=>(hr j c hj).mono (EF w) (lrf _)
 | @eptr id ver i off a v o hh hle hoo =>
  have hlend:=hl rfl
  simp only [Bj,hh] at he
  cases o<;>try (simp only at he;cases he;done)
  rename_i sz xs
  simp only at he
  obtain ⟨rfl,he1⟩:=Ab he
  obtain ⟨x,hx,he2⟩:=Aa he1
  simp at he2
  subst he2
  obtain ⟨sz2,xs2,e,hlt,ha⟩:=hoo rfl
  simp at e
  obtain ⟨rfl,rfl⟩:=e
  obtain ⟨hcs,hm,hall⟩:=hinv _ _ _ hh
  have hmine:G.kind (G.blk id)=.mine id:=by
   rcases hm with h0|h0
   ·rw [h0] at hlt;simp at hlt
   ·exact h0
  obtain ⟨hxc,arr,t,hb,has,hcell⟩:=hall hmine
  have hrest:=IB (R:=R) (lend:=lend) hmine (.inl (Lr hH hh (by simp)))
  rw [hlend] at hrest
  simp only [if_true] at hrest
  have hg:∀ (j:Nat) (cc:PV),x.cells[j]?=some cc->arr[i*sz+j]?=some (arr.getD (i*sz+j) Go.undef)/\(arr.getD (i*sz+j) Go.undef).oneCell'=true/\PRel (fun b=>G.kind b=.frozen) w cc (arr.getD (i*sz+j) Go.undef):=fun j cc hj=>by
   obtain ⟨u,e1,e2,e3⟩:=hcell i x j cc hx hj
   have hu:arr.getD (i*sz+j) Go.undef=u:=by
    obtain ⟨hlt,e⟩:=ags.1 e1
    simp [Array.getD,hlt,e]
   rw [hu]
   exact ⟨e1,e2,e3⟩
  refine .vptr ⟨G.blk id,i*sz,none⟩ (fun j=>arr.getD (i*sz+j) Go.undef) (by rw [ha,add_lit]) (by rw [hlend];exact hrest) (ags.1 hb).1 (fun j cc hj=>(hg j cc hj).2.1) (fun j cc hj=>?_) (fun j cc hj=>(hg j cc hj).2.2.mono (EF w) (lrf _))
  rw [add_lit,BY hb]
  exact (hg j cc hj).1
 | @mref id ver r v o hh hle hoo =>
  have hlend:=hl rfl
  simp only [Bj,CC,hh] at he
  cases o<;>try (simp only [At] at he;cases he;done)
  rename_i kt ks vs
  simp only at he
  obtain ⟨q,hq,he1⟩:=Aa he
  obtain ⟨rfl,hq1⟩:=Ab hq
  simp at hq1 he1
  subst hq1
  subst he1
  have hr:=hoo rfl
  subst hr
  obtain ⟨hm,es,cl,hb,⟨h3,_⟩,h4,h5,h6⟩:=hinv _ _ _ hh
  have hrest:=IB (R:=R) (lend:=lend) hm (.inl (Lr hH hh (by simp)))
  rw [hlend] at hrest
  simp only [if_true] at hrest
  exact .p (.map (by rw [hlend];exact hrest) hb h3 h4 h5 fun i v e hv he=>(h6 i v e hv he).mono (EF w) (lrf _)) rfl
 | fn _ _=>simp [Bj] at he
 | agg _ _ _=>simp [Bj] at he
 | tup _ _=>simp [Bj] at he
 | undef=>simp [Bj] at he
 | dead c=>simp [Bj] at he
theorem Qw (hinv:HeapInv G h w) (hH:Ad (C0 R h) R=some H) {v v':VVal} {c:Value} (hv:VRel G h w v c) (hl:D3 v=true->lend=true) (he:B3 R h v=some v') :
  VRel (calleeG G R lend) (As H) w v' c:=by
 cases hv with
 | plist=>simp [B3,Bj] at he
 | pcell=>simp [B3,Bj] at he
 | @fn f caps arr hlen hr =>
  simp only [B3] at he
  obtain ⟨cs',hcs,he⟩:=Aa he
  simp at he
  subst he
  obtain ⟨h1,h2⟩:=A3 hcs
  refine .fn (by omega) fun i v c hv hc=>?_
  obtain ⟨x,hx,hex⟩:=h2 i v hv
  exact Ff hinv hH (hr i x c hx hc) (fun hlx=>hl (by simp only [D3,List.any_eq_true];exact ⟨x,lmg hx,hlx⟩)) hex
 | @agg cs arr hlen h1c hr =>
  simp only [B3] at he
  obtain ⟨cs',hcs,he⟩:=Aa he
  simp at he
  subst he
  obtain ⟨h1,h2⟩:=A3 hcs
  refine .agg (by omega) h1c fun i v c hv hc=>?_
  obtain ⟨x,hx,hex⟩:=h2 i v hv
  exact Ff hinv hH (hr i x c hx hc) (fun hlx=>hl (by simp only [D3,List.any_eq_true];exact ⟨x,lmg hx,hlx⟩)) hex
 | p hp h1=>exact Ff hinv hH (.p hp h1) hl he
 | own hn hcap hh hle hoo=>exact Ff hinv hH (.own hn hcap hh hle hoo) hl he
 | ptr hh hle hoo=>exact Ff hinv hH (.ptr hh hle hoo) hl he
 | vptr ad val ha hf hb h1 hc hr=>exact Ff hinv hH (.vptr ad val ha hf hb h1 hc hr) hl he
 | eptr hh hle hoo=>exact Ff hinv hH (.eptr hh hle hoo) hl he
 | mref hh hle hoo=>exact Ff hinv hH (.mref hh hle hoo) hl he
 | tup _ _=>simp [B3,Bj] at he
 | undef=>simp [B3,Bj] at he
 | dead c=>simp [B3,Bj] at he
theorem YR (hinv:HeapInv G h w) (hn:R.Nodup) (hH:Ad (C0 R h) R=some H):HeapInv (calleeG G R lend) (As H) w:=by
 intro id v o hid
 simp only [As] at hid
 split at hid<;>try (cases hid;done)
 rename_i i
 simp only [Option.map_eq_some_iff,pmi] at hid
 obtain ⟨o',ho',rfl,rfl⟩:=hid
 have hilt:i<R.length:=by
  have:=(A3 hH).1
  rw [<- this]
  exact (lgs.1 ho').1
 have hRi:R[i]?=some R[i]:=lgg hilt
 obtain ⟨v1,cs,cs',h1,h2,h3,h4⟩:=HO hH hRi
 rw [ho'] at h4
 simp at h4
 subst h4
 obtain ⟨hk,arr,t,hb,hl,h1c,hc⟩:=hinv _ _ _ h1
 have hblk:(calleeG G R lend).blk (.arg i 0)=G.blk R[i]:=by simp [calleeG,hRi]
 obtain ⟨e1,e2⟩:=A3 h3
 refine ⟨by rw [hblk];exact Gr hn hRi hk,arr,t,by rw [hblk];exact hb,by omega,h1c,fun j u c hu hcj=>?_⟩
 obtain ⟨x,hx,hex⟩:=e2 j u hu
 refine Qw hinv hH (hc j x c hx hcj) (fun hlx=>?_) hex
 rw [List.any_eq_false] at h2
 exact absurd hlx (h2 x (lmg hx))
theorem VB (h:VHeap) (args:List VVal):(rootsW h args).Nodup:=by
 simp only [rootsW]
 split
 .simp
 .exact FH _ _ (FH _ _ (FH _ _ (by simp)))
theorem ST (hH:Ad (DG R h) R=some H) {i:Nat} {id:Id} (hi:R[i]?=some id) :
  ∃ v o o',h id=some (v,o)/\H[i]?=some o'/\((∃ cs cs',o=.box cs/\o'=.box cs'/\Ad (Cw R h) cs=some cs') \/ (o'=o/\((∃ sz xs,o=.arr sz xs) \/ ∃ kt ks vs,o=.map kt ks vs))):=by
 obtain ⟨o',ho,he⟩:=Pk hH i id hi
 simp only [DG] at he
 split at he
 ·rename_i v cs hh
  obtain ⟨cs',h2,he⟩:=Aa he
  simp at he
  exact ⟨v,_,o',hh,ho,.inl ⟨cs,cs',rfl,he.symm,h2⟩⟩
 ·rename_i v sz xs hh
  simp at he
  exact ⟨v,_,o',hh,ho,.inr ⟨he.symm,.inl ⟨sz,xs,rfl⟩⟩⟩
 ·rename_i v kt ks vs hh
  simp at he
  exact ⟨v,_,o',hh,ho,.inr ⟨he.symm,.inr ⟨kt,ks,vs,rfl⟩⟩⟩
 .cases he
theorem K0 (hH:Ad (DG R h) R=some H):Ia h R H:=fun i id hi=>by
 obtain ⟨v,o,o',h1,h2,h3⟩:=ST hH hi
 refine ⟨v,o,o',h1,h2,?_⟩
 rcases h3 with ⟨cs,cs',e1,e2,_⟩|h3
 .exact .inl ⟨cs,cs',e1,e2⟩
 .exact .inr h3
theorem Fb (hn:R.Nodup) (hr:Ia h R H) {v v':VVal} {c:Value} (hv:VRel G h w v c) (he:By R h v=some v') :
  VRel (calleeG G R false) (As H) w v' c:=by
 cases hv with
 | plist=>simp [By] at he
 | pcell=>simp [By] at he
 | p hp h1 =>
  simp [By] at he
  subst he
  exact .p (hp.mono (EF w) (lrf _)) h1
 | @own id ver off len a n cap v o hn' hcap hh hle hoo =>
  simp only [By] at he
  obtain ⟨hal,he⟩:=Ab he
  obtain ⟨i,hp,he⟩:=Aa he
  simp at he
  subst he
  simp only [BG,hh,decide_eq_true_eq] at hal
  obtain ⟨v2,o2,o',h1,h2,h3⟩:=hr i id (CM hp)
  rw [hh] at h1
  simp at h1
  obtain ⟨rfl,rfl⟩:=h1
  obtain ⟨sz,xs,rfl,hlen,hreal⟩:=hoo hal.symm
  rcases h3 with ⟨_,_,e,_⟩|⟨rfl,_⟩
  ·cases e
  ·refine .own (v:=0) (o:=.arr sz xs) hn' hcap (by simp [As,h2]) (lrf _) fun _=>⟨sz,xs,rfl,hlen,?_⟩
   have e1:(calleeG G R false).blk (.arg i 0)=G.blk id:=by simp [calleeG,CM hp]
   have e2:(calleeG G R false).cap (.arg i 0)=G.cap id:=by simp [calleeG,CM hp]
   rw [e1,e2]
   rcases hreal with h0|⟨k1,k2,k3⟩
   .exact .inl h0
   .exact .inr ⟨Gr hn (CM hp) k1,k2,k3⟩
 | @ptr id ver off a v o hh hle hoo =>
  simp only [By] at he
  obtain ⟨hal,he⟩:=Ab he
  obtain ⟨i,hp,he⟩:=Aa he
  simp at he
  subst he
  simp only [BG,hh,decide_eq_true_eq] at hal
  obtain ⟨v2,o2,o',h1,h2,h3⟩:=hr i id (CM hp)
  refine .ptr (v:=0) (o:=o') (by simp [As,h2]) (lrf _) fun _=>?_
  rw [hoo hal.symm]
  simp [calleeG,CM hp]
 | @vptr cs off a ad val ha hf hb h1 hc hr' =>
  simp [By] at he
  subst he
  exact .vptr ad val ha (Is hf) hb h1 hc fun j c hj=>(hr' j c hj).mono (EF w) (lrf _)
 | @eptr id ver j off a v o hh hle hoo =>
  simp only [By] at he
  obtain ⟨hal,he⟩:=Ab he
  obtain ⟨i,hp,he⟩:=Aa he
  simp at he
  subst he
  simp only [BG,hh,decide_eq_true_eq] at hal
  obtain ⟨v2,o2,o',h1,h2,h3⟩:=hr i id (CM hp)
  rw [hh] at h1
  simp at h1
  obtain ⟨rfl,rfl⟩:=h1
  obtain ⟨sz,xs,rfl,hlt,ha⟩:=hoo hal.symm
  rcases h3 with ⟨_,_,e,_⟩|⟨rfl,_⟩
  ·cases e
  ·refine .eptr (v:=0) (o:=.arr sz xs) (by simp [As,h2]) (lrf _) fun _=>⟨sz,xs,rfl,hlt,?_⟩
   rw [ha]
   simp [calleeG,CM hp]
 | @mref id ver r v o hh hle hoo =>
  simp only [By] at he
  obtain ⟨hal,he⟩:=Ab he
  obtain ⟨i,hp,he⟩:=Aa he
  simp at he
  subst he
  simp only [BG,hh,decide_eq_true_eq] at hal
  obtain ⟨v2,o2,o',h1,h2,h3⟩:=hr i id (CM hp)
  refine .mref (v:=0) (o:=o') (by simp [As,h2]) (lrf _) fun _=>?_
  rw [hoo hal.symm]
  simp [calleeG,CM hp]
 | fn _ _=>simp [By] at he
 | agg _ _ _=>simp [By] at he
 | tup _ _=>simp [By] at he
 | undef=>simp [By] at he
 | dead c=>simp [By] at he
theorem PC (hn:R.Nodup) (hr:Ia h R H) {v v':VVal} {c:Value} (hv:VRel G h w v c) (he:Cw R h v=some v') :
  VRel (calleeG G R false) (As H) w v' c:=by
 cases hv with
 | plist=>simp [Cw,By] at he
 | pcell=>simp [Cw,By] at he
 | @fn f caps arr hlen hr' =>
  simp only [Cw] at he
  obtain ⟨cs',hcs,he⟩:=Aa he
  simp at he
  subst he
  obtain ⟨h1,h2⟩:=A3 hcs
  refine .fn (by omega) fun i v c hv hc=>?_
  obtain ⟨x,hx,hex⟩:=h2 i v hv
  exact Fb hn hr (hr' i x c hx hc) hex
 | @agg cs arr hlen h1c hr' =>
  simp only [Cw] at he
  obtain ⟨cs',hcs,he⟩:=Aa he
  simp at he
  subst he
  obtain ⟨h1,h2⟩:=A3 hcs
  refine .agg (by omega) h1c fun i v c hv hc=>?_
  obtain ⟨x,hx,hex⟩:=h2 i v hv
  exact Fb hn hr (hr' i x c hx hc) hex
 | p hp h1=>exact Fb hn hr (.p hp h1) he
 | own hn' hcap hh hle hoo=>exact Fb hn hr (.own hn' hcap hh hle hoo) he
 | ptr hh hle hoo=>exact Fb hn hr (.ptr hh hle hoo) he
 | vptr ad val ha hf hb h1 hc hr'=>exact Fb hn hr (.vptr ad val ha hf hb h1 hc hr') he
 | eptr hh hle hoo=>exact Fb hn hr (.eptr hh hle hoo) he
 | mref hh hle hoo=>exact Fb hn hr (.mref hh hle hoo) he
 | tup _ _=>simp [Cw,By] at he
 | undef=>simp [Cw,By] at he
 | dead c=>simp [Cw,By] at he
theorem XF (hinv:HeapInv G h w) (hn:R.Nodup) (hH:Ad (DG R h) R=some H):HeapInv (calleeG G R false) (As H) w:=by
 intro id v o hid
 simp only [As] at hid
 split at hid<;>try (cases hid;done)
 rename_i i
 simp only [Option.map_eq_some_iff,pmi] at hid
 obtain ⟨o',ho',rfl,rfl⟩:=hid
 have hilt:i<R.length:=by
  have:=(A3 hH).1
  rw [<- this]
  exact (lgs.1 ho').1
 have hRi:R[i]?=some R[i]:=lgg hilt
 have hblk:(calleeG G R false).blk (.arg i 0)=G.blk R[i]:=by simp [calleeG,hRi]
 have hcap:(calleeG G R false).cap (.arg i 0)=G.cap R[i]:=by simp [calleeG,hRi]
 obtain ⟨v1,o1,o2,h1,h2,h3⟩:=ST hH hRi
 rw [ho'] at h2
 simp at h2
 subst h2
 have hob:=hinv _ _ _ h1
 rcases h3 with ⟨cs,cs',rfl,rfl,h3⟩|⟨rfl,⟨sz,xs,rfl⟩|⟨kt,ks,vs,rfl⟩⟩
 ·obtain ⟨hk,arr,t,hb,hl,h1c,hc⟩:=hob
  obtain ⟨e1,e2⟩:=A3 h3
  refine ⟨by rw [hblk];exact Gr hn hRi hk,arr,t,by rw [hblk];exact hb,by omega,h1c,fun j u c hu hcj=>?_⟩
  obtain ⟨x,hx,hex⟩:=e2 j u hu
  exact PC hn (K0 hH) (hc j x c hx hcj) hex
 ·obtain ⟨a1,a2,a3⟩:=hob
  refine ⟨a1,?_,fun hk=>?_⟩
  ·rcases a2 with a2|a2
   ·exact .inl a2
   ·right
    rw [hblk]
    exact Gr hn hRi a2
  ·rw [hblk] at hk
   obtain ⟨i',id',e1,e2,_,e4⟩:=Gs hk
   simp at e1
   subst e1
   rw [hRi] at e2
   simp at e2
   subst e2
   obtain ⟨b1,arr,t,b2,b3,b4⟩:=a3 e4
   refine ⟨by rw [hcap];exact b1,arr,t,by rw [hblk];exact b2,by rw [hcap];exact b3,fun i x j c hx hj=>?_⟩
   obtain ⟨u,c1,c2,c3⟩:=b4 i x j c hx hj
   exact ⟨u,c1,c2,c3.mono (EF w) (lrf _)⟩
 ·obtain ⟨hk,es,cl,b2,b3,b4,b5,b6⟩:=hob
  exact ⟨by rw [hblk];exact Gr hn hRi hk,es,cl,by rw [hblk];exact b2,b3,b4,b5,fun i v e hv he=>(b6 i v e hv he).mono (EF w) (lrf _)⟩
end
end Go.V
namespace Go.V
open Go.RowKit
def hand0 (d j:Nat):VVal->List (Id × Id)
 | .own q _ _ _=>[(q,.slot d (j+1))]
 | _=>[]
def handL (d:Nat):Nat->List VVal->List (Id × Id)
 | _,[]=>[]
 | j,v::vs=>hand0 d j v++handL d (j+1) vs
def hand1 (h1:VHeap) (d j:Nat):VVal->List (Id × Id)
 | .agg cs=>handL d j cs
 | .ptr (.slot s i) _ _=>match h1 (.slot s i) with
  | some (_,.box cs)=>(.slot s i,.slot d (j+1))::handL d (j+1) cs
  | _=>[]
 | v=>hand0 d j v
def handT (h1:VHeap) (d:Nat):Nat->List VVal->List VVal->List (Id × Id)
 | j,v::vs,r::rs=>hand1 h1 d j v++handT h1 d (j+Er r) vs rs
 | _,_,_=>[]
def fwd (q:Id):List (Id × Id)->Option Id
 | []=>none
 | (a,b)::hs=>if a=q then some b else fwd q hs
theorem G0 {q id:Id}:∀ {hs:List (Id × Id)},fwd q hs=some id->(q,id)∈hs
 | [],h=>by cases h
 | (a,b)::hs,h=>by
  simp only [fwd] at h
  split at h
  .rename_i e;simp at h;subst h;subst e;exact lms ..
  .exact lmc _ (G0 h)
theorem Rf {q id:Id}:∀ {hs:List (Id × Id)},(hs.map (·.1)).Nodup->(q,id)∈hs->fwd q hs=some id
 | [],_,h=>by cases h
 | (a,b)::hs,hn,h=>by
  simp only [lpc,List.nodup_cons] at hn
  simp only [fwd]
  rcases lmk.1 h with e|e
  .simp at e;rw [if_pos e.1.symm,e.2]
  .rw [if_neg (fun e'=>hn.1 (lmm.2 ⟨_,e,e'.symm⟩)),Rf hn.2 e]
def bwd (id:Id):List (Id × Id)->Option Id
 | []=>none
 | (a,b)::hs=>if b=id then some a else bwd id hs
theorem Q6 {q id:Id}:∀ {hs:List (Id × Id)},bwd id hs=some q->(q,id)∈hs
 | [],h=>by cases h
 | (a,b)::hs,h=>by
  simp only [bwd] at h
  split at h
  .rename_i e;simp at h;subst h;subst e;exact lms ..
  .exact lmc _ (Q6 h)
theorem Hf {q id:Id}:∀ {hs:List (Id × Id)},(hs.map (·.2)).Nodup->(q,id)∈hs->bwd id hs=some q
 | [],_,h=>by cases h
 | (a,b)::hs,hn,h=>by
  simp only [lpc,List.nodup_cons] at hn
  simp only [bwd]
  rcases lmk.1 h with e|e
  .simp at e;rw [if_pos e.2.symm,e.1]
  .rw [if_neg (fun e'=>hn.1 (lmm.2 ⟨_,e,e'.symm⟩)),Hf hn.2 e]
theorem HX {id:Id} {hs:List (Id × Id)} (h:∀ q,(q,id) ∉ hs):bwd id hs=none:=by
 cases hb:bwd id hs with
 | none=>rfl
 | some q=>exact absurd (Q6 hb) (h q)
def bump (v:Nat):Nat:=if v=0 then 0 else 1
open Classical in
noncomputable def Aq (G G1:Gh) (h1:VHeap) (R:List Id) (n n1:Nat) (hs:List (Id × Id)):Gh where
 kind b:=if b<n then G.kind b else if b<n1 then (match G1.kind b with
   | .mine q=>match fwd q hs with
    | some id=>.mine id
    | none=>match q with
     | .arg i 0=>match R[i]? with
      | some id=>.mine id
      | none=>.frozen
     | _=>.frozen
   | k=>k) else .other
 blk id:=match bwd id hs with
  | some q=>if G1.kind (G1.blk q)=.mine q then G1.blk q else n1
  | none=>match BN R id with
   | some i=>match h1 (.arg i 0) with
    | some (0,_)=>G.blk id
    | _=>if G1.kind (G1.blk (.arg i 0))=.mine (.arg i 0) then G1.blk (.arg i 0) else n1
   | none=>G.blk id
 cap id:=match bwd id hs with
  | some q=>G1.cap q
  | none=>match BN R id with
   | some i=>G1.cap (.arg i 0)
   | none=>G.cap id
theorem JU {R:List Id} {h:VHeap} {d j:Nat} {x:PV} {v':VVal} {qs:List (Id × Nat × Ob)} (hi:in0 R h d j (.p x)=some (v',qs)):v'=.p x/\qs=[]:=by
 simp [in0,CH,ob] at hi
 exact ⟨hi.1.symm,hi.2⟩
def zaW (o o1:Ob):Prop:=(∃ cs cs1,o=.box cs/\o1=.box cs1) \/ (∃ sz xs sz1 xs1,o=.arr sz xs/\o1=.arr sz1 xs1) \/ ∃ kt ks vs kt1 ks1 vs1,o=.map kt ks vs/\o1=.map kt1 ks1 vs1
def zcH (o1 o2:Ob):Prop:=(∃ cs1 cs2,o1=.box cs1/\o2=.box cs2) \/ (o2=o1/\∀ cs,o1 ≠ .box cs)
structure After (G:Gh) (h:VHeap) (w:World) (R:List Id) (H:List Ob) (lend:Bool) (G1:Gh) (h1:VHeap) (w1:World) (hs:List (Id × Id)) (h2:VHeap):Prop where
 hinv:HeapInv G h w
 hn:R.Nodup
 roots:Ia h R H
 st:Step (calleeG G R lend) (As H) w G1 h1 w1
 inv1:HeapInv G1 h1 w1
 nd1:(hs.map (·.1)).Nodup
 nd2:(hs.map (·.2)).Nodup
 own:∀ q id,(q,id)∈hs->(∃ s j,q=.slot s j)/\∃ v o,h1 q=some (v,o)/\o ≠ .gone/\∀ kt ks vs,o ≠ .map kt ks vs
 h2a:∀ q id,(q,id)∈hs->∃ v o,h2 id=some (v,o)/\nv (h id)<=v/\(id∈R->(∃ v0 cs,h id=some (v0,.box cs)) \/ nv (h id)<v)
 h2b:∀ id,(∀ q,(q,id) ∉ hs)->id ∉ R->h2 id=h id
 h2c:∀ i id v o v1 o1,(∀ q,(q,id) ∉ hs)->R[i]?=some id->h id=some (v,o)->h1 (.arg i 0)=some (v1,o1)->∃ o2,h2 id=some (v+bump v1,o2)/\zcH o1 o2
 args0:∀ i,i<R.length->∃ v1 o1,h1 (.arg i 0)=some (v1,o1)
 shape:∀ i id v o v1 o1,R[i]?=some id->h id=some (v,o)->h1 (.arg i 0)=some (v1,o1)->zaW o o1/\(v1=0 \/ ∃ sz xs,o1=.arr sz xs)
section
variable {G:Gh} {h:VHeap} {w:World} {R:List Id} {H:List Ob} {lend:Bool} {G1:Gh} {h1:VHeap} {w1:World} {hs:List (Id × Id)} {h2:VHeap}
theorem ZQ {R:List Id} {id:Id} (h:id ∉ R):BN R id=none:=by
 cases hp:BN R id with
 | none=>rfl
 | some i=>exact absurd (lmg (CM hp)) h
theorem Ys {R:List Id} (hn:R.Nodup) {i j:Nat} {id:Id} (hi:R[i]?=some id) (hj:R[j]?=some id):i=j:=by
 have h1:=FG hn hi
 rw [FG hn hj] at h1
 exact (Option.some.inj h1).symm
theorem Ee {b:Nat} (hb:b<w.heap.size):(Aq G G1 h1 R w.heap.size w1.heap.size hs).kind b=G.kind b:=by simp [Aq,hb]
theorem After.prel (A:After G h w R H lend G1 h1 w1 hs h2) {d:PV} {c:Value} (hd:lend=false \/ d.flat=true) (hp:PRel (fun b=>G1.kind b=.frozen) w1 d c):PRel (fun b=>(Aq G G1 h1 R w.heap.size w1.heap.size hs).kind b=.frozen) w1 d c:=by
 rcases hd with rfl|hd
 ·refine hp.mono (fun b hb hlt=>⟨?_,rfl⟩) (lrf _)
  by_cases hbn:b<w.heap.size
  ·rw [Ee hbn]
   rcases A.st.frz b hbn hb with hf|⟨s,j,hm⟩
   ·exact UM hf
   ·obtain ⟨i,id,e,_⟩:=Gs hm
    cases e
  .simp [Aq,hbn,hlt,hb]
 .exact hp.flat hd
theorem After.made (A:After G h w R H lend G1 h1 w1 hs h2) {s j b:Nat} (hm:G1.kind b=.mine (.slot s j)):w.heap.size<=b:=by
 rcases Nat.lt_or_ge b w.heap.size with hlt|hge
 .rcases A.st.mine b _ hlt hm with h0|⟨_,_,_,h0⟩<;>(obtain ⟨i,id,e,_⟩:=Gs h0;cases e)
 .exact hge
theorem After.adopt (A:After G h w R H lend G1 h1 w1 hs h2) {q id:Id} (hq:(q,id)∈hs) (hm:G1.kind (G1.blk q)=.mine q):(Aq G G1 h1 R w.heap.size w1.heap.size hs).blk id=G1.blk q/\(Aq G G1 h1 R w.heap.size w1.heap.size hs).kind (G1.blk q)=.mine id/\G1.blk q<w1.heap.size:=by
 obtain ⟨⟨s,j,rfl⟩,v,o,hh,hg,_⟩:=A.own q id hq
 have hge:=A.made hm
 have hlt:=D0 A.inv1 hh hm hg
 refine ⟨by simp [Aq,Hf A.nd2 hq,hm],?_,hlt⟩
 simp [Aq,Nat.not_lt.2 hge,hlt,hm,Rf A.nd1 hq]
theorem After.adopt_not (A:After G h w R H lend G1 h1 w1 hs h2) {q id:Id} (hq:(q,id)∈hs) (hm:¬ G1.kind (G1.blk q)=.mine q):(Aq G G1 h1 R w.heap.size w1.heap.size hs).kind ((Aq G G1 h1 R w.heap.size w1.heap.size hs).blk id)=.other:=by
 have hb:(Aq G G1 h1 R w.heap.size w1.heap.size hs).blk id=w1.heap.size:=by simp [Aq,Hf A.nd2 hq,hm]
 have:=A.st.size
 rw [hb]
 simp [Aq,Nat.not_lt.2 this]
theorem After.blk (_:After G h w R H lend G1 h1 w1 hs h2) {id:Id} (hq:∀ q,(q,id) ∉ hs) (hR:id ∉ R):(Aq G G1 h1 R w.heap.size w1.heap.size hs).blk id=G.blk id/\(Aq G G1 h1 R w.heap.size w1.heap.size hs).cap id=G.cap id:=by simp [Aq,HX hq,ZQ hR]
theorem After.at (A:After G h w R H lend G1 h1 w1 hs h2) {i:Nat} {id:Id} (hi:R[i]?=some id):∃ v o o' v1 o1,h id=some (v,o)/\QE o o'/\h1 (.arg i 0)=some (v1,o1) /\
  (v1=0->G1.blk (.arg i 0)=G.blk id/\G1.cap (.arg i 0)=G.cap id/\SameOb o' o1/\∀ sz xs,o'=.arr sz xs->G.kind (G.blk id)=.mine id->G1.kind (G.blk id)=.mine (.arg i 0)):=by
 obtain ⟨v,o,o',e1,e2,e3⟩:=A.roots i id hi
 obtain ⟨v1,o1,e4⟩:=A.args0 i (lgs.1 hi).1
 obtain ⟨v',o'',e5,_,e7⟩:=A.st.vers (.arg i 0) 0 o' (by simp [As,e2])
 rw [e4] at e5
 simp at e5
 obtain ⟨rfl,rfl⟩:=e5
 refine ⟨v,o,o',v1,o1,e1,e3,e4,fun h0=>?_⟩
 obtain ⟨f1,f2,f3,f4⟩:=e7 h0
 have g1:(calleeG G R lend).blk (.arg i 0)=G.blk id:=by simp [calleeG,hi]
 have g2:(calleeG G R lend).cap (.arg i 0)=G.cap id:=by simp [calleeG,hi]
 rw [g1] at f1 f4
 rw [g2] at f2
 exact ⟨f1,f2,f3,fun sz xs ho hk=>f4 sz xs ho (Gr A.hn hi hk)⟩
theorem After.blk0 (A:After G h w R H lend G1 h1 w1 hs h2) {i:Nat} {id:Id} (hi:R[i]?=some id) (hq:∀ q,(q,id) ∉ hs) {o1:Ob} (h0:h1 (.arg i 0)=some (0,o1)):(Aq G G1 h1 R w.heap.size w1.heap.size hs).blk id=G.blk id:=by
 simp [Aq,HX hq,FG A.hn hi,h0]
theorem After.blk1 (A:After G h w R H lend G1 h1 w1 hs h2) {i:Nat} {id:Id} (hi:R[i]?=some id) (hq:∀ q,(q,id) ∉ hs) {v1:Nat} {o1:Ob} (h0:h1 (.arg i 0)=some (v1,o1)) (hv:v1 ≠ 0) (hm:G1.kind (G1.blk (.arg i 0))=.mine (.arg i 0)):(Aq G G1 h1 R w.heap.size w1.heap.size hs).blk id=G1.blk (.arg i 0):=by
 obtain ⟨n,rfl⟩:∃ n,v1=n+1:=⟨v1 - 1,by omega⟩
 simp [Aq,HX hq,FG A.hn hi,h0,hm]
theorem After.blk2 (A:After G h w R H lend G1 h1 w1 hs h2) {i:Nat} {id:Id} (hi:R[i]?=some id) (hq:∀ q,(q,id) ∉ hs) {v1:Nat} {o1:Ob} (h0:h1 (.arg i 0)=some (v1,o1)) (hv:v1 ≠ 0) (hm:¬ G1.kind (G1.blk (.arg i 0))=.mine (.arg i 0)):(Aq G G1 h1 R w.heap.size w1.heap.size hs).blk id=w1.heap.size:=by
 obtain ⟨n,rfl⟩:∃ n,v1=n+1:=⟨v1 - 1,by omega⟩
 simp [Aq,HX hq,FG A.hn hi,h0,hm]
theorem After.capR (A:After G h w R H lend G1 h1 w1 hs h2) {i:Nat} {id:Id} (hi:R[i]?=some id) (hq:∀ q,(q,id) ∉ hs):(Aq G G1 h1 R w.heap.size w1.heap.size hs).cap id=G1.cap (.arg i 0):=by
 simp [Aq,HX hq,FG A.hn hi]
theorem After.fwdArg (A:After G h w R H lend G1 h1 w1 hs h2) (i:Nat):fwd (.arg i 0) hs=none:=by
 cases hf:fwd (.arg i 0) hs with
 | none=>rfl
 | some id =>
  obtain ⟨⟨s,j,e⟩,_⟩:=A.own _ _ (G0 hf)
  cases e
theorem After.rootMine (A:After G h w R H lend G1 h1 w1 hs h2) {i:Nat} {id:Id} (hi:R[i]?=some id) (hq:∀ q,(q,id) ∉ hs) (hg:∀ v,h1 (.arg i 0) ≠ some (v,.gone)) (hm:G1.kind (G1.blk (.arg i 0))=.mine (.arg i 0)) :
  (Aq G G1 h1 R w.heap.size w1.heap.size hs).blk id=G1.blk (.arg i 0)/\(Aq G G1 h1 R w.heap.size w1.heap.size hs).kind (G1.blk (.arg i 0))=.mine id:=by
 obtain ⟨v,o,o',v1,o1,e1,e2,e3,e4⟩:=A.at hi
 have hlt:=D0 A.inv1 e3 hm (fun e=>hg v1 (by rw [e3,e]))
 constructor
 ·by_cases h0:v1=0
  ·subst h0
   rw [A.blk0 hi hq e3,(e4 rfl).1]
  ·exact A.blk1 hi hq e3 h0 hm
 ·by_cases hb:G1.blk (.arg i 0)<w.heap.size
  ·rw [Ee hb]
   have hm0:(calleeG G R lend).kind (G1.blk (.arg i 0))=.mine (.arg i 0):=by
    rcases A.st.mine _ _ hb hm with h0|⟨⟨_,_,e⟩,_⟩
    .exact h0
    .cases e
   obtain ⟨i',id',f1,f2,_,f4⟩:=Gs hm0
   simp at f1
   subst f1
   rw [hi] at f2
   simp at f2
   rw [f2]
   exact f4
  .simp [Aq,hb,hlt,hm,A.fwdArg i,hi]
theorem After.rootArr (A:After G h w R H lend G1 h1 w1 hs h2) {i:Nat} {id:Id} (hi:R[i]?=some id) (hq:∀ q,(q,id) ∉ hs) {v sz:Nat} {xs:List PV} (ho:h id=some (v,.arr sz xs)) (hk:(Aq G G1 h1 R w.heap.size w1.heap.size hs).kind ((Aq G G1 h1 R w.heap.size w1.heap.size hs).blk id)=.mine id):G1.kind (G1.blk (.arg i 0))=.mine (.arg i 0):=by
 obtain ⟨v',o,o',v1,o1,e1,e2,e3,e4⟩:=A.at hi
 rw [ho] at e1
 simp at e1
 obtain ⟨rfl,rfl⟩:=e1
 have ho':o'=.arr sz xs:=by
  rcases e2 with ⟨_,_,e,_⟩|⟨e,_⟩
  ·cases e
  ·exact e
 by_cases h0:v1=0
 ·subst h0
  obtain ⟨f1,f2,f3,f4⟩:=e4 rfl
  rw [A.blk0 hi hq e3] at hk
  rw [f1]
  by_cases hb:G.blk id<w.heap.size
  ·rw [Ee hb] at hk
   exact f4 _ _ ho' hk
  ·simp only [Aq,hb,if_false] at hk
   split at hk
   ·split at hk
    ·rename_i q hq1
     split at hk
     ·rename_i id' hf
      simp at hk
      subst hk
      exact absurd (G0 hf) (hq _)
     ·split at hk
      ·rename_i i' _ _
       split at hk
       ·rename_i id' hi'
        simp at hk
        subst hk
        rw [Ys A.hn hi hi']
        exact hq1
       .cases hk
      .cases hk
    ·rename_i hno
     exact absurd hk (hno _)
   .cases hk
 ·by_cases hm:G1.kind (G1.blk (.arg i 0))=.mine (.arg i 0)
  ·exact hm
  ·rw [A.blk2 hi hq e3 h0 hm] at hk
   have:=A.st.size
   simp [Aq,Nat.not_lt.2 this] at hk
theorem After.step (A:After G h w R H lend G1 h1 w1 hs h2):Step G h w (Aq G G1 h1 R w.heap.size w1.heap.size hs) h2 w1 where
 frozen:=fun b hb hl=>⟨by rw [Ee hl];exact hb,(A.st.frozen b (Is hb) hl).2⟩
 other:=fun b hb hl=>⟨by rw [Ee hl];exact hb,(A.st.other b (Vp hb) hl).2⟩
 mine:=fun b id hl hm=>.inl (by rwa [Ee hl] at hm)
 frz := fun b hl hm=>.inl (by rwa [Ee hl] at hm)
 size:=A.st.size
 os := A.st.os
 tape:=A.st.tape
 output:=A.st.output
 vers:=fun id v o hh=>by
  by_cases hq:∃ q,(q,id)∈hs
  ·obtain ⟨q,hq⟩:=hq
   obtain ⟨v2,o2,h2o,hle,_⟩:=A.h2a q id hq
   rw [Ev hh] at hle
   exact ⟨v2,o2,h2o,by omega,fun e=>by omega⟩
  ·have hq':∀ q,(q,id) ∉ hs:=fun q hm=>hq ⟨q,hm⟩
   have harr:∀ sz xs,o=.arr sz xs->G.kind (G.blk id)=.mine id->(Aq G G1 h1 R w.heap.size w1.heap.size hs).kind (G.blk id)=.mine id:=fun sz xs ho hm=>by
    rw [Ee (D0 A.hinv hh hm (by rw [ho];simp))]
    exact hm
   by_cases hR:id∈R
   ·obtain ⟨i,hil,e⟩:=List.getElem_of_mem hR
    have hi:R[i]?=some id:=by rw [lgg hil,e]
    obtain ⟨v',o0,o',v1,o1,e1,e2,e3,e4⟩:=A.at hi
    rw [hh] at e1
    simp at e1
    obtain ⟨rfl,rfl⟩:=e1
    obtain ⟨o2,f1,f2⟩:=A.h2c i id v o v1 o1 hq' hi hh e3
    refine ⟨_,o2,f1,by omega,fun e=>?_⟩
    have h0:v1=0:=by
     by_cases h0:v1=0
     .exact h0
     .simp [bump,h0] at e
    subst h0
    obtain ⟨g1,g2,g3,g4⟩:=e4 rfl
    refine ⟨A.blk0 hi hq' e3,by rw [A.capR hi hq',g2],?_,harr⟩
    rcases e2 with ⟨cs,cs',rfl,rfl⟩|⟨rfl,⟨sz,xs,rfl⟩|⟨kt,ks,vs,rfl⟩⟩
    ·simp [SameOb]
    ·rcases f2 with ⟨cs1,cs2,rfl,rfl⟩|⟨rfl,_⟩
     .simp [SameOb] at g3
     .exact g3
    .simp [SameOb]
   ·obtain ⟨hb,hc⟩:=A.blk hq' hR
    exact ⟨v,o,by rw [A.h2b id hq' hR];exact hh,lrf _,fun _=>⟨hb,hc,by cases o<;>simp [SameOb],harr⟩⟩
theorem After.ptr (A:After G h w R H lend G1 h1 w1 hs h2) {i off:Nat} {c:Value} (hv:VRel G1 h1 w1 (.ptr (.arg i 0) 0 off) c) {id:Id} (hi:R[i]?=some id) {o:Nat × Ob} (ho:h id=some o):VRel (Aq G G1 h1 R w.heap.size w1.heap.size hs) h2 w1 (.ptr id o.1 off) c:=by
 obtain ⟨v,o⟩:=o
 cases hv with
 | @ptr _ _ _ a v1 o1 hh hle hoo =>
  by_cases hq:∃ q,(q,id)∈hs
  ·obtain ⟨q,hq⟩:=hq
   obtain ⟨v2,o2,h2o,hlt,_⟩:=A.h2a q id hq
   rw [Ev ho] at hlt
   exact .ptr h2o (by simp only;omega) fun e=>by simp only at e;omega
  ·have hq':∀ q,(q,id) ∉ hs:=fun q hm=>hq ⟨q,hm⟩
   obtain ⟨o2,f1,_⟩:=A.h2c i id v o v1 o1 hq' hi ho hh
   refine .ptr f1 (by simp only;omega) fun e=>?_
   have h0:v1=0:=by
    by_cases h0:v1=0
    .exact h0
    .simp [bump,h0] at e
   subst h0
   obtain ⟨_,_,_,v1',o1',_,_,e3,e4⟩:=A.at hi
   rw [hh] at e3
   simp at e3
   rw [hoo rfl,A.blk0 hi hq' hh,(e4 e3.1.symm).1]
theorem After.eptr (A:After G h w R H lend G1 h1 w1 hs h2) {i j off:Nat} {c:Value} (hv:VRel G1 h1 w1 (.eptr (.arg i 0) 0 j off) c) {id:Id} (hi:R[i]?=some id) {o:Nat × Ob} (ho:h id=some o):VRel (Aq G G1 h1 R w.heap.size w1.heap.size hs) h2 w1 (.eptr id o.1 j off) c:=by
 obtain ⟨v,o⟩:=o
 cases hv with
 | @eptr _ _ _ _ a v1 o1 hh hle hoo =>
  by_cases hq:∃ q,(q,id)∈hs
  ·obtain ⟨q,hq⟩:=hq
   obtain ⟨v2,o2,h2o,hlt,_⟩:=A.h2a q id hq
   rw [Ev ho] at hlt
   exact .eptr h2o (by simp only;omega) fun e=>by simp only at e;omega
  ·have hq':∀ q,(q,id) ∉ hs:=fun q hm=>hq ⟨q,hm⟩
   obtain ⟨o2,f1,f2⟩:=A.h2c i id v o v1 o1 hq' hi ho hh
   refine .eptr f1 (by simp only;omega) fun e=>?_
   have h0:v1=0:=by
    by_cases h0:v1=0
    .exact h0
    .simp [bump,h0] at e
   subst h0
   obtain ⟨_,_,_,v1',o1',_,_,e3,e4⟩:=A.at hi
   rw [hh] at e3
   simp at e3
   obtain ⟨sz,xs,rfl,g1,g2⟩:=hoo rfl
   have e5:o2=.arr sz xs:=by
    rcases f2 with ⟨_,_,e6,_⟩|⟨e6,_⟩
    .cases e6
    .exact e6
   exact ⟨sz,xs,e5,g1,by rw [g2,A.blk0 hi hq' hh,(e4 e3.1.symm).1]⟩
theorem After.mref (A:After G h w R H lend G1 h1 w1 hs h2) {i:Nat} {c:Value} (hv:VRel G1 h1 w1 (.mref (.arg i 0) 0) c) {id:Id} (hi:R[i]?=some id) {o:Nat × Ob} (ho:h id=some o):VRel (Aq G G1 h1 R w.heap.size w1.heap.size hs) h2 w1 (.mref id o.1) c:=by
 obtain ⟨v,o⟩:=o
 cases hv with
 | @mref _ _ r v1 o1 hh hle hoo =>
  by_cases hq:∃ q,(q,id)∈hs
  ·obtain ⟨q,hq⟩:=hq
   obtain ⟨v2,o2,h2o,hlt,_⟩:=A.h2a q id hq
   rw [Ev ho] at hlt
   exact .mref h2o (by simp only;omega) fun e=>by simp only at e;omega
  ·have hq':∀ q,(q,id) ∉ hs:=fun q hm=>hq ⟨q,hm⟩
   obtain ⟨o2,f1,_⟩:=A.h2c i id v o v1 o1 hq' hi ho hh
   refine .mref f1 (by simp only;omega) fun e=>?_
   have h0:v1=0:=by
    by_cases h0:v1=0
    .exact h0
    .simp [bump,h0] at e
   subst h0
   obtain ⟨_,_,_,v1',o1',_,_,e3,e4⟩:=A.at hi
   rw [hh] at e3
   simp at e3
   rw [hoo rfl,A.blk0 hi hq' hh,(e4 e3.1.symm).1]
theorem After.ownArg (A:After G h w R H lend G1 h1 w1 hs h2) {i ver off len:Nat} {c:Value} (hv:VRel G1 h1 w1 (.own (.arg i 0) ver off len) c) (hal:BG h1 (.arg i 0) ver=true) {id:Id} (hi:R[i]?=some id) {o:Nat × Ob} (ho:h id=some o) :
  VRel (Aq G G1 h1 R w.heap.size w1.heap.size hs) h2 w1 (.own id (o.1+bump ver) off len) c:=by
 obtain ⟨v,o⟩:=o
 cases hv with
 | @own _ _ _ _ a n cap v1 o1 hn' hcap hh hle hoo =>
  simp only [BG,hh,decide_eq_true_eq] at hal
  subst hal
  obtain ⟨sz,xs,rfl,hlen,hreal⟩:=hoo rfl
  obtain ⟨hk,_⟩:=A.shape i id v o v1 _ hi ho hh
  have hbox:¬ ∃ v0 cs,h id=some (v0,.box cs):=by
   rintro ⟨v0,cs,e⟩
   rw [ho] at e
   simp at e
   rcases hk with ⟨_,_,_,e'⟩|⟨_,_,_,_,e',_⟩|⟨_,_,_,_,_,_,_,e'⟩
   ·cases e'
   ·rw [e.2] at e';cases e'
   ·cases e'
  have hb1:bump v1<=1:=by unfold bump;split<;>omega
  by_cases hq:∃ q,(q,id)∈hs
  ·obtain ⟨q,hq⟩:=hq
   obtain ⟨v2,o2,h2o,hlt,hst⟩:=A.h2a q id hq
   rcases hst (lmg hi) with h0|hst
   ·exact absurd h0 hbox
   ·rw [Ev ho] at hst
    exact .own hn' hcap h2o (by simp only;omega) fun e=>by simp only at e;omega
  ·have hq':∀ q,(q,id) ∉ hs:=fun q hm=>hq ⟨q,hm⟩
   obtain ⟨o2,f1,f2⟩:=A.h2c i id v o v1 _ hq' hi ho hh
   refine .own hn' hcap f1 (lrf _) fun _=>?_
   rcases f2 with ⟨_,_,e,_⟩|⟨rfl,_⟩
   ·cases e
   ·refine ⟨sz,xs,rfl,hlen,?_⟩
    rcases hreal with h0|⟨k1,k2,k3⟩
    ·exact .inl h0
    ·obtain ⟨b1,b2⟩:=A.rootMine hi hq' (fun v' e=>by rw [hh] at e;cases e) k1
     refine .inr ⟨by rw [b1];exact b2,by rw [A.capR hi hq'];exact k2,fun h0=>by rw [b1];exact k3 h0⟩
theorem After.adoptVal (A:After G h w R H lend G1 h1 w1 hs h2) {s i ver len sz ver':Nat} {xs:List PV} {id:Id} {c:Value} (hv:VRel G1 h1 w1 (.own (.slot s i) ver 0 len) c) (hh:h1 (.slot s i)=some (ver,.arr sz xs)) (hm:(Id.slot s i,id)∈hs) (h2o:h2 id=some (ver',.arr sz ((xs.drop 0).take len))) :
  VRel (Aq G G1 h1 R w.heap.size w1.heap.size hs) h2 w1 (.own id ver' 0 ((xs.drop 0).take len).length) c:=by
 cases hv with
 | @own _ _ _ _ a n cap v o hn hcap hh' hle hoo =>
  rw [hh] at hh'
  simp at hh'
  obtain ⟨rfl,rfl⟩:=hh'
  obtain ⟨sz',xs',e,hlen,hreal⟩:=hoo rfl
  simp at e
  obtain ⟨rfl,rfl⟩:=e
  have hlen':((xs.drop 0).take len).length=len:=by simp;omega
  rw [hlen']
  refine .own hn hcap h2o (lrf _) fun _=>⟨sz,_,rfl,by simp;omega,?_⟩
  rcases hreal with ⟨hc0,_⟩|⟨hk,hce,ha⟩
  ·exact .inl ⟨hc0,rfl⟩
  ·obtain ⟨b1,b2,_⟩:=A.adopt hm hk
   refine .inr ⟨by rw [b1];exact b2,?_,fun h0=>by rw [b1];exact ha h0⟩
   refine Nat.le_trans hce (Nat.le_of_eq ?_)
   simp [Aq,Hf A.nd2 hm]
theorem Ln {h:VHeap} {f:FuncId} {c:VVal} {cs:List VVal} {r:VVal} (ho:Ar h (.fn f (c::cs))=some r):∃ ds,Ad (G8 h) (c::cs)=some ds/\r=.p (.clo f ds):=by
 simp only [Ar] at ho
 obtain ⟨ds,e,h0⟩:=Aa ho
 simp only [osi] at h0
 exact ⟨ds,e,h0.symm⟩
theorem Wk {h:VHeap} {v:VVal} {x:PV} (ho:G8 h v=some x):∃ s j ver cs ds,v=.ptr (.slot s j) ver 0/\h (.slot s j)=some (ver,.box cs)/\Ad unP cs=some ds/\x=.agg ds:=by
 unfold G8 at ho
 split at ho
 ·rename_i s j ver
  split at ho
  ·rename_i v cs hh
   obtain ⟨rfl,ho1⟩:=Ab ho
   obtain ⟨ds,e,h0⟩:=Aa ho1
   simp only [osi] at h0
   exact ⟨s,j,_,cs,ds,rfl,hh,e,h0.symm⟩
  .cases ho
 .cases ho
def MB:VVal->Id
 | .ptr id _ _=>id
 | _=>.arg 0 0
theorem After.clo (A:After G h w R H lend G1 h1 w1 hs h2) (hlf:lend=false) {f:FuncId} {caps:List VVal} {arr:Array Value} (hl:caps.length=arr.size) (hr:∀ (i:Nat) (v:VVal) (c:Value),caps[i]?=some v->arr[i]?=some c->VRel G1 h1 w1 v c)
  {ds:List PV} (hds:Ad (G8 h1) caps=some ds) (hcp:∀ q∈capIds0 (.fn f caps),∀ id,(q,id) ∉ hs):VRel (Aq G G1 h1 R w.heap.size w1.heap.size hs) h2 w1 (.p (.clo f ds)) (.func (.func f) #[] arr):=by
 obtain ⟨g1,g2⟩:=A3 hds
 have key:∀ (i:Nat) (x:PV),ds[i]?=some x->∃ (b:Nat) (cs:List VVal) (dl:List PV) (ar:Array Value) (t:TypeId),arr[i]?=some (.pointer (some ⟨b,0,none⟩))/\b=G1.blk (MB (caps.getD i .undef))/\x=.agg dl/\Ad unP cs=some dl /\
   (Aq G G1 h1 R w.heap.size w1.heap.size hs).kind b=.frozen/\b<w1.heap.size/\w1.heap[b]?=some (.cells ar t (0,0))/\cs.length=ar.size/\(∀ (i:Nat) (c:Value),ar[i]?=some c->c.oneCell'=true)/\∀ (i:Nat) (v:VVal) (c:Value),cs[i]?=some v->ar[i]?=some c->VRel G1 h1 w1 v c:=fun i x hx=>by
  obtain ⟨v,hv,ho⟩:=g2 i x hx
  obtain ⟨s,j,ver,cs,dl,rfl,hh,hu,rfl⟩:=Wk ho
  have hlt:i<arr.size:=by rw [<- hl];exact (lgs.1 hv).1
  have hc:=aggz hlt
  generalize arr[i]=c at hc
  have hvr:=hr i _ c hv hc
  cases hvr with
  | @ptr _ _ _ a v' o hh' hle hoo =>
   rw [hh] at hh'
   simp only [osi,pmi] at hh'
   obtain ⟨hm,ar,t,hb,e3,e4,e5⟩:=A.inv1 _ _ _ hh
   have hge:=A.made hm
   have hlt:=(ags.1 hb).1
   have hfw:fwd (.slot s j) hs=none:=by
    cases hf:fwd (.slot s j) hs with
    | none=>rfl
    | some id=>exact absurd (G0 hf) (hcp _ (List.mem_flatMap.2 ⟨_,lmg hv,by simp [ids0]⟩) id)
   refine ⟨_,cs,dl,ar,t,by rw [hc,hoo hh'.1],by rw [List.getD_eq_getElem?_getD,hv];rfl,rfl,hu,by simp [Aq,Nat.not_lt.2 hge,hlt,hm,hfw],hlt,hb,e3,e4,e5⟩
 refine .p (.clo (fun i=>⟨G1.blk (MB (caps.getD i .undef)),0,none⟩) (fun i j=>(w1.cell? ⟨G1.blk (MB (caps.getD i .undef)),j,none⟩).getD Go.undef) (by omega) (fun i x hx=>?_) (fun i x j y hx hy=>?_) (fun i x j y hx hy=>?_) fun i x j y hx hy=>?_) rfl
 ·obtain ⟨b,cs,dl,ar,t,k1,rfl,_,_,k5,k6,_⟩:=key i x hx
  exact ⟨k1,k5,k6⟩
 all_goals
  obtain ⟨b,cs,dl,ar,t,k1,rfl,rfl,k4,k5,k6,k7,k8,k9,k10⟩:=key i x hx
  obtain ⟨u1,u2⟩:=A3 k4
  simp only [PV.cells] at hy
  obtain ⟨v,hv,hu⟩:=u2 j y hy
  have hlt:j<ar.size:=by rw [<- k8];exact (lgs.1 hv).1
  have hcell:=BY (o:=j) k7
  rw [aggz hlt] at hcell
 ·rw [hcell]
  exact k9 j _ (aggz hlt)
 ·rw [add_lit,Nat.zero_add,hcell]
  rfl
 ·rw [hcell]
  have hvr:=k10 j v _ hv (aggz hlt)
  exact A.prel (.inl hlf) (HZ hvr hu).1
theorem Pc {h:VHeap} {id:Id} {ver j off:Nat} {r:VVal} (ho:Ar h (.eptr id ver j off)=some r):∃ i,id=.arg i 0/\ver=0/\r=.eptr (.arg i 0) 0 j off:=by
 cases id with
 | slot=>simp [Ar] at ho
 | arg i k =>
  cases k with
  | succ=>simp [Ar] at ho
  | zero =>
   simp only [Ar] at ho
   obtain ⟨rfl,ho1⟩:=Ab ho
   simp at ho1
   exact ⟨i,rfl,rfl,ho1.symm⟩
theorem After.leaf (A:After G h w R H lend G1 h1 w1 hs h2) {d j:Nat} {v r v':VVal} {c:Value} {qs:List (Id × Nat × Ob)} (hv:VRel G1 h1 w1 v c) (ho:Ar h1 v=some r) (hi:in0 R h d j r=some (v',qs))
  (hal:lend=true->Ci r=true) (hsub:∀ x∈hand0 d j v,x∈hs) (hq:∀ x∈qs,h2 x.1=some x.2) (hcp:∀ q∈capIds0 v,∀ id,(q,id) ∉ hs):VRel (Aq G G1 h1 R w.heap.size w1.heap.size hs) h2 w1 v' c:=by
 cases hv with
 | @p d' c hp h1c =>
  simp [Ar] at ho
  subst ho
  obtain ⟨rfl,_⟩:=JU hi
  refine .p (A.prel ?_ hp) h1c
  cases lend with
  | false=>exact .inl rfl
  | true=>exact .inr (by simpa [Ci] using hal rfl)
 | @own id ver off len a n cap v o hn hcap hh hle hoo =>
  cases id with
  | arg=>simp [Ar] at ho
  | slot s i =>
   simp only [Ar,A0,hh] at ho
   cases o<;>try (simp only [At] at ho;cases ho;done)
   rename_i sz xs
   simp only at ho
   obtain ⟨r',hr',ho1⟩:=Aa ho
   obtain ⟨rfl,hr2⟩:=Ab hr'
   obtain ⟨rfl,ho2⟩:=Ab ho1
   simp at hr2 ho2
   subst hr2
   subst ho2
   simp only [in0] at hi
   simp at hi
   obtain ⟨rfl,rfl⟩:=hi
   obtain ⟨sz',xs',e,hlen,hreal⟩:=hoo rfl
   simp at e
   obtain ⟨rfl,rfl⟩:=e
   have hm:=hsub (.slot s i,.slot d (j+1)) (by simp [hand0])
   have hlen':min len xs.length=len:=by omega
   rw [hlen']
   refine .own hn hcap (hq _ (List.mem_singleton.2 rfl)) (lrf _) fun _=>⟨sz,_,rfl,by simp;omega,?_⟩
   rcases hreal with ⟨hc0,_⟩|⟨hk,hce,ha⟩
   ·exact .inl ⟨hc0,rfl⟩
   ·obtain ⟨b1,b2,_⟩:=A.adopt hm hk
    refine .inr ⟨by rw [b1];exact b2,?_,fun h0=>by rw [b1];exact ha h0⟩
    refine Nat.le_trans hce (Nat.le_of_eq ?_)
    simp [Aq,Hf A.nd2 hm]
 | @ptr id ver off a v o hh hle hoo =>
  cases id with
  | slot=>simp [Ar] at ho
  | arg i k =>
   cases k with
   | succ=>simp [Ar] at ho
   | zero =>
    simp only [Ar] at ho
    obtain ⟨rfl,ho1⟩:=Ab ho
    simp at ho1
    subst ho1
    simp only [in0] at hi
    obtain ⟨u,hu,hi1⟩:=Aa hi
    simp only [CH] at hu
    obtain ⟨id,hid,hu1⟩:=Aa hu
    obtain ⟨o2,ho2,hu2⟩:=Aa hu1
    simp at hu2 hi1
    obtain ⟨rfl,_⟩:=hi1
    subst hu2
    exact A.ptr (.ptr hh hle hoo) hid ho2
 | @mref id ver r' v o hh hle hoo =>
  cases id with
  | arg=>simp [Ar] at ho
  | slot s i =>
   simp only [Ar,CC,hh] at ho
   cases o<;>try (simp only [At] at ho;cases ho;done)
   rename_i kt ks vs
   simp only at ho
   obtain ⟨q,hq',ho1⟩:=Aa ho
   obtain ⟨rfl,hq2⟩:=Ab hq'
   simp at hq2 ho1
   subst hq2
   subst ho1
   obtain ⟨rfl,_⟩:=JU hi
   have hlf:lend=false:=by
    cases lend with
    | false=>rfl
    | true=>have:=hal rfl;simp [Ci,PV.flat,PV.flat0] at this
   have hr:=hoo rfl
   subst hr
   obtain ⟨hm,es,cl,hb,⟨e3,_⟩,e4,e5,e6⟩:=A.inv1 _ _ _ hh
   have hge:=A.made hm
   have hlt:=(ags.1 hb).1
   have hfw:fwd (.slot s i) hs=none:=by
    cases hf:fwd (.slot s i) hs with
    | none=>rfl
    | some id =>
     obtain ⟨_,v',o',e1,_,e2⟩:=A.own _ _ (G0 hf)
     rw [hh] at e1
     simp at e1
     exact absurd e1.2.symm (e2 _ _ _)
   exact .p (.map (by simp [Aq,Nat.not_lt.2 hge,hlt,hm,hfw]) hb e3 e4 e5 fun i v e hv he=>A.prel (.inl hlf) (e6 i v e hv he)) rfl
 | @fn f caps arr hl hr =>
  cases caps with
  | cons c0 cs0 =>
   obtain ⟨ds,hds,rfl⟩:=Ln ho
   obtain ⟨rfl,_⟩:=JU hi
   have hlf:lend=false:=by
    cases lend with
    | false=>rfl
    | true=>have:=hal rfl;simp [Ci,PV.flat,PV.flat0] at this
   exact A.clo hlf hl hr hds hcp
  | nil =>
   simp [Ar] at ho
   subst ho
   obtain ⟨rfl,_⟩:=JU hi
   have:arr=#[]:=Array.eq_empty_of_size_eq_zero (by simpa using hl.symm)
   subst this
   exact .p (.fn f) rfl
 | vptr=>simp [Ar] at ho
 | @eptr id ver jj off a v o hh hle hoo =>
  cases id with
  | slot=>simp [Ar] at ho
  | arg i k =>
   cases k with
   | succ=>simp [Ar] at ho
   | zero =>
    simp only [Ar] at ho
    obtain ⟨rfl,ho1⟩:=Ab ho
    simp at ho1
    subst ho1
    simp only [in0] at hi
    obtain ⟨u,hu,hi1⟩:=Aa hi
    simp only [CH] at hu
    obtain ⟨id,hid,hu1⟩:=Aa hu
    obtain ⟨o2,ho2,hu2⟩:=Aa hu1
    simp at hu2 hi1
    obtain ⟨rfl,_⟩:=hi1
    subst hu2
    exact A.eptr (.eptr hh hle hoo) hid ho2
 | plist=>simp [Ar] at ho
 | pcell=>simp [Ar] at ho
 | agg _ _ _=>simp [Ar] at ho
 | tup _ _=>simp [Ar] at ho
 | undef=>simp [Ar] at ho
 | dead c=>simp [Ar] at ho
end
end Go.V
namespace Go.V
open Go.RowKit
theorem Cg:∀ (us:List (Id × Nat × Ob)) (h:VHeap) (id:Id),id ∉ us.map (·.1)->h.upds us id=h id
 | [],_,_,_=>rfl
 | (i,o)::us,h,id,hn=>by
  simp only [lpc,lmk,not_or] at hn
  rw [KV,Cg us _ id hn.2,DO _ _ hn.1]
theorem HM:∀ (us:List (Id × Nat × Ob)) (h:VHeap) (x:Id × Nat × Ob),(us.map (·.1)).Nodup->x∈us->h.upds us x.1=some x.2
 | [],_,_,_,hx=>by cases hx
 | (i,o)::us,h,x,hn,hx=>by
  simp only [lpc,List.nodup_cons] at hn
  rw [KV]
  rcases lmk.1 hx with e|e
  ·subst e
   rw [Cg us _ _ hn.1,BE]
  .exact HM us _ x hn.2 e
theorem Jj:∀ {l:List Id},DZ l=true->l.Nodup
 | [],_=>by simp
 | i::is,h=>by
  simp [DZ] at h
  exact List.nodup_cons.2 ⟨h.1,Jj h.2⟩
structure Pre (h1 h:VHeap) (d e:Nat) (hs:List (Id × Id)) (qs:List (Id × Nat × Ob)) (lo hi:Nat):Prop where
 ids:∀ x∈hs,∃ k,x.2=.slot d k/\lo<k/\k<=hi
 keys:qs.map (·.1)=hs.map (·.2)
 nd:(hs.map (·.2)).Nodup
 own:∀ x∈hs,(∃ s j,x.1=.slot s j)/\∃ v o,h1 x.1=some (v,o)/\o ≠ .gone/\∀ kt ks vs,o ≠ .map kt ks vs
 ver:∀ x∈qs,x.2.1=nv (h x.1)+e
theorem Pre.nil (h1 h:VHeap) (d e lo hi:Nat):Pre h1 h d e [] [] lo hi:=⟨by simp,rfl,by simp,by simp,by simp⟩
theorem Pre.append {h1 h:VHeap} {d e:Nat} {hs hs':List (Id × Id)} {qs qs':List (Id × Nat × Ob)} {lo mid hi:Nat} (p:Pre h1 h d e hs qs lo mid) (q:Pre h1 h d e hs' qs' mid hi) (h12:lo<=mid) (h23:mid<=hi):Pre h1 h d e (hs++hs') (qs++qs') lo hi where
 ids:=fun x hx=>by
  rcases lmp.1 hx with hx|hx
  .obtain ⟨k,e,a,b⟩:=p.ids x hx;exact ⟨k,e,a,by omega⟩
  .obtain ⟨k,e,a,b⟩:=q.ids x hx;exact ⟨k,e,by omega,b⟩
 keys:=by simp [p.keys,q.keys]
 nd:=by
  rw [lma]
  refine List.nodup_append.2 ⟨p.nd,q.nd,fun a ha b hb e=>?_⟩
  obtain ⟨x,hx,rfl⟩:=lmm.1 ha
  obtain ⟨y,hy,rfl⟩:=lmm.1 hb
  obtain ⟨k,e1,_,_⟩:=p.ids x hx
  obtain ⟨k',e2,_,_⟩:=q.ids y hy
  rw [e1,e2] at e
  simp at e
  omega
 own:=fun x hx=>by
  rcases lmp.1 hx with hx|hx
  .exact p.own x hx
  .exact q.own x hx
 ver:=fun x hx=>by
  rcases lmp.1 hx with hx|hx
  .exact p.ver x hx
  .exact q.ver x hx
theorem Pre.one {h1 h:VHeap} {d e s i k:Nat} {v:Nat} {o o':Ob} {lo hi:Nat} (hh:h1 (.slot s i)=some (v,o)) (hg:o ≠ .gone) (hm:∀ kt ks vs,o ≠ .map kt ks vs) (hlo:lo<k) (hhi:k<=hi) :
  Pre h1 h d e [(.slot s i,.slot d k)] [(.slot d k,nv (h (.slot d k))+e,o')] lo hi :=
 ⟨by simp;omega,rfl,by simp,by simp [hh,hg];exact ⟨v,o,⟨rfl,rfl⟩,hg,hm⟩,by simp⟩
section
variable {h1 h:VHeap} {R:List Id} {d:Nat}
theorem Lm {v r:VVal} (ho:Ar h1 v=some r):(∀ j,hand0 d j v=[])/\(∀ sz xs,r ≠ .fresh sz xs) \/ ∃ s i ver len sz xs,v=.own (.slot s i) ver 0 len/\h1 (.slot s i)=some (ver,.arr sz xs)/\r=.fresh sz ((xs.drop 0).take len):=by
 cases v with
 | own id ver off len =>
  cases id with
  | arg=>simp [Ar] at ho
  | slot s i =>
   right
   simp only [Ar,A0] at ho
   obtain ⟨r',hr',ho1⟩:=Aa ho
   split at hr'<;>try (cases hr';done)
   rename_i v sz xs hh
   obtain ⟨rfl,hr2⟩:=Ab hr'
   obtain ⟨rfl,ho2⟩:=Ab ho1
   simp only [osi] at hr2 ho2
   subst hr2
   exact ⟨s,i,_,len,sz,xs,rfl,hh,ho2.symm⟩
 | p x=>left;simp [Ar] at ho;subst ho;exact ⟨fun _=>rfl,by simp⟩
 | ptr id ver off =>
  left
  refine ⟨fun _=>rfl,fun sz xs e=>?_⟩
  subst e
  unfold Ar at ho
  split at ho<;>try (simp_all;done)
  obtain ⟨_,ho⟩:=Ab ho
  simp at ho
 | mref id ver =>
  left
  refine ⟨fun _=>rfl,fun sz xs e=>?_⟩
  subst e
  unfold Ar at ho
  split at ho<;>try (simp_all;done)
  obtain ⟨_,_,ho⟩:=Aa ho
  simp at ho
 | fn f caps =>
  left
  refine ⟨fun _=>rfl,fun sz xs e=>?_⟩
  subst e
  cases caps with
  | nil=>simp [Ar] at ho
  | cons=>obtain ⟨_,_,e⟩:=Ln ho;cases e
 | eptr id ver j off =>
  left
  obtain ⟨i,_,_,rfl⟩:=Pc ho
  exact ⟨fun _=>rfl,by simp⟩
 | _=>simp [Ar] at ho
theorem Pw {j:Nat} {r v':VVal} {qs:List (Id × Nat × Ob)} (hr:∀ sz xs,r ≠ .fresh sz xs) (hi:in0 R h d j r=some (v',qs)):qs=[]:=by
 unfold in0 at hi
 split at hi
 ·exact absurd rfl (hr _ _)
 ·obtain ⟨_,_,hi⟩:=Aa hi
  simp at hi
  exact hi.2
theorem T1 {j:Nat} {v r v':VVal} {qs:List (Id × Nat × Ob)} (ho:Ar h1 v=some r) (hi:in0 R h d j r=some (v',qs)):Pre h1 h d 0 (hand0 d j v) qs j (j+1):=by
 rcases Lm (d:=d) ho with ⟨h0,hr⟩|⟨s,i,ver,len,sz,xs,rfl,hh,rfl⟩
 ·rw [h0,Pw hr hi]
  exact .nil ..
 ·simp only [in0,osi,pmi] at hi
  obtain ⟨_,rfl⟩:=hi
  exact .one hh (by simp) (by simp) (by omega) (lrf _)
theorem Mv:∀ {vs rs us:List VVal} {qs:List (Id × Nat × Ob)} {j:Nat},Ad (Ar h1) vs=some rs->inL R h d j rs=some (us,qs)->Pre h1 h d 0 (handL d j vs) qs j (j+vs.length)
 | [],rs,us,qs,j,ho,hi=>by
  simp [Ad] at ho
  subst ho
  simp [inL] at hi
  obtain ⟨_,rfl⟩:=hi
  exact .nil ..
 | v::vs,rs,us,qs,j,ho,hi=>by
  simp only [Ad] at ho
  obtain ⟨r,hr,ho⟩:=Aa ho
  obtain ⟨rs',hrs,ho⟩:=Aa ho
  simp at ho
  subst ho
  simp only [inL] at hi
  obtain ⟨q,hq,hi⟩:=Aa hi
  obtain ⟨q',hq',hi⟩:=Aa hi
  simp at hi
  obtain ⟨_,rfl⟩:=hi
  have:=(T1 hr hq).append (Mv hrs hq') (by omega) (by omega)
  simpa [handL,Nat.add_assoc,Nat.add_comm 1] using this
theorem Ow {j:Nat} {v r u:VVal} {qs:List (Id × Nat × Ob)} (ho:BB h1 v=some r) (hi:in1 R h d j r=some (u,qs)) :
  (∃ rs us,Ad (Ar h1) (AF v)=some rs/\inL R h d j rs=some (us,qs)/\hand1 h1 d j v=handL d j (AF v)/\Er r=(AF v).length/\((∃ cs,v=.agg cs/\u=.agg us) \/ (AF v=[v]/\us=[u]))/\(DB r=true->rs.all Ci=true)) \/
  ∃ s i ver cs rs us qs',v=.ptr (.slot s i) ver 0/\h1 (.slot s i)=some (ver,.box cs)/\Ad (Ar h1) cs=some rs/\inL R h d (j+1) rs=some (us,qs')/\u=.ptr (.slot d (j+1)) (nv (h (.slot d (j+1)))) 0 /\
   qs=(.slot d (j+1),nv (h (.slot d (j+1))),.box us)::qs'/\hand1 h1 d j v=(.slot s i,.slot d (j+1))::handL d (j+1) cs/\Er r=cs.length+1/\(DB r=true->rs.all Ci=true):=by
 have key:(∀ cs,v ≠ .agg cs)->(∀ s i ver,v ≠ .ptr (.slot s i) ver 0)->hand1 h1 d j v=hand0 d j v->Ar h1 v=some r->(∀ cs,r ≠ .agg cs)->(∀ cs,r ≠ .boxed cs) ->
   ∃ rs us,Ad (Ar h1) (AF v)=some rs/\inL R h d j rs=some (us,qs)/\hand1 h1 d j v=handL d j (AF v)/\Er r=(AF v).length/\((∃ cs,v=.agg cs/\u=.agg us) \/ (AF v=[v]/\us=[u]))/\(DB r=true->rs.all Ci=true):=by
  intro hva _ hh ho0 hra hrb
  have hvc:AF v=[v]:=by cases v<;>first|rfl|exact absurd rfl (hva _)
  have hin:in0 R h d j r=some (u,qs):=by cases r<;>first|exact hi|exact absurd rfl (hra _)|exact absurd rfl (hrb _)
  refine ⟨[r],[u],by simp [hvc,Ad,ho0,ob],by simp [inL,hin,ob],by simp [hvc,handL,hh],?_,.inr ⟨hvc,rfl⟩,?_⟩
  ·rw [hvc]
   cases r<;>first|rfl|exact absurd rfl (hra _)|exact absurd rfl (hrb _)
  ·cases r<;>first|exact absurd rfl (hra _)|exact absurd rfl (hrb _)|simp [DB]
 cases v with
 | agg cs =>
  simp only [BB] at ho
  obtain ⟨rs,hrs,ho1⟩:=Aa ho
  simp at ho1
  subst ho1
  simp only [in1] at hi
  obtain ⟨q,hq,hi1⟩:=Aa hi
  simp at hi1
  obtain ⟨rfl,rfl⟩:=hi1
  exact .inl ⟨rs,q.1,hrs,hq,rfl,by simp [Er,AF,(A3 hrs).1],.inl ⟨cs,rfl,rfl⟩,by simp [DB]⟩
 | ptr id ver off =>
  cases id with
  | slot s i =>
   cases off with
   | zero =>
    right
    simp only [BB] at ho
    split at ho<;>try (cases ho;done)
    rename_i v cs hh
    obtain ⟨rfl,ho1⟩:=Ab ho
    obtain ⟨rs,hrs,ho2⟩:=Aa ho1
    simp at ho2
    subst ho2
    simp only [in1] at hi
    obtain ⟨q,hq,hi1⟩:=Aa hi
    simp at hi1
    obtain ⟨rfl,rfl⟩:=hi1
    exact ⟨s,i,_,cs,rs,q.1,q.2,rfl,hh,hrs,hq,rfl,rfl,by simp [hand1,hh],by simp [Er,(A3 hrs).1],by simp [DB]⟩
   | succ=>simp [BB,Ar] at ho
  | arg i k =>
   left
   have ho0:Ar h1 (.ptr (.arg i k) ver off)=some r:=by simpa [BB] using ho
   refine key (by simp) (by simp) rfl ho0 ?_ ?_ <;>
   ·intro cs e
    subst e
    unfold Ar at ho0
    split at ho0<;>try (simp_all;done)
    obtain ⟨_,ho0⟩:=Ab ho0
    simp at ho0
 | p x =>
  left
  have ho0:Ar h1 (.p x)=some r:=ho
  simp [Ar] at ho0
  subst ho0
  exact key (by simp) (by simp) rfl ho (by simp) (by simp)
 | own id ver off len =>
  left
  rcases Lm (d:=d) (v:=.own id ver off len) ho with ⟨h0,_⟩|⟨_,_,_,_,_,_,_,_,rfl⟩
  ·simp [hand0] at h0
  ·exact key (by simp) (by simp) rfl ho (by simp) (by simp)
 | mref id ver =>
  left
  have ho0:Ar h1 (.mref id ver)=some r:=ho
  refine key (by simp) (by simp) rfl ho0 ?_ ?_ <;>
  ·intro cs e
   subst e
   unfold Ar at ho0
   split at ho0<;>try (simp_all;done)
   obtain ⟨_,_,ho0⟩:=Aa ho0
   simp at ho0
 | fn f caps =>
  left
  have ho0:Ar h1 (.fn f caps)=some r:=ho
  cases caps with
  | cons =>
   obtain ⟨_,_,e⟩:=Ln ho0
   subst e
   exact key (by simp) (by simp) rfl ho0 (by simp) (by simp)
  | nil =>
   have ho1:=ho0
   simp [Ar] at ho1
   subst ho1
   exact key (by simp) (by simp) rfl ho0 (by simp) (by simp)
 | eptr id ver jj off =>
  left
  have ho0:Ar h1 (.eptr id ver jj off)=some r:=ho
  obtain ⟨i,_,_,rfl⟩:=Pc ho0
  exact key (by simp) (by simp) rfl ho0 (by simp) (by simp)
 | _=>simp [BB,Ar] at ho
theorem Mw {j:Nat} {v r u:VVal} {qs:List (Id × Nat × Ob)} (ho:BB h1 v=some r) (hi:in1 R h d j r=some (u,qs)):Pre h1 h d 0 (hand1 h1 d j v) qs j (j+Er r):=by
 rcases Ow ho hi with ⟨rs,us,e1,e2,e3,e4,_⟩|⟨s,i,ver,cs,rs,us,qs',rfl,hh,e1,e2,rfl,rfl,e3,e4,_⟩
 ·rw [e3,e4]
  exact Mv e1 e2
 ·rw [e3,e4]
  have:=(Pre.one (h:=h) (d:=d) (e:=0) (o':=.box us) (lo:=j) (k:=j+1) hh (by simp) (by simp) (by omega) (lrf _)).append (Mv e1 e2) (by omega) (by omega)
  simpa [Nat.add_assoc,Nat.add_comm 1] using this
theorem Mu:∀ {vs rs us:List VVal} {qs:List (Id × Nat × Ob)} {j:Nat},Ad (BB h1) vs=some rs->inT R h d j rs=some (us,qs)->∃ hi,j<=hi/\Pre h1 h d 0 (handT h1 d j vs rs) qs j hi
 | [],rs,us,qs,j,ho,hi=>by
  simp [Ad] at ho
  subst ho
  simp [inT] at hi
  obtain ⟨_,rfl⟩:=hi
  exact ⟨j,lrf _,.nil ..⟩
 | v::vs,rs,us,qs,j,ho,hi=>by
  simp only [Ad] at ho
  obtain ⟨r,hr,ho⟩:=Aa ho
  obtain ⟨rs',hrs,ho⟩:=Aa ho
  simp at ho
  subst ho
  simp only [inT] at hi
  obtain ⟨q,hq,hi⟩:=Aa hi
  obtain ⟨q',hq',hi⟩:=Aa hi
  simp at hi
  obtain ⟨_,rfl⟩:=hi
  obtain ⟨hi',hle,hp⟩:=Mu hrs hq'
  exact ⟨hi',by omega,(Mw hr hq).append hp (by omega) hle⟩
theorem Lc:∀ (vs:List VVal) (j:Nat),(handL d j vs).map (·.1)=vs.flatMap ET
 | [],_=>rfl
 | v::vs,j=>by
  simp only [handL,lma,Lc vs,lfc]
  congr 1
  cases v<;>rfl
theorem Ld (v:VVal) (j:Nat):List.Sublist ((hand1 h1 d j v).map (·.1)) (De h1 v):=by
 cases v with
 | agg cs=>simp only [hand1,De,Lc];exact List.Sublist.refl _
 | ptr id ver off =>
  cases id with
  | arg=>simp [hand1,hand0]
  | slot s i =>
   simp only [hand1,De]
   split
   .rename_i hh;simp only [lpc,Lc,hh];exact List.Sublist.refl _
   .exact List.nil_sublist _
 | own=>exact List.Sublist.refl _
 | _=>simp [hand1,hand0]
theorem Lb:∀ (vs rs:List VVal) (j:Nat),List.Sublist ((handT h1 d j vs rs).map (·.1)) (vs.flatMap (De h1))
 | [],_,_=>by simp [handT]
 | v::vs,[],j=>by simp [handT]
 | v::vs,r::rs,j=>by
  simp only [handT,lma,lfc]
  exact (Ld v j).append (Lb vs rs _)
def handC (d j:Nat):VVal->List (Id × Id)
 | .own (.slot s i) _ _ _=>[(.slot s i,.slot d (j+1))]
 | _=>[]
def handCL (d:Nat):Nat->List VVal->List (Id × Id)
 | _,[]=>[]
 | j,v::vs=>handC d j v++handCL d (j+1) vs
def handO (h1:VHeap) (d:Nat):Nat->Nat->Nat->List (Id × Id)
 | _,_,0=>[]
 | j,i,n+1=>match h1 (.arg i 0) with
  | some (_,.box cs)=>handCL d j cs++handO h1 d (j+cs.length) (i+1) n
  | _=>handO h1 d j (i+1) n
theorem KK {v r:VVal} (ho:AU h1 v=some r):(∀ d j,handC d j v=[])/\(∀ sz xs,r ≠ .fresh sz xs)/\r ≠ .undef \/ ∃ s i ver len sz xs,v=.own (.slot s i) ver 0 len/\h1 (.slot s i)=some (ver,.arr sz xs)/\r=.fresh sz ((xs.drop 0).take len):=by
 cases v with
 | own id ver off len =>
  cases id with
  | arg i k =>
   left
   cases k with
   | zero =>
    simp only [AU,AQ] at ho
    obtain ⟨_,ho1⟩:=Ab ho
    simp at ho1
    subst ho1
    exact ⟨fun _ _=>rfl,by simp,by simp⟩
   | succ=>simp [AU,AQ] at ho
  | slot s i =>
   right
   simp only [AU,AQ,A0] at ho
   obtain ⟨r',hr',ho1⟩:=Aa ho
   split at hr'<;>try (cases hr';done)
   rename_i v sz xs hh
   obtain ⟨rfl,hr2⟩:=Ab hr'
   obtain ⟨rfl,ho2⟩:=Ab ho1
   simp only [osi] at hr2 ho2
   subst hr2
   exact ⟨s,i,_,len,sz,xs,rfl,hh,ho2.symm⟩
 | p x=>left;simp [AU,AQ] at ho;subst ho;exact ⟨fun _ _=>rfl,by simp,by simp⟩
 | ptr id ver off =>
  left
  cases id with
  | slot=>simp [AU,AQ] at ho
  | arg i k =>
   cases k with
   | succ=>simp [AU,AQ] at ho
   | zero =>
    simp only [AU,AQ] at ho
    obtain ⟨_,ho1⟩:=Ab ho
    simp at ho1
    subst ho1
    exact ⟨fun _ _=>rfl,by simp,by simp⟩
 | mref id ver =>
  left
  cases id with
  | slot=>simp [AU,AQ] at ho
  | arg i k =>
   cases k with
   | succ=>simp [AU,AQ] at ho
   | zero =>
    simp only [AU,AQ] at ho
    obtain ⟨_,ho1⟩:=Ab ho
    simp at ho1
    subst ho1
    exact ⟨fun _ _=>rfl,by simp,by simp⟩
 | fn f caps =>
  left
  simp only [AU] at ho
  obtain ⟨cs,_,ho1⟩:=Aa ho
  simp at ho1
  subst ho1
  exact ⟨fun _ _=>rfl,by simp,by simp⟩
 | _=>simp [AU,AQ] at ho
theorem Ps {j:Nat} {r v':VVal} {qs:List (Id × Nat × Ob)} (hr:∀ sz xs,r ≠ .fresh sz xs) (hi:inC R h d j r=some (v',qs)):DH R h r=some v'/\qs=[]:=by
 unfold inC at hi
 split at hi
 ·exact absurd rfl (hr _ _)
 ·obtain ⟨u,hu,hi⟩:=Aa hi
  simp at hi
  exact ⟨by rw [hu,hi.1],hi.2⟩
theorem preC {j:Nat} {v r v':VVal} {qs:List (Id × Nat × Ob)} (ho:AU h1 v=some r) (hi:inC R h d j r=some (v',qs)):Pre h1 h d 1 (handC d j v) qs j (j+1):=by
 rcases KK ho with ⟨h0,hr,_⟩|⟨s,i,ver,len,sz,xs,rfl,hh,rfl⟩
 ·rw [h0,(Ps hr hi).2]
  exact .nil ..
 ·simp only [inC,osi,pmi] at hi
  obtain ⟨_,rfl⟩:=hi
  exact .one hh (by simp) (by simp) (by omega) (lrf _)
theorem SW:∀ {vs rs us:List VVal} {qs:List (Id × Nat × Ob)} {j:Nat},Ad (AU h1) vs=some rs->Ce R h d j rs=some (us,qs)->Pre h1 h d 1 (handCL d j vs) qs j (j+vs.length)
 | [],rs,us,qs,j,ho,hi=>by
  simp [Ad] at ho
  subst ho
  simp [Ce] at hi
  obtain ⟨_,rfl⟩:=hi
  exact .nil ..
 | v::vs,rs,us,qs,j,ho,hi=>by
  simp only [Ad] at ho
  obtain ⟨r,hr,ho⟩:=Aa ho
  obtain ⟨rs',hrs,ho⟩:=Aa ho
  simp at ho
  subst ho
  simp only [Ce] at hi
  obtain ⟨q,hq,hi⟩:=Aa hi
  obtain ⟨q',hq',hi⟩:=Aa hi
  simp at hi
  obtain ⟨_,rfl⟩:=hi
  have:=(preC hr hq).append (SW hrs hq') (by omega) (by omega)
  simpa [handCL,Nat.add_assoc,Nat.add_comm 1] using this
theorem Nb {i:Nat} {o:Ob} (ho:Eo h1 i=some o):(∃ cs cs',h1 (.arg i 0)=some (0,.box cs)/\Ad (AU h1) cs=some cs'/\o=.box cs'/\∀ x∈cs',x ≠ .undef) \/
  (∃ v sz xs,h1 (.arg i 0)=some (v,.arr sz xs)/\((v=0/\o=.arr sz xs) \/ (v ≠ 0/\o=.box [.undef,.fresh sz xs]))) \/ ∃ kt ks vs,h1 (.arg i 0)=some (0,.map kt ks vs)/\o=.map kt ks vs:=by
 simp only [Eo] at ho
 split at ho
 ·rename_i v cs hh
  obtain ⟨rfl,ho1⟩:=Ab ho
  obtain ⟨cs',hcs,ho2⟩:=Aa ho1
  simp at ho2
  refine .inl ⟨cs,cs',hh,hcs,ho2.symm,fun x hx e=>?_⟩
  obtain ⟨k,hk⟩:=lgm hx
  obtain ⟨y,_,hy⟩:=(A3 hcs).2 k x hk
  rcases KK hy with ⟨_,_,h0⟩|⟨_,_,_,_,_,_,_,_,h0⟩
  ·exact h0 e
  ·rw [e] at h0;cases h0
 ·rename_i v sz xs hh
  simp at ho
  refine .inr (.inl ⟨v,sz,xs,hh,?_⟩)
  by_cases h0:v=0
  ·rw [if_pos h0] at ho
   exact .inl ⟨h0,ho.symm⟩
  ·rw [if_neg h0] at ho
   exact .inr ⟨h0,ho.symm⟩
 ·rename_i v kt ks vs hh
  obtain ⟨rfl,ho1⟩:=Ab ho
  simp at ho1
  exact .inr (.inr ⟨kt,ks,vs,hh,ho1.symm⟩)
 .cases ho
theorem Xr {j:Nat} {cs:List VVal}:Ce R h d j (.undef::cs)=none:=by
 simp [Ce,inC,DH,CG,ob]
inductive RootBack (R:List Id) (h h1:VHeap) (d j i:Nat) (id:Id):(Id × Nat × Ob)->List (Id × Nat × Ob)->Nat->Prop where
 | box {v:Nat} {cs0 cs cs' us:List VVal} {as_:List (Id × Nat × Ob)} (hh:h id=some (v,.box cs0)) (h1h:h1 (.arg i 0)=some (0,.box cs)) (ho:Ad (AU h1) cs=some cs') (hi:Ce R h d j cs'=some (us,as_)):RootBack R h h1 d j i id (id,v,.box us) as_ (j+cs'.length)
 | arr {v v1 sz0 sz:Nat} {xs0 xs:List PV} (hh:h id=some (v,.arr sz0 xs0)) (h1h:h1 (.arg i 0)=some (v1,.arr sz xs)):RootBack R h h1 d j i id (id,v+bump v1,.arr sz xs) [] j
 | map {v:Nat} {kt0 kt:KT} {ks0 ks:List MKey} {vs0 vs:List PV} (hh:h id=some (v,.map kt0 ks0 vs0)) (h1h:h1 (.arg i 0)=some (0,.map kt ks vs)):RootBack R h h1 d j i id (id,v,.map kt ks vs) [] j
theorem No {j i n:Nat} {id:Id} {ids:List Id} {os:List Ob} {us:List (Id × Nat × Ob) × List (Id × Nat × Ob)} (ho:Bf h1 i (n+1)=some os) (hb:BL R h d j (id::ids) os=some us) :
  ∃ u as_ j' os' us',RootBack R h h1 d j i id u as_ j'/\Bf h1 (i+1) n=some os'/\BL R h d j' ids os'=some us'/\us=(u::us'.1,as_++us'.2):=by
 simp only [Bf] at ho
 obtain ⟨o,ho1,ho⟩:=Aa ho
 obtain ⟨os',hos,ho⟩:=Aa ho
 simp at ho
 subst ho
 simp only [BL] at hb
 obtain ⟨⟨v,q⟩,hq,hb⟩:=Aa hb
 rcases Nb ho1 with ⟨cs,cs',e1,e2,rfl,e4⟩|⟨v1,sz,xs,e1,⟨rfl,rfl⟩|⟨hv,rfl⟩⟩|⟨kt,ks,vs,e1,rfl⟩
 ·cases q with
  | box cs0 =>
   simp only at hb
   obtain ⟨r,hr,hb⟩:=Aa hb
   obtain ⟨us',hus,hb⟩:=Aa hb
   simp at hb
   subst hb
   exact ⟨_,r.2,_,os',us',.box hq e1 e2 hr,hos,hus,rfl⟩
  | arr sz0 xs0 =>
   exfalso
   simp only at hb
   split at hb<;>try (cases hb;done)
   all_goals simp_all
  | map=>simp at hb
  | gone=>simp at hb
  | iter=>simp at hb
 ·cases q with
  | arr sz0 xs0 =>
   simp only at hb
   obtain ⟨us',hus,hb⟩:=Aa hb
   simp at hb
   subst hb
   exact ⟨_,[],j,os',us',by simpa [bump] using RootBack.arr (d:=d) (j:=j) (R:=R) hq e1,hos,hus,rfl⟩
  | _=>simp at hb
 ·cases q with
  | arr sz0 xs0 =>
   simp only at hb
   obtain ⟨us',hus,hb⟩:=Aa hb
   simp at hb
   subst hb
   exact ⟨_,[],j,os',us',by simpa [bump,hv] using RootBack.arr (d:=d) (j:=j) (R:=R) hq e1,hos,hus,rfl⟩
  | box cs0 =>
   simp only [Xr,At] at hb
   cases hb
  | _=>simp at hb
 ·cases q with
  | map =>
   simp only at hb
   obtain ⟨us',hus,hb⟩:=Aa hb
   simp at hb
   subst hb
   exact ⟨_,[],j,os',us',.map hq e1,hos,hus,rfl⟩
  | _=>simp at hb
theorem T0:∀ {ids:List Id} {os:List Ob} {us:List (Id × Nat × Ob) × List (Id × Nat × Ob)} {i j:Nat},Bf h1 i ids.length=some os->BL R h d j ids os=some us->∃ hi,j<=hi/\Pre h1 h d 1 (handO h1 d j i ids.length) us.2 j hi
 | [],os,us,i,j,ho,hb=>by
  simp [Bf] at ho
  subst ho
  simp [BL] at hb
  subst hb
  exact ⟨j,lrf _,.nil ..⟩
 | id::ids,os,us,i,j,ho,hb=>by
  obtain ⟨u,as_,j',os',us',hrb,ho',hb',rfl⟩:=No ho hb
  obtain ⟨hi,hle,hp⟩:=T0 ho' hb'
  simp only [llc,handO]
  cases hrb with
  | @box v cs0 cs cs' us1 as1 hh h1h ho2 hi2 =>
   have hl:cs'.length=cs.length:=(A3 ho2).1
   rw [h1h]
   simp only
   have p1:=SW ho2 hi2
   rw [hl] at hp hle
   exact ⟨hi,by omega,p1.append hp (by omega) hle⟩
  | arr hh h1h =>
   rw [h1h]
   exact ⟨hi,hle,by simpa using hp⟩
  | map hh h1h =>
   rw [h1h]
   exact ⟨hi,hle,by simpa using hp⟩
theorem OJ:∀ (vs:List VVal) (j:Nat),(handCL d j vs).map (·.1)=vs.flatMap LO
 | [],_=>rfl
 | v::vs,j=>by
  simp only [handCL,lma,OJ vs,lfc]
  congr 1
  cases v with
  | own id=>cases id<;>rfl
  | _=>rfl
theorem I5:∀ (n i j:Nat),(handO h1 d j i n).map (·.1)=Df h1 i n
 | 0,_,_=>rfl
 | n+1,i,j=>by
  simp only [handO,Df]
  cases hh:h1 (.arg i 0) with
  | none=>simp [I5 n]
  | some p =>
   obtain ⟨v,o⟩:=p
   cases o<;>simp [OJ,I5 n]
end
end Go.V
namespace Go.V
open Go.RowKit
section
variable {G:Gh} {h:VHeap} {w:World} {R:List Id} {H:List Ob} {lend:Bool} {G1:Gh} {h1:VHeap} {w1:World} {hs:List (Id × Id)} {h2:VHeap} {d:Nat}
theorem After.leaves (A:After G h w R H lend G1 h1 w1 hs h2):∀ {vs rs us:List VVal} {qs:List (Id × Nat × Ob)} {j:Nat},Ad (Ar h1) vs=some rs->inL R h d j rs=some (us,qs)->(lend=true->rs.all Ci=true) ->
  (∀ x∈handL d j vs,x∈hs)->(∀ x∈qs,h2 x.1=some x.2)->(∀ q∈vs.flatMap capIds0,∀ id,(q,id) ∉ hs)->us.length=vs.length/\∀ (i:Nat) (v u:VVal) (c:Value),vs[i]?=some v->us[i]?=some u->VRel G1 h1 w1 v c->VRel (Aq G G1 h1 R w.heap.size w1.heap.size hs) h2 w1 u c
 | [],rs,us,qs,j,ho,hi,_,_,_,_=>by
  simp [Ad] at ho
  subst ho
  simp [inL] at hi
  obtain ⟨rfl,_⟩:=hi
  exact ⟨rfl,fun i v u c hv=>by simp at hv⟩
 | v::vs,rs,us,qs,j,ho,hi,hal,hsub,hq,hcp=>by
  rw [lfc] at hcp
  simp only [Ad] at ho
  obtain ⟨r,hr,ho1⟩:=Aa ho
  obtain ⟨rs',hrs,ho2⟩:=Aa ho1
  simp at ho2
  subst ho2
  simp only [inL] at hi
  obtain ⟨q,hq1,hi1⟩:=Aa hi
  obtain ⟨q',hq2,hi2⟩:=Aa hi1
  simp at hi2
  obtain ⟨rfl,rfl⟩:=hi2
  obtain ⟨hl,hall⟩:=A.leaves hrs hq2 (fun e=>by have:=hal e;simp at this;simpa using this.2) (fun x hx=>hsub x (List.mem_append_right _ hx)) (fun x hx=>hq x (List.mem_append_right _ hx)) (fun q hq=>hcp q (List.mem_append_right _ hq))
  refine ⟨by simp [hl],fun i v' u c hv' hu hvr=>?_⟩
  cases i with
  | zero =>
   simp at hv' hu
   subst hv'
   subst hu
   exact A.leaf hvr hr hq1 (fun e=>by have:=hal e;simp at this;exact this.1) (fun x hx=>hsub x (List.mem_append_left _ hx)) (fun x hx=>hq x (List.mem_append_left _ hx)) (fun q hq=>hcp q (List.mem_append_left _ hq))
  | succ i=>simp at hv' hu;exact hall i v' u c hv' hu hvr
theorem After.obj0 (A:After G h w R H lend G1 h1 w1 hs h2) {j:Nat} {v r v':VVal} {c:Value} {qs:List (Id × Nat × Ob)} (hv:VRel G1 h1 w1 v c) (ho:Ar h1 v=some r) (hi:in0 R h d j r=some (v',qs))
  (hal:lend=true->Ci r=true) (hsub:∀ x∈hand0 d j v,x∈hs):∀ x∈qs,OBRel (Aq G G1 h1 R w.heap.size w1.heap.size hs) h2 w1 x.1 x.2.2:=by
 rcases Lm (d:=d) ho with ⟨h0,hr⟩|⟨s,i,ver,len,sz,xs,rfl,hh,rfl⟩
 ·rw [Pw hr hi]
  simp
 ·simp only [in0,osi,pmi] at hi
  obtain ⟨_,rfl⟩:=hi
  intro x hx
  simp at hx
  subst hx
  have hm:=hsub (.slot s i,.slot d (j+1)) (by simp [hand0])
  obtain ⟨hcs,hz,hall⟩:=A.inv1 _ _ _ hh
  have htake:∀ (k:Nat) (x:PV),(xs.take len)[k]?=some x->xs[k]?=some x:=fun k x hx=>by
   rw [List.getElem?_take] at hx
   split at hx
   ·exact hx
   ·cases hx
  refine ⟨fun x hx=>hcs x (List.mem_of_mem_take hx),?_,fun hk=>?_⟩
  ·by_cases hk:G1.kind (G1.blk (.slot s i))=.mine (.slot s i)
   ·obtain ⟨b1,b2,_⟩:=A.adopt hm hk
    exact .inr (by rw [b1];exact b2)
   ·rcases hz with hz|hz
    ·exact .inl (by simp [hz])
    ·exact absurd hz hk
  ·by_cases hk1:G1.kind (G1.blk (.slot s i))=.mine (.slot s i)
   ·obtain ⟨b1,b2,_⟩:=A.adopt hm hk1
    obtain ⟨a1,arr,t,a2,a3,a4⟩:=hall hk1
    have hcap:(Aq G G1 h1 R w.heap.size w1.heap.size hs).cap (.slot d (j+1))=G1.cap (.slot s i):=by simp [Aq,Hf A.nd2 hm]
    refine ⟨by rw [hcap];simp;omega,arr,t,by rw [b1];exact a2,by rw [hcap];exact a3,fun k x jj cc hx hj=>?_⟩
    obtain ⟨u,e1,e2,e3⟩:=a4 k x jj cc (htake k x hx) hj
    refine ⟨u,e1,e2,A.prel ?_ e3⟩
    cases lend with
    | false=>exact .inl rfl
    | true =>
     right
     have:=hal rfl
     simp only [Ci,List.all_eq_true] at this
     have hxf:=this x (lmg hx)
     have hcc:=lmg hj
     cases x with
     | agg ds =>
      simp only [PV.flat,List.all_eq_true] at hxf
      have:=hxf cc hcc
      cases cc<;>simp_all [PV.flat,PV.flat0]
     | _ =>
      simp only [PV.cells,List.mem_singleton] at hcc
      subst hcc
      exact hxf
   ·rw [A.adopt_not hm hk1] at hk
    cases hk
theorem After.objs (A:After G h w R H lend G1 h1 w1 hs h2):∀ {vs rs us:List VVal} {qs:List (Id × Nat × Ob)} {j:Nat},Ad (Ar h1) vs=some rs->inL R h d j rs=some (us,qs)->(lend=true->rs.all Ci=true) ->
  (∀ x∈handL d j vs,x∈hs)->(∀ (i:Nat) (v:VVal),vs[i]?=some v->∃ c,VRel G1 h1 w1 v c)->∀ x∈qs,OBRel (Aq G G1 h1 R w.heap.size w1.heap.size hs) h2 w1 x.1 x.2.2
 | [],rs,us,qs,j,ho,hi,_,_,_=>by
  simp [Ad] at ho
  subst ho
  simp [inL] at hi
  obtain ⟨_,rfl⟩:=hi
  simp
 | v::vs,rs,us,qs,j,ho,hi,hal,hsub,hv=>by
  simp only [Ad] at ho
  obtain ⟨r,hr,ho1⟩:=Aa ho
  obtain ⟨rs',hrs,ho2⟩:=Aa ho1
  simp at ho2
  subst ho2
  simp only [inL] at hi
  obtain ⟨q,hq1,hi1⟩:=Aa hi
  obtain ⟨q',hq2,hi2⟩:=Aa hi1
  simp at hi2
  obtain ⟨_,rfl⟩:=hi2
  intro x hx
  rcases lmp.1 hx with hx|hx
  ·obtain ⟨c,hc⟩:=hv 0 v rfl
   exact A.obj0 hc hr hq1 (fun e=>by have:=hal e;simp at this;exact this.1) (fun x hx=>hsub x (List.mem_append_left _ hx)) x hx
  .exact A.objs hrs hq2 (fun e=>by have:=hal e;simp at this;simpa using this.2) (fun x hx=>hsub x (List.mem_append_right _ hx)) (fun i v hi=>hv (i+1) v (by simpa using hi)) x hx
theorem Vo {h:VHeap} {v:VVal} {q:Id} (hq:q∈(AF v).flatMap capIds0):q∈capIds1 h v:=by
 cases v with
 | agg cs=>exact hq
 | ptr id ver off=>simp [AF,capIds0] at hq
 | _=>simpa [AF,capIds1] using hq
theorem After.res1 (A:After G h w R H lend G1 h1 w1 hs h2) {j:Nat} {v r u:VVal} {c:Value} {qs:List (Id × Nat × Ob)} (hv:VRel G1 h1 w1 v c) (ho:BB h1 v=some r) (hi:in1 R h d j r=some (u,qs)) (hal:lend=true->DB r=true)
  (hsub:∀ x∈hand1 h1 d j v,x∈hs) (hq:∀ x∈qs,h2 x.1=some x.2) (hcp:∀ q∈capIds1 h1 v,∀ id,(q,id) ∉ hs):VRel (Aq G G1 h1 R w.heap.size w1.heap.size hs) h2 w1 u c/\∀ x∈qs,OBRel (Aq G G1 h1 R w.heap.size w1.heap.size hs) h2 w1 x.1 x.2.2:=by
 rcases Ow ho hi with ⟨rs,us,e1,e2,e3,e4,e5,e6⟩|⟨s,i,ver,cs,rs,us,qs',rfl,hh,e1,e2,rfl,rfl,e3,e4,e6⟩
 ·rw [e3] at hsub
  obtain ⟨hl,hall⟩:=A.leaves e1 e2 (fun e=>e6 (hal e)) hsub hq (fun q hq=>hcp q (Vo hq))
  have hcells:∀ (i:Nat) (v':VVal),(AF v)[i]?=some v'->∃ c,VRel G1 h1 w1 v' c:=fun i v' hv'=>by
   rcases e5 with ⟨cs,rfl,rfl⟩|⟨hvc,_⟩
   ·cases hv with
    | @agg _ arr hlen h1c hr =>
     simp only [AF] at hv'
     have hlt:i<arr.size:=by rw [<- hlen];exact (lgs.1 hv').1
     exact ⟨arr[i],hr i v' _ hv' (aggz hlt)⟩
   ·rw [hvc] at hv'
    cases i with
    | zero=>simp at hv';subst hv';exact ⟨c,hv⟩
    | succ=>simp at hv'
  refine ⟨?_,A.objs e1 e2 (fun e=>e6 (hal e)) hsub hcells⟩
  rcases e5 with ⟨cs,rfl,rfl⟩|⟨hvc,rfl⟩
  ·cases hv with
   | @agg _ arr hlen h1c hr =>
    simp only [AF] at hl
    refine .agg (by omega) h1c fun i u c hu hc=>?_
    have hlt:i<cs.length:=by rw [<- hl];exact (lgs.1 hu).1
    exact hall i cs[i] u c (lgg hlt) hu (hr i _ c (lgg hlt) hc)
  ·exact hall 0 v u c (by rw [hvc];rfl) rfl hv
 ·rw [e3] at hsub
  have hm:=hsub _ (lms ..)
  have hsub':∀ x∈handL d (j+1) cs,x∈hs:=fun x hx=>hsub x (lmc _ hx)
  have hq':∀ x∈qs',h2 x.1=some x.2:=fun x hx=>hq x (lmc _ hx)
  obtain ⟨hl,hall⟩:=A.leaves e1 e2 (fun e=>e6 (hal e)) hsub' hq' (fun q hq=>hcp q (by simp only [capIds1,hh];exact hq))
  obtain ⟨hk,arr,t,hb,hlen,h1c,hr⟩:=A.inv1 _ _ _ hh
  obtain ⟨b1,b2,_⟩:=A.adopt hm hk
  refine ⟨?_,fun x hx=>?_⟩
  ·cases hv with
   | @ptr _ _ _ a v o hh' hle hoo =>
    rw [hh] at hh'
    simp at hh'
    refine .ptr (hq _ (lms ..)) (lrf _) fun _=>?_
    rw [hoo hh'.1,b1]
  ·rcases lmk.1 hx with rfl|hx
   ·refine ⟨by simp only;rw [b1];exact b2,arr,t,by simp only;rw [b1];exact hb,by omega,h1c,fun i u c hu hc=>?_⟩
    have hlt:i<cs.length:=by rw [<- hl];exact (lgs.1 hu).1
    exact hall i cs[i] u c (lgg hlt) hu (hr i _ c (lgg hlt) hc)
   ·exact A.objs e1 e2 (fun e=>e6 (hal e)) hsub' (fun i v hv=>by
     have hlt:i<arr.size:=by rw [<- hlen];exact (lgs.1 hv).1
     exact ⟨arr[i],hr i v _ hv (aggz hlt)⟩) x hx
theorem After.resT (A:After G h w R H lend G1 h1 w1 hs h2):∀ {vs rs us:List VVal} {cs:List Value} {qs:List (Id × Nat × Ob)} {j:Nat},vs.length=cs.length->(∀ (i:Nat) (v:VVal) (c:Value),vs[i]?=some v->cs[i]?=some c->VRel G1 h1 w1 v c)->Ad (BB h1) vs=some rs->inT R h d j rs=some (us,qs) ->
  (lend=true->rs.all DB=true)->(∀ x∈handT h1 d j vs rs,x∈hs)->(∀ x∈qs,h2 x.1=some x.2)->(∀ q∈vs.flatMap (capIds1 h1),∀ id,(q,id) ∉ hs) ->
  us.length=cs.length/\(∀ (i:Nat) (u:VVal) (c:Value),us[i]?=some u->cs[i]?=some c->VRel (Aq G G1 h1 R w.heap.size w1.heap.size hs) h2 w1 u c)/\∀ x∈qs,OBRel (Aq G G1 h1 R w.heap.size w1.heap.size hs) h2 w1 x.1 x.2.2
 | [],rs,us,cs,qs,j,hlen,hv,ho,hi,hal,hsub,hq,_=>by
  simp [Ad] at ho
  subst ho
  simp [inT] at hi
  obtain ⟨rfl,rfl⟩:=hi
  exact ⟨by simpa using hlen,fun i u c hu=>by simp at hu,by simp⟩
 | v::vs,rs,us,[],qs,j,hlen,_,_,_,_,_,_,_=>by simp at hlen
 | v::vs,rs,us,c::cs,qs,j,hlen,hv,ho,hi,hal,hsub,hq,hcp=>by
  rw [lfc] at hcp
  simp only [Ad] at ho
  obtain ⟨r,hr,ho1⟩:=Aa ho
  obtain ⟨rs',hrs,ho2⟩:=Aa ho1
  simp at ho2
  subst ho2
  simp only [inT] at hi
  obtain ⟨q,hq1,hi1⟩:=Aa hi
  obtain ⟨q',hq2,hi2⟩:=Aa hi1
  simp at hi2
  obtain ⟨rfl,rfl⟩:=hi2
  obtain ⟨a1,a2⟩:=A.res1 (hv 0 v c rfl rfl) hr hq1 (fun e=>by have:=hal e;simp at this;exact this.1) (fun x hx=>hsub x (List.mem_append_left _ hx)) (fun x hx=>hq x (List.mem_append_left _ hx)) (fun q hq=>hcp q (List.mem_append_left _ hq))
  obtain ⟨b1,b2,b3⟩:=A.resT (by simpa using hlen) (fun i v c h1 h2=>hv (i+1) v c (by simpa using h1) (by simpa using h2)) hrs hq2 (fun e=>by have:=hal e;simp at this;simpa using this.2) (fun x hx=>hsub x (List.mem_append_right _ hx)) (fun x hx=>hq x (List.mem_append_right _ hx)) (fun q hq=>hcp q (List.mem_append_right _ hq))
  refine ⟨by simp [b1],fun i u c' hu hc=>?_,fun x hx=>?_⟩
  ·cases i with
   | zero=>simp at hu hc;subst hu;subst hc;exact a1
   | succ i=>simp at hu hc;exact b2 i u c' hu hc
  ·rcases lmp.1 hx with hx|hx
   .exact a2 x hx
   .exact b3 x hx
theorem After.argW0 (A:After G h w R H lend G1 h1 w1 hs h2) {v r v':VVal} {c:Value} (hv:VRel G1 h1 w1 v c) (ho:AQ h1 v=some r) (hi:CG R h r=some v') (hal:lend=true->Ci r=true):VRel (Aq G G1 h1 R w.heap.size w1.heap.size hs) h2 w1 v' c:=by
 cases v with
 | p x =>
  simp [AQ] at ho
  subst ho
  simp [CG] at hi
  subst hi
  cases hv with
  | p hp h1c =>
   refine .p (A.prel ?_ hp) h1c
   cases lend with
   | false=>exact .inl rfl
   | true=>exact .inr (by simpa [Ci] using hal rfl)
 | ptr id ver off =>
  cases id with
  | slot=>simp [AQ] at ho
  | arg i k =>
   cases k with
   | succ=>simp [AQ] at ho
   | zero =>
    simp only [AQ] at ho
    obtain ⟨rfl,ho1⟩:=Ab ho
    simp at ho1
    subst ho1
    simp only [CG] at hi
    obtain ⟨id,hid,hi1⟩:=Aa hi
    obtain ⟨o,hoo,hi2⟩:=Aa hi1
    simp at hi2
    subst hi2
    exact A.ptr hv hid hoo
 | mref id ver =>
  cases id with
  | slot=>simp [AQ] at ho
  | arg i k =>
   cases k with
   | succ=>simp [AQ] at ho
   | zero =>
    simp only [AQ] at ho
    obtain ⟨rfl,ho1⟩:=Ab ho
    simp at ho1
    subst ho1
    simp only [CG] at hi
    obtain ⟨id,hid,hi1⟩:=Aa hi
    obtain ⟨o,hoo,hi2⟩:=Aa hi1
    simp at hi2
    subst hi2
    exact A.mref hv hid hoo
 | own id ver off len =>
  cases id with
  | slot s j =>
   simp only [AQ] at ho
   obtain ⟨x,_,ho1⟩:=Aa ho
   obtain ⟨_,ho2⟩:=Ab ho1
   simp at ho2
   subst ho2
   simp [CG] at hi
  | arg i k =>
   cases k with
   | succ=>simp [AQ] at ho
   | zero =>
    simp only [AQ] at ho
    obtain ⟨hal',ho1⟩:=Ab ho
    simp at ho1
    subst ho1
    simp only [CG] at hi
    obtain ⟨id,hid,hi1⟩:=Aa hi
    obtain ⟨o,hoo,hi2⟩:=Aa hi1
    simp only [osi] at hi2
    subst hi2
    exact A.ownArg hv hal' hid hoo
 | _=>simp [AQ] at ho
theorem After.argW1 (A:After G h w R H lend G1 h1 w1 hs h2) {v r v':VVal} {c:Value} (hv:VRel G1 h1 w1 v c) (ho:AU h1 v=some r) (hi:DH R h r=some v') (hal:lend=true->Fw r=true):VRel (Aq G G1 h1 R w.heap.size w1.heap.size hs) h2 w1 v' c:=by
 cases v with
 | fn f caps =>
  simp only [AU] at ho
  obtain ⟨cs,hcs,ho1⟩:=Aa ho
  simp at ho1
  subst ho1
  simp only [DH] at hi
  obtain ⟨cs',hcs',hi1⟩:=Aa hi
  simp at hi1
  subst hi1
  cases hv with
  | @fn _ _ arr hl hr =>
   obtain ⟨a1,a2⟩:=A3 hcs
   obtain ⟨b1,b2⟩:=A3 hcs'
   refine .fn (by omega) fun i u c hu hc=>?_
   obtain ⟨x,hx,hxu⟩:=b2 i u hu
   obtain ⟨y,hy,hyx⟩:=a2 i x hx
   exact A.argW0 (hr i y c hy hc) hyx hxu fun e=>by
    have:=hal e
    simp only [Fw,List.all_eq_true] at this
    exact this x (lmg hx)
 | p x =>
  have ho1:r=.p x:=by simpa [AU,AQ] using ho.symm
  subst ho1
  exact A.argW0 hv ho hi fun e=>by simpa [Fw,Ci] using hal e
 | ptr id ver off =>
  have ho1:∃ i,r=.ptr (.arg i 0) 0 off:=by
   cases id with
   | slot=>simp [AU,AQ] at ho
   | arg i k =>
    cases k with
    | succ=>simp [AU,AQ] at ho
    | zero =>
     simp only [AU,AQ] at ho
     obtain ⟨_,ho1⟩:=Ab ho
     simp at ho1
     exact ⟨i,ho1.symm⟩
  obtain ⟨i,rfl⟩:=ho1
  exact A.argW0 hv ho hi fun _=>rfl
 | own id ver off len =>
  have hna:lend=false:=by
   cases hl:lend with
   | false=>rfl
   | true =>
    have:=hal hl
    cases id with
    | slot s j =>
     simp only [AU,AQ] at ho
     obtain ⟨x,_,ho1⟩:=Aa ho
     obtain ⟨_,ho2⟩:=Ab ho1
     simp at ho2
     subst ho2
     simp [Fw] at this
    | arg i k =>
     cases k with
     | succ=>simp [AU,AQ] at ho
     | zero =>
      simp only [AU,AQ] at ho
      obtain ⟨_,ho1⟩:=Ab ho
      simp at ho1
      subst ho1
      simp [Fw] at this
  have hi':CG R h r=some v':=by
   cases id with
   | slot s j =>
    simp only [AU,AQ] at ho
    obtain ⟨x,_,ho1⟩:=Aa ho
    obtain ⟨_,ho2⟩:=Ab ho1
    simp at ho2
    subst ho2
    exact hi
   | arg i k =>
    cases k with
    | succ=>simp [AU,AQ] at ho
    | zero =>
     simp only [AU,AQ] at ho
     obtain ⟨_,ho1⟩:=Ab ho
     simp at ho1
     subst ho1
     exact hi
  exact A.argW0 hv ho hi' fun e=>by rw [hna] at e;cases e
 | mref id ver =>
  have ho1:∃ i,r=.mref (.arg i 0) 0:=by
   cases id with
   | slot=>simp [AU,AQ] at ho
   | arg i k =>
    cases k with
    | succ=>simp [AU,AQ] at ho
    | zero =>
     simp only [AU,AQ] at ho
     obtain ⟨_,ho1⟩:=Ab ho
     simp at ho1
     exact ⟨i,ho1.symm⟩
  obtain ⟨i,rfl⟩:=ho1
  exact A.argW0 hv ho hi fun e=>by simpa [Fw] using hal e
 | _=>simp [AU,AQ] at ho
theorem Q7 {r v':VVal} (hi:CH R h r=some v'):CG R h r=some v':=by
 unfold CH at hi
 split at hi
 .exact hi
 .exact hi
 .exact hi
 .cases hi
theorem zb9 {r v':VVal} (hi:D4 R h r=some v'):DH R h r=some v':=by
 by_cases hf:∃ f caps,r=.fn f caps
 ·obtain ⟨f,caps,rfl⟩:=hf
  simp only [D4] at hi
  obtain ⟨cs,hcs,hi1⟩:=Aa hi
  have:Ad (CG R h) caps=some cs:=by
   clear hi hi1
   induction caps generalizing cs with
   | nil=>exact hcs
   | cons x xs ih =>
    simp only [Ad] at hcs ⊢
    obtain ⟨y,hy,hcs⟩:=Aa hcs
    obtain ⟨ys,hys,hcs⟩:=Aa hcs
    rw [Q7 hy,Ah,ih ys hys,Ah]
    exact hcs
  simp only [DH,this,Ah]
  exact hi1
 ·have e1:D4 R h r=CH R h r:=by cases r<;>first|rfl|exact absurd ⟨_,_,rfl⟩ hf
  have e2:DH R h r=CG R h r:=by cases r<;>first|rfl|exact absurd ⟨_,_,rfl⟩ hf
  rw [e1] at hi
  rw [e2]
  exact Q7 hi
theorem After.cell (A:After G h w R H lend G1 h1 w1 hs h2) {j:Nat} {v r v':VVal} {c:Value} {qs:List (Id × Nat × Ob)} (hv:VRel G1 h1 w1 v c) (ho:AU h1 v=some r) (hi:inC R h d j r=some (v',qs)) (hal:lend=false)
  (hsub:∀ x∈handC d j v,x∈hs) (hq:∀ x∈qs,h2 x.1=some x.2):VRel (Aq G G1 h1 R w.heap.size w1.heap.size hs) h2 w1 v' c/\∀ x∈qs,OBRel (Aq G G1 h1 R w.heap.size w1.heap.size hs) h2 w1 x.1 x.2.2:=by
 rcases KK ho with ⟨h0,hr,_⟩|⟨s,i,ver,len,sz,xs,rfl,hh,rfl⟩
 ·obtain ⟨hb,rfl⟩:=Ps hr hi
  exact ⟨A.argW1 hv ho hb (fun e=>by rw [hal] at e;cases e),by simp⟩
 ·simp only [inC,osi,pmi] at hi
  obtain ⟨rfl,rfl⟩:=hi
  have hm:=hsub (.slot s i,.slot d (j+1)) (by simp [handC])
  refine ⟨A.adoptVal hv hh hm (hq _ (List.mem_singleton.2 rfl)),?_⟩
  have:=A.obj0 (d:=d) (j:=j) (r:=.fresh sz ((xs.drop 0).take len)) (qs:=[(.slot d (j+1),nv (h (.slot d (j+1))),.arr sz ((xs.drop 0).take len))]) hv (by simp [Ar,A0,hh,ob,gd]) rfl (fun e=>by rw [hal] at e;cases e) (by simpa [hand0] using hm)
  intro x hx
  simp only [List.mem_singleton] at hx
  subst hx
  exact this (.slot d (j+1),nv (h (.slot d (j+1))),.arr sz ((xs.drop 0).take len)) (List.mem_singleton.2 rfl)
theorem After.cells (A:After G h w R H lend G1 h1 w1 hs h2) (hal:lend=false):∀ {vs rs us:List VVal} {qs:List (Id × Nat × Ob)} {j:Nat},Ad (AU h1) vs=some rs->Ce R h d j rs=some (us,qs)->(∀ x∈handCL d j vs,x∈hs)->(∀ x∈qs,h2 x.1=some x.2) ->
  (∀ (i:Nat) (v:VVal),vs[i]?=some v->∃ c,VRel G1 h1 w1 v c) ->
  us.length=vs.length/\(∀ (i:Nat) (v u:VVal) (c:Value),vs[i]?=some v->us[i]?=some u->VRel G1 h1 w1 v c->VRel (Aq G G1 h1 R w.heap.size w1.heap.size hs) h2 w1 u c)/\∀ x∈qs,OBRel (Aq G G1 h1 R w.heap.size w1.heap.size hs) h2 w1 x.1 x.2.2
 | [],rs,us,qs,j,ho,hi,_,_,_=>by
  simp [Ad] at ho
  subst ho
  simp [Ce] at hi
  obtain ⟨rfl,rfl⟩:=hi
  exact ⟨rfl,fun i v u c hv=>by simp at hv,by simp⟩
 | v::vs,rs,us,qs,j,ho,hi,hsub,hq,hex=>by
  simp only [Ad] at ho
  obtain ⟨r,hr,ho1⟩:=Aa ho
  obtain ⟨rs',hrs,ho2⟩:=Aa ho1
  simp at ho2
  subst ho2
  simp only [Ce] at hi
  obtain ⟨q,hq1,hi1⟩:=Aa hi
  obtain ⟨q',hq2,hi2⟩:=Aa hi1
  simp at hi2
  obtain ⟨rfl,rfl⟩:=hi2
  obtain ⟨hl,hall,hobs⟩:=A.cells hal hrs hq2 (fun x hx=>hsub x (List.mem_append_right _ hx)) (fun x hx=>hq x (List.mem_append_right _ hx)) (fun i v hv=>hex (i+1) v (by simpa using hv))
  have hs0:∀ x∈handC d j v,x∈hs:=fun x hx=>hsub x (List.mem_append_left _ hx)
  have hq0:∀ x∈q.2,h2 x.1=some x.2:=fun x hx=>hq x (List.mem_append_left _ hx)
  refine ⟨by simp [hl],fun i v' u c hv' hu hvr=>?_,fun x hx=>?_⟩
  ·cases i with
   | zero =>
    simp at hv' hu
    subst hv'
    subst hu
    exact (A.cell hvr hr hq1 hal hs0 hq0).1
   | succ i=>simp at hv' hu;exact hall i v' u c hv' hu hvr
  ·rcases lmp.1 hx with hx|hx
   ·obtain ⟨c,hc⟩:=hex 0 v rfl
    exact (A.cell hc hr hq1 hal hs0 hq0).2 x hx
   .exact hobs x hx
theorem Qb:∀ {n i:Nat} {os:List Ob},Bf h1 i n=some os->os.length=n/\∀ (k:Nat) (o:Ob),os[k]?=some o->Eo h1 (i+k)=some o
 | 0,i,os,h=>by
  simp [Bf] at h
  subst h
  exact ⟨rfl,fun k o hk=>by simp at hk⟩
 | n+1,i,os,h=>by
  simp only [Bf] at h
  obtain ⟨o,ho,h⟩:=Aa h
  obtain ⟨os',hos,h⟩:=Aa h
  simp at h
  subst h
  obtain ⟨a1,a2⟩:=Qb hos
  refine ⟨by simp [a1],fun k o' hk=>?_⟩
  cases k with
  | zero=>simp at hk;subst hk;exact ho
  | succ k=>simp at hk;have:=a2 k o' hk;rwa [Nat.add_assoc,Nat.add_comm 1] at this
theorem Kl:∀ {ids:List Id} {os:List Ob} {us:List (Id × Nat × Ob)},Da R h ids os=some us->us.map (·.1)=ids/\∀ (k:Nat) (id:Id),ids[k]?=some id->∃ cs cs' o,os[k]?=some (.box cs)/\Ad (D4 R h) cs=some cs'/\h id=some o/\(id,o.1,.box cs')∈us
 | [],[],us,hb=>by
  simp [Da] at hb
  subst hb
  exact ⟨rfl,fun k id hk=>by simp at hk⟩
 | [],_::_,us,hb=>by simp [Da] at hb
 | id::ids,[],us,hb=>by simp [Da] at hb
 | id::ids,o::os,us,hb=>by
  cases o with
  | box cs =>
   simp only [Da] at hb
   obtain ⟨cs',hcs,hb1⟩:=Aa hb
   obtain ⟨o,ho,hb2⟩:=Aa hb1
   obtain ⟨us',hus,hb3⟩:=Aa hb2
   simp at hb3
   subst hb3
   obtain ⟨a1,a2⟩:=Kl hus
   refine ⟨by simp [a1],fun k id' hk=>?_⟩
   cases k with
   | zero=>simp at hk;subst hk;exact ⟨cs,cs',o,rfl,hcs,ho,lms ..⟩
   | succ k =>
    simp at hk
    obtain ⟨c1,c2,c3,e1,e2,e3,e4⟩:=a2 k id' hk
    exact ⟨c1,c2,c3,by simpa using e1,e2,e3,lmc _ e4⟩
  | _=>simp [Da] at hb
theorem After.inv (A:After G h w R H lend G1 h1 w1 hs h2)
  (hbox : ∀ (i : Nat) (id : Id) (v1 : Nat) (cs1 : List VVal),(∀ q,(q,id) ∉ hs)->R[i]?=some id->h1 (.arg i 0)=some (v1,.box cs1)->∀ v2 o2,h2 id=some (v2,o2)->∃ cs2,o2=.box cs2/\cs2.length=cs1.length/\∀ (j : Nat) (u1 u2 : VVal) (c : Value),cs1[j]?=some u1->cs2[j]?=some u2->VRel G1 h1 w1 u1 c->VRel (Aq G G1 h1 R w.heap.size w1.heap.size hs) h2 w1 u2 c)
  (hflat : ∀ (i : Nat) (v1 : Nat) (o1 : Ob),i<R.length->h1 (.arg i 0)=some (v1,o1)->(∀ cs,o1 ≠ .box cs)->lend=false)
  (hobj : ∀ q id,(q,id)∈hs->∀ v o,h2 id=some (v,o)->OBRel (Aq G G1 h1 R w.heap.size w1.heap.size hs) h2 w1 id o) : HeapInv (Aq G G1 h1 R w.heap.size w1.heap.size hs) h2 w1:=by
 intro id v o hid
 by_cases hq:∃ q,(q,id)∈hs
 ·obtain ⟨q,hq⟩:=hq
  exact hobj q id hq v o hid
 ·have hq' : ∀ q,(q,id) ∉ hs:=fun q hm=>hq ⟨q,hm⟩
  by_cases hR:id∈R
  ·obtain ⟨i,hi,e⟩:=List.getElem_of_mem hR
   have hRi:R[i]?=some id:=by rw [lgg hi,e]
   obtain ⟨v0,o0,o',v1,o1,e1,e2,e3,e4⟩:=A.at hRi
   obtain ⟨hk,_⟩:=A.shape i id v0 o0 v1 o1 hRi e1 e3
   obtain ⟨o2,f1,f2⟩:=A.h2c i id v0 o0 v1 o1 hq' hRi e1 e3
   rw [hid] at f1
   simp at f1
   obtain ⟨_,rfl⟩:=f1
   rcases hk with ⟨cs0,cs1,rfl,rfl⟩|⟨sz0,xs0,sz1,xs1,rfl,rfl⟩|⟨kt0,ks0,vs0,kt1,ks1,vs1,rfl,rfl⟩
   ·obtain ⟨hk1,arr,t,hb1,hlen,h1c,hr⟩:=A.inv1 _ _ _ e3
    obtain ⟨b1,b2⟩:=A.rootMine hRi hq' (fun v' e'=>by rw [e3] at e';cases e') hk1
    obtain ⟨cs2,rfl,hl2,hc2⟩:=hbox i id v1 cs1 hq' hRi e3 _ _ hid
    refine ⟨by rw [b1];exact b2,arr,t,by rw [b1];exact hb1,by omega,h1c,fun j u c hu hcj=>?_⟩
    have hj:j<cs1.length:=by rw [<- hl2];exact (lgs.1 hu).1
    exact hc2 j _ u c (lgg hj) hu (hr j _ c (lgg hj) hcj)
   ·have hlf:=hflat i v1 _ hi e3 (by simp)
    rcases f2 with ⟨_,_,e5,_⟩|⟨rfl,_⟩
    ·cases e5
    ·obtain ⟨a1,a2,a3⟩:=A.inv1 _ _ _ e3
     refine ⟨a1,?_,fun hk2=>?_⟩
     ·rcases a2 with a2|a2
      ·exact .inl a2
      ·obtain ⟨b1,b2⟩:=A.rootMine hRi hq' (fun v' e'=>by rw [e3] at e';cases e') a2
       exact .inr (by rw [b1];exact b2)
     ·have hm:=A.rootArr hRi hq' e1 hk2
      obtain ⟨b1,b2⟩:=A.rootMine hRi hq' (fun v' e'=>by rw [e3] at e';cases e') hm
      obtain ⟨c1,arr,t,c2,c3,c4⟩:=a3 hm
      refine ⟨by rw [A.capR hRi hq'];exact c1,arr,t,by rw [b1];exact c2,by rw [A.capR hRi hq'];exact c3,fun k x jj cc hx hj=>?_⟩
      obtain ⟨u,d1,d2,d3⟩:=c4 k x jj cc hx hj
      exact ⟨u,d1,d2,A.prel (.inl hlf) d3⟩
   ·have hlf:=hflat i v1 _ hi e3 (by simp)
    rcases f2 with ⟨_,_,e5,_⟩|⟨rfl,_⟩
    ·cases e5
    ·obtain ⟨hk1,es,cl,c2,c3,c4,c5,c6⟩:=A.inv1 _ _ _ e3
     obtain ⟨b1,b2⟩:=A.rootMine hRi hq' (fun v' e'=>by rw [e3] at e';cases e') hk1
     exact ⟨by rw [b1];exact b2,es,cl,by rw [b1];exact c2,c3,c4,c5,fun k vv ee hvv hee=>A.prel (.inl hlf) (c6 k vv ee hvv hee)⟩
  ·obtain ⟨hb,hc⟩:=A.blk hq' hR
   rw [A.h2b id hq' hR] at hid
   by_cases hg:o=.gone
   ·subst hg;trivial
   ·refine OBRel.keep A.step (A.hinv id v o hid) hb hc (fun hm=>?_) (fun hm=>?_)
    ·have hlt:=D0 A.hinv hid hm hg
     refine ⟨by rw [Ee hlt];exact hm,?_⟩
     have hrest:=IB (R:=R) (lend:=lend) hm (.inl hR)
     cases lend with
     | true=>exact (A.st.frozen _ (by simpa using hrest) hlt).2
     | false=>exact (A.st.other _ (by simpa using hrest) hlt).2
    ·by_cases hlt:G.blk id<w.heap.size
     ·rwa [Ee hlt] at hm
     ·simp only [Aq,hlt,if_false] at hm
      split at hm
      ·split at hm
       ·split at hm
        ·rename_i hf
         simp at hm
         subst hm
         exact absurd (G0 hf) (hq' _)
        ·split at hm
         ·split at hm
          ·rename_i hi'
           simp at hm
           subst hm
           exact absurd (lmg hi') hR
          .cases hm
         .cases hm
       ·rename_i hno
        exact absurd hm (hno _)
      .cases hm
end
end Go.V
namespace Go.V
open Go.RowKit
section
variable [GK]
def DI (G:Gh) (h:VHeap) (w:World):List VVal->Value->Prop
 | [v],c=>VRel G h w v c
 | vs,c=>∃ arr:Array Value,c=.tuple arr/\vs.length=arr.size/\∀ (i:Nat) (v:VVal) (c:Value),vs[i]?=some v->arr[i]?=some c->VRel G h w v c
theorem Nm {G:Gh} {w:World} {R:List Id} {lend:Bool} (hg:Good G w):Good (calleeG G R lend) w:=fun b B hb=>by
 obtain ⟨h1,h2⟩:=hg b B hb
 refine ⟨?_,h2⟩
 rcases h1 with h1|h1<;>simp [calleeG,h1]
def CR (P:Program) (f:FuncId) (args:List VVal) (H:List Ob) (res:VVal) (H':List Ob):Prop :=
 ∀ (G:Gh) (w:World) (cargs:Array Value),HeapInv G (As H) w->Good G w->args.length=cargs.size->(∀ (i:Nat) (u:VVal) (c:Value),args[i]?=some u->cargs[i]?=some c->VRel G (As H) w u c) ->
  (∀ b id,G.kind b=.mine id->∃ i,id=.arg i 0) ->
  Calls P f cargs w fun e w'=>∃ c G' h' vs,e=.returned c/\Step G (As H) w G' h' w'/\HeapInv G' h' w'/\DI G' h' w' vs c/\Ck h' H.length vs=some res/\Bf h' 0 H.length=some H'
def C8 (P:Program) (Γ:Sig):Prop:=∀ f args H res H',Γ f args H=some (res,H')->DV P f=true/\CR P f args H res H'
theorem Nl {h:VHeap} {n:Nat} {vs:List VVal} (hc:EP h n vs=true):∀ q∈vs.flatMap (capIds1 h),q ∉ vs.flatMap (De h)++Df h 0 n:=fun q hq hm=>by
 have:=List.all_eq_true.1 hc q hq
 simp only [List.contains_eq_mem,Bool.not_eq_true',decide_eq_false_iff_not] at this
 exact this hm
theorem Xd (h1:VHeap) (v:VVal) (rs:List VVal):Ar h1 v ≠ some (.tup rs):=by
 intro ho
 unfold Ar at ho
 split at ho
 ·simp at ho
 ·obtain ⟨_,_,ho1⟩:=Aa ho
  obtain ⟨_,ho2⟩:=Ab ho1
  simp at ho2
 ·obtain ⟨_,_,ho1⟩:=Aa ho
  simp at ho1
 ·obtain ⟨_,ho1⟩:=Ab ho
  simp at ho1
 ·obtain ⟨_,ho1⟩:=Ab ho
  simp at ho1
 ·simp at ho
 ·obtain ⟨_,_,ho1⟩:=Aa ho
  simp at ho1
 .cases ho
theorem Ov (h1:VHeap) (v:VVal) (rs:List VVal):BB h1 v ≠ some (.tup rs):=by
 intro ho
 unfold BB at ho
 split at ho
 ·obtain ⟨_,_,ho1⟩:=Aa ho
  simp at ho1
 ·split at ho
  ·obtain ⟨_,ho1⟩:=Ab ho
   obtain ⟨_,_,ho2⟩:=Aa ho1
   simp at ho2
  .cases ho
 .exact Xd _ _ _ ho
theorem IH {h:VHeap} {v r:VVal} (ho:D2 h v=some r):(Ar h v=some r/\∀ i ver off len,v ≠ .own (.arg i 0) ver off len) \/ ∃ i ver off len,v=.own (.arg i 0) ver off len/\BG h (.arg i 0) ver=true/\r=.own (.arg i 0) (if ver=0 then 0 else 1) off len:=by
 unfold D2 at ho
 split at ho
 ·obtain ⟨ha,ho2⟩:=Ab ho
  simp only [osi] at ho2
  exact .inr ⟨_,_,_,_,rfl,ha,ho2.symm⟩
 ·rename_i hno
  exact .inl ⟨ho,fun i ver off len e=>hno i ver off len e⟩
theorem KJ {h:VHeap} {v r:VVal} (ho:Ez h v=some r):BB h v=some r/\(∀ cs,r ≠ .agg cs) \/ (∃ cs rs,v=.agg cs/\Ad (D2 h) cs=some rs/\r=.agg rs) \/ ∃ i ver off len,v=.own (.arg i 0) ver off len/\BG h (.arg i 0) ver=true/\r=.own (.arg i 0) (if ver=0 then 0 else 1) off len:=by
 unfold Ez at ho
 split at ho
 ·obtain ⟨rs,h1,ho2⟩:=Aa ho
  simp only [osi] at ho2
  exact .inr (.inl ⟨_,_,rfl,h1,ho2.symm⟩)
 ·obtain ⟨ha,ho2⟩:=Ab ho
  simp only [osi] at ho2
  exact .inr (.inr ⟨_,_,_,_,rfl,ha,ho2.symm⟩)
 ·rename_i hna _
  refine .inl ⟨ho,fun cs e=>?_⟩
  subst e
  unfold BB at ho
  split at ho
  ·exact hna _ rfl
  ·split at ho
   ·obtain ⟨_,ho⟩:=Ab ho
    obtain ⟨_,_,ho⟩:=Aa ho
    simp at ho
   ·cases ho
  ·unfold Ar at ho
   split at ho
   ·simp at ho
   ·obtain ⟨_,_,ho⟩:=Aa ho
    obtain ⟨_,ho⟩:=Ab ho
    simp at ho
   ·obtain ⟨_,_,ho⟩:=Aa ho
    simp at ho
   ·obtain ⟨_,ho⟩:=Ab ho
    simp at ho
   ·obtain ⟨_,ho⟩:=Ab ho
    simp at ho
   ·simp at ho
   ·obtain ⟨_,_,ho⟩:=Aa ho
    simp at ho
   .cases ho
theorem IQ {h:VHeap} {v:VVal} {id:Id} {ver off len:Nat}:Ar h v ≠ some (.own id ver off len):=by
 intro ho
 unfold Ar at ho
 split at ho
 ·simp at ho
 ·obtain ⟨_,_,ho1⟩:=Aa ho
  obtain ⟨_,ho2⟩:=Ab ho1
  simp at ho2
 ·obtain ⟨_,_,ho1⟩:=Aa ho
  simp at ho1
 ·obtain ⟨_,ho1⟩:=Ab ho
  simp at ho1
 ·obtain ⟨_,ho1⟩:=Ab ho
  simp at ho1
 ·simp at ho
 ·obtain ⟨_,_,ho1⟩:=Aa ho
  simp at ho1
 .cases ho
theorem Xc {h:VHeap} {v:VVal} {id:Id} {ver off len:Nat}:BB h v ≠ some (.own id ver off len):=by
 intro ho
 unfold BB at ho
 split at ho
 ·obtain ⟨_,_,ho1⟩:=Aa ho
  simp at ho1
 ·split at ho
  ·obtain ⟨_,ho1⟩:=Ab ho
   obtain ⟨_,_,ho2⟩:=Aa ho1
   simp at ho2
  .cases ho
 .exact IQ ho
theorem YD {R:List Id} {h:VHeap} {d:Nat} {v:VVal} (hv:∀ id ver off len,v ≠ .own id ver off len) (ha:∀ cs,v ≠ .agg cs):Dq R h d v=C4 R h d v:=by
 unfold Dq
 split
 .exact absurd rfl (hv _ _ _ _)
 .exact absurd rfl (hv _ _ _ _)
 .exact absurd rfl (ha _)
 .rfl
theorem LR {R:List Id} {h:VHeap} {d j:Nat} {v:VVal} (hv:∀ id ver off len,v ≠ .own id ver off len):Dw R h d j v=in0 R h d j v:=by
 unfold Dw
 split
 .exact absurd rfl (hv _ _ _ _)
 .exact absurd rfl (hv _ _ _ _)
 .rfl
theorem Ou {h1 h:VHeap} {R:List Id} {d:Nat}:∀ {vs rs:List VVal} {j:Nat} {q:List VVal × List (Id × Nat × Ob)},Ad (D2 h1) vs=some rs->inL R h d j rs=some q->Ad (Ar h1) vs=some rs
 | [],rs,j,q,ho,hi=>ho
 | v::vs,rs,j,q,ho,hi=>by
  simp only [Ad] at ho ⊢
  obtain ⟨r,hr,ho1⟩:=Aa ho
  obtain ⟨rs',hrs,ho2⟩:=Aa ho1
  simp at ho2
  subst ho2
  simp only [inL] at hi
  obtain ⟨q0,hq1,hi1⟩:=Aa hi
  obtain ⟨q',hq2,_⟩:=Aa hi1
  have ih:=Ou hrs hq2
  rcases IH hr with ⟨h0,_⟩|⟨i,ver,off,len,rfl,_,rfl⟩
  ·rw [h0,ih]
   rfl
  .simp [in0,CH,ob] at hq1
def handW0 (d j:Nat):VVal->List (Id × Id)
 | .own (.slot s i) _ _ _=>[(.slot s i,.slot d (j+1))]
 | _=>[]
def handLW (d:Nat):Nat->List VVal->List (Id × Id)
 | _,[]=>[]
 | j,v::vs=>handW0 d j v++handLW d (j+1) vs
theorem La {h1:VHeap} {d j:Nat} {v r:VVal} (ho:Ar h1 v=some r):hand0 d j v=handW0 d j v:=by
 cases v with
 | own id ver off len =>
  cases id with
  | slot=>rfl
  | arg=>simp [Ar] at ho
 | _=>rfl
theorem OI {d:Nat}:∀ (vs:List VVal) (j:Nat),List.Sublist ((handLW d j vs).map (·.1)) (vs.flatMap ET)
 | [],_=>List.Sublist.refl _
 | v::vs,j=>by
  simp only [handLW,lma,lfc]
  refine List.Sublist.append ?_ (OI vs (j+1))
  cases v with
  | own id ver off len =>
   cases id with
   | slot=>exact List.Sublist.refl _
   | arg=>exact List.nil_sublist _
  | _=>exact List.nil_sublist _
section
variable {h1 h:VHeap} {R:List Id} {d:Nat}
theorem SU {j:Nat} {v r v':VVal} {qs:List (Id × Nat × Ob)} (ho:D2 h1 v=some r) (hi:Dw R h d j r=some (v',qs)):Pre h1 h d 0 (handW0 d j v) qs j (j+1):=by
 rcases IH ho with ⟨h0,_⟩|⟨i,ver,off,len,rfl,_,rfl⟩
 ·rw [LR fun id ver off len e=>by rw [e] at h0;exact IQ h0] at hi
  rw [<- La h0]
  exact T1 h0 hi
 ·have:qs=[]:=by
   by_cases hv:ver=0
   ·rw [if_pos hv] at hi
    simp only [Dw] at hi
    obtain ⟨_,_,hi⟩:=Aa hi
    obtain ⟨_,_,hi⟩:=Aa hi
    simp at hi
    exact hi.2
   ·rw [if_neg hv] at hi
    simp only [Dw] at hi
    obtain ⟨_,_,hi⟩:=Aa hi
    obtain ⟨_,_,hi⟩:=Aa hi
    simp at hi
    exact hi.2
  subst this
  exact .nil ..
theorem SV:∀ {vs rs us:List VVal} {qs:List (Id × Nat × Ob)} {j:Nat},Ad (D2 h1) vs=some rs->Cz R h d j rs=some (us,qs)->Pre h1 h d 0 (handLW d j vs) qs j (j+vs.length)
 | [],rs,us,qs,j,ho,hi=>by
  simp [Ad] at ho
  subst ho
  simp [Cz] at hi
  obtain ⟨_,rfl⟩:=hi
  exact .nil ..
 | v::vs,rs,us,qs,j,ho,hi=>by
  simp only [Ad] at ho
  obtain ⟨r,hr,ho⟩:=Aa ho
  obtain ⟨rs',hrs,ho⟩:=Aa ho
  simp at ho
  subst ho
  simp only [Cz] at hi
  obtain ⟨q,hq1,hi1⟩:=Aa hi
  obtain ⟨q',hq2,hi2⟩:=Aa hi1
  simp at hi2
  obtain ⟨_,rfl⟩:=hi2
  have ih:=SV hrs hq2
  have e:j+(v::vs).length=j+1+vs.length:=by simp;omega
  rw [e]
  exact (SU hr hq1).append ih (by omega) (by omega)
end
section
variable {G:Gh} {h:VHeap} {w:World} {R:List Id} {H:List Ob} {G1:Gh} {h1:VHeap} {w1:World} {hs:List (Id × Id)} {h2:VHeap} {d:Nat}
theorem After.leafW (A:After G h w R H false G1 h1 w1 hs h2) {j:Nat} {v r v':VVal} {c:Value} {qs:List (Id × Nat × Ob)} (hv:VRel G1 h1 w1 v c) (ho:D2 h1 v=some r) (hi:Dw R h d j r=some (v',qs))
  (hsub:∀ x∈handW0 d j v,x∈hs) (hq:∀ x∈qs,h2 x.1=some x.2) (hcp:∀ q∈capIds0 v,∀ id,(q,id) ∉ hs):VRel (Aq G G1 h1 R w.heap.size w1.heap.size hs) h2 w1 v' c:=by
 rcases IH ho with ⟨h0,_⟩|⟨i,ver,off,len,rfl,hal,rfl⟩
 ·rw [LR fun id ver off len e=>by rw [e] at h0;exact IQ h0] at hi
  rw [<- La h0] at hsub
  exact A.leaf hv h0 hi (fun e=>by cases e) hsub hq hcp
 ·replace hi:(ob R[i]? fun id=>ob (h id) fun o=>some (VVal.own id (o.1+bump ver) off len,([]:List (Id × Nat × Ob))))=some (v',qs):=by
   by_cases h0:ver=0
   ·rw [show bump ver=0 by simp [bump,h0]]
    rw [if_pos h0] at hi
    exact hi
   ·rw [show bump ver=1 by simp [bump,h0]]
    rw [if_neg h0] at hi
    exact hi
  obtain ⟨id,hid,hi1⟩:=Aa hi
  obtain ⟨o,hoo,hi2⟩:=Aa hi1
  simp only [osi,pmi] at hi2
  obtain ⟨rfl,_⟩:=hi2
  exact A.ownArg hv hal hid hoo
theorem After.leavesW (A:After G h w R H false G1 h1 w1 hs h2):∀ {vs rs us:List VVal} {qs:List (Id × Nat × Ob)} {j:Nat},Ad (D2 h1) vs=some rs->Cz R h d j rs=some (us,qs) ->
  (∀ x∈handLW d j vs,x∈hs)->(∀ x∈qs,h2 x.1=some x.2)->(∀ q∈vs.flatMap capIds0,∀ id,(q,id) ∉ hs)->us.length=vs.length/\∀ (i:Nat) (v u:VVal) (c:Value),vs[i]?=some v->us[i]?=some u->VRel G1 h1 w1 v c->VRel (Aq G G1 h1 R w.heap.size w1.heap.size hs) h2 w1 u c
 | [],rs,us,qs,j,ho,hi,_,_,_=>by
  simp [Ad] at ho
  subst ho
  simp [Cz] at hi
  obtain ⟨rfl,_⟩:=hi
  exact ⟨rfl,fun i v u c hv=>by simp at hv⟩
 | v::vs,rs,us,qs,j,ho,hi,hsub,hq,hcp=>by
  rw [lfc] at hcp
  simp only [Ad] at ho
  obtain ⟨r,hr,ho1⟩:=Aa ho
  obtain ⟨rs',hrs,ho2⟩:=Aa ho1
  simp at ho2
  subst ho2
  simp only [Cz] at hi
  obtain ⟨q,hq1,hi1⟩:=Aa hi
  obtain ⟨q',hq2,hi2⟩:=Aa hi1
  simp at hi2
  obtain ⟨rfl,rfl⟩:=hi2
  obtain ⟨hl,hall⟩:=A.leavesW hrs hq2 (fun x hx=>hsub x (List.mem_append_right _ hx)) (fun x hx=>hq x (List.mem_append_right _ hx)) (fun q hq=>hcp q (List.mem_append_right _ hq))
  refine ⟨by simp [hl],fun i v' u c hv' hu hvr=>?_⟩
  cases i with
  | zero =>
   simp at hv' hu
   subst hv'
   subst hu
   exact A.leafW hvr hr hq1 (fun x hx=>hsub x (List.mem_append_left _ hx)) (fun x hx=>hq x (List.mem_append_left _ hx)) (fun q hq=>hcp q (List.mem_append_left _ hq))
  | succ i=>simp at hv' hu;exact hall i v' u c hv' hu hvr
theorem After.objsW (A:After G h w R H false G1 h1 w1 hs h2):∀ {vs rs us:List VVal} {qs:List (Id × Nat × Ob)} {j:Nat},Ad (D2 h1) vs=some rs->Cz R h d j rs=some (us,qs) ->
  (∀ x∈handLW d j vs,x∈hs)->(∀ (i:Nat) (v:VVal),vs[i]?=some v->∃ c,VRel G1 h1 w1 v c)->∀ x∈qs,OBRel (Aq G G1 h1 R w.heap.size w1.heap.size hs) h2 w1 x.1 x.2.2
 | [],rs,us,qs,j,ho,hi,_,_=>by
  simp [Ad] at ho
  subst ho
  simp [Cz] at hi
  obtain ⟨_,rfl⟩:=hi
  simp
 | v :: vs,rs,us,qs,j,ho,hi,hsub,hv=>by
  simp only [Ad] at ho
  obtain ⟨r,hr,ho1⟩:=Aa ho
  obtain ⟨rs',hrs,ho2⟩:=Aa ho1
  simp at ho2
  subst ho2
  simp only [Cz] at hi
  obtain ⟨q,hq1,hi1⟩:=Aa hi
  obtain ⟨q',hq2,hi2⟩:=Aa hi1
  simp at hi2
  obtain ⟨_,rfl⟩:=hi2
  intro x hx
  rcases lmp.1 hx with hx|hx
  ·obtain ⟨c,hc⟩:=hv 0 v rfl
   rcases IH hr with ⟨h0,_⟩|⟨i,ver,off,len,rfl,_,rfl⟩
   ·rw [LR fun id ver off len e=>by rw [e] at h0;exact IQ h0] at hq1
    exact A.obj0 hc h0 hq1 (fun e=>by cases e) (fun y hy=>hsub y (List.mem_append_left _ (by rw [<- La h0];exact hy))) x hx
   ·have:q.2=[]:=by
     have:=(SU (h1:=h1) hr hq1).keys
     simpa [handW0] using this
    rw [this] at hx
    cases hx
  .exact A.objsW hrs hq2 (fun x hx=>hsub x (List.mem_append_right _ hx)) (fun i v hi=>hv (i+1) v (by simpa using hi)) x hx
end
section
variable {h1 h:VHeap} {R:List Id} {d:Nat}
theorem NV:∀ {ids:List Id} {os:List Ob} {us:List (Id × Nat × Ob) × List (Id × Nat × Ob)} {i j:Nat},Bf h1 i ids.length=some os->BL R h d j ids os=some us ->
  us.1.map (·.1)=ids /\
  (∀ (k:Nat) (id:Id),ids[k]?=some id->∃ u as_ j0 j1,RootBack R h h1 d j0 (i+k) id u as_ j1/\u∈us.1/\(∀ x∈as_,x∈us.2)/\∀ v1 cs,h1 (.arg (i+k) 0)=some (v1,.box cs)->∀ x∈handCL d j0 cs,x∈handO h1 d j i ids.length) /\
  ∀ x∈us.2,∃ (k:Nat) (id:Id) (u:Id × Nat × Ob) (as_:List (Id × Nat × Ob)) (j0 j1:Nat),ids[k]?=some id/\RootBack R h h1 d j0 (i+k) id u as_ j1/\x∈as_/\(∀ y∈as_,y∈us.2)/\∀ v1 cs,h1 (.arg (i+k) 0)=some (v1,.box cs)->∀ y∈handCL d j0 cs,y∈handO h1 d j i ids.length
 | [],os,us,i,j,ho,hb=>by
  simp [Bf] at ho
  subst ho
  simp [BL] at hb
  subst hb
  exact ⟨rfl,fun k id hk=>by simp at hk,by simp⟩
 | id::ids,os,us,i,j,ho,hb=>by
  obtain ⟨u,as_,j',os',us',hrb,ho',hb',rfl⟩:=No ho hb
  obtain ⟨a1,a2,a3⟩:=NV ho' hb'
  have hhead:∀ v1 cs,h1 (.arg i 0)=some (v1,.box cs)->∀ x∈handCL d j cs,x∈handO h1 d j i (ids.length+1):=fun v1 cs e x hx=>by
   simp only [handO,e]
   exact List.mem_append_left _ hx
  have htail:∀ x∈handO h1 d j' (i+1) ids.length,x∈handO h1 d j i (ids.length+1):=fun x hx=>by
   simp only [handO]
   cases hrb with
   | box hh h1h ho2 hi2 =>
    rw [h1h]
    rw [(A3 ho2).1] at hx
    exact List.mem_append_right _ hx
   | arr hh h1h=>rw [h1h];exact hx
   | map hh h1h=>rw [h1h];exact hx
  have hu1:u.1=id:=by cases hrb<;>rfl
  refine ⟨by simp [a1,hu1],fun k id' hk=>?_,fun x hx=>?_⟩
  ·cases k with
   | zero =>
    simp at hk
    subst hk
    exact ⟨u,as_,j,j',hrb,lms ..,fun x hx=>List.mem_append_left _ hx,hhead⟩
   | succ k =>
    simp at hk
    obtain ⟨u2,as2,j0,j1,b1,b2,b3,b4⟩:=a2 k id' hk
    have e:i+1+k=i+(k+1):=by omega
    rw [e] at b1 b4
    exact ⟨u2,as2,j0,j1,b1,lmc _ b2,fun x hx=>List.mem_append_right _ (b3 x hx),fun v1 cs e x hx=>htail x (b4 v1 cs e x hx)⟩
  ·rcases lmp.1 hx with hx|hx
   ·exact ⟨0,id,u,as_,j,j',rfl,hrb,hx,fun y hy=>List.mem_append_left _ hy,hhead⟩
   ·obtain ⟨k,id',u2,as2,j0,j1,b0,b1,b2,b3,b4⟩:=a3 x hx
    have e:i+1+k=i+(k+1):=by omega
    rw [e] at b1 b4
    exact ⟨k+1,id',u2,as2,j0,j1,by simpa using b0,b1,b2,fun y hy=>List.mem_append_right _ (b3 y hy),fun v1 cs e x hx=>htail x (b4 v1 cs e x hx)⟩
end
section
variable {P:Program} {Γ:Sig} (hΓ:C8 P Γ) {G:Gh} {h:VHeap} {w:World} {a:Act} {o:Oper} (hi:HeapInv G h w) (hgd:Good G w)
include hΓ hi hgd
theorem Ji {f:FuncId} {cargs:Array Value} {us:List VVal} {d:Nat} {val:VVal} {ups:List (Id × Nat × Ob)} (hrun:DV P f=true->(execOp a.eval o).run P w=.ok (.enter f cargs) w) (hlen:us.length=cargs.size)
  (hargs:∀ (i:Nat) (u:VVal) (c:Value),us[i]?=some u->cargs[i]?=some c->VRel G h w u c) (hv:CO Γ h d f us=some (val,ups)):Az P G h w a o val ups:=by
 unfold CO at hv
 have hn:=Wf h us
 generalize roots h us=R at hv hn
 unfold Dg at hv
 obtain ⟨args',hargs',hv⟩:=Aa hv
 obtain ⟨H,hH,hv⟩:=Aa hv
 obtain ⟨⟨res,H'⟩,hcall,hv⟩:=Aa hv
 obtain ⟨hlend,hv⟩:=Ab hv
 obtain ⟨bs,hbs,hv⟩:=Aa hv
 obtain ⟨q,hq,hv⟩:=Aa hv
 simp only [osi,pmi] at hv
 obtain ⟨hval,hups⟩:=hv
 subst hval
 subst hups
 simp only at hlend hbs hq
 obtain ⟨hbody,hok⟩:=hΓ _ _ _ _ _ hcall
 generalize hle:us.any D3=lend at hlend
 have hal:lend=true->Js res=true/\H'.all Jv=true:=fun e=>by
  rcases hlend with h0|h0
  ·rw [e] at h0;cases h0
  ·exact h0
 obtain ⟨l1,l2⟩:=A3 hargs'
 have hcalls:=hok (calleeG G R lend) w cargs (YR hi hn hH) (Nm hgd) (by omega) (fun i u c hu hc=>by
  obtain ⟨x,hx,hxu⟩:=l2 i u hu
  refine Qw hi hH (hargs i x c hx hc) (fun hl=>?_) hxu
  rw [<- hle,List.any_eq_true]
  exact ⟨x,lmg hx,hl⟩) (fun b id hm=>by
  obtain ⟨i,_,e,_⟩:=Gs hm
  exact ⟨i,e⟩)
 intro K Q hK
 unfold Oper.wp
 rw [hrun hbody,Oper.upon_enter]
 refine hcalls.mono fun e w' he=>?_
 obtain ⟨c,G1,h1,vs,rfl,hst,hinv1,hret,houts,houtH⟩:=he
 obtain ⟨hnd,houtT⟩:=Ab houts
 obtain ⟨hcap,houtT⟩:=Ab houtT
 have hcapq:=Nl hcap
 have hHR:H.length=R.length:=(A3 hH).1
 rw [hHR] at houtH
 obtain ⟨o1,o2⟩:=Qb houtH
 obtain ⟨k1,k2⟩:=Kl hbs
 have hroot:∀ (i:Nat) (id:Id),R[i]?=some id->∃ v0 cs0 cs1 cs cs',h id=some (v0,.box cs0)/\h1 (.arg i 0)=some (0,.box cs1)/\Ad (AU h1) cs1=some cs/\Ad (D4 R h) cs=some cs'/\(id,v0,Ob.box cs')∈bs/\H'[i]?=some (.box cs):=fun i id hRi=>by
  obtain ⟨cs,cs',o',b1,b2,b3,b4⟩:=k2 i id hRi
  obtain ⟨v0,cs0,cs0',r1,_,_,_⟩:=HO hH hRi
  have hob:=o2 i _ b1
  rw [Nat.zero_add] at hob
  rw [r1] at b3
  simp at b3
  subst b3
  rcases Nb hob with ⟨cs1,cs2,e1,e2,e3,_⟩|⟨v1,sz,xs,e1,⟨_,e3⟩|⟨_,e3⟩⟩|⟨kt,ks,vs,e1,e3⟩
  ·simp at e3
   subst e3
   exact ⟨v0,cs0,cs1,cs,cs',r1,e1,e2,b2,b4,b1⟩
  ·cases e3
  ·simp at e3
   subst e3
   simp [Ad,D4,CH,ob] at b2
  ·cases e3
 have main:∀ (hs:List (Id × Id)) (hi':Nat),Pre h1 h d 0 hs q.2 0 hi'->List.Sublist (hs.map (·.1)) (vs.flatMap (De h1)) ->
   (∀ h2:VHeap,After G h w R H lend G1 h1 w' hs h2->(∀ x∈q.2,h2 x.1=some x.2)->(∀ q∈vs.flatMap (capIds1 h1),∀ id,(q,id) ∉ hs)->VRel (Aq G G1 h1 R w.heap.size w'.heap.size hs) h2 w' q.1 c/\∀ x∈q.2,OBRel (Aq G G1 h1 R w.heap.size w'.heap.size hs) h2 w' x.1 x.2.2) ->
   K (a.put o.dst c) w':=by
  intro hs hi' hpre hsubl hres
  have hnd1:(hs.map (·.1)).Nodup:=List.Sublist.nodup hsubl (List.nodup_append.1 (Jj hnd)).1
  have hcaph:∀ q∈vs.flatMap (capIds1 h1),∀ id,(q,id) ∉ hs:=fun q hq id hm=>hcapq q hq (List.mem_append_left _ (hsubl.subset (lmm.2 ⟨_,hm,rfl⟩)))
  have hkn:(q.2.map (·.1)).Nodup:=by rw [hpre.keys];exact hpre.nd
  have hbn:(bs.map (·.1)).Nodup:=by rw [k1];exact hn
  have hin:∀ id,id∈q.2.map (·.1) ↔ ∃ p,(p,id)∈hs:=fun id=>by
   rw [hpre.keys,lmm]
   exact ⟨fun ⟨x,hx,e⟩=>⟨x.1,by rw [<- e];exact hx⟩,fun ⟨p,hp⟩=>⟨_,hp,rfl⟩⟩
  have hq2:∀ x∈q.2,(h.upds (bs++q.2)) x.1=some x.2:=fun x hx=>by rw [DN];exact HM _ _ x hkn hx
  have hb2:∀ x∈bs,(∀ p,(p,x.1) ∉ hs)->(h.upds (bs++q.2)) x.1=some x.2:=fun x hx hno=>by
   rw [DN,Cg _ _ _ (fun hm=>by obtain ⟨p,hp⟩:=(hin _).1 hm;exact hno p hp)]
   exact HM _ _ x hbn hx
  have A:After G h w R H lend G1 h1 w' hs (h.upds (bs++q.2)):={
   hinv:=hi,hn:=hn,roots:=ZB hH,st:=hst,inv1:=hinv1,nd1:=hnd1,nd2:=hpre.nd
   own:=fun p id hp=>hpre.own (p,id) hp
   h2a:=fun p id hp=>by
    obtain ⟨x,hx,e⟩:=lmm.1 ((hin id).2 ⟨p,hp⟩)
    have:=hq2 x hx
    rw [e] at this
    refine ⟨x.2.1,x.2.2,this,?_,fun hR=>.inl ?_⟩
    ·rw [hpre.ver x hx,e];omega
    ·obtain ⟨i,hilt,e'⟩:=List.getElem_of_mem hR
     obtain ⟨v0,cs0,_,_,_,r1,_⟩:=hroot i id (by rw [lgg hilt,e'])
     exact ⟨v0,cs0,r1⟩
   h2b:=fun id hno hR=>by
    rw [DN,Cg _ _ _ (fun hm=>by obtain ⟨p,hp⟩:=(hin _).1 hm;exact hno p hp),Cg _ _ _ (by rw [k1];exact hR)]
   h2c:=fun i id v ob v1 ob1 hno hRi hh hh1=>by
    obtain ⟨v0,cs0,cs1,cs,cs',r1,r2,r3,r4,r5,_⟩:=hroot i id hRi
    rw [hh] at r1
    rw [hh1] at r2
    simp at r1 r2
    obtain ⟨rfl,rfl⟩:=r1
    obtain ⟨rfl,rfl⟩:=r2
    exact ⟨.box cs',by simpa [bump] using hb2 _ r5 hno,.inl ⟨cs1,cs',rfl,rfl⟩⟩
   args0:=fun i hilt=>by
    obtain ⟨_,_,cs1,_,_,_,r2,_⟩:=hroot i R[i] (lgg hilt)
    exact ⟨_,_,r2⟩
   shape:=fun i id v ob v1 ob1 hRi hh hh1=>by
    obtain ⟨v0,cs0,cs1,cs,cs',r1,r2,_⟩:=hroot i id hRi
    rw [hh] at r1
    rw [hh1] at r2
    simp at r1 r2
    obtain ⟨rfl,rfl⟩:=r1
    obtain ⟨rfl,rfl⟩:=r2
    exact ⟨.inl ⟨cs0,cs1,rfl,rfl⟩,.inl rfl⟩ }
  obtain ⟨hvr,hobj⟩:=hres _ A hq2 hcaph
  refine hK c w' _ A.step (A.inv ?_ ?_ fun p id hp v o' hh=>?_) hvr
  ·intro i id v1 cs1 hno hRi hh1 v2 o2' hh2
   obtain ⟨v0,cs0,cs1',cs,cs',r1,r2,r3,r4,r5,r6⟩:=hroot i id hRi
   rw [hh1] at r2
   simp at r2
   obtain ⟨rfl,rfl⟩:=r2
   have h2id:=hb2 _ r5 hno
   simp only at h2id
   rw [hh2] at h2id
   simp at h2id
   obtain ⟨_,rfl⟩:=h2id
   obtain ⟨m1,m2⟩:=A3 r3
   obtain ⟨n1,n2⟩:=A3 r4
   refine ⟨cs',rfl,by omega,fun j u1 u2 c' hu1 hu2 hvr'=>?_⟩
   obtain ⟨x,hx,hxu⟩:=n2 j u2 hu2
   obtain ⟨y,hy,hyx⟩:=m2 j x hx
   rw [hu1] at hy
   simp at hy
   subst hy
   refine A.argW1 hvr' hyx (zb9 hxu) fun e=>?_
   have:=(hal e).2
   simp only [List.all_eq_true] at this
   have:=this _ (lmg r6)
   simp only [Jv,List.all_eq_true] at this
   exact this x (lmg hx)
  ·intro i v1 ob1 hilt hh1 hno
   obtain ⟨_,_,cs1,_,_,_,r2,_⟩:=hroot i R[i] (lgg hilt)
   rw [hh1] at r2
   simp at r2
   exact absurd r2.2 (hno _)
  ·obtain ⟨x,hx,e⟩:=lmm.1 ((hin id).2 ⟨p,hp⟩)
   have h1':=hq2 x hx
   rw [e,hh] at h1'
   simp at h1'
   have:=hobj x hx
   rw [e,<- h1'] at this
   exact this
 have hndI:=(List.nodup_append.1 (Jj hnd)).1
 by_cases hone:∃ v,vs=[v]
 ·obtain ⟨v,rfl⟩:=hone
  simp only [CS] at houtT
  replace houtT:BB h1 v=some res:=by
   rcases KJ houtT with h0|⟨cs,rs,rfl,h0,rfl⟩|⟨i,ver,off,len,rfl,_,rfl⟩
   ·exact h0.1
   ·simp only [C4,in1] at hq
    obtain ⟨q1,hq1,_⟩:=Aa hq
    simp only [BB]
    rw [Ou h0 hq1]
    rfl
   ·simp [C4,in1,in0,CH,ob] at hq
  have hin1:in1 R h d 0 res=some (q.1,q.2):=by
   cases res with
   | tup rs =>
    exact absurd houtT (Ov h1 v rs)
   | _=>exact hq
  have hna:Js res=true->DB res=true:=fun e=>by
   cases res with
   | tup=>simp [in1,in0,CH,ob] at hin1
   | _=>exact e
  refine main (hand1 h1 d 0 v) _ (Mw houtT hin1) (by simpa using Ld v 0) fun h2 A hq2 hcp=>?_
  exact A.res1 hret houtT hin1 (fun e=>hna (hal e).1) (fun _ hx=>hx) hq2 (fun q hq=>hcp q (by simpa using hq))
 ·have hT:CS h1 vs=ob (Ad (BB h1) vs) fun vs=>some (.tup vs):=by
   unfold CS
   split
   .exact absurd ⟨_,rfl⟩ hone
   .rfl
  rw [hT] at houtT
  obtain ⟨rs,hrs,houtT1⟩:=Aa houtT
  simp at houtT1
  subst houtT1
  simp only [C4] at hq
  obtain ⟨r,hr,hq1⟩:=Aa hq
  simp at hq1
  subst hq1
  have hret':∃ arr:Array Value,c=.tuple arr/\vs.length=arr.size/\∀ (i:Nat) (v:VVal) (c:Value),vs[i]?=some v->arr[i]?=some c->VRel G1 h1 w' v c:=by
   unfold DI at hret
   split at hret
   .exact absurd ⟨_,rfl⟩ hone
   .exact hret
  obtain ⟨arr,rfl,ha1,ha2⟩:=hret'
  obtain ⟨hi',_,hpre⟩:=Mu hrs hr
  refine main (handT h1 d 0 vs rs) hi' hpre (Lb vs rs 0) fun h2 A hq2 hcp=>?_
  obtain ⟨b1,b2,b3⟩:=A.resT (cs:=arr.toList) (by simpa using ha1) (fun i v c hv hc=>ha2 i v c hv (by simpa using hc)) hrs hr (fun e=>(hal e).1) (fun _ hx=>hx) hq2 hcp
  exact ⟨.tup (by simpa using b1) fun i u c hu hc=>b2 i u c hu (by simpa using hc),b3⟩
theorem GG {f:FuncId} {cargs:Array Value} {us:List VVal} {d:Nat} {val:VVal} {ups:List (Id × Nat × Ob)} (hrun:DV P f=true->(execOp a.eval o).run P w=.ok (.enter f cargs) w) (hlen:us.length=cargs.size)
  (hargs:∀ (i:Nat) (u:VVal) (c:Value),us[i]?=some u->cargs[i]?=some c->VRel G h w u c) (hv:Bv Γ h d f us=some (val,ups)):Az P G h w a o val ups:=by
 unfold Bv at hv
 have hn:=VB h us
 generalize rootsW h us=R at hv hn
 unfold Dd at hv
 obtain ⟨args',hargs',hv⟩:=Aa hv
 obtain ⟨H,hH,hv⟩:=Aa hv
 obtain ⟨⟨res,H'⟩,hcall,hv⟩:=Aa hv
 obtain ⟨⟨bs,as_⟩,hbs,hv⟩:=Aa hv
 obtain ⟨q,hq,hv⟩:=Aa hv
 obtain ⟨hap,hv⟩:=Ab hv
 simp only [osi,pmi] at hv
 obtain ⟨hval,hups⟩:=hv
 subst hval
 subst hups
 simp only at hbs hq hap
 obtain ⟨hbody,hok⟩:=hΓ _ _ _ _ _ hcall
 obtain ⟨l1,l2⟩:=A3 hargs'
 have hcalls:=hok (calleeG G R false) w cargs (XF hi hn hH) (Nm hgd) (by omega) (fun i u c hu hc=>by
  obtain ⟨x,hx,hxu⟩:=l2 i u hu
  exact PC hn (K0 hH) (hargs i x c hx hc) hxu) (fun b id hm=>by
  obtain ⟨i,_,e,_⟩:=Gs hm
  exact ⟨i,e⟩)
 intro K Q hK
 unfold Oper.wp
 rw [hrun hbody,Oper.upon_enter]
 refine hcalls.mono fun e w' he=>?_
 obtain ⟨c,G1,h1,vs,rfl,hst,hinv1,hret,houts,houtH⟩:=he
 obtain ⟨hnd,houtT⟩:=Ab houts
 obtain ⟨hcap,houtT⟩:=Ab houtT
 have hcapq:=Nl hcap
 have hHR:H.length=R.length:=(A3 hH).1
 rw [hHR] at houtH hnd
 obtain ⟨k1,k2,k3⟩:=NV houtH hbs
 simp only [Nat.zero_add] at k2 k3
 have hback:∀ (i:Nat) (id:Id),R[i]?=some id->∃ u as_' j0 j1,RootBack R h h1 d j0 i id u as_' j1/\u∈bs/\(∀ x∈as_',x∈as_)/\∀ v1 cs,h1 (.arg i 0)=some (v1,.box cs)->∀ x∈handCL d j0 cs,x∈handO h1 d 1000 0 R.length:=k2
 obtain ⟨hiO,_,hpreO⟩:=T0 houtH hbs
 simp only at hpreO
 simp only [LE,List.all_eq_true,bat,Bool.not_eq_true',decide_eq_false_iff_not] at hap
 have main:∀ (hr:List (Id × Id)) (hi':Nat),Pre h1 h d 0 hr q.2 0 hi'->List.Sublist (hr.map (·.1)) (vs.flatMap (De h1)) ->
   (∀ (hs:List (Id × Id)) (h2:VHeap),After G h w R H false G1 h1 w' hs h2->(∀ x∈hr,x∈hs)->(∀ x∈q.2,h2 x.1=some x.2)->(∀ q∈vs.flatMap (capIds1 h1),∀ id,(q,id) ∉ hs)->VRel (Aq G G1 h1 R w.heap.size w'.heap.size hs) h2 w' q.1 c/\∀ x∈q.2,OBRel (Aq G G1 h1 R w.heap.size w'.heap.size hs) h2 w' x.1 x.2.2) ->
   K (a.put o.dst c) w':=by
  intro hr hi' hpre hsub hres
  generalize hhs:handO h1 d 1000 0 R.length++hr=hs
  have hmem:∀ p id,(p,id)∈hs ↔ (p,id)∈handO h1 d 1000 0 R.length \/ (p,id)∈hr:=fun p id=>by rw [<- hhs,lmp]
  have hkn:((as_++q.2).map (·.1)).Nodup:=by
   rw [lma]
   refine List.nodup_append.2 ⟨by rw [hpreO.keys];exact hpreO.nd,by rw [hpre.keys];exact hpre.nd,fun x hx y hy e=>?_⟩
   obtain ⟨x',hx',rfl⟩:=lmm.1 hx
   obtain ⟨y',hy',rfl⟩:=lmm.1 hy
   exact (hap y' hy').2 x' hx' e
  have hkeys:(as_++q.2).map (·.1)=hs.map (·.2):=by rw [<- hhs,lma,lma,hpreO.keys,hpre.keys]
  have hnd1:(hs.map (·.1)).Nodup:=by
   rw [<- hhs,lma,I5]
   have h0:=List.nodup_append.1 (Jj hnd)
   refine List.nodup_append.2 ⟨h0.2.1,hsub.nodup h0.1,fun x hx y hy e=>h0.2.2 y (hsub.subset hy) x hx e.symm⟩
  have hcaph:∀ q∈vs.flatMap (capIds1 h1),∀ id,(q,id) ∉ hs:=fun q hq id hm=>by
   rw [<- hhs] at hm
   rcases lmp.1 hm with hm|hm
   ·exact hcapq q hq (List.mem_append_right _ (by
     have e:(handO h1 d 1000 0 R.length).map (·.1)=Df h1 0 R.length:=by rw [I5]
     rw [hHR,<- e]
     exact lmm.2 ⟨_,hm,rfl⟩))
   ·exact hcapq q hq (List.mem_append_left _ (hsub.subset (lmm.2 ⟨_,hm,rfl⟩)))
  have hbn:(bs.map (·.1)).Nodup:=by rw [k1];exact hn
  have hin:∀ id,id∈(as_++q.2).map (·.1) ↔ ∃ p,(p,id)∈hs:=fun id=>by
   rw [hkeys,lmm]
   exact ⟨fun ⟨x,hx,e⟩=>⟨x.1,by rw [<- e];exact hx⟩,fun ⟨p,hp⟩=>⟨_,hp,rfl⟩⟩
  have hq2:∀ x∈as_++q.2,(h.upds (bs++(as_++q.2))) x.1=some x.2:=fun x hx=>by rw [DN];exact HM _ _ x hkn hx
  have hb2:∀ x∈bs,(∀ p,(p,x.1) ∉ hs)->(h.upds (bs++(as_++q.2))) x.1=some x.2:=fun x hx hno=>by
   rw [DN,Cg _ _ _ (fun hm=>by obtain ⟨p,hp⟩:=(hin _).1 hm;exact hno p hp)]
   exact HM _ _ x hbn hx
  have A:After G h w R H false G1 h1 w' hs (h.upds (bs++(as_++q.2))):={
   hinv:=hi,hn:=hn,roots:=K0 hH,st:=hst,inv1:=hinv1,nd1:=hnd1,nd2:=by rw [<- hkeys];exact hkn
   own:=fun p id hp=>by
    rcases (hmem p id).1 hp with h0|h0
    ·exact hpreO.own (p,id) h0
    ·exact hpre.own (p,id) h0
   h2a:=fun p id hp=>by
    obtain ⟨x,hx,e⟩:=lmm.1 ((hin id).2 ⟨p,hp⟩)
    have:=hq2 x hx
    rw [e] at this
    rcases lmp.1 hx with hx'|hx'
    ·refine ⟨x.2.1,x.2.2,this,?_,fun _=>.inr ?_⟩
     ·rw [hpreO.ver x hx',e];omega
     ·rw [hpreO.ver x hx',e];omega
    ·refine ⟨x.2.1,x.2.2,this,?_,fun hR=>?_⟩
     ·rw [hpre.ver x hx',e];omega
     ·have:=(hap x hx').1
      rw [e] at this
      simp at this
      exact absurd hR this
   h2b:=fun id hno hR=>by
    rw [DN,Cg _ _ _ (fun hm=>by obtain ⟨p,hp⟩:=(hin _).1 hm;exact hno p hp),Cg _ _ _ (by rw [k1];exact hR)]
   h2c:=fun i id v ob v1 ob1 hno hRi hh hh1=>by
    obtain ⟨u,as_',j0,j1,r1,r2,_,_⟩:=hback i id hRi
    cases r1 with
    | @box v0 cs0 cs cs' us' as2 r3 r4 r5 r6 =>
     rw [hh] at r3
     rw [hh1] at r4
     simp at r3 r4
     obtain ⟨rfl,rfl⟩:=r3
     obtain ⟨rfl,rfl⟩:=r4
     exact ⟨.box us',by simpa [bump] using hb2 _ r2 hno,.inl ⟨cs,us',rfl,rfl⟩⟩
    | @arr v0 v1' sz0 sz xs0 xs r3 r4 =>
     rw [hh] at r3
     rw [hh1] at r4
     simp at r3 r4
     obtain ⟨rfl,rfl⟩:=r3
     obtain ⟨rfl,rfl⟩:=r4
     exact ⟨.arr sz xs,hb2 _ r2 hno,.inr ⟨rfl,by simp⟩⟩
    | @map v0 kt0 kt ks0 ks vs0 vs r3 r4 =>
     rw [hh] at r3
     rw [hh1] at r4
     simp at r3 r4
     obtain ⟨rfl,rfl⟩:=r3
     obtain ⟨rfl,rfl⟩:=r4
     exact ⟨.map kt ks vs,by simpa [bump] using hb2 _ r2 hno,.inr ⟨rfl,by simp⟩⟩
   args0:=fun i hilt=>by
    obtain ⟨u,as_',j0,j1,r1,_⟩:=hback i R[i] (lgg hilt)
    cases r1 with
    | box _ r4=>exact ⟨_,_,r4⟩
    | arr _ r4=>exact ⟨_,_,r4⟩
    | map _ r4=>exact ⟨_,_,r4⟩
   shape:=fun i id v ob v1 ob1 hRi hh hh1=>by
    obtain ⟨u,as_',j0,j1,r1,_⟩:=hback i id hRi
    cases r1 with
    | @box v0 cs0 cs cs' us' as2 r3 r4 r5 r6 =>
     rw [hh] at r3
     rw [hh1] at r4
     simp at r3 r4
     obtain ⟨rfl,rfl⟩:=r3
     obtain ⟨rfl,rfl⟩:=r4
     exact ⟨.inl ⟨cs0,cs,rfl,rfl⟩,.inl rfl⟩
    | @arr v0 v1' sz0 sz xs0 xs r3 r4 =>
     rw [hh] at r3
     rw [hh1] at r4
     simp at r3 r4
     obtain ⟨rfl,rfl⟩:=r3
     obtain ⟨rfl,rfl⟩:=r4
     exact ⟨.inr (.inl ⟨sz0,xs0,sz,xs,rfl,rfl⟩),.inr ⟨sz,xs,rfl⟩⟩
    | @map v0 kt0 kt ks0 ks vs0 vs r3 r4 =>
     rw [hh] at r3
     rw [hh1] at r4
     simp at r3 r4
     obtain ⟨rfl,rfl⟩:=r3
     obtain ⟨rfl,rfl⟩:=r4
     exact ⟨.inr (.inr ⟨kt0,ks0,vs0,kt,ks,vs,rfl,rfl⟩),.inl rfl⟩ }
  obtain ⟨hvr,hobj⟩:=hres hs _ A (fun x hx=>by rw [<- hhs];exact List.mem_append_right _ hx) (fun x hx=>hq2 x (List.mem_append_right _ hx)) hcaph
  have hcells:∀ (i:Nat) (id:Id) (v0:Nat) (cs0 cs cs' us':List VVal) (as_':List (Id × Nat × Ob)) (j0:Nat),h1 (.arg i 0)=some (0,.box cs)->Ad (AU h1) cs=some cs'->Ce R h d j0 cs'=some (us',as_')->(∀ x∈as_',x∈as_) ->
    (∀ v1 cs,h1 (.arg i 0)=some (v1,.box cs)->∀ x∈handCL d j0 cs,x∈handO h1 d 1000 0 R.length) ->
    us'.length=cs.length/\(∀ (k:Nat) (v u:VVal) (c:Value),cs[k]?=some v->us'[k]?=some u->VRel G1 h1 w' v c->VRel (Aq G G1 h1 R w.heap.size w'.heap.size hs) (h.upds (bs++(as_++q.2))) w' u c)/\∀ x∈as_',OBRel (Aq G G1 h1 R w.heap.size w'.heap.size hs) (h.upds (bs++(as_++q.2))) w' x.1 x.2.2:=by
   intro i id v0 cs0 cs cs' us' as_' j0 r4 r5 r6 r7 r8
   refine A.cells rfl r5 r6 (fun x hx=>by rw [<- hhs];exact List.mem_append_left _ (r8 _ _ r4 x hx)) (fun x hx=>hq2 x (List.mem_append_left _ (r7 x hx))) fun k v hk=>?_
   obtain ⟨_,arr,t,_,hlen',_,hr'⟩:=hinv1 _ _ _ r4
   have hlt:k<arr.size:=by rw [<- hlen'];exact (lgs.1 hk).1
   exact ⟨arr[k],hr' k v _ hk (aggz hlt)⟩
  refine hK c w' _ A.step (A.inv ?_ (fun _ _ _ _ _ _=>rfl) fun p id hp v o' hh=>?_) hvr
  ·intro i id v1 cs1 hno hRi hh1 v2 o2' hh2
   obtain ⟨u,as_',j0,j1,r1,r2,r7,r8⟩:=hback i id hRi
   cases r1 with
   | @box v0 cs0 cs cs' us' as2 r3 r4 r5 r6 =>
    rw [hh1] at r4
    simp at r4
    obtain ⟨rfl,rfl⟩:=r4
    have h2id:=hb2 _ r2 hno
    simp only at h2id
    rw [hh2] at h2id
    simp at h2id
    obtain ⟨_,rfl⟩:=h2id
    obtain ⟨c1,c2,_⟩:=hcells i id v0 cs0 cs1 cs' us' _ j0 hh1 r5 r6 r7 r8
    exact ⟨us',rfl,c1,c2⟩
   | @arr v0 v1' sz0 sz xs0 xs r3 r4 =>
    rw [hh1] at r4
    simp at r4
   | @map v0 kt0 kt ks0 ks vs0 vs r3 r4 =>
    rw [hh1] at r4
    simp at r4
  ·obtain ⟨x,hx,e⟩:=lmm.1 ((hin id).2 ⟨p,hp⟩)
   have h1':=hq2 x hx
   rw [e,hh] at h1'
   simp at h1'
   have hall:OBRel (Aq G G1 h1 R w.heap.size w'.heap.size hs) (h.upds (bs++(as_++q.2))) w' x.1 x.2.2:=by
    rcases lmp.1 hx with hx'|hx'
    ·obtain ⟨i,id',u,as_',j0,j1,r0,r1,r2,r7,r8⟩:=k3 x hx'
     cases r1 with
     | @box v0 cs0 cs cs' us' as2 r3 r4 r5 r6=>exact (hcells i id' v0 cs0 cs cs' us' _ j0 r4 r5 r6 r7 r8).2.2 x r2
     | arr=>simp at r2
     | map=>simp at r2
    ·exact hobj x hx'
   rw [e,<- h1'] at hall
   exact hall
 by_cases hone:∃ v,vs=[v]
 ·obtain ⟨v,rfl⟩:=hone
  simp only [CS] at houtT
  rcases KJ houtT with ⟨houtT,hnagg⟩|⟨cs,rs,rfl,houtW,rfl⟩|⟨i,ver,off,len,rfl,hal,rfl⟩
  case inr.inl =>
   simp only [Dq] at hq
   obtain ⟨q1,hq1,hq2⟩:=Aa hq
   simp only [osi] at hq2
   subst hq2
   refine main (handLW d 0 cs) _ (SV houtW hq1) (by simpa [De] using OI cs 0) fun hs h2 A hsub hq2 hcp=>?_
   simp only [DI] at hret
   cases hret with
   | @agg _ arr hlen h1c hr =>
    obtain ⟨hl,hall⟩:=A.leavesW houtW hq1 hsub hq2 (fun q hq=>hcp q (by simpa [capIds1] using hq))
    refine ⟨.agg (by omega) h1c fun i u c hu hc=>?_,A.objsW houtW hq1 hsub fun i v hv=>?_⟩
    ·have hlt:i<cs.length:=by rw [<- hl];exact (lgs.1 hu).1
     exact hall i cs[i] u c (lgg hlt) hu (hr i _ c (lgg hlt) hc)
    ·have hlt:i<arr.size:=by rw [<- hlen];exact (lgs.1 hv).1
     exact ⟨arr[i],hr i v _ hv (aggz hlt)⟩
  case inr.inr =>
   replace hq:(ob R[i]? fun id=>ob (h id) fun o=>some (VVal.own id (o.1+bump ver) off len,([]:List (Id × Nat × Ob))))=some q:=by
    by_cases h0:ver=0
    ·rw [show bump ver=0 by simp [bump,h0]]
     rw [if_pos h0] at hq
     exact hq
    ·rw [show bump ver=1 by simp [bump,h0]]
     rw [if_neg h0] at hq
     exact hq
   obtain ⟨id,hid,hq1⟩:=Aa hq
   obtain ⟨o,ho,hq2⟩:=Aa hq1
   simp only [osi] at hq2
   subst hq2
   refine main [] 0 (Pre.nil ..) (List.nil_sublist _) fun hs h2 A _ _ _=>⟨?_,fun x hx=>by cases hx⟩
   simp only [DI] at hret
   exact A.ownArg hret hal hid ho
  rw [YD (fun id ver off len e=>by rw [e] at houtT;exact Xc houtT) hnagg] at hq
  have hin1:in1 R h d 0 res=some (q.1,q.2):=by
   cases res with
   | tup rs =>
    exact absurd houtT (Ov h1 v rs)
   | _=>exact hq
  refine main (hand1 h1 d 0 v) _ (Mw houtT hin1) (by simpa using Ld v 0) fun hs h2 A hsub hq2 hcp=>?_
  exact A.res1 hret houtT hin1 (fun e=>by cases e) hsub hq2 (fun q hq=>hcp q (by simpa using hq))
 ·have hT:CS h1 vs=ob (Ad (BB h1) vs) fun vs=>some (.tup vs):=by
   unfold CS
   split
   .exact absurd ⟨_,rfl⟩ hone
   .rfl
  rw [hT] at houtT
  obtain ⟨rs,hrs,houtT1⟩:=Aa houtT
  simp at houtT1
  subst houtT1
  simp only [Dq,C4] at hq
  obtain ⟨r,hr,hq1⟩:=Aa hq
  simp at hq1
  subst hq1
  have hret':∃ arr:Array Value,c=.tuple arr/\vs.length=arr.size/\∀ (i:Nat) (v:VVal) (c:Value),vs[i]?=some v->arr[i]?=some c->VRel G1 h1 w' v c:=by
   unfold DI at hret
   split at hret
   .exact absurd ⟨_,rfl⟩ hone
   .exact hret
  obtain ⟨arr,rfl,ha1,ha2⟩:=hret'
  obtain ⟨hi',_,hpre⟩:=Mu hrs hr
  refine main (handT h1 d 0 vs rs) hi' hpre (Lb vs rs 0) fun hs h2 A hsub hq2 hcp=>?_
  obtain ⟨b1,b2,b3⟩:=A.resT (cs:=arr.toList) (by simpa using ha1) (fun i v c hv hc=>ha2 i v c hv (by simpa using hc)) hrs hr (fun e=>by cases e) hsub hq2 hcp
  exact ⟨.tup (by simpa using b1) fun i u c hu hc=>b2 i u c hu (by simpa using hc),b3⟩
end
end
end Go.V
namespace Go.V
open Go.RowKit
section
variable [GK]
theorem We {fz:Nat->Prop} {w:World} {sz cap off:Nat} {xs zs:List PV} {arr N:Array Value} {news:List Value} (hlen:off+zs.length<=xs.length) (hxc:xs.length<=cap) (has:arr.size=cap*sz)
  (hcs:∀ x∈xs,x.cells.length=sz) (hcell:∀ (i:Nat) (x:PV) (j:Nat) (c:PV),xs[i]?=some x->x.cells[j]?=some c->∃ v,arr[i*sz+j]?=some v/\v.oneCell'=true/\PRel fz w c v)
  (hnl:news.length=zs.length*sz) (hzcs:∀ y∈zs,y.cells.length=sz) (hone:∀ u∈news,u.oneCell'=true)
  (hzr:∀ (i:Nat) (y:PV) (j:Nat) (c:PV),zs[i]?=some y->y.cells[j]?=some c->∃ u,news[i*sz+j]?=some u/\PRel fz w c u) (hN:N=(AB arr.toList (off*sz) news).toArray) :
  N.size=cap*sz/\∀ (i:Nat) (x:PV) (j:Nat) (c:PV),(AB xs off zs)[i]?=some x->x.cells[j]?=some c->∃ v,N[i*sz+j]?=some v/\v.oneCell'=true/\PRel fz w c v:=by
 have hsp:off*sz+news.length<=arr.toList.length:=by
  have hal:arr.toList.length=arr.size:=by simp
  rw [hal,hnl,<- Nat.add_mul,has]
  exact Nat.mul_le_mul_right _ (by omega)
 have hNg:∀ k:Nat,N[k]?=if off*sz<=k/\k<off*sz+news.length then news[k - off*sz]? else arr[k]?:=fun k=>by
  rw [hN,List.getElem?_toArray,C7 _ _ _ hsp,Array.getElem?_toList (xs:=arr)]
 refine ⟨by rw [hN,List.size_toArray,CA _ _ _ hsp,Array.length_toList,has],fun i x j c hx hj=>?_⟩
 rw [C7 _ _ _ hlen] at hx
 by_cases hi:off<=i/\i<off+zs.length
 ·rw [if_pos hi] at hx
  obtain ⟨u,e1,e2⟩:=hzr (i - off) x j c hx hj
  have hjlt:j<sz:=by rw [<- hzcs x (lmg hx)];exact (lgs.1 hj).1
  have h3:=CX (n:=zs.length) (show i - off<zs.length by omega) hjlt
  have he:i*sz+j=off*sz+((i - off)*sz+j):=by
   rw [<- Nat.add_assoc,<- Nat.add_mul]
   congr 2
   omega
  refine ⟨u,?_,hone u (lmg e1),e2⟩
  rw [he,hNg,if_pos (by omega),<- e1]
  congr 1
  omega
 ·rw [if_neg hi] at hx
  obtain ⟨v,e1,e2,e3⟩:=hcell i x j c hx hj
  have hjlt:j<sz:=by rw [<- hcs x (lmg hx)];exact (lgs.1 hj).1
  refine ⟨v,?_,e2,e3⟩
  rw [hNg,if_neg ?_]
  ·exact e1
  ·rw [hnl,<- Nat.add_mul]
   rintro ⟨h1,h2⟩
   apply hi
   constructor
   ·rcases Nat.lt_or_ge i off with h3|h3
    ·have:=CX (n:=off) h3 hjlt
     omega
    ·exact h3
   ·rcases Nat.lt_or_ge i (off+zs.length) with h3|h3
    ·exact h3
    ·have:=Nat.mul_le_mul_right sz h3
     omega
theorem RowOf.take {fz:Nat->Prop} {w:World} {sz m:Nat} {ys:List PV} {ad:Option Addr} {news:List Value} (h:RowOf fz w sz ys ad news) (hm:m<=ys.length):RowOf fz w sz (ys.take m) ad (news.take (m*sz)) where
 len:=by
  have:=Nat.mul_le_mul_right sz hm
  rw [llt,llt,h.len]
  rw [Nat.min_eq_left this,Nat.min_eq_left hm]
 cs:=fun y hy=>h.cs y (List.mem_of_mem_take hy)
 at_:=fun h0=>by
  have h0':0<ys.length:=by rw [llt] at h0;omega
  obtain ⟨a,e1,e2⟩:=h.at_ h0'
  refine ⟨a,e1,fun j u hu=>e2 j u ?_⟩
  rw [List.getElem?_take] at hu
  split at hu
  ·exact hu
  ·cases hu
 one:=fun u hu=>h.one u (List.mem_of_mem_take hu)
 rel:=fun i y j c hy hj=>by
  rw [List.getElem?_take] at hy
  split at hy
  ·rename_i him
   obtain ⟨u,e1,e2⟩:=h.rel i y j c hy hj
   have hjlt:j<sz:=by rw [<- h.cs y (lmg hy)];exact (lgs.1 hj).1
   exact ⟨u,by rw [List.getElem?_take_of_lt (CX him hjlt)];exact e1,e2⟩
  .cases hy
theorem WN {fz:Nat->Prop} {w:World} {zero:PV} {z:Value} (hrel:PRel fz w zero z) (j:Nat) (c:PV) (hj:zero.cells[j]?=some c):∃ v,z.cells[j]?=some v/\v.oneCell'=true/\PRel fz w c v:=by
 by_cases hagg:∃ ds,zero=.agg ds
 ·obtain ⟨ds,rfl⟩:=hagg
  cases hrel with
  | @agg ds arr hl1 h1c hrr =>
   simp only [PV.cells,Value.cells] at hj ⊢
   have hlt:j<arr.size:=by rw [<- hl1];exact (lgs.1 hj).1
   exact ⟨arr[j],aggz hlt,h1c j _ (aggz hlt),hrr j c _ hj (aggz hlt)⟩
 ·have hd:∀ ds,zero ≠ .agg ds:=fun ds e=>hagg ⟨ds,e⟩
  have hone:=hrel.one hd
  have hpc:zero.cells=[zero]:=by cases zero<;>first|rfl|exact absurd rfl (hd _)
  have hvc:z.cells=#[z]:=by
   cases hrel<;>first|rfl|exact absurd rfl (hd _)
  rw [hpc] at hj
  cases j with
  | zero =>
   simp at hj
   subst hj
   exact ⟨z,by rw [hvc];rfl,hone,hrel⟩
  | succ j=>simp at hj
theorem Y8 {fz:Nat->Prop} {w:World} {zero:PV} {z:Value} (hrel:PRel fz w zero z):∀ v∈z.cells.toList,v.oneCell'=true:=fun v hv=>by
 by_cases hagg:∃ ds,zero=.agg ds
 ·obtain ⟨ds,rfl⟩:=hagg
  cases hrel with
  | @agg ds arr hl1 h1c hrr =>
   simp only [Value.cells,Array.mem_toList_iff] at hv
   obtain ⟨j,hj⟩:=Array.getElem?_of_mem hv
   exact h1c j _ hj
 ·have hd:∀ ds,zero ≠ .agg ds:=fun ds e=>hagg ⟨ds,e⟩
  have hone:=hrel.one hd
  have hvc:z.cells=#[z]:=by
   cases hrel<;>first|rfl|exact absurd rfl (hd _)
  rw [hvc] at hv
  simp at hv
  rw [hv]
  exact hone
section
variable {P:Program} {vs:List Nat} {n d:Nat} {G:Gh} {r:RS} {a:Act} {w:World} (hr:RRel vs n G r a w) (hi:HeapInv G r.h w) {o:Oper}
include hr hi
theorem ZW {xs:Array Operand} {ts:Array TypeId} (ho:o.op=.call { callee:=.builtin .clear,args:=xs,argTypes:=ts }) {x:Operand} {t e:TypeId} (hxs:xs.toList=[x]) (hts:ts.toList=[t]) {x':VArg} (hx:Al vs x x'=true)
  (hu:P.underlying t=some (.slice e)) {i:TypeInfo} {z:Value} (hinf:P.info? e=some i) (hz:i.zero=some z) (hzs:z.cells.size=i.size) {zero:PV} (hz0:okZeroPV z zero=true) (hzc:zero.cells.length=i.size)
  {id:Id} {ver off len:Nat} {us:List PV} (hl:r.look x'=some (.own id ver off len)) (hh:r.h id=some (ver,.arr i.size us)) :
  Az P G r.h w a o .dead [(id,ver,.arr i.size (AB us off (List.replicate len zero)))]:=by
 obtain rfl:xs=#[x]:=by rw [<- Array.toList_inj];simpa using hxs
 obtain rfl:ts=#[t]:=by rw [<- Array.toList_inj];simpa using hts
 have h1:=Av hr hx hl
 have hexec:∀ c w',(Builtin.clear_ #[t] o.type #[a.eval x]).run P w=.ok c w'->(execOp a.eval o).run P w=.ok (.value c) w':=fun c w' h=>by
  simp [execOp,ho,resolve,invoke,builtin,h]
 generalize hcx:a.eval x=cx at h1 hexec
 cases h1 with
 | @own _ _ _ _ ad n' cap v' o' hn hcap hh' hle hoo =>
  rw [hh] at hh'
  simp at hh'
  obtain ⟨rfl,rfl⟩:=hh'
  subst hn
  obtain ⟨sz3,xs3,he,hin,hreal⟩:=hoo rfl
  simp at he
  obtain ⟨rfl,rfl⟩:=he
  obtain ⟨hcs,hxm,hall⟩:=hi _ _ _ hh
  by_cases hm0:n'=0
  ·subst hm0
   have hs:AB us off (List.replicate 0 zero)=us:=by simp [AB]
   rw [hs]
   have hupd:r.h.upd id (ver,.arr i.size us)=r.h:=by
    funext q
    by_cases hq:q=id
    ·subst hq;rw [BE,hh]
    ·rw [DO _ _ hq]
   have hrun:(Builtin.clear_ #[t] o.type #[.slice ad 0 cap]).run P w=.ok (.tuple #[]) w:=by
    cases ad<;>simp [Builtin.clear_,run_underlying hu]
   exact CB (G':=G) (hexec _ _ hrun) (by simp only [VHeap.upds];rw [hupd];exact Step.refl _ _ _) (by simp only [VHeap.upds];rw [hupd];exact hi) (.dead _)
  ·rcases hreal with ⟨h0,_⟩|⟨g1,g2,g3⟩
   ·omega
   ·have hadd:=g3 (by omega)
    subst hadd
    obtain ⟨hxc,arr,tt,hb,has,hcell⟩:=hall g1
    have hsp:off+(List.replicate n' zero).length<=us.length:=by rw [List.length_replicate];omega
    have hrel:PRel (fun b=>G.kind b=.frozen) w zero z:=Kn hz0
    have hcells:∀ (j:Nat) (c:PV),zero.cells[j]?=some c->∃ v,z.cells[j]?=some v/\v.oneCell'=true/\PRel (fun b=>G.kind b=.frozen) w c v:=WN hrel
    have hzone:∀ v∈z.cells.toList,v.oneCell'=true:=Y8 hrel
    obtain ⟨news,hnews⟩:∃ news,news=(Builtin.zeroCells z.cells n').toList:=⟨_,rfl⟩
    have hnl:news.length=n'*i.size:=by rw [hnews];simp [size_zeroCells,hzs]
    have hget:∀ k,k<n'*i.size->news[k]?=z.cells[k % i.size]?:=fun k hk=>by
     have hp:k % i.size<z.cells.size:=by rw [hzs];exact (GE hk).2
     rw [hnews,Array.getElem?_toList,Builtin.zeroCells,Array.getElem?_map,Array.getElem?_range,if_pos (by rw [hzs];exact hk)]
     simp only [Option.map_some,hzs]
     rw [Array.getElem!_eq_getD,agd,aggz hp]
     rfl
    have hone:∀ u∈news,u.oneCell'=true:=fun u hu=>by
     obtain ⟨k,hk⟩:=lgm hu
     have hkl:k<n'*i.size:=by rw [<- hnl];exact (lgs.1 hk).1
     rw [hget k hkl] at hk
     exact hzone u (by simpa using Array.mem_of_getElem? hk)
    have hzr:∀ (q:Nat) (y:PV) (j:Nat) (c:PV),(List.replicate n' zero)[q]?=some y->y.cells[j]?=some c->∃ u,news[q*i.size+j]?=some u/\PRel (fun b=>G.kind b=.frozen) w c u:=fun q y j c hq hj=>by
     have hx0:=List.eq_of_mem_replicate (lmg hq)
     subst hx0
     have hqlt:q<n':=by have:=(lgs.1 hq).1;simpa using this
     have hjlt:j<i.size:=by rw [<- hzc];exact (lgs.1 hj).1
     obtain ⟨u,e1,e2,e3⟩:=hcells j c hj
     refine ⟨u,?_,e3⟩
     rw [hget _ (CX hqlt hjlt),(Nc (i:=q) hjlt).2,e1]
    obtain ⟨q1,q2⟩:=We (N:=(AB arr.toList (off*i.size) news).toArray) (cap:=G.cap id) hsp hxc has hcs hcell (by rw [List.length_replicate];exact hnl) (fun y hy=>by rw [List.eq_of_mem_replicate hy];exact hzc) hone hzr rfl
    generalize hN:(AB arr.toList (off*i.size) news).toArray=N at q1 q2
    have hfit:off*i.size+news.length<=arr.size:=by
     rw [hnl,<- Nat.add_mul,has]
     exact Nat.mul_le_mul_right _ (by omega)
    have hst:=run_storeCells_at P (G.blk id) (off*i.size) tt news 0 arr w hb (by simpa using hfit) hone
    simp only [Nat.add_zero] at hst
    have hrun:(Builtin.clear_ #[t] o.type #[.slice (some ⟨G.blk id,off*i.size,none⟩) n' cap]).run P w=.ok (.tuple #[]) (w.setRow (G.blk id) N):=by
     rw [<- hN]
     cases n' with
     | zero=>exact absurd rfl hm0
     | succ m'=>simp [Builtin.clear_,run_underlying hu,zeroValue,typeInfo,hinf,hz,<- hnews,hst,AB]
    have hblk:∀ b,b ≠ G.blk id->(w.setRow (G.blk id) N).heap[b]?=w.heap[b]?:=fun b hb'=>setRow_other w _ _ _ hb'
    have hst2:Step G r.h w G (r.h.upd id (ver,.arr i.size (AB us off (List.replicate n' zero)))) (w.setRow (G.blk id) N) :=
     Step.write id hh g1 (by simp only [SameOb,true_and];exact (CA _ _ _ hsp)) (by simp [World.setRow]) hblk rfl rfl rfl
    refine CB (G':=G) (hexec _ _ hrun) hst2 (HeapInv.write hi id hst2 g1 hblk ⟨fun q hq=>?_,.inr g1,fun _=>⟨by rw [CA _ _ _ hsp];exact hxc,N,tt,setRow_heap w _ _ _ _ _ hb,q1,fun k x j c hk hj=>?_⟩⟩) (.dead _)
    ·obtain ⟨k,hk⟩:=lgm hq
     rw [C7 _ _ _ hsp] at hk
     split at hk
     .rw [List.eq_of_mem_replicate (lmg hk)];exact hzc
     .exact hcs q (lmg hk)
    ·obtain ⟨u,e1,e2,e3⟩:=q2 k x j c hk hj
     exact ⟨u,e1,e2,e3.mono hst2.keeps hst2.size⟩
end
end
end Go.V
namespace Go.V
open Go.RowKit Go.MapKept
section
variable [GK]
theorem Py {sz:Nat}:∀ (xs:List PV),(∀ x∈xs,x.cells.length=sz)->(xs.flatMap PV.cells).length=xs.length*sz
 | [],_=>by simp
 | x::xs,h=>by
  have ih:=Py xs fun y hy=>h y (by simp [hy])
  have hx:=h x (by simp)
  rw [lfc,lla,ih,hx,llc,Nat.add_mul,Nat.one_mul,Nat.add_comm]
theorem Qv {sz:Nat} (hsz:0<sz):∀ (xs:List PV),(∀ x∈xs,x.cells.length=sz)->∀ q,(xs.flatMap PV.cells)[q]?=(xs[q / sz]?).bind fun x=>x.cells[q % sz]?
 | [],_,q=>by simp
 | x::xs,h,q=>by
  have hx:=h x (by simp)
  rw [lfc]
  by_cases hq:q<sz
  ·rw [List.getElem?_append_left (by omega),Nat.div_eq_of_lt hq,Nat.mod_eq_of_lt hq]
   rfl
  ·have ih:=Qv hsz xs (fun y hy=>h y (by simp [hy])) (q - sz)
   rw [lgr (by omega),hx,ih]
   have e1:q / sz=(q - sz) / sz+1:=by rw [Nat.div_eq_sub_div hsz (by omega)]
   have e2:q % sz=(q - sz) % sz:=Nat.mod_eq_sub_mod (by omega)
   rw [e1,e2,List.getElem?_cons_succ]
section
variable {P:Program} {vs:List Nat} {n:Nat} {G:Gh} {r:RS} {a:Act} {w:World} (hr:RRel vs n G r a w) (hi:HeapInv G r.h w) {o:Oper} (d:Nat)
include hr hi
theorem Wq {t e:TypeId} {len:Nat} {x ix:Operand} (ho:o.op=.index t x ix) {y z:VArg} (hx:Al vs x y=true) (hz:Al vs ix z=true) (hu:P.underlying t=some (.array len e)) {sz:Nat} (hsz:Bi P e sz=true)
  {agg:Option Nat} (hagg:Di P e agg=true) {cs:List VVal} {q:IntKind} {k:Int} {v:VVal} (hl:r.look y=some (.agg cs)) (hlz:r.look z=some (.p (.int q k))) (h0:0<=k) (h1:k<len) (hv:CZ agg cs (k.toNat*sz)=some v):Az P G r.h w a o v []:=by
 have hv1:=Av hr hx hl
 have hzv:=DS (Av hr hz hlz)
 have hrange:0<=k/\k<(len:Int):=⟨h0,h1⟩
 generalize hcp:a.eval x=cp at hv1
 cases hv1 with
 | @agg _ arr hlen hone hrel =>
  cases agg with
  | none =>
   simp only [CZ] at hv
   simp only [Di,beq_iff_eq] at hagg
   have hlt:k.toNat*sz<arr.size:=by rw [<- hlen];exact (lgs.1 hv).1
   have hg:arr[k.toNat*sz]?=some arr[k.toNat*sz]:=aggz hlt
   refine AW (c:=arr[k.toNat*sz]) ?_ hi (hrel _ _ _ hv hg)
   simp [execOp,ho,Instr.index,run_underlying hu,hcp,hzv,asIntOf,Go.part,EL hagg,Dk hsz,hg,h0,h1]
  | some m =>
   simp only [CZ] at hv
   obtain ⟨hle,hv⟩:=Ab hv
   simp at hv
   subst hv
   simp only [Di,bat,beq_iff_eq] at hagg
   have hmz:m=sz:=by
    have h2:=hagg.2
    simp only [Bi] at hsz h2
    split at hsz
    ·rename_i i hi'
     rw [hi'] at h2
     simp at hsz h2
     omega
    .cases hsz
   subst hmz
   refine AW (c:=.agg (arr.extract (k.toNat*m) (k.toNat*m+m))) ?_ hi (.agg ?_ ?_ ?_)
   ·simp [execOp,ho,Instr.index,run_underlying hu,hcp,hzv,asIntOf,Go.part,EL hagg.1,Dk hagg.2,h0,h1]
   ·simp;omega
   ·intro i c hc
    rw [Array.getElem?_extract] at hc
    split at hc
    .exact hone _ _ hc
    .cases hc
   ·intro i u c hu' hc
    rw [Array.getElem?_extract] at hc
    rw [List.getElem?_take] at hu'
    split at hu'<;>try (cases hu';done)
    rw [List.getElem?_drop] at hu'
    split at hc
    .exact hrel _ _ _ hu' hc
    .cases hc
theorem Wr {t e:TypeId} {len:Nat} {ps:Array (Nat × Operand)} (ho:o.op=.build t ps) {sz:Nat} {as_:List VArg} (hal:as_.length=len) (hok:CD vs 0 ps.toList as_=true)
  (hu:P.underlying t=some (.array len e)) (hse:Bi P e sz=true) {i:TypeInfo} {z:Value} (hinf:P.info? t=some i) (hz:i.zero=some z) (hzs:z.cells.size=len*sz) {xs:List PV}
  (hx:Ad (fun x=>ob (r.look x) fun v=>BF v) as_=some xs) (hall:xs.all (fun x=>decide (x.cells.length=sz))=true):Az P G r.h w a o (.agg ((xs.flatMap PV.cells).map .p)) []:=by
 obtain ⟨hl1,hp1⟩:=Hu hok
 obtain ⟨hxl,hxg⟩:=A3 hx
 have hcs:∀ x∈xs,x.cells.length=sz:=fun x hx=>by simpa using List.all_eq_true.1 hall x hx
 have hel:∀ (q:Nat) (p:Nat × Operand),ps.toList[q]?=some p->∃ x v,xs[q]?=some x/\VRel G r.h w v (a.eval p.2)/\BF v=some x:=fun q p hq=>by
  have hqlt:q<ps.toList.length:=(lgs.1 hq).1
  obtain ⟨y,hy,hf⟩:=hxg q (xs[q]'(by omega)) (lgg (by omega))
  obtain ⟨v,hv,hf2⟩:=Aa hf
  exact ⟨_,v,lgg (by omega),Av hr (hp1 q p y hq hy) hv,hf2⟩
 have hsizes:∀ p∈ps.toList,(a.eval p.2).cells.size=sz:=fun p hp=>by
  obtain ⟨q,hq,rfl⟩:=List.getElem_of_mem hp
  obtain ⟨x,v,h1,h2,h3⟩:=hel q _ (lgg hq)
  rw [<- (FJ h2 h3).1]
  exact hcs x (lmg h1)
 obtain ⟨cells',f1,f2,f3,f4⟩:=Hy (a:=a) (len:=len) (sz:=sz) ps.toList as_ 0 z.cells hok hsizes (by omega) hzs
 have hszr:=Dk (P:=P) hse w
 have hxs:xs.length=len:=by omega
 have hps:ps.toList.length=len:=by omega
 have key:∀ q,q<len*sz->∃ dd u,(xs.flatMap PV.cells)[q]?=some dd/\cells'[q]?=some u/\u.oneCell'=true/\PRel (fun b=>G.kind b=.frozen) w dd u:=fun q hq=>by
  have hsz0:0<sz:=by
   rcases Nat.eq_zero_or_pos sz with h|h
   .subst h;simp at hq
   .exact h
  have hdiv:q / sz<len:=Nat.div_lt_of_lt_mul (by rw [Nat.mul_comm];exact hq)
  have hmod:q % sz<sz:=Nat.mod_lt _ hsz0
  have hqe:q=q / sz*sz+q % sz:=by rw [Nat.mul_comm];exact (Nat.div_add_mod q sz).symm
  have hp:ps.toList[q / sz]?=some (ps.toList[q / sz]'(by omega)):=lgg (by omega)
  obtain ⟨x,v,h1,h2,h3⟩:=hel (q / sz) _ hp
  have hxc:=hcs x (lmg h1)
  have hj:x.cells[q % sz]?=some (x.cells[q % sz]'(by omega)):=lgg (by omega)
  obtain ⟨u,e1,e2,e3⟩:=(FJ h2 h3).2.1 (q % sz) _ hj
  have h4:=f4 (q / sz) _ (q % sz) hp hmod
  rw [Nat.zero_add,<- hqe,e1] at h4
  exact ⟨_,u,by rw [Qv hsz0 xs hcs q,h1];exact hj,h4,e2,e3⟩
 have hfl:(xs.flatMap PV.cells).length=len*sz:=by rw [Py xs hcs,hxs]
 refine AW (c:=.agg cells') ?_ hi (.agg (by rw [llm,hfl,f2,hzs]) (fun q c hc=>?_) (fun q u c hu' hc=>?_))
 ·simp only [Nat.zero_add] at f1
  have f1':Instr.fill (fun k=>some (k*sz,sz)) z.cells (ps.map fun (i,x)=>(i,a.eval x)).toList=some cells':=by rw [Array.toList_map];exact f1
  simp at f1'
  simp [execOp,ho,Instr.build,run_underlying hu,hszr,zeroValue,typeInfo,hinf,hz,f1']
 ·obtain ⟨dd,u,h1,h2,h3,h4⟩:=key q (by rw [<- hzs,<- f2];exact (ags.1 hc).1)
  rw [hc] at h2
  simp at h2
  subst h2
  exact h3
 ·obtain ⟨dd,u0,h1,h2,h3,h4⟩:=key q (by rw [<- hzs,<- f2];exact (ags.1 hc).1)
  rw [hc] at h2
  simp at h2
  subst h2
  rw [List.getElem?_map,h1] at hu'
  simp at hu'
  subst hu'
  exact .p h4 h3
end
end
end Go.V
namespace Go.V
open Go.RowKit
section
variable [GK]
section
variable {P:Program} {vs:List Nat} {n:Nat} {G:Gh} {r:RS} {a:Act} {w:World} (hr:RRel vs n G r a w) (hi:HeapInv G r.h w) {o:Oper} (d:Nat)
include hr hi
end
end
end Go.V
namespace Go.V
open Go.RowKit
section
variable [GK]
theorem Qc {P:Program} {ts:Array TypeId} {sz bytes:Nat} (h:okOp.okApp P ts sz bytes=true):∃ t e i z,ts.toList=[t,t]/\P.underlying t=some (.slice e)/\P.info? e=some i/\i.size=sz/\i.bytes=bytes/\i.zero=some z/\z.cells.size=i.size:=by
 unfold okOp.okApp at h
 split at h<;>try (cases h;done)
 rename_i t t' hts
 simp only [bat,beq_iff_eq] at h
 obtain ⟨rfl,h⟩:=h
 split at h<;>try (cases h;done)
 rename_i e hu
 split at h<;>try (cases h;done)
 rename_i i hi
 split at h<;>try (simp at h;done)
 rename_i z hz
 simp at h
 exact ⟨t,e,i,z,hts,hu,hi,h.1.1.1,h.1.1.2,hz,by omega⟩
theorem Oy {vs:List Nat} {xs:List Operand} {y:VArg} (h:A9 vs xs [y]=true):∃ x,xs=[x]/\Al vs x y=true:=by
 match xs,h with
 | [x],h=>simp [A9] at h;exact ⟨x,rfl,h⟩
 | [],h=>simp [A9] at h
 | _::_::_,h=>simp [A9] at h
theorem Xk {vs:List Nat} {xs:List Operand} {y z:VArg} (h:A9 vs xs [y,z]=true):∃ x x',xs=[x,x']/\Al vs x y=true/\Al vs x' z=true:=by
 match xs,h with
 | [x,x'],h=>simp [A9] at h;exact ⟨x,x',rfl,h.1,h.2⟩
 | [],h=>simp [A9] at h
 | [_],h=>simp [A9] at h
 | _::_::_::_,h=>simp [A9] at h
theorem Eb {P:Program} {f:FuncId} (h:DV P f=true) (args:Array Value) (w:World):(callFunc f args).run P w=.ok (.enter f args) w:=by
 unfold DV at h
 cases hf:P.funcs[f]? with
 | none=>simp [hf] at h
 | some fn =>
  simp [hf] at h
  obtain ⟨h1,h2⟩:=h
  obtain ⟨b,hb⟩:=Option.isSome_iff_exists.1 h1
  simp [callFunc,hf,h2,hb]
theorem OW {h:VHeap}:∀ (us:List (Id × Nat × Ob)),CE h us=true->h.upds us=h
 | [],_=>rfl
 | (i,n,o)::us,hs=>by
  rw [Kt] at hs
  have e:VHeap.upd h i (n,o)=h:=by
   funext t
   unfold VHeap.upd
   split
   ·rename_i ht
    rw [ht,hs.1]
   .rfl
  show (VHeap.upd h i (n,o)).upds us=h
  rw [e]
  exact OW us hs.2
theorem Lg {h:VHeap} {d:Nat}:∀ (us:List (Id × Nat × Ob)) (h':VHeap),(∀ i:Id,i.at d=false->h' i=h i)->CE h (oldU d us)=true->h'.upds us=h'.upds (E1 d us)
 | [],_,_,_=>rfl
 | (i,n,o)::us,h',ha,hs=>by
  unfold E1
  unfold oldU at hs
  cases hi:Id.at i d with
  | true =>
   simp only [hi,if_true] at hs ⊢
   refine Lg us (VHeap.upd h' i (n,o)) (fun j hj=>?_) hs
   unfold VHeap.upd
   rw [if_neg (fun e=>by rw [e,hi] at hj;cases hj)]
   exact ha j hj
  | false =>
   simp only [hi,bft,if_false] at hs ⊢
   rw [Kt] at hs
   have e:VHeap.upd h' i (n,o)=h':=by
    funext t
    unfold VHeap.upd
    split
    ·rename_i ht
     rw [ht,ha i hi,hs.1]
    .rfl
   show (VHeap.upd h' i (n,o)).upds us=_
   rw [e]
   exact Lg us h' ha hs.2
theorem VT {P:Program} {Γ:Sig} (hΓ:C8 P Γ) {vs:List Nat} {n:Nat} {G:Gh} {r:RS} {a:Act} {w:World} (hr:RRel vs n G r a w) (hi:HeapInv G r.h w) {o:Oper} {op:Op} (hop:o.op=op) {ty:TypeId} {b:Bool} {v:VOp} (hok:okOp P vs b op ty v=true) {d:Nat} {val:VVal} {us:List (Id × Nat × Ob)} (he:Ai Γ r.look r.h d v=some (val,us)):Az P G r.h w a o val us:=by
 unfold okOp at hok
 split at hok
 case h_1 x y =>
  simp only [Ai] at he
  obtain ⟨u,hu,he⟩:=Aa he
  simp at he
  obtain ⟨rfl,rfl⟩:=he
  exact QQ hr hi (.inl hop) hok hu
 case h_2 x y =>
  simp only [Ai] at he
  obtain ⟨u,hu,he⟩:=Aa he
  simp at he
  obtain ⟨rfl,rfl⟩:=he
  exact QQ hr hi (.inr hop) hok hu
 case h_3 sz =>
  simp only [Ai] at he
  simp at he
  obtain ⟨rfl,rfl⟩:=he
  exact Pe hi d (.inl hop) sz
 case h_4 sz =>
  simp only [Ai] at he
  simp at he
  obtain ⟨rfl,rfl⟩:=he
  exact Pe hi d (.inr hop) sz
 case h_5 c x y c' x' y' =>
  simp only [bat] at hok
  simp only [Ai] at he
  obtain ⟨u,hu,he⟩:=Aa he
  split at he<;>try (cases he;done)
  rename_i t
  cases t with
  | true =>
   rw [EU] at he
   obtain ⟨q,hq,he⟩:=Aa he
   simp at he
   obtain ⟨rfl,rfl⟩:=he
   exact QP hr hi hop hok.1.1 hok.1.2 hok.2 hu (by simpa using hq)
  | false =>
   rw [ES] at he
   obtain ⟨q,hq,he⟩:=Aa he
   simp at he
   obtain ⟨rfl,rfl⟩:=he
   exact QP hr hi hop hok.1.1 hok.1.2 hok.2 hu (by simpa using hq)
 case h_6 t zs =>
  simp only [bat] at hok
  obtain ⟨_,hok⟩:=hok
  split at hok<;>try (cases hok;done)
  rename_i i hinf
  split at hok<;>try (cases hok;done)
  rename_i z hz
  simp only [Ai] at he
  simp only [osi,pmi] at he
  obtain ⟨rfl,rfl⟩:=he
  exact ZY hi d hop hinf hz hok
 case h_7 t x n' y =>
  simp only [bat] at hok
  simp only [Ai] at he
  obtain ⟨u,hu,he⟩:=Aa he
  obtain ⟨_,he⟩:=Ab he
  obtain ⟨hs,he⟩:=Ab he
  simp only [osi,pmi] at he
  obtain ⟨rfl,rfl⟩:=he
  exact zck hr hi d hop hok.2 hu hs
 case h_8 t ps bs =>
  simp only [bat] at hok
  obtain ⟨_,hok⟩:=hok
  split at hok<;>try (cases hok;done)
  rename_i fs i hu hinf
  split at hok<;>try (cases hok;done)
  rename_i z hz
  simp only [bat] at hok
  obtain ⟨⟨h1,h2⟩,h3⟩:=hok
  split at h3<;>try (cases h3;done)
  rename_i cs hov
  simp only [Ai] at he
  obtain ⟨q,hq,he⟩:=Aa he
  simp only [osi,pmi] at he
  obtain ⟨rfl,rfl⟩:=he
  exact ZX hr hi d hop hu hinf hz h1 h2 hov h3 hq
 case h_9 t len ps sz as_ =>
  simp only [bat,decide_eq_true_eq,beq_iff_eq] at hok
  obtain ⟨⟨⟨⟨⟨_,hal⟩,h0⟩,hbig⟩,hp⟩,hok⟩:=hok
  split at hok<;>try (cases hok;done)
  rename_i e hu
  split at hok<;>try (cases hok;done)
  rename_i i hinf
  split at hok<;>try (simp at hok;done)
  rename_i z hz
  simp only [bat,beq_iff_eq] at hok
  simp only [Ai] at he
  obtain ⟨xs,hxs,he⟩:=Aa he
  obtain ⟨hall,he⟩:=Ab he
  simp only [osi,pmi] at he
  obtain ⟨rfl,rfl⟩:=he
  exact Vg hr hi d hop hal hbig hp hu hinf hok.1 hz hxs hall
 case h_10 t x agg y =>
  simp only [bat] at hok
  simp only [Ai] at he
  obtain ⟨p,hp,he⟩:=Aa he
  obtain ⟨u,hu,he⟩:=Aa he
  simp only [osi,pmi] at he
  obtain ⟨rfl,rfl⟩:=he
  exact zbu hr hi hop hok.1 hok.2 hp hu
 case h_11 t x y n' x' y' =>
  simp only [bat] at hok
  simp only [Ai] at he
  obtain ⟨p,hp,he⟩:=Aa he
  obtain ⟨u,hu,he⟩:=Aa he
  obtain ⟨q,hq,he⟩:=Aa he
  simp only [osi,pmi] at he
  obtain ⟨rfl,rfl⟩:=he
  exact ZR hr hi hop hok.1.1 hok.1.2 hok.2 hp hu hq
 case h_12 t x f off y =>
  simp only [bat] at hok
  obtain ⟨h1,hok⟩:=hok
  split at hok<;>try (cases hok;done)
  rename_i fs hu
  split at hok<;>try (cases hok;done)
  rename_i fl hf
  simp only [bat,beq_iff_eq] at hok
  obtain ⟨rfl,hok⟩:=hok
  split at hok<;>try (cases hok;done)
  rename_i inf hinf
  simp only [Ai] at he
  obtain ⟨p,hp,he⟩:=Aa he
  have hus:us=[]:=by
   split at he<;>simp at he<;>exact he.2
  subst hus
  exact VE hr hi hop h1 hu hf hinf (by simpa using hok) hp he
 case h_13 t x f off agg y =>
  simp only [bat] at hok
  obtain ⟨h1,hok⟩:=hok
  split at hok<;>try (cases hok;done)
  rename_i fs hu
  split at hok<;>try (cases hok;done)
  rename_i fl hf
  simp only [bat,beq_iff_eq] at hok
  obtain ⟨rfl,hok⟩:=hok
  simp only [Ai] at he
  obtain ⟨p,hp,he⟩:=Aa he
  split at he<;>try (cases he;done)
  obtain ⟨u,hu',he⟩:=Aa he
  simp only [osi,pmi] at he
  obtain ⟨rfl,rfl⟩:=he
  exact ZU hr hi hop h1 hu hf hok hp hu'
 case h_14 t x i sz y z =>
  simp only [bat] at hok
  obtain ⟨⟨h1,h2⟩,hok⟩:=hok
  split at hok<;>try (cases hok;done)
  rename_i e hu
  simp only [Ai] at he
  obtain ⟨p,hp,he⟩:=Aa he
  obtain ⟨q,hq,he⟩:=Aa he
  split at he<;>try (cases he;done)
  obtain ⟨u,hu',he⟩:=Aa he
  simp only [osi,pmi] at he
  obtain ⟨rfl,rfl⟩:=he
  exact VD hr hi hop h1 h2 hu hok hp hq hu'
 case h_15 t x i y z =>
  simp only [bat] at hok
  obtain ⟨⟨h1,h2⟩,hok⟩:=hok
  split at hok<;>try (cases hok;done)
  rename_i hu
  simp only [Ai] at he
  obtain ⟨p,hp,he⟩:=Aa he
  obtain ⟨q,hq,he⟩:=Aa he
  split at he<;>try (cases he;done)
  obtain ⟨h0,he⟩:=Ab he
  obtain ⟨u,hu',he⟩:=Aa he
  simp only [osi,pmi] at he
  obtain ⟨rfl,rfl⟩:=he
  exact Wp hr hi hop h1 h2 hu hp hq h0 hu'
 case h_16 op t x y t' op' x' y' =>
  simp only [bat,beq_iff_eq] at hok
  obtain ⟨⟨⟨⟨h1,h2⟩,rfl⟩,h4⟩,hok⟩:=hok
  simp only [Ai] at he
  obtain ⟨p,hp,he⟩:=Aa he
  obtain ⟨q,hq,he⟩:=Aa he
  obtain ⟨u,hu,he⟩:=Aa he
  simp only [osi,pmi] at he
  obtain ⟨rfl,rfl⟩:=he
  unfold JX at hu
  split at hu<;>try (cases hu;done)
  ·cases hsh:MA op with
   | true =>
    rw [hsh,EU] at hu
    exact ZT hr hi hop h1 h2 hp hq hu
   | false =>
    rw [hsh,ES] at hu
    obtain ⟨rfl,hu1⟩:=Ab hu
    exact Xi hr hi hop h4 h1 h2 hp hq hu1
  ·exact Xh hr hi hop h1 h2 hp hq hu
 case h_17 op t x y t' neg x' y' =>
  simp only [bat,bot,beq_iff_eq,Bool.not_eq_true'] at hok
  obtain ⟨⟨⟨h1,h2⟩,h3⟩,hok⟩:=hok
  simp only [Ai] at he
  obtain ⟨p,hp,he⟩:=Aa he
  obtain ⟨q,hq,he⟩:=Aa he
  split at he<;>try (cases he;done)
  simp only [osi,pmi] at he
  obtain ⟨rfl,rfl⟩:=he
  exact zcj hr hi hop h3 ((Gk hok).2.2 rfl) h1 h2 hp hq
 case h_18 op t x y t' neg kts x' y' =>
  simp only [bat,bot,beq_iff_eq,Bool.not_eq_true'] at hok
  obtain ⟨⟨⟨h1,h2⟩,h3⟩,hok⟩:=hok
  simp only [Ai] at he
  obtain ⟨p,hp,he⟩:=Aa he
  obtain ⟨q,hq,he⟩:=Aa he
  split at he<;>try (cases he;done)
  obtain ⟨xs,hxs,he⟩:=Aa he
  obtain ⟨ys,hys,he⟩:=Aa he
  obtain ⟨u,hu,he⟩:=Aa he
  simp only [osi,pmi] at he
  obtain ⟨rfl,rfl⟩:=he
  exact ZV hr hi hop h3 hok h1 h2 hp hq hxs hys hu
 case h_19 t x y =>
  simp only [Ai] at he
  obtain ⟨p,hp,he⟩:=Aa he
  split at he<;>try (cases he;done)
  simp only [osi,pmi] at he
  obtain ⟨rfl,rfl⟩:=he
  exact zch hr hi hop hok hp
 case h_20 xs ts y =>
  simp only [bat] at hok
  obtain ⟨h1,hok⟩:=hok
  obtain ⟨x,hxs,hx⟩:=Oy h1
  split at hok<;>try (cases hok;done)
  rename_i t hts
  split at hok<;>try (cases hok;done)
  rename_i e hu
  simp only [Ai] at he
  obtain ⟨p,hp,he⟩:=Aa he
  obtain ⟨m,hm,he⟩:=Aa he
  simp only [osi,pmi] at he
  obtain ⟨rfl,rfl⟩:=he
  exact zci hr hi hop hxs hts hx hu hp hm
 case h_21 xs ts y =>
  simp only [bat] at hok
  obtain ⟨h1,hok⟩:=hok
  obtain ⟨x,hxs,hx⟩:=Oy h1
  split at hok<;>try (cases hok;done)
  rename_i t hts
  simp only [Ai] at he
  obtain ⟨p,hp,he⟩:=Aa he
  obtain ⟨m,hm,he⟩:=Aa he
  simp only [osi,pmi] at he
  obtain ⟨rfl,rfl⟩:=he
  unfold Ga at hm
  split at hm<;>try (cases hm;done)
  simp at hm
  subst hm
  exact Yo hr hi hop hxs hts hx ((Gk hok).2.1 rfl) hp
 case h_22 xs ts sz bytes y z =>
  simp only [bat] at hok
  obtain ⟨h1,hok⟩:=hok
  obtain ⟨x,x',hxs,hx,hx'⟩:=Xk h1
  obtain ⟨t,e,i,zz,hts,hu,hinf,rfl,rfl,hz,hzs⟩:=Qc hok
  simp only [Ai] at he
  obtain ⟨p,hp,he⟩:=Aa he
  obtain ⟨q,hq,he⟩:=Aa he
  exact Yp hr hi hop hxs hts hx hx' hu hinf hz hzs hp hq he
 case h_23 xs ts sz bytes z =>
  simp only [bat] at hok
  obtain ⟨⟨_,h1⟩,hok⟩:=hok
  split at h1<;>try (cases h1;done)
  rename_i x hxs
  obtain ⟨t,e,i,zz,hts,hu,hinf,rfl,rfl,hz,hzs⟩:=Qc hok
  simp only [Ai] at he
  obtain ⟨q,hq,he⟩:=Aa he
  exact VG hr hi d hop hxs hts h1 hu hinf hz hzs hq he
 case h_24 xs ts as_ =>
  simp only [Ai] at he
  obtain ⟨p,hp,he⟩:=Aa he
  obtain ⟨q,hq,he⟩:=Aa he
  simp only [osi,pmi] at he
  obtain ⟨rfl,rfl⟩:=he
  exact Pf (isMax:=true) hr hi hop hok hp hq
 case h_25 xs ts as_ =>
  simp only [Ai] at he
  obtain ⟨p,hp,he⟩:=Aa he
  obtain ⟨q,hq,he⟩:=Aa he
  simp only [osi,pmi] at he
  obtain ⟨rfl,rfl⟩:=he
  exact Pf (isMax:=false) hr hi hop hok hp hq
 case h_26 t x lo hi' mx str sz lo' hi2 mx' y =>
  simp only [bat] at hok
  obtain ⟨⟨⟨⟨h1,h2⟩,h3⟩,h4⟩,hok⟩:=hok
  simp only [Ai] at he
  obtain ⟨p,hp,he⟩:=Aa he
  split at hok<;>try (cases hok;done)
  ·rename_i hu
   simp only [bat,Option.isNone_iff_eq_none] at hok
   obtain ⟨hm,rfl⟩:=hok
   exact Ym hr hi hop hm h1 h2 h3 hu hp he
  ·rename_i e hu
   simp only [bat,bot,Option.isNone_iff_eq_none,Bool.not_eq_true'] at hok
   obtain ⟨⟨hm,hsz⟩,rfl⟩:=hok
   exact ZS hr hi d hop hm h1 h2 h3 h4 hu hsz hp he
 case h_27 t m k ok ok' kt' zero y z =>
  simp only [bat,beq_iff_eq] at hok
  obtain ⟨⟨⟨h1,h2⟩,rfl⟩,hok⟩:=hok
  split at hok<;>try (cases hok;done)
  rename_i kt e hu
  simp only [bat] at hok
  obtain ⟨hkt,hok⟩:=hok
  split at hok<;>try (cases hok;done)
  rename_i i hinf
  split at hok<;>try (cases hok;done)
  rename_i zz hz
  simp only [Ai] at he
  obtain ⟨p,hp,he⟩:=Aa he
  obtain ⟨q,hq,he⟩:=Aa he
  obtain ⟨⟨kt2,ks,us'⟩,hm,he⟩:=Aa he
  obtain ⟨hor,he⟩:=Ab he
  obtain ⟨kk,hkk,he⟩:=Aa he
  simp only [osi,pmi] at he
  obtain ⟨rfl,rfl⟩:=he
  exact Yn hr hi hop h1 h2 hu hkt hinf hz hok hp hq hm hor hkk
 case h_28 t m k x kt' m' k' x' =>
  simp only [bat] at hok
  obtain ⟨⟨⟨h1,h2⟩,h3⟩,hok⟩:=hok
  split at hok<;>try (cases hok;done)
  rename_i kt e hu
  simp only [Ai] at he
  obtain ⟨mv,hm,he⟩:=Aa he
  obtain ⟨kv,hk,he⟩:=Aa he
  obtain ⟨xv,hx,he⟩:=Aa he
  obtain ⟨kk,hkk,he⟩:=Aa he
  obtain ⟨xx,hxx,he⟩:=Aa he
  split at he<;>try (cases he;done)
  split at he<;>try (cases he;done)
  rename_i hh
  obtain ⟨rfl,he1⟩:=Ab he
  obtain ⟨rfl,he2⟩:=Ab he1
  simp only [osi,pmi] at he2
  obtain ⟨rfl,rfl⟩:=he2
  exact VC hr hi hop h1 h2 h3 hu hok hm hk hx hh hkk hxx
 case h_29 t kt =>
  simp only [Ai] at he
  simp only [osi,pmi] at he
  obtain ⟨rfl,rfl⟩:=he
  exact Xe hi d hop kt
 case h_30 x i y j =>
  simp only [bat,beq_iff_eq] at hok
  obtain ⟨h1,rfl⟩:=hok
  simp only [Ai] at he
  obtain ⟨p,hp,he⟩:=Aa he
  split at he<;>try (cases he;done)
  obtain ⟨u,hu,he⟩:=Aa he
  simp only [osi,pmi] at he
  obtain ⟨rfl,rfl⟩:=he
  exact Xf hr hi hop h1 hp hu
 case h_31 s t x y =>
  simp only [bat] at hok
  obtain ⟨⟨_,h1⟩,hok⟩:=hok
  split at hok<;>try (cases hok;done)
  rename_i e hs ht
  split at hok<;>try (cases hok;done)
  rename_i hu8
  simp only [Ai] at he
  obtain ⟨p,hp,he⟩:=Aa he
  split at he<;>try (cases he;done)
  simp only [osi,pmi] at he
  obtain ⟨rfl,rfl⟩:=he
  exact Wl hr hi hop h1 hs ht hu8 hp
 case h_32 x y =>
  simp only [Ai] at he
  obtain ⟨p,hp,he⟩:=Aa he
  split at he<;>try (cases he;done)
  all_goals
   simp only [osi,pmi] at he
   obtain ⟨rfl,rfl⟩:=he
   exact Wn hr hi hop hok hp rfl
 case h_33 f first caps g as_ =>
  simp only [bat,beq_iff_eq] at hok
  obtain ⟨⟨rfl,h1⟩,hok⟩:=hok
  simp only [Ai] at he
  obtain ⟨p,hp,he⟩:=Aa he
  simp only [osi,pmi] at he
  obtain ⟨rfl,rfl⟩:=he
  exact Wo hr hi hop (by simpa using h1) hok hp
 case h_34 f xs ts g as_ =>
  simp only [bat,beq_iff_eq] at hok
  obtain ⟨⟨⟨_,rfl⟩,h1⟩,_⟩:=hok
  simp only [Ai] at he
  obtain ⟨p,hp,he⟩:=Aa he
  obtain ⟨l1,l2⟩:=EM hr h1 hp
  refine Ji (cargs:=xs.map a.eval) hΓ hi hr.good (fun hb=>?_) (by simpa using l1) (fun i u c hu hc=>l2 i u c hu (by simpa using hc)) he
  simp [execOp,hop,resolve,Act.eval,Deferred.ofValue,invoke,Eb hb]
 case h_35 x xs ts y as_ =>
  simp only [bat] at hok
  obtain ⟨⟨_,h1⟩,h2⟩:=hok
  simp only [Ai] at he
  obtain ⟨g,hg,he⟩:=Aa he
  obtain ⟨p,hp,he⟩:=Aa he
  obtain ⟨l1,l2⟩:=EM hr h2 hp
  have hgr:=Av hr h1 hg
  generalize hev:a.eval x=cx at hgr
  split at he<;>try (cases he;done)
  ·rename_i f caps
   cases hgr with
   | @fn _ _ arr hl hcr =>
    refine Ji (cargs:=xs.map a.eval++arr) hΓ hi hr.good (fun hb=>?_) (by simp at l1;simp [l1,hl]) (fun i u c hu hc=>?_) he
    ·simp [execOp,hop,resolve,hev,Deferred.ofValue,invoke,Eb hb]
    ·simp at l1
     by_cases hlt:i<p.length
     ·rw [List.getElem?_append_left hlt] at hu
      rw [Array.getElem?_append_left (by simp;omega)] at hc
      exact l2 i u c hu (by simpa using hc)
     ·rw [lgr (by omega)] at hu
      rw [Array.getElem?_append_right (by simp;omega)] at hc
      exact hcr (i - p.length) u c hu (by rw [<- hc];simp [l1])
  ·rename_i f
   cases hgr with
   | p hpr h1c =>
    cases hpr
    refine Ji (cargs:=xs.map a.eval) hΓ hi hr.good (fun hb=>?_) (by simpa using l1) (fun i u c hu hc=>l2 i u c hu (by simpa using hc)) he
    simp [execOp,hop,resolve,hev,Deferred.ofValue,invoke,Eb hb]
  ·rename_i f cs
   cases hgr with
   | p hpr h1c =>
    have hgf:=Rg (G:=G) (h:=r.h) hpr
    cases hgf with
    | @fn _ _ arr hl hcr =>
     refine Ji (cargs:=xs.map a.eval++arr) hΓ hi hr.good (fun hb=>?_) (by simp at l1;simp [l1,hl]) (fun i u c hu hc=>?_) he
     ·simp [execOp,hop,resolve,hev,Deferred.ofValue,invoke,Eb hb]
     ·simp at l1
      by_cases hlt:i<p.length
      ·rw [List.getElem?_append_left hlt] at hu
       rw [Array.getElem?_append_left (by simp;omega)] at hc
       exact l2 i u c hu (by simpa using hc)
      ·rw [lgr (by omega)] at hu
       rw [Array.getElem?_append_right (by simp;omega)] at hc
       exact hcr (i - p.length) u c hu (by rw [<- hc];simp [l1])
 case h_36 t len ps sz as_ =>
  simp only [bat,decide_eq_true_eq,beq_iff_eq] at hok
  obtain ⟨⟨⟨⟨⟨_,hal⟩,h0⟩,hbig⟩,hp⟩,hok⟩:=hok
  split at hok<;>try (cases hok;done)
  rename_i e hu
  split at hok<;>try (cases hok;done)
  rename_i i hinf
  split at hok<;>try (simp at hok;done)
  rename_i z hz
  simp only [bat,beq_iff_eq] at hok
  simp only [Ai] at he
  obtain ⟨xs,hxs,he⟩:=Aa he
  obtain ⟨hall,he⟩:=Ab he
  simp only [osi,pmi] at he
  obtain ⟨rfl,rfl⟩:=he
  exact Xg hr hi hop hal h0 hbig hp hu hinf hok.1 hz hxs hall
 case h_37 f xs ts g as_ =>
  simp only [bat,beq_iff_eq] at hok
  obtain ⟨⟨⟨_,rfl⟩,h1⟩,_⟩:=hok
  simp only [Ai] at he
  obtain ⟨p,hp,he⟩:=Aa he
  obtain ⟨l1,l2⟩:=EM hr h1 hp
  refine GG (cargs:=xs.map a.eval) hΓ hi hr.good (fun hb=>?_) (by simpa using l1) (fun i u c hu hc=>l2 i u c hu (by simpa using hc)) he
  simp [execOp,hop,resolve,Act.eval,Deferred.ofValue,invoke,Eb hb]
 case h_38 x xs ts y as_ =>
  simp only [bat] at hok
  obtain ⟨⟨_,h1⟩,h2⟩:=hok
  simp only [Ai] at he
  obtain ⟨g,hg,he⟩:=Aa he
  obtain ⟨p,hp,he⟩:=Aa he
  obtain ⟨l1,l2⟩:=EM hr h2 hp
  have hgr:=Av hr h1 hg
  generalize hev:a.eval x=cx at hgr
  split at he<;>try (cases he;done)
  ·rename_i f caps
   cases hgr with
   | @fn _ _ arr hl hcr =>
    refine GG (cargs:=xs.map a.eval++arr) hΓ hi hr.good (fun hb=>?_) (by simp at l1;simp [l1,hl]) (fun i u c hu hc=>?_) he
    ·simp [execOp,hop,resolve,hev,Deferred.ofValue,invoke,Eb hb]
    ·simp at l1
     by_cases hlt:i<p.length
     ·rw [List.getElem?_append_left hlt] at hu
      rw [Array.getElem?_append_left (by simp;omega)] at hc
      exact l2 i u c hu (by simpa using hc)
     ·rw [lgr (by omega)] at hu
      rw [Array.getElem?_append_right (by simp;omega)] at hc
      exact hcr (i - p.length) u c hu (by rw [<- hc];simp [l1])
  ·rename_i f
   cases hgr with
   | p hpr h1c =>
    cases hpr
    refine GG (cargs:=xs.map a.eval) hΓ hi hr.good (fun hb=>?_) (by simpa using l1) (fun i u c hu hc=>l2 i u c hu (by simpa using hc)) he
    simp [execOp,hop,resolve,hev,Deferred.ofValue,invoke,Eb hb]
  ·rename_i f cs
   cases hgr with
   | p hpr h1c =>
    have hgf:=Rg (G:=G) (h:=r.h) hpr
    cases hgf with
    | @fn _ _ arr hl hcr =>
     refine GG (cargs:=xs.map a.eval++arr) hΓ hi hr.good (fun hb=>?_) (by simp at l1;simp [l1,hl]) (fun i u c hu hc=>?_) he
     ·simp [execOp,hop,resolve,hev,Deferred.ofValue,invoke,Eb hb]
     ·simp at l1
      by_cases hlt:i<p.length
      ·rw [List.getElem?_append_left hlt] at hu
       rw [Array.getElem?_append_left (by simp;omega)] at hc
       exact l2 i u c hu (by simpa using hc)
      ·rw [lgr (by omega)] at hu
       rw [Array.getElem?_append_right (by simp;omega)] at hc
       exact hcr (i - p.length) u c hu (by rw [<- hc];simp [l1])
 case h_39 t ps sz as_ =>
  simp only [bat,decide_eq_true_eq] at hok
  obtain ⟨⟨⟨h0,h1⟩,h2⟩,hok⟩:=hok
  split at hok<;>try (cases hok;done)
  rename_i len e inf hu hinf
  simp only [bat,beq_iff_eq] at hok
  obtain ⟨⟨h3,h4⟩,hok⟩:=hok
  split at hok<;>try (cases hok;done)
  rename_i z hz
  simp only [beq_iff_eq] at hok
  simp only [Ai] at he
  obtain ⟨xs,hxs,he⟩:=Aa he
  obtain ⟨hall,he⟩:=Ab he
  simp only [osi,pmi] at he
  obtain ⟨rfl,rfl⟩:=he
  exact Wr hr hi hop h4 h2 hu h3 hinf hz hok hxs hall
 case h_40 t x ix n sz agg xa ia =>
  simp only [bat] at hok
  obtain ⟨⟨h1,h2⟩,hok⟩:=hok
  split at hok<;>try (cases hok;done)
  rename_i len e hu
  simp only [bat,beq_iff_eq] at hok
  obtain ⟨⟨rfl,h3⟩,h4⟩:=hok
  simp only [Ai] at he
  obtain ⟨xv,hx,he⟩:=Aa he
  obtain ⟨iv,hiv,he⟩:=Aa he
  split at he<;>try (cases he;done)
  obtain ⟨hk0,he⟩:=Ab he
  obtain ⟨hk1,he⟩:=Ab he
  obtain ⟨rr,hrr,he⟩:=Aa he
  simp only [osi,pmi] at he
  obtain ⟨rfl,rfl⟩:=he
  exact Wq hr hi hop h1 h2 hu h3 h4 hx hiv hk0 hk1 hrr
 case h_41 f xs ts g as_ =>
  simp only [bat,beq_iff_eq] at hok
  obtain ⟨⟨⟨_,rfl⟩,h1⟩,_⟩:=hok
  simp only [Ai] at he
  obtain ⟨p,hp,he⟩:=Aa he
  obtain ⟨⟨v1,us1⟩,hv,he⟩:=Aa he
  obtain ⟨hst,he⟩:=Ab he
  simp only [osi,pmi] at he
  obtain ⟨rfl,rfl⟩:=he
  obtain ⟨l1,l2⟩:=EM hr h1 hp
  have hw:Az P G r.h w a o v1 us1:=by
   refine GG (cargs:=xs.map a.eval) hΓ hi hr.good (fun hb=>?_) (by simpa using l1) (fun i u c hu hc=>l2 i u c hu (by simpa using hc)) hv
   simp [execOp,hop,resolve,Act.eval,Deferred.ofValue,invoke,Eb hb]
  unfold Az at hw ⊢
  rw [OW us1 hst] at hw
  exact hw
 case h_42 xs ts sz zero y =>
  simp only [bat,beq_iff_eq] at hok
  obtain ⟨⟨h1,hzc⟩,hok⟩:=hok
  split at hok<;>try (cases hok;done)
  rename_i t hts
  split at hok<;>try (cases hok;done)
  rename_i e hu
  split at hok<;>try (cases hok;done)
  rename_i i hinf
  simp only [bat,beq_iff_eq] at hok
  obtain ⟨rfl,hok⟩:=hok
  split at hok<;>try (cases hok;done)
  rename_i z hz
  simp only [bat,beq_iff_eq] at hok
  have hxs:∃ x1,xs.toList=[x1]/\Al vs x1 y=true:=by
   match hx:xs.toList,h1 with
   | [x1],h1 =>
    simp only [A9,bat] at h1
    exact ⟨x1,rfl,h1.1⟩
   | [],h1=>simp [A9] at h1
   | _::_::_,h1=>simp [A9] at h1
  obtain ⟨x1,hxs,ha1⟩:=hxs
  simp only [Ai] at he
  obtain ⟨va,hla,he⟩:=Aa he
  unfold G4 at he
  split at he<;>try (cases he;done)
  split at he<;>try (cases he;done)
  rename_i hh
  obtain ⟨hve,he⟩:=Ab he
  obtain ⟨hsz0,he⟩:=Ab he
  rw [hve] at hh
  rw [hsz0] at hh
  simp only [osi,pmi] at he
  obtain ⟨rfl,rfl⟩:=he
  rw [hve]
  exact ZW hr hi hop hxs hts ha1 hu hinf hz hok.1 hok.2 hzc hla hh
 case h_43 t x k m off y =>
  simp only [bat] at hok
  obtain ⟨h1,hok⟩:=hok
  split at hok<;>try (cases hok;done)
  rename_i len e hu
  simp only [bat,decide_eq_true_eq] at hok
  obtain ⟨⟨h0,hm⟩,hok⟩:=hok
  split at hok<;>try (cases hok;done)
  rename_i inf hinf
  simp only [beq_iff_eq] at hok
  subst hok
  simp only [Ai] at he
  obtain ⟨p,hp,he⟩:=Aa he
  have hus:us=[]:=by
   split at he<;>simp at he<;>exact he.2
  subst hus
  exact Xj hr hi hop h1 hu h0 hm hinf hp he
 case h_44 t len ps as_ =>
  simp only [bat,decide_eq_true_eq,beq_iff_eq] at hok
  obtain ⟨⟨⟨⟨_,hal⟩,hbig⟩,hp⟩,hok⟩:=hok
  split at hok<;>try (cases hok;done)
  rename_i e hu
  split at hok<;>try (cases hok;done)
  rename_i i hinf
  split at hok<;>try (simp at hok;done)
  rename_i z hz
  simp only [bat,beq_iff_eq] at hok
  simp only [Ai] at he
  obtain ⟨us,hus,he⟩:=Aa he
  obtain ⟨hall,he⟩:=Ab he
  simp only [osi,pmi] at he
  obtain ⟨rfl,rfl⟩:=he
  exact VF hr hi hop hal hbig hp hu hinf hok.1 hz hus hall
 case h_45 f xs ts g as_ =>
  simp only [bat,beq_iff_eq] at hok
  obtain ⟨⟨⟨_,rfl⟩,h1⟩,_⟩:=hok
  simp only [Ai] at he
  obtain ⟨p,hp,he⟩:=Aa he
  obtain ⟨⟨v1,us1⟩,hv,he⟩:=Aa he
  obtain ⟨hst,he⟩:=Ab he
  simp only [osi,pmi] at he
  obtain ⟨rfl,rfl⟩:=he
  obtain ⟨l1,l2⟩:=EM hr h1 hp
  have hw:Az P G r.h w a o v1 us1:=by
   refine GG (cargs:=xs.map a.eval) hΓ hi hr.good (fun hb=>?_) (by simpa using l1) (fun i u c hu hc=>l2 i u c hu (by simpa using hc)) hv
   simp [execOp,hop,resolve,Act.eval,Deferred.ofValue,invoke,Eb hb]
  unfold Az at hw ⊢
  rw [Lg us1 r.h (fun _ _=>rfl) hst] at hw
  exact hw
 case h_46 t x sz i k xa =>
  simp only [bat] at hok
  simp only [Ai] at he
  obtain ⟨p,hp,he⟩:=Aa he
  split at he<;>try (cases he;done)
  rename_i v sz' hh
  obtain ⟨e,he2⟩:=Ab he
  clear he
  subst e
  obtain ⟨q,hq,he⟩:=Aa he2
  simp only [osi,pmi] at he
  obtain ⟨rfl,rfl⟩:=he
  exact Wm hr hi hop hok.1 hok.2 hp hh hq
 case h_47=>simp at hok
end
end Go.V
