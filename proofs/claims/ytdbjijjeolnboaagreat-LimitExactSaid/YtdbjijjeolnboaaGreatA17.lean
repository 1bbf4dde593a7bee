import Derived.Test.YtdbjijjeolnboaaGreatA16
import Derived.Orders
import Derived.Still
import Derived.Scope
import Derived.ProofKit
set_option linter.unusedSectionVars false
set_option linter.unusedSimpArgs false
set_option linter.unusedVariables false
set_option maxHeartbeats 32000000
open Nat renaming le_refl → lrf
open List renaming getElem?_eq_getElem → lgg, getElem?_eq_some_iff → lgs, mem_of_getElem? → lmg, mem_cons_of_mem → lmc, map_cons → lpc, nil_append → lna, mem_map → lmm, mem_cons_self → lms, map_append → lma, getElem?_of_mem → lgm, length_cons → llc, flatMap_cons → lfc, getElem?_append_right → lgr, mem_cons → lmk, length_nil → lln, mem_append → lmp, pairwise_cons → lpw, cons_append → lca
open Option renaming some.injEq → osi
open Bool renaming and_eq_true → bat, false_eq_true → bft, or_eq_true → bot
open Array renaming getElem?_eq_some_iff → ags, getElem?_eq_getElem → aggz, getD_eq_getD_getElem? → agd
open Prod renaming mk.injEq → pmi
namespace Go.V
open Go.RowKit
section
variable [GK]
theorem JV {a : Act} {t s : Nat} {c : Value} (ht : t < a.tmps.size) : (a.put (some t) c).tmps.getD s Go.undef = if s = t then c else a.tmps.getD s Go.undef:=by
 simp only [Act.put,agd,Array.getElem?_setIfInBounds]
 by_cases h : t = s
 .subst h; simp [ht]
 .simp [h,Ne.symm h]
theorem Sr {vs : List Nat} {n : Nat} {G G' : Gh} {r : RS} {a : Act} {w w' : World} {h' : VHeap} (hr : RRel vs n G r a w) (hs : Step G r.h w G' h' w') {t : Option Tmp} {d : VDst} (hd : Ns vs n t d = true) {val : VVal} {c : Value} (hv : VRel G' h' w' val c) :
  RRel vs n G' { r.put d val with h:=h' } (a.put t c) w':=by
 unfold Ns at hd
 split at hd
 ·exact ⟨fun s hm=>(hr.pe s hm).mono hs,fun s v hv=>⟨(hr.te s v hv).1,(hr.te s v hv).2.mono hs⟩,hr.defers,hr.size,hr.good.step hs⟩
 ·rename_i t s
  simp only [bat,beq_iff_eq,decide_eq_true_eq,List.contains_iff_mem] at hd
  obtain ⟨⟨rfl,hm⟩,hlt⟩:=hd
  have hlt' : t < a.tmps.size:=Nat.lt_of_lt_of_le hlt hr.size
  refine ⟨fun s' hm'=>?_,fun s' v' hv'=>?_,hr.defers,by simp [Act.put]; exact hr.size,hr.good.step hs⟩
  ·rw [JV hlt']
   simp only [RS.put,Ef]
   split
   ·exact hv
   ·exact (hr.pe s' hm').mono hs
  ·simp only [RS.put] at hv'
   obtain ⟨h1,h2⟩:=hr.te s' v' hv'
   refine ⟨h1,?_⟩
   rw [JV hlt',if_neg (fun e : s' = t=>h1 (by rw [e]; exact hm))]
   exact h2.mono hs
 ·rename_i t s
  simp only [bat,beq_iff_eq,decide_eq_true_eq,Bool.not_eq_true'] at hd
  obtain ⟨⟨rfl,hm⟩,hlt⟩:=hd
  have hm' : t ∉ vs:=fun h=>by rw [<- List.contains_iff_mem,hm] at h; cases h
  have hlt' : t < a.tmps.size:=Nat.lt_of_lt_of_le hlt hr.size
  refine ⟨fun s' hs'=>?_,fun s' v' hv'=>?_,hr.defers,by simp [Act.put]; exact hr.size,hr.good.step hs⟩
  ·rw [JV hlt',if_neg (fun e : s' = t=>hm' (by rw [<- e]; exact hs'))]
   exact (hr.pe s' hs').mono hs
  ·simp only [RS.put,Fb] at hv'
   rw [JV hlt']
   split at hv'
   ·rename_i e
    subst e
    simp at hv'
    subst hv'
    simp only [if_true]
    exact ⟨hm',hv⟩
   ·rename_i e
    rw [if_neg e]
    exact ⟨(hr.te s' v' hv').1,(hr.te s' v' hv').2.mono hs⟩
 .cases hd
noncomputable def B7 (Γ : Sig) (look : VArg -> Option VVal) (h : VHeap) (o : VOper) : Option (VVal × List (Id × Nat × Ob)) :=
 match o.guard with
 | none=>Aj Γ look h o.dst.slot o.op
 | some (g,want)=>match look g with
  | some (.p (.bool b))=>if b == want then Aj Γ look h o.dst.slot o.op else some (.undef,[])
  | some .undef=>some (.undef,[])
  | _=>none
noncomputable abbrev C7 (Γ : Sig) (o : VOper) (r : RS) : Option (VVal × List (Id × Nat × Ob)):=B7 Γ r.look r.h o
def RS.app (r : RS) (o : VOper) (q : VVal × List (Id × Nat × Ob)) : RS:={ r.put o.dst q.1 with h:=r.h.upds q.2 }
theorem Sb (r : RS) (o : VOper) : r.app o (.undef,[]) = r.put o.dst .undef:=by
 unfold RS.app
 simp only [VHeap.upds]
 cases o.dst <;> rfl
theorem Rz {Γ : Sig} {o : VOper} {r r' : RS} (h : BU Γ o r = some r') : ∃ q,C7 Γ o r = some q /\ r' = r.app o q:=by
 unfold BU at h
 unfold C7 B7
 cases hg : o.guard with
 | none =>
  rw [hg] at h
  obtain ⟨q,hq,h⟩:=Aa h
  simp at h
  exact ⟨q,hq,h.symm⟩
 | some gw =>
  obtain ⟨g,want⟩:=gw
  rw [hg] at h
  obtain ⟨gv,hgv,h⟩:=Aa h
  simp only [hgv]
  split at h
  ·rename_i b
   cases hb : b == want with
   | true =>
    rw [hb,E2] at h
    obtain ⟨q,hq,h⟩:=Aa h
    simp at h
    exact ⟨q,by simp only [hb,if_true]; exact hq,h.symm⟩
   | false =>
    rw [hb,E0] at h
    simp at h
    exact ⟨(.undef,[]),by simp only [hb,bft,if_false],by rw [Sb]; exact h.symm⟩
  ·simp at h
   exact ⟨(.undef,[]),rfl,by rw [Sb]; exact h.symm⟩
  .cases h
theorem OZ {P : Program} {vs : List Nat} {n : Nat} {ops : Array Oper} : ∀ {os : List Oper} {us : List VOper},Ht P vs n ops os us = true -> us.length = os.length /\ ∀ (i : Nat) (o : Oper) (u : VOper),os[i]? = some o -> us[i]? = some u -> FF P vs n ops o u = true
 | [],[],_=>⟨rfl,fun i o u h=>by simp at h⟩
 | o :: os,u :: us,h=>by
  simp only [Ht,bat] at h
  obtain ⟨h1,h2⟩:=OZ h.2
  refine ⟨by simp [h1],fun i o' u' ho hu=>?_⟩
  cases i with
  | zero=>simp at ho hu; subst ho; subst hu; exact h.1
  | succ i=>simp at ho hu; exact h2 i o' u' ho hu
 | [],_ :: _,h=>by simp [Ht] at h
 | _ :: _,[],h=>by simp [Ht] at h
section
variable {P : Program} {Γ : Sig} (hΓ : De P Γ) {vs : List Nat} {n : Nat}
include hΓ
theorem ON {G : Gh} {r : RS} {a : Act} {w : World} (hr : RRel vs n G r a w) (hi : HeapInv G r.h w) {ops : Array Oper} {o : Oper} {v : VOper} (hok : FF P vs n ops o v = true) {i : Nat} (hoi : ops[i]? = some o)
  {q : VVal × List (Id × Nat × Ob)} (he : C7 Γ v r = some q) {K : Act -> World -> Prop} {Q : Exit -> Act -> World -> Prop}
  (hK : ∀ a' w' G',Step G r.h w G' (r.app v q).h w' -> HeapInv G' (r.app v q).h w' -> RRel vs n G' (r.app v q) a' w' -> K a' w') : wpOp P ops Q i K a w:=by
 simp only [FF,bat] at hok
 obtain ⟨⟨hd,hg⟩,hop⟩:=hok
 unfold wpOp
 simp only [hoi]
 have run : Aj Γ r.look r.h v.dst.slot v.op = some q -> o.wp P a w K Q:=fun hq=>by
  refine Wl hΓ hr hi rfl hop (val:=q.1) (us:=q.2) hq K Q fun c w' G' hs hinv hv=>?_
  exact hK _ w' G' hs hinv (Sr hr hs hd hv)
 have skip : q = (.undef,[]) -> K (a.put o.dst Go.undef) w:=fun hq=>by
  subst hq
  refine hK _ w G (Step.refl _ _ _) hi ?_
  exact Sr hr (Step.refl _ _ _) hd .undef
 unfold C7 B7 at he
 unfold Sx at hg
 split at hg
 ·rename_i h1 h2
  rw [h2] at he
  simp only at he
  rw [show Region.wanted o (yielded ops a.tmps) = true by simp [Region.wanted,h1]]
  exact .inl (run he)
 ·rename_i j w0 g w1 h1 h2
  rw [h2] at he
  simp only [bat,beq_iff_eq] at hg
  obtain ⟨rfl,hg⟩:=hg
  split at hg <;> try (cases hg; done)
  rename_i t ht
  simp only at he
  split at he
  ·rename_i b hb
   have hv:=Fn (Ay hr hg hb)
   have hy : yielded ops a.tmps j = some b:=by
    simp only [Act.eval] at hv
    unfold yielded
    rw [ht]
    simp only [Option.bind_some]
    cases hx : a.tmps[t]? with
    | none=>simp [agd,hx,Go.undef] at hv
    | some x=>simp [agd,hx] at hv; subst hv; rfl
   simp only [Region.wanted,h1,hy]
   split at he
   ·rename_i e
    simp only [beq_iff_eq] at e
    subst e
    simp only [beq_self_eq_true,if_true]
    exact .inl (run he)
   ·rename_i e
    have : (some b == some w0) = false:=by simpa using e
    rw [this]
    simp at he
    exact skip he.symm
  ·rename_i hb
   have hv:=Ay hr hg hb
   have hy : yielded ops a.tmps j = none:=by
    simp only [Act.eval] at hv
    unfold yielded
    rw [ht]
    simp only [Option.bind_some]
    cases hx : a.tmps[t]? with
    | none=>rfl
    | some x =>
     simp [agd,hx] at hv
     cases hv
     rfl
   simp only [Region.wanted,h1,hy]
   simp at he
   exact skip he.symm
  .cases he
 .cases hg
end
end
end Go.V
namespace Go.V
def Agree (p : Id -> Prop) (h h' : VHeap) : Prop:=∀ id,p id -> h' id = h id
theorem Agree.upds {p : Id -> Prop} : ∀ (us : List (Id × Nat × Ob)) {h h' : VHeap},Agree p h h' -> Agree p (h.upds us) (h'.upds us)
 | [],_,_,ha=>ha
 | (id,o) :: us,_,_,ha=>Agree.upds us fun i hi=>by
  simp only [VHeap.upd]
  split
  .rfl
  .exact ha i hi
theorem MP : ∀ (us : List (Id × Nat × Ob)) (h h' : VHeap) (id : Id),id ∈ us.map (·.1) -> h.upds us id = h'.upds us id
 | [],_,_,_,hm=>by simp at hm
 | (i,o) :: us,h,h',id,hm=>by
  simp only [VHeap.upds]
  by_cases hin : id ∈ us.map (·.1)
  ·exact MP us _ _ id hin
  ·rw [Ck us _ id hin,Ck us _ id hin]
   simp at hm
   rcases hm with rfl | hm
   .simp [VHeap.upd]
   .exact absurd (by simpa using hm) hin
theorem Yi (us us' : List (Id × Nat × Ob)) (h : VHeap) (hd : ∀ id,id ∈ us.map (·.1) -> id ∈ us'.map (·.1) -> False) : (h.upds us).upds us' = (h.upds us').upds us:=by
 funext id
 by_cases h1 : id ∈ us'.map (·.1)
 ·have h2 : id ∉ us.map (·.1):=fun h2=>hd id h2 h1
  rw [MP us' (h.upds us) h id h1,Ck us _ id h2]
 ·rw [Ck us' _ id h1]
  by_cases h2 : id ∈ us.map (·.1)
  .rw [MP us (h.upds us') h id h2]
  .rw [Ck us _ id h2,Ck us _ id h2,Ck us' _ id h1]
theorem BQ {α β : Type} {f g : α -> Option β} : ∀ {l : List α},(∀ x ∈ l,f x = g x) -> Af f l = Af g l
 | [],_=>rfl
 | x :: xs,h=>by
  simp only [Af]
  rw [h x (lms ..),BQ fun y hy=>h y (lmc _ hy)]
section
variable {p : Id -> Prop} {h h' : VHeap}
theorem Er {v : VVal} {id : Id} (hm : id ∈ ids0 v) : id ∈ ids1 v:=by
 cases v <;> simp_all [ids0,ids1]
theorem Xe {v : VVal} (ha : ∀ id ∈ ids0 v,h' id = h id) : FW h' v = FW h v:=by
 cases v with
 | ptr=>simp only [FW,ids0] at ha ⊢; rw [ha _ (List.mem_singleton_self _)]
 | eptr=>simp only [FW,ids0] at ha ⊢; rw [ha _ (List.mem_singleton_self _)]
 | _=>rfl
theorem IV {v : VVal} (ha : ∀ id ∈ ids0 v,h' id = h id) : Ba h' v = Ba h v:=by
 cases v with
 | p d=>cases d <;> rfl
 | own=>simp only [Ba,ids0] at ha ⊢; rw [ha _ (List.mem_singleton_self _)]
 | _=>rfl
theorem NU {v : VVal} (ha : ∀ id ∈ ids0 v,h' id = h id) : CE h' v = CE h v:=by
 cases v with
 | p d=>cases d <;> rfl
 | mref=>simp only [CE,ids0] at ha ⊢; rw [ha _ (List.mem_singleton_self _)]
 | _=>rfl
theorem UW {n : Nat} {vs : List VVal} {v : VVal} (ha : ∀ id ∈ ids0 v,h' id = h id) : Ep h' n vs v = Ep h n vs v:=by
 cases v with
 | ptr=>simp only [Ep,ids0] at ha ⊢; rw [ha _ (List.mem_singleton_self _)]
 | eptr=>simp only [Ep,ids0] at ha ⊢; rw [ha _ (List.mem_singleton_self _)]
 | _=>rfl
theorem UX {sz i : Nat} {v : VVal} (ha : ∀ id ∈ ids0 v,h' id = h id) : EX h' sz i v = EX h sz i v:=by
 cases v with
 | p d=>cases d <;> rfl
 | own=>simp only [EX,ids0] at ha ⊢; rw [ha _ (List.mem_singleton_self _)]
 | _=>rfl
theorem Pm {sz l m : Nat} {v : VVal} (ha : ∀ id ∈ ids0 v,h' id = h id) : DF h' sz l m v = DF h sz l m v:=by
 cases v with
 | p d=>cases d <;> rfl
 | own=>simp only [DF,ids0] at ha ⊢; rw [ha _ (List.mem_singleton_self _)]
 | _=>rfl
theorem OE {d j : Nat} {z : ZC} (ha : ∀ k,h' (.slot d k) = h (.slot d k)) : zcell d h' j z = zcell d h j z:=by
 cases z <;> simp only [zcell,ha]
theorem LH {d : Nat} (us : List (Id × Nat × Ob)) (ha : ∀ k,h' (.slot d k) = h (.slot d k)) : ∀ k,(h'.upds us) (.slot d k) = (h.upds us) (.slot d k):=fun k =>
 Agree.upds (p:=fun id=>∃ k,id = .slot d k) us (fun _ ⟨k,e⟩=>e ▸ ha k) _ ⟨k,rfl⟩
end
theorem Oa {d : Nat} : ∀ (zs : List ZC) (j : Nat) (h h' : VHeap),(∀ k,h' (.slot d k) = h (.slot d k)) -> zcells d h' j zs = zcells d h j zs
 | [],_,_,_,_=>rfl
 | z :: zs,j,h,h',ha=>by
  simp only [zcells]
  rw [OE ha,Oa zs (j + 1) _ _ (LH _ ha)]
theorem K4 {look : VArg -> Option VVal} {d : Nat} : ∀ (bs : List BC) (j : Nat) (h h' : VHeap),(∀ k,h' (.slot d k) = h (.slot d k)) -> B2 look d h' j bs = B2 look d h j bs
 | [],_,_,_,_=>rfl
 | .z z :: bs,j,h,h',ha=>by
  simp only [B2]
  rw [OE ha,K4 bs (j + 1) _ _ (LH _ ha)]
 | .a x i n :: bs,j,h,h',ha=>by
  simp only [B2]
  rw [K4 bs (j + 1) _ _ ha]
theorem Gg : ∀ (l R : List Id) {i : Id},i ∈ R -> i ∈ Cg R l
 | [],_,_,h=>h
 | x :: xs,R,i,h=>by
  simp only [Cg]
  refine Gg xs _ ?_
  split
  .exact h
  .exact lmp.2 (.inl h)
theorem N2 {h h' : VHeap} {l : List Id} (ha : ∀ id ∈ l,h' id = h id) : l.flatMap (GB h') = l.flatMap (GB h):=by
 induction l with
 | nil=>rfl
 | cons x xs ih =>
  simp only [lfc]
  rw [ih fun id hm=>ha id (lmc _ hm)]
  simp only [GB,ha x (lms ..)]
theorem OW {h h' : VHeap} {args : List VVal} (ha : ∀ id ∈ roots h args,h' id = h id) : roots h' args = roots h args:=by
 simp only [roots] at ha ⊢
 split
 ·rfl
 ·rename_i hne
  rw [if_neg hne] at ha
  have h0:=N2 (h:=h) (h':=h') (l:=Cg [] (args.flatMap HE)) fun id hm=>ha id (Gg _ _ (Gg _ _ hm))
  rw [h0]
  have h1:=N2 (h:=h) (h':=h') (l:=Cg (Cg [] (args.flatMap HE)) ((Cg [] (args.flatMap HE)).flatMap (GB h))) fun id hm=>ha id (Gg _ _ hm)
  rw [h1]
theorem Lp {h h' : VHeap} {id : Id} {ver : Nat} (ha : h' id = h id) : BX h' id ver = BX h id ver:=by simp only [BX,ha]
theorem Qa {R : List Id} {h h' : VHeap} {v : VVal} (ha : ∀ id ∈ ids0 v,h' id = h id) : BM R h' v = BM R h v:=by
 cases v <;> simp only [BM]
 case own=>rw [IV ha]
 case mref=>rw [NU ha]
 case ptr=>simp only [ids0] at ha; rw [Lp (ha _ (List.mem_singleton_self _))]
 case eptr=>simp only [ids0] at ha; rw [ha _ (List.mem_singleton_self _)]
theorem X0 {R : List Id} {h h' : VHeap} {v : VVal} (ha : ∀ id ∈ ids1 v,h' id = h id) : Cr R h' v = Cr R h v:=by
 cases v <;> simp only [Cr] <;> try (exact Qa fun id hm=>ha id (Er hm))
 all_goals
  rw [BQ fun x hx=>Qa fun id hm=>ha id (by simp only [ids1,List.mem_flatMap]; exact ⟨x,hx,hm⟩)]
theorem QE {R : List Id} {id : Id} (h : id ∉ R) : BV R id = none:=by
 cases hp : BV R id with
 | none=>simp only [Az]
 | some i=>exact absurd (lmg (CI hp)) h
theorem SO {α : Type} (c : Prop) [Decidable c] (u : Tok (none : Option α)) : gd c (none : Option α) u = none:=by
 unfold gd
 split <;> rfl
theorem R7 {R : List Id} {h h' : VHeap} {v : VVal} (ha : ∀ id ∈ R,h' id = h id) (hl : Hz v = false) : BM R h' v = BM R h v:=by
 cases v <;> simp only [BM] <;> try (simp [Hz] at hl; done)
 rename_i id ver off
 by_cases hm : id ∈ R
 ·rw [Lp (ha id hm)]
 ·rw [QE hm]
  simp only [Az,SO]
theorem zaO {R : List Id} {h h' : VHeap} {v : VVal} (ha : ∀ id ∈ R,h' id = h id) (hl : Ec v = false) : Cr R h' v = Cr R h v:=by
 cases v <;> simp only [Cr,Ec] at hl ⊢ <;> try (exact R7 ha hl)
 all_goals
  rw [BQ fun x hx=>R7 ha (by
   rw [List.any_eq_false] at hl
   simpa using hl x hx)]
theorem Wj {R : List Id} {h h' : VHeap} {id : Id} (hid : id ∈ R) (ha : ∀ id ∈ R,h' id = h id) : C4 R h' id = C4 R h id:=by
 simp only [C4,ha id hid]
 split
 ·rename_i cs _
  by_cases hl : cs.any Ec = false
  ·simp only [gd,if_pos hl]
   rw [BQ fun x hx=>zaO ha (by
    rw [List.any_eq_false] at hl
    simpa using hl x hx)]
  .simp only [gd,if_neg hl]
 .rfl
section
variable {R : List Id} {h h' : VHeap} (ha : ∀ id ∈ R,h' id = h id)
include ha
theorem Lo (v : VVal) : CR R h' v = CR R h v:=by
 unfold CR
 split
 ·rfl
 ·rename_i i off
  cases hi : R[i]? with
  | none=>simp only [Az]
  | some id =>
   simp only [Ai]
   rw [ha id (lmg hi)]
 .rfl
theorem Xb (v : VVal) : Ed R h' v = Ed R h v:=by
 cases v <;> simp only [Ed] <;> try (exact Lo ha _)
 rw [BQ fun x _=>Lo ha x]
theorem NT : ∀ (ids : List Id) (os : List Ob),(∀ id ∈ ids,id ∈ R) -> Df R h' ids os = Df R h ids os
 | [],[],_=>rfl
 | [],_ :: _,_=>rfl
 | _ :: _,[],_=>rfl
 | id :: ids,o :: os,hs=>by
  cases o <;> simp only [Df]
  rw [BQ fun x _=>Xb ha x,ha id (hs id (lms ..)),NT ids os fun i hi=>hs i (lmc _ hi)]
variable {d : Nat} (hd : ∀ k,h' (.slot d k) = h (.slot d k))
include hd
theorem L6 (j : Nat) (v : VVal) : in0 R h' d j v = in0 R h d j v:=by
 unfold in0
 split
 .rw [hd]
 .rw [Lo ha]
theorem L5 : ∀ (j : Nat) (vs : List VVal),inL R h' d j vs = inL R h d j vs
 | _,[]=>rfl
 | j,v :: vs=>by
  simp only [inL]
  rw [L6 ha hd,L5 (j + 1) vs]
theorem Q7 (j : Nat) (v : VVal) : in1 R h' d j v = in1 R h d j v:=by
 unfold in1
 split
 .rw [L5 ha hd]
 .rw [L5 ha hd,hd]
 .rw [L6 ha hd]
theorem Q3 : ∀ (j : Nat) (vs : List VVal),inT R h' d j vs = inT R h d j vs
 | _,[]=>rfl
 | j,v :: vs=>by
  simp only [inT]
  rw [Q7 ha hd,Q3 (j + EC v) vs]
theorem O3 (v : VVal) : C9 R h' d v = C9 R h d v:=by
 unfold C9
 split
 .rw [Q3 ha hd]
 .rw [Q7 ha hd]
end
theorem VX {Γ : Sig} {h h' : VHeap} {d : Nat} {f : FuncId} {args : List VVal} {R : List Id} (h1 : ∀ v ∈ args,∀ id ∈ ids1 v,h' id = h id) (h2 : ∀ id ∈ R,h' id = h id) (hd : ∀ k,h' (.slot d k) = h (.slot d k)) :
  Dj Γ h' d f args R = Dj Γ h d f args R:=by
 unfold Dj
 have e1 : Af (Cr R h') args = Af (Cr R h) args:=BQ fun x hx=>X0 (h1 x hx)
 have e2 : Af (C4 R h') R = Af (C4 R h) R:=BQ fun x hx=>Wj hx h2
 have e3 : ∀ os,Df R h' R os = Df R h R os:=fun os=>NT h2 R os fun _ h=>h
 have e4 : ∀ v,C9 R h' d v = C9 R h d v:=fun v=>O3 h2 hd v
 rw [e1,e2]
 cases Af (Cr R h) args with
 | none=>simp only [Az]
 | some args' =>
  cases Af (C4 R h) R with
  | none=>simp only [Az]
  | some H =>
   cases hr : Γ f args' H with
   | none=>simp only [Ai,hr,Az]
   | some r =>
    simp only [Ai,hr]
    rw [e3,e4]
theorem KS {Γ : Sig} {h h' : VHeap} {d : Nat} {f : FuncId} {args : List VVal} (h1 : ∀ v ∈ args,∀ id ∈ ids1 v,h' id = h id) (h2 : ∀ id ∈ roots h args,h' id = h id) (hd : ∀ k,h' (.slot d k) = h (.slot d k)) :
  Di Γ h' d f args = Di Γ h d f args:=by
 unfold Di
 rw [OW h2]
 exact VX h1 h2 hd
theorem NV {h h' : VHeap} {l : List Id} (ha : ∀ id ∈ l,h' id = h id) : l.flatMap (Gt h') = l.flatMap (Gt h):=by
 induction l with
 | nil=>rfl
 | cons x xs ih =>
  simp only [lfc]
  rw [ih fun id hm=>ha id (lmc _ hm)]
  simp only [Gt,ha x (lms ..)]
theorem On {h h' : VHeap} {args : List VVal} (ha : ∀ id ∈ rootsW h args,h' id = h id) : rootsW h' args = rootsW h args:=by
 simp only [rootsW] at ha ⊢
 split
 ·rfl
 ·rename_i hne
  rw [if_neg hne] at ha
  have h0:=NV (h:=h) (h':=h') (l:=Cg [] (args.flatMap Hx)) fun id hm=>ha id (Gg _ _ (Gg _ _ hm))
  rw [h0]
  have h1:=NV (h:=h) (h':=h') (l:=Cg (Cg [] (args.flatMap Hx)) ((Cg [] (args.flatMap Hx)).flatMap (Gt h))) fun id hm=>ha id (Gg _ _ hm)
  rw [h1]
theorem UV {h h' : VHeap} {op : VOp} {args : List VVal} (ha : ∀ id ∈ callRoots h op args,h' id = h id) : callRoots h' op args = callRoots h op args:=by
 cases op <;> first | exact On ha | exact OW ha
theorem O5 {R : List Id} {h h' : VHeap} {v : VVal} (ha : ∀ id ∈ R,h' id = h id) : B3 R h' v = B3 R h v:=by
 have key : ∀ (id : Id) (ver : Nat) (f : Nat -> Option VVal),gd (BX h' id ver = true) (ob (BV R id) f) = gd (BX h id ver = true) (ob (BV R id) f):=fun id ver f=>by
  by_cases hm : id ∈ R
  ·rw [Lp (ha id hm)]
  ·rw [QE hm]
   simp only [Az,SO]
 cases v <;> simp only [B3] <;> exact key _ _ _
theorem O4 {R : List Id} {h h' : VHeap} {v : VVal} (ha : ∀ id ∈ R,h' id = h id) : CO R h' v = CO R h v:=by
 cases v <;> simp only [CO] <;> try (exact O5 ha)
 all_goals rw [BQ fun x _=>O5 ha]
theorem Wi {R : List Id} {h h' : VHeap} {id : Id} (hid : id ∈ R) (ha : ∀ id ∈ R,h' id = h id) : DU R h' id = DU R h id:=by
 simp only [DU,ha id hid]
 split
 .rw [BQ fun x _=>O4 ha]
 .rfl
 .rfl
 .rfl
section
variable {R : List Id} {h h' : VHeap} (ha : ∀ id ∈ R,h' id = h id)
include ha
theorem OA (v : VVal) : CG R h' v = CG R h v:=by
 have key : ∀ (i : Nat) (f : Id -> Nat × Ob -> Option VVal),(ob R[i]? fun id=>ob (h' id) (f id)) = ob R[i]? fun id=>ob (h id) (f id):=fun i f=>by
  cases hi : R[i]? with
  | none=>simp only [Az]
  | some id =>
   simp only [Ai]
   rw [ha id (lmg hi)]
 unfold CG
 split
 .rfl
 .exact key _ _
 .exact key _ _
 .exact key _ _
 .rfl
theorem Wt (v : VVal) : DV R h' v = DV R h v:=by
 cases v <;> simp only [DV] <;> try (exact OA ha _)
 rw [BQ fun x _=>OA ha x]
variable {d : Nat} (hd : ∀ k,h' (.slot d k) = h (.slot d k))
include hd
theorem YZ (j : Nat) (v : VVal) : inC R h' d j v = inC R h d j v:=by
 unfold inC
 split
 .rw [hd]
 .rw [Wt ha]
theorem P2 : ∀ (j : Nat) (vs : List VVal),Cj R h' d j vs = Cj R h d j vs
 | _,[]=>rfl
 | j,v :: vs=>by
  simp only [Cj]
  rw [YZ ha hd,P2 (j + 1) vs]
theorem N7 : ∀ (j : Nat) (ids : List Id) (os : List Ob),(∀ id ∈ ids,id ∈ R) -> BS R h' d j ids os = BS R h d j ids os
 | _, [], [], _=>rfl
 | _, [], _ :: _, _=>rfl
 | _, _ :: _, [], _=>rfl
 | j, id :: ids, o :: os, hs=>by
  have ih:=fun k=>N7 k ids os fun i hi=>hs i (lmc _ hi)
  simp only [BS]
  rw [ha id (hs id (lms ..))]
  cases h id with
  | none=>simp only [Az]
  | some q =>
   simp only [Ai]
   split
   ·rw [P2 ha hd]
    cases Cj R h d j _ with
    | none=>simp only [Az]
    | some r =>
     simp only [Ai]
     rw [ih]
   .rw [ih]
   .rw [ih]
   .rw [ih]
   .rfl
end
theorem XU {R : List Id} {h h' : VHeap} {d j : Nat} (h2 : ∀ id ∈ R,h' id = h id) (hd : ∀ k,h' (.slot d k) = h (.slot d k)) (v : VVal) : DH R h' d j v = DH R h d j v:=by
 unfold DH
 split
 ·rename_i i off len
  cases hR : R[i]? with
  | none=>simp only [Az]
  | some id=>simp only [Ai,h2 id (lmg hR)]
 ·rename_i i off len
  cases hR : R[i]? with
  | none=>simp only [Az]
  | some id=>simp only [Ai,h2 id (lmg hR)]
 .exact L6 h2 hd _ _
theorem P1 {R : List Id} {h h' : VHeap} {d : Nat} (h2 : ∀ id ∈ R,h' id = h id) (hd : ∀ k,h' (.slot d k) = h (.slot d k)) : ∀ (vs : List VVal) (j : Nat),CC R h' d j vs = CC R h d j vs
 | [],_=>rfl
 | v :: vs,j=>by
  simp only [CC]
  rw [XU h2 hd,P1 h2 hd vs (j + 1)]
theorem We {R : List Id} {h h' : VHeap} {d : Nat} (h2 : ∀ id ∈ R,h' id = h id) (hd : ∀ k,h' (.slot d k) = h (.slot d k)) (v : VVal) : DA R h' d v = DA R h d v:=by
 unfold DA
 split
 ·rename_i i off len
  cases hR : R[i]? with
  | none=>simp only [Az]
  | some id=>simp only [Ai,h2 id (lmg hR)]
 ·rename_i i off len
  cases hR : R[i]? with
  | none=>simp only [Az]
  | some id=>simp only [Ai,h2 id (lmg hR)]
 .rw [P1 h2 hd]
 .exact O3 h2 hd _
theorem Vs {Γ : Sig} {h h' : VHeap} {d : Nat} {f : FuncId} {args : List VVal} {R : List Id} (h2 : ∀ id ∈ R,h' id = h id) (hd : ∀ k,h' (.slot d k) = h (.slot d k)) :
  Dh Γ h' d f args R = Dh Γ h d f args R:=by
 unfold Dh
 have e1 : Af (CO R h') args = Af (CO R h) args:=BQ fun x _=>O4 h2
 have e2 : Af (DU R h') R = Af (DU R h) R:=BQ fun x hx=>Wi hx h2
 have e3 : ∀ os,BS R h' d 1000 R os = BS R h d 1000 R os:=fun os=>N7 h2 hd 1000 R os fun _ h=>h
 have e4 : ∀ v,DA R h' d v = DA R h d v:=fun v=>We h2 hd v
 rw [e1,e2]
 cases Af (CO R h) args with
 | none=>simp only [Az]
 | some args' =>
  cases Af (DU R h) R with
  | none=>simp only [Az]
  | some H =>
   cases hr : Γ f args' H with
   | none=>simp only [Ai,hr,Az]
   | some r =>
    simp only [Ai,hr]
    rw [e3,e4]
theorem IW {Γ : Sig} {h h' : VHeap} {d : Nat} {f : FuncId} {args : List VVal} (h2 : ∀ id ∈ rootsW h args,h' id = h id) (hd : ∀ k,h' (.slot d k) = h (.slot d k)) :
  Cn Γ h' d f args = Cn Γ h d f args:=by
 unfold Cn
 rw [On h2]
 exact Vs h2 hd
end Go.V
namespace Go.V
theorem DJ {α β : Type} {f : α -> Option β} : ∀ {l : List α} {ys : List β},Af f l = some ys -> l.filterMap f = ys
 | [],ys,h=>by simp [Af] at h; subst h; rfl
 | x :: xs,ys,h=>by
  obtain ⟨y,hy,h⟩:=Aa h
  obtain ⟨zs,hz,h⟩:=Aa h
  simp at h
  subst h
  rw [List.filterMap_cons,hy,DJ hz]
theorem Lm {look look' : VArg -> Option VVal} {d : Nat} : ∀ (bs : List BC) (j : Nat) (h : VHeap),(∀ x i n,BC.a x i n ∈ bs -> look' x = look x) -> B2 look' d h j bs = B2 look d h j bs
 | [],_,_,_=>rfl
 | .z z :: bs,j,h,ha=>by
  simp only [B2]
  rw [Lm bs (j + 1) _ fun x i n hm=>ha x i n (lmc _ hm)]
 | .a x i n :: bs,j,h,ha=>by
  simp only [B2]
  rw [ha x i n (lms ..),Lm bs (j + 1) _ fun x i n hm=>ha x i n (lmc _ hm)]
theorem OY {look look' : VArg -> Option VVal} {x : Option VArg} {k : Nat} (h : ∀ y,x = some y -> look' y = look y) : Co look' k x = Co look k x:=by
 cases x with
 | none=>rfl
 | some y=>simp only [Co,h y rfl]
theorem O6 {Γ : Sig} {look look' : VArg -> Option VVal} {h : VHeap} {d : Nat} (op : VOp) (hx : ∀ x ∈ op.args,look' x = look x) : Aj Γ look' h d op = Aj Γ look h d op:=by
 cases op <;> simp only [VOp.args,lmk,List.not_mem_nil,or_false,forall_eq_or_imp,forall_eq] at hx <;> simp only [Aj]
 case pick=>rw [hx.1,hx.2.1,hx.2.2]
 case build cs =>
  rw [Lm cs 0 h fun x i n hm=>hx x (List.mem_filterMap.2 ⟨_,hm,rfl⟩)]
 case buildFz sz ps =>
  rw [BQ (f:=fun x=>ob (look' x) fun v=>Bn v) (g:=fun x=>ob (look x) fun v=>Bn v) fun x hm=>by rw [hx x hm]]
 case buildSlice sz ps =>
  rw [BQ (f:=fun x=>ob (look' x) fun v=>Bn v) (g:=fun x=>ob (look x) fun v=>Bn v) fun x hm=>by rw [hx x hm]]
 case buildArr sz ps =>
  rw [BQ (f:=fun x=>ob (look' x) fun v=>Bn v) (g:=fun x=>ob (look x) fun v=>Bn v) fun x hm=>by rw [hx x hm]]
 case slice str sz lo hi mx x =>
  rw [hx.1]
  cases look x with
  | none=>simp only [Az]
  | some s =>
   simp only [Ai]
   have e1 : ∀ k,Co look' k lo = Co look k lo:=fun k=>OY fun y hy=>hx.2 y (by simp [hy])
   have e2 : ∀ k,Co look' k hi = Co look k hi:=fun k=>OY fun y hy=>hx.2 y (by simp [hy])
   have e3 : ∀ sz l m s,DW d h look' sz l m s mx = DW d h look sz l m s mx:=fun sz l m s=>by
    cases mx with
    | none=>rfl
    | some y=>simp only [DW,hx.2 y (by simp)]
   have e4 : Fy look' lo hi s = Fy look lo hi s:=by
    unfold Fy
    cases GO s with
    | none=>simp only [Az]
    | some n =>
     simp only [Ai]
     rw [e1,e2]
   have e5 : D5 d h look' sz lo hi mx s = D5 d h look sz lo hi mx s:=by
    unfold D5
    cases Ee s with
    | none=>simp only [Az]
    | some n =>
     simp only [Ai]
     rw [e1,e2]
     cases Co look 0 lo with
     | none=>simp only [Az]
     | some l =>
      simp only [Ai]
      cases Co look n hi with
      | none=>simp only [Az]
      | some m =>
       simp only [Ai]
       rw [e3]
   rw [e4,e5]
 case minmax=>rw [BQ hx]
 case makeFunc=>rw [BQ hx]
 case call=>rw [BQ hx]
 case callv=>rw [hx.1,BQ hx.2]
 case callW=>rw [BQ hx]
 case callR=>rw [BQ hx]
 case callvW=>rw [hx.1,BQ hx.2]
 all_goals first
  | done
  | rw [hx]
  | rw [hx.1,hx.2]
  | rw [hx.1,hx.2.1,hx.2.2]
theorem N5 {Γ : Sig} {look : VArg -> Option VVal} {h h' : VHeap} {d : Nat} {op : VOp} (hs : op.silent = true) : Aj Γ look h' d op = Aj Γ look h d op:=by
 cases op <;> first | rfl | (simp [VOp.silent] at hs)
theorem K1 {Γ : Sig} {look : VArg -> Option VVal} {h : VHeap} {d : Nat} {op : VOp} (hs : op.silent = true \/ op.reader = true) {q : VVal × List (Id × Nat × Ob)} (he : Aj Γ look h d op = some q) : q.2 = []:=by
 cases op <;> first | (simp [VOp.silent,VOp.reader] at hs; done) | skip
 all_goals simp only [Aj] at he
 case callR =>
  obtain ⟨_,_,he⟩:=Aa he
  obtain ⟨_,_,he⟩:=Aa he
  obtain ⟨_,he⟩:=Ad he
  simp only [osi] at he
  rw [<- he]
 case buildFz =>
  obtain ⟨_,_,he⟩:=Aa he
  obtain ⟨_,he⟩:=Ad he
  simp only [osi] at he
  rw [<- he]
 case buildArr =>
  obtain ⟨_,_,he⟩:=Aa he
  obtain ⟨_,he⟩:=Ad he
  simp only [osi] at he
  rw [<- he]
 case indexArr =>
  obtain ⟨_,_,he⟩:=Aa he
  obtain ⟨_,_,he⟩:=Aa he
  split at he <;> first | (cases he; done) | skip
  obtain ⟨_,he⟩:=Ad he
  obtain ⟨_,he⟩:=Ad he
  obtain ⟨_,_,he⟩:=Aa he
  simp only [osi] at he
  rw [<- he]
 case move =>
  obtain ⟨_,_,he⟩:=Aa he
  simp only [osi] at he
  rw [<- he]
 case pick =>
  obtain ⟨_,_,he⟩:=Aa he
  split at he <;> first | (cases he; done) | skip
  unfold br at he
  split at he
  ·obtain ⟨_,_,he⟩:=Aa he
   simp only [osi] at he
   rw [<- he]
  ·obtain ⟨_,_,he⟩:=Aa he
   simp only [osi] at he
   rw [<- he]
 case load =>
  obtain ⟨_,_,he⟩:=Aa he
  obtain ⟨_,_,he⟩:=Aa he
  simp only [osi] at he
  rw [<- he]
 case fieldAddr =>
  obtain ⟨_,_,he⟩:=Aa he
  split at he <;> first | (cases he; done) | skip
  all_goals
   simp only [osi] at he
   rw [<- he]
 case field =>
  obtain ⟨_,_,he⟩:=Aa he
  split at he <;> first | (cases he; done) | skip
  obtain ⟨_,_,he⟩:=Aa he
  simp only [osi] at he
  rw [<- he]
 case indexAddr =>
  obtain ⟨_,_,he⟩:=Aa he
  obtain ⟨_,_,he⟩:=Aa he
  split at he <;> first | (cases he; done) | skip
  obtain ⟨_,_,he⟩:=Aa he
  simp only [osi] at he
  rw [<- he]
 case indexStr =>
  obtain ⟨_,_,he⟩:=Aa he
  obtain ⟨_,_,he⟩:=Aa he
  split at he <;> first | (cases he; done) | skip
  obtain ⟨_,he⟩:=Ad he
  obtain ⟨_,_,he⟩:=Aa he
  simp only [osi] at he
  rw [<- he]
 case bin =>
  obtain ⟨_,_,he⟩:=Aa he
  obtain ⟨_,_,he⟩:=Aa he
  obtain ⟨_,_,he⟩:=Aa he
  simp only [osi] at he
  rw [<- he]
 case eqAgg =>
  obtain ⟨_,_,he⟩:=Aa he
  obtain ⟨_,_,he⟩:=Aa he
  split at he <;> first | (cases he; done) | skip
  obtain ⟨_,_,he⟩:=Aa he
  obtain ⟨_,_,he⟩:=Aa he
  obtain ⟨_,_,he⟩:=Aa he
  simp only [osi] at he
  rw [<- he]
 case not =>
  obtain ⟨_,_,he⟩:=Aa he
  split at he <;> first | (cases he; done) | skip
  simp only [osi] at he
  rw [<- he]
 case len =>
  obtain ⟨_,_,he⟩:=Aa he
  obtain ⟨_,_,he⟩:=Aa he
  simp only [osi] at he
  rw [<- he]
 case lenStr =>
  obtain ⟨_,_,he⟩:=Aa he
  obtain ⟨_,_,he⟩:=Aa he
  simp only [osi] at he
  rw [<- he]
 case eqB =>
  obtain ⟨_,_,he⟩:=Aa he
  obtain ⟨_,_,he⟩:=Aa he
  split at he <;> first | (cases he; done) | skip
  simp only [osi] at he
  rw [<- he]
 case lookup =>
  obtain ⟨_,_,he⟩:=Aa he
  obtain ⟨_,_,he⟩:=Aa he
  obtain ⟨_,_,he⟩:=Aa he
  obtain ⟨_,he⟩:=Ad he
  obtain ⟨_,_,he⟩:=Aa he
  simp only [osi] at he
  rw [<- he]
 case extract =>
  obtain ⟨_,_,he⟩:=Aa he
  split at he <;> first | (cases he; done) | skip
  obtain ⟨_,_,he⟩:=Aa he
  simp only [osi] at he
  rw [<- he]
 case minmax =>
  obtain ⟨_,_,he⟩:=Aa he
  obtain ⟨_,_,he⟩:=Aa he
  simp only [osi] at he
  rw [<- he]
 case nilCheck =>
  obtain ⟨_,_,he⟩:=Aa he
  split at he <;> first | (cases he; done) | skip
  all_goals
   simp only [osi] at he
   rw [<- he]
 case makeFunc =>
  obtain ⟨_,_,he⟩:=Aa he
  simp only [osi] at he
  rw [<- he]
theorem Pf {d j : Nat} {h : VHeap} {z : ZC} : ∀ x ∈ (zcell d h j z).2,∃ k,x.1 = .slot d k:=by
 cases z <;> simp [zcell]
theorem OC {d : Nat} : ∀ (zs : List ZC) (j : Nat) (h : VHeap),∀ x ∈ (zcells d h j zs).2,∃ k,x.1 = .slot d k
 | [],_,_,x,hx=>by simp [zcells] at hx
 | z :: zs,j,h,x,hx=>by
  simp only [zcells,lmp] at hx
  rcases hx with hx | hx
  .exact Pf x hx
  .exact OC zs _ _ x hx
theorem Ln {look : VArg -> Option VVal} {d : Nat} : ∀ (bs : List BC) (j : Nat) (h : VHeap) (q : List VVal × List (Id × Nat × Ob)),B2 look d h j bs = some q -> ∀ x ∈ q.2,∃ k,x.1 = .slot d k
 | [],_,_,q,he,x,hx=>by simp [B2] at he; subst he; simp at hx
 | .z z :: bs,j,h,q,he,x,hx=>by
  simp only [B2] at he
  obtain ⟨q',hq',he⟩:=Aa he
  simp only [osi] at he
  subst he
  simp only [lmp] at hx
  rcases hx with hx | hx
  .exact Pf x hx
  .exact Ln bs _ _ q' hq' x hx
 | .a y i n :: bs,j,h,q,he,x,hx=>by
  simp only [B2] at he
  obtain ⟨v,_,he⟩:=Aa he
  obtain ⟨_,he⟩:=Ad he
  obtain ⟨c,_,he⟩:=Aa he
  obtain ⟨_,he⟩:=Ad he
  obtain ⟨q',hq',he⟩:=Aa he
  simp only [osi] at he
  subst he
  exact Ln bs _ _ q' hq' x hx
section
variable {R : List Id} {h : VHeap} {d : Nat}
theorem MF {j : Nat} {v : VVal} {q : VVal × List (Id × Nat × Ob)} (he : in0 R h d j v = some q) : ∀ x ∈ q.2,∃ k,x.1 = .slot d k:=by
 unfold in0 at he
 split at he
 ·simp only [osi] at he
  subst he
  simp
 ·obtain ⟨v',_,he1⟩:=Aa he
  simp only [osi] at he1
  subst he1
  simp
theorem ME : ∀ {vs : List VVal} {j : Nat} {q : List VVal × List (Id × Nat × Ob)},inL R h d j vs = some q -> ∀ x ∈ q.2,∃ k,x.1 = .slot d k
 | [],_,q,he,x,hx=>by simp [inL] at he; subst he; simp at hx
 | v :: vs,j,q,he,x,hx=>by
  simp only [inL] at he
  obtain ⟨q1,h1,he⟩:=Aa he
  obtain ⟨q2,h2,he⟩:=Aa he
  simp only [osi] at he
  subst he
  simp only [lmp] at hx
  rcases hx with hx | hx
  .exact MF h1 x hx
  .exact ME h2 x hx
theorem R1 {j : Nat} {v : VVal} {q : VVal × List (Id × Nat × Ob)} (he : in1 R h d j v = some q) : ∀ x ∈ q.2,∃ k,x.1 = .slot d k:=by
 unfold in1 at he
 split at he
 ·obtain ⟨q1,h1,he1⟩:=Aa he
  simp only [osi] at he1
  subst he1
  exact ME h1
 ·obtain ⟨q1,h1,he1⟩:=Aa he
  simp only [osi] at he1
  subst he1
  intro x hx
  simp only [lmk] at hx
  rcases hx with rfl | hx
  .exact ⟨_,rfl⟩
  .exact ME h1 x hx
 .exact MF he
theorem RY : ∀ {vs : List VVal} {j : Nat} {q : List VVal × List (Id × Nat × Ob)},inT R h d j vs = some q -> ∀ x ∈ q.2,∃ k,x.1 = .slot d k
 | [],_,q,he,x,hx=>by simp [inT] at he; subst he; simp at hx
 | v :: vs,j,q,he,x,hx=>by
  simp only [inT] at he
  obtain ⟨q1,h1,he⟩:=Aa he
  obtain ⟨q2,h2,he⟩:=Aa he
  simp only [osi] at he
  subst he
  simp only [lmp] at hx
  rcases hx with hx | hx
  .exact R1 h1 x hx
  .exact RY h2 x hx
theorem P0 {v : VVal} {q : VVal × List (Id × Nat × Ob)} (he : C9 R h d v = some q) : ∀ x ∈ q.2,∃ k,x.1 = .slot d k:=by
 unfold C9 at he
 split at he
 ·obtain ⟨q1,h1,he1⟩:=Aa he
  simp only [osi] at he1
  subst he1
  exact RY h1
 .exact R1 he
end
theorem YX {R : List Id} {h : VHeap} {d j : Nat} {v : VVal} {q : VVal × List (Id × Nat × Ob)} (he : DH R h d j v = some q) : ∀ x ∈ q.2,∃ k,x.1 = .slot d k:=by
 unfold DH at he
 split at he
 ·obtain ⟨_,_,he⟩:=Aa he
  obtain ⟨_,_,he⟩:=Aa he
  simp only [osi] at he
  subst he
  intro x hx
  cases hx
 ·obtain ⟨_,_,he⟩:=Aa he
  obtain ⟨_,_,he⟩:=Aa he
  simp only [osi] at he
  subst he
  intro x hx
  cases hx
 .exact MF he
theorem Q4 {R : List Id} {h : VHeap} {d : Nat} : ∀ {vs : List VVal} {j : Nat} {q : List VVal × List (Id × Nat × Ob)},CC R h d j vs = some q -> ∀ x ∈ q.2,∃ k,x.1 = .slot d k
 | [],_,q,he=>by
  simp only [CC,osi] at he
  subst he
  intro x hx
  cases hx
 | v :: vs,j,q,he=>by
  simp only [CC] at he
  obtain ⟨r,h1,he⟩:=Aa he
  obtain ⟨rs,h2,he⟩:=Aa he
  simp only [osi] at he
  subst he
  intro x hx
  rcases lmp.1 hx with hx | hx
  .exact YX h1 x hx
  .exact Q4 h2 x hx
theorem WW {R : List Id} {h : VHeap} {d : Nat} {v : VVal} {q : VVal × List (Id × Nat × Ob)} (he : DA R h d v = some q) : ∀ x ∈ q.2,∃ k,x.1 = .slot d k:=by
 unfold DA at he
 split at he
 ·obtain ⟨_,_,he⟩:=Aa he
  obtain ⟨_,_,he⟩:=Aa he
  simp only [osi] at he
  subst he
  intro x hx
  cases hx
 ·obtain ⟨_,_,he⟩:=Aa he
  obtain ⟨_,_,he⟩:=Aa he
  simp only [osi] at he
  subst he
  intro x hx
  cases hx
 ·obtain ⟨r,h1,he⟩:=Aa he
  simp only [osi] at he
  subst he
  exact Q4 h1
 .exact P0 he
theorem KW {Γ : Sig} {h : VHeap} {d : Nat} {f : FuncId} {args : List VVal} {q : VVal × List (Id × Nat × Ob)} (he : Di Γ h d f args = some q) : ∀ x ∈ q.2,(∃ k,x.1 = .slot d k) \/ x.1 ∈ roots h args:=by
 unfold Di Dj at he
 obtain ⟨_,_,he⟩:=Aa he
 obtain ⟨_,_,he⟩:=Aa he
 obtain ⟨r,_,he⟩:=Aa he
 obtain ⟨_,he⟩:=Ad he
 obtain ⟨us,hus,he⟩:=Aa he
 obtain ⟨q1,hq,he⟩:=Aa he
 simp only [osi] at he
 subst he
 intro x hx
 simp only [lmp] at hx
 rcases hx with hx | hx
 ·right
  rw [<- (KV hus).1]
  exact List.mem_map_of_mem hx
 .exact .inl (P0 hq x hx)
theorem zaz {R : List Id} {h : VHeap} {d j : Nat} {v v' : VVal} {qs : List (Id × Nat × Ob)} (hi : inC R h d j v = some (v',qs)) : ∀ x ∈ qs,∃ k,x.1 = .slot d k:=by
 unfold inC at hi
 split at hi
 ·simp only [osi,pmi] at hi
  obtain ⟨_,rfl⟩:=hi
  intro x hx
  simp at hx
  exact ⟨j + 1,by rw [hx]⟩
 ·obtain ⟨u,_,hi⟩:=Aa hi
  simp at hi
  rw [hi.2]
  simp
theorem Q6 {R : List Id} {h : VHeap} {d : Nat} : ∀ {vs us : List VVal} {j : Nat} {qs : List (Id × Nat × Ob)},Cj R h d j vs = some (us,qs) -> ∀ x ∈ qs,∃ k,x.1 = .slot d k
 | [],us,j,qs,hi=>by
  simp [Cj] at hi
  rw [hi.2]
  simp
 | v :: vs,us,j,qs,hi=>by
  simp only [Cj] at hi
  obtain ⟨q,hq,hi⟩:=Aa hi
  obtain ⟨q',hq',hi⟩:=Aa hi
  simp at hi
  obtain ⟨_,rfl⟩:=hi
  intro x hx
  rcases lmp.1 hx with hx | hx
  .exact zaz hq x hx
  .exact Q6 hq' x hx
theorem K5 {R : List Id} {h : VHeap} {d : Nat} : ∀ {ids : List Id} {os : List Ob} {j : Nat} {us : List (Id × Nat × Ob) × List (Id × Nat × Ob)},BS R h d j ids os = some us -> (∀ x ∈ us.1,x.1 ∈ ids) /\ ∀ x ∈ us.2,∃ k,x.1 = .slot d k
  | [], [], j, us, hb=>by
    simp [BS] at hb
    subst hb
    simp
  | [], _ :: _, j, us, hb=>by simp [BS] at hb
  | _ :: _,[],j,us,hb=>by simp [BS] at hb
  | id :: ids,o :: os,j,us,hb=>by
    simp only [BS] at hb
    obtain ⟨q,_,hb⟩:=Aa hb
    split at hb
    · obtain ⟨r,hr,hb⟩:=Aa hb
      obtain ⟨us',hus,hb⟩:=Aa hb
      simp at hb
      subst hb
      obtain ⟨a1,a2⟩:=K5 hus
      refine ⟨fun x hx=>?_,fun x hx=>?_⟩
      · rcases lmk.1 hx with rfl | hx
        · exact lms ..
        · exact lmc _ (a1 x hx)
      · rcases lmp.1 hx with hx | hx
        · exact Q6 (us:=r.1) hr x hx
        · exact a2 x hx
    all_goals first
      | (obtain ⟨us',hus,hb⟩:=Aa hb
         simp at hb
         subst hb
         obtain ⟨a1,a2⟩:=K5 hus
         refine ⟨fun x hx=>?_,a2⟩
         rcases lmk.1 hx with rfl | hx
         .exact lms ..
         .exact lmc _ (a1 x hx))
      | cases hb
theorem I5 {Γ : Sig} {h : VHeap} {d : Nat} {f : FuncId} {args : List VVal} {q : VVal × List (Id × Nat × Ob)} (he : Cn Γ h d f args = some q) : ∀ x ∈ q.2,(∃ k,x.1 = .slot d k) \/ x.1 ∈ rootsW h args:=by
 unfold Cn Dh at he
 obtain ⟨_,_,he⟩:=Aa he
 obtain ⟨_,_,he⟩:=Aa he
 obtain ⟨r,_,he⟩:=Aa he
 obtain ⟨us,hus,he⟩:=Aa he
 obtain ⟨q1,hq,he⟩:=Aa he
 obtain ⟨_,he⟩:=Ad he
 simp only [osi] at he
 subst he
 obtain ⟨a1,a2⟩:=K5 hus
 intro x hx
 simp only [lmp] at hx
 rcases hx with hx | hx | hx
 .exact .inr (a1 x hx)
 .exact .inl (a2 x hx)
 .exact .inl (WW hq x hx)
theorem Wn {Γ : Sig} {look : VArg -> Option VVal} {h h' : VHeap} {d : Nat} (op : VOp) (h1 : ∀ x ∈ op.args,∀ v,look x = some v -> ∀ id ∈ ids1 v,h' id = h id)
  (h2 : (op.writes || op.isR) = true -> ∀ id ∈ (B6 op (op.args.filterMap look)).flatMap ids1 ++ callRoots h op (B6 op (op.args.filterMap look)),h' id = h id) (hd : ∀ k,h' (.slot d k) = h (.slot d k)) :
  Aj Γ look h' d op = Aj Γ look h d op:=by
 by_cases hsil : op.silent = true
 ·exact N5 hsil
 cases op <;> first | (simp [VOp.silent] at hsil; done) | skip
 all_goals simp only [VOp.args,lmk,List.not_mem_nil,or_false,forall_eq_or_imp,forall_eq] at h1
 all_goals simp only [Aj]
 case newArr=>rw [hd]
 case alloc zs=>rw [Oa zs 0 h h' hd,LH _ hd]
 case box=>rw [hd]
 case build bs=>rw [K4 bs 0 h h' hd]
 case buildSlice=>rw [hd]
 case load agg a =>
  cases hl : look a with
  | none=>simp only [Az]
  | some p =>
   simp only [Ai,GN]
   rw [Xe fun id hm=>h1 p hl id (Er hm)]
 case store n a x =>
  cases hl : look a with
  | none=>simp only [Az]
  | some p =>
   simp only [Ai]
   cases look x with
   | none=>simp only [Az]
   | some v =>
    simp only [Ai,Iu]
    rw [UW fun id hm=>h1.1 p hl id (Er hm)]
 case indexAddr sz x i =>
  cases hl : look x with
  | none=>simp only [Az]
  | some p =>
   simp only [Ai]
   cases look i with
   | none=>simp only [Az]
   | some v =>
    simp only [Ai]
    split
    ·simp only [Iv]
     rw [UX fun id hm=>h1.1 p hl id (Er hm)]
    ·rfl
 case append sz bytes s x =>
  cases hl : look s with
  | none=>simp only [Az]
  | some p =>
   simp only [Ai]
   cases hx : look x with
   | none=>simp only [Az]
   | some v =>
    simp only [Ai]
    have e2 : Ba h' v = Ba h v:=IV fun id hm=>h1.2 v hx id (Er hm)
    unfold Et
    split
    ·rename_i id ver len
     rw [h1.1 _ hl id (by simp [ids1,ids0]),e2]
    ·rfl
 case copy sz s x =>
  cases hl : look s with
  | none=>simp only [Az]
  | some p =>
   simp only [Ai]
   cases hx : look x with
   | none=>simp only [Az]
   | some v =>
    simp only [Ai]
    have e2 : Ba h' v = Ba h v:=IV fun id hm=>h1.2 v hx id (Er hm)
    unfold HC
    split
    ·rename_i id ver off len
     rw [h1.1 _ hl id (by simp [ids1,ids0]),e2]
    ·rfl
 case make=>rw [hd]
 case appendNil sz bytes x =>
  cases hx : look x with
  | none=>simp only [Az]
  | some v =>
   simp only [Ai]
   have e2 : Ba h' v = Ba h v:=IV fun id hm=>h1 v hx id (Er hm)
   unfold Ha
   rw [e2,hd]
 case slice str sz lo hi mx x =>
  cases hx : look x with
  | none=>simp only [Az]
  | some s =>
   simp only [Ai]
   have e3 : ∀ l m,DW d h' look sz l m s mx = DW d h look sz l m s mx:=fun l m=>by
    cases mx with
    | none=>simp only [DW]; exact Pm fun id hm=>h1.1 s hx id (Er hm)
    | some y =>
     simp only [DW]
     have e0 : FK d h' sz l m s = FK d h sz l m s:=by
      unfold FK
      split
      ·exact Pm fun id hm=>h1.1 _ hx id (Er hm)
      ·simp only [HB]; rw [hd]
     rw [e0]
   have e5 : D5 d h' look sz lo hi mx s = D5 d h look sz lo hi mx s:=by
    unfold D5
    cases Ee s with
    | none=>simp only [Az]
    | some n =>
     simp only [Ai]
     cases Co look 0 lo with
     | none=>simp only [Az]
     | some l =>
      simp only [Ai]
      cases Co look n hi with
      | none=>simp only [Az]
      | some m =>
       simp only [Ai]
       rw [e3]
   rw [e5]
 case lookup ok kt zero m k =>
  cases hm : look m with
  | none=>simp only [Az]
  | some v =>
   simp only [Ai]
   rw [NU fun id hi=>h1.1 v hm id (Er hi)]
 case mapUpdate kt m k x =>
  cases hm : look m with
  | none=>simp only [Az]
  | some v =>
   simp only [Ai]
   have e : ∀ id ver,v = .mref id ver -> h' id = h id:=fun id ver e=>h1.1 v hm id (by simp [e,ids1,ids0])
   cases look k with
   | none=>simp only [Az]
   | some kv =>
    simp only [Ai]
    cases look x with
    | none=>simp only [Az]
    | some xv =>
     simp only [Ai]
     cases Do kt kv with
     | none=>simp only [Az]
     | some kk =>
      simp only [Ai]
      cases Bn xv with
      | none=>simp only [Az]
      | some xx =>
       simp only [Ai]
       cases v <;> first | rfl | skip
       rename_i id ver
       simp only [e id ver rfl]
 case mapEntry kt zero m k =>
  cases hm : look m with
  | none=>simp only [Az]
  | some v =>
   simp only [Ai]
   have e : ∀ id ver,v = .mref id ver -> h' id = h id:=fun id ver e=>h1.1 v hm id (by simp [e,ids1,ids0])
   cases look k with
   | none=>simp only [Az]
   | some kv =>
    simp only [Ai]
    cases Do kt kv with
    | none=>simp only [Az]
    | some kk =>
     simp only [Ai]
     cases v <;> first | rfl | skip
     rename_i id ver
     simp only [e id ver rfl]
 case entryStore m s x =>
  cases hm : look m with
  | none=>simp only [Az]
  | some v =>
   simp only [Ai]
   have e : ∀ id ver,v = .mref id ver -> h' id = h id:=fun id ver e=>h1.1 v hm id (by simp [e,ids1,ids0])
   cases look s with
   | none=>simp only [Az]
   | some sv =>
    simp only [Ai]
    cases look x with
    | none=>simp only [Az]
    | some xv =>
     simp only [Ai]
     cases Bn xv with
     | none=>simp only [Az]
     | some xx =>
      simp only [Ai]
      cases v <;> first | rfl | skip
      rename_i id ver
      have e':=e id ver rfl
      cases sv <;> first | rfl | skip
      rename_i dd
      cases dd <;> first | rfl | skip
      rename_i kk nn
      cases kk <;> first | rfl | skip
      simp only [e']
 case makeMap=>rw [hd]
 case call f args =>
  cases hm : Af look args with
  | none=>simp only [Az]
  | some vs =>
   simp only [Ai]
   have h2':=h2 rfl
   simp only [VOp.args,DJ hm,B6,callRoots,lmp,List.mem_flatMap] at h2'
   exact KS (fun v hv id hi=>h2' id (.inl ⟨v,hv,hi⟩)) (fun id hi=>h2' id (.inr hi)) hd
 case callv x args =>
  cases hx : look x with
  | none=>simp only [Az]
  | some g =>
   simp only [Ai]
   cases hm : Af look args with
   | none=>simp only [Az]
   | some vs =>
    simp only [Ai]
    have h2':=h2 rfl
    simp only [VOp.args,List.filterMap_cons,hx,DJ hm,callRoots,lmp,List.mem_flatMap] at h2'
    split
    ·simp only [B6,lmp] at h2'
     exact KS (fun v hv id hi=>h2' id (.inl ⟨v,by simpa using hv,hi⟩)) (fun id hi=>h2' id (.inr hi)) hd
    ·simp only [B6] at h2'
     exact KS (fun v hv id hi=>h2' id (.inl ⟨v,hv,hi⟩)) (fun id hi=>h2' id (.inr hi)) hd
    ·rfl
 case callW f args =>
  cases hm : Af look args with
  | none=>simp only [Az]
  | some vs =>
   simp only [Ai]
   have h2':=h2 rfl
   simp only [VOp.args,DJ hm,B6,callRoots,lmp,List.mem_flatMap] at h2'
   exact IW (fun id hi=>h2' id (.inr hi)) hd
 case callR f args =>
  cases hm : Af look args with
  | none=>simp only [Az]
  | some vs =>
   simp only [Ai]
   have h2':=h2 rfl
   simp only [VOp.args,DJ hm,B6,callRoots,lmp,List.mem_flatMap] at h2'
   rw [IW (fun id hi=>h2' id (.inr hi)) hd]
   cases he : Cn Γ h d f vs with
   | none=>simp only [Az]
   | some q =>
    simp only [Ai]
    have e : D7 h' q.2 = D7 h q.2:=by
     have : ∀ x ∈ q.2,h' x.1 = h x.1:=fun x hx=>by
      rcases I5 he x hx with ⟨k,h0⟩ | h0
      .rw [h0]; exact hd k
      .exact h2' _ (.inr h0)
     simp only [D7]
     congr 1
     exact propext ⟨fun a x hx=>by rw [<- this x hx]; exact a x hx,fun a x hx=>by rw [this x hx]; exact a x hx⟩
    rw [e]
 case callvW x args =>
  cases hx : look x with
  | none=>simp only [Az]
  | some g =>
   simp only [Ai]
   cases hm : Af look args with
   | none=>simp only [Az]
   | some vs =>
    simp only [Ai]
    have h2':=h2 rfl
    simp only [VOp.args,List.filterMap_cons,hx,DJ hm,callRoots,lmp,List.mem_flatMap] at h2'
    split
    ·simp only [B6,lmp] at h2'
     exact IW (fun id hi=>h2' id (.inr hi)) hd
    ·simp only [B6] at h2'
     exact IW (fun id hi=>h2' id (.inr hi)) hd
    .rfl
theorem W5 {Γ : Sig} {look : VArg -> Option VVal} {h : VHeap} {d : Nat} {op : VOp} {q : VVal × List (Id × Nat × Ob)} (he : Aj Γ look h d op = some q) : ∀ x ∈ q.2,(∃ k,x.1 = .slot d k) \/
  (op.writes = true /\ ((∃ y ∈ op.args,∃ v,look y = some v /\ x.1 ∈ ids1 v) \/ x.1 ∈ callRoots h op (B6 op (op.args.filterMap look)))):=by
 by_cases hs : op.silent = true \/ op.reader = true
 ·intro x hx
  rw [K1 hs he] at hx
  cases hx
 intro x hx
 cases op <;> first | (simp [VOp.silent,VOp.reader] at hs; done) | skip
 all_goals simp only [Aj] at he
 case newArr=>simp only [osi] at he; subst he; simp at hx; exact .inl ⟨_,by rw [hx]⟩
 case makeMap=>simp only [osi] at he; subst he; simp at hx; exact .inl ⟨_,by rw [hx]⟩
 case alloc zs =>
  simp only [osi] at he
  subst he
  simp only [lmp,List.mem_singleton] at hx
  rcases hx with hx | hx
  ·exact .inl (OC zs _ _ x hx)
  ·exact .inl ⟨_,by rw [hx]⟩
 case box =>
  obtain ⟨_,_,he⟩:=Aa he
  obtain ⟨_,he⟩:=Ad he
  obtain ⟨_,he⟩:=Ad he
  simp only [osi] at he; subst he; simp at hx; exact .inl ⟨_,by rw [hx]⟩
 case build bs =>
  obtain ⟨q',hq',he⟩:=Aa he
  simp only [osi] at he
  subst he
  exact .inl (Ln bs _ _ q' hq' x hx)
 case buildSlice =>
  obtain ⟨_,_,he⟩:=Aa he
  obtain ⟨_,he⟩:=Ad he
  simp only [osi] at he; subst he; simp at hx; exact .inl ⟨_,by rw [hx]⟩
 case strBytes =>
  obtain ⟨_,_,he⟩:=Aa he
  split at he
  ·simp only [osi] at he; subst he; simp at hx
  ·cases he
 case store n a y =>
  obtain ⟨p,hp,he⟩:=Aa he
  obtain ⟨v,hv,he⟩:=Aa he
  obtain ⟨us,hus,he⟩:=Aa he
  simp only [osi] at he
  subst he
  obtain ⟨_,hus⟩:=Ad hus
  obtain ⟨_,hus⟩:=Ad hus
  refine .inr ⟨rfl,.inl ⟨a,by simp [VOp.args],p,hp,?_⟩⟩
  unfold Ep at hus
  split at hus
  ·split at hus
   ·obtain ⟨_,hus⟩:=Ad hus
    obtain ⟨_,hus⟩:=Ad hus
    simp only [osi] at hus
    subst hus
    simp at hx
    simp [hx,ids1,ids0]
   ·cases hus
  ·split at hus
   ·obtain ⟨_,hus⟩:=Ad hus
    obtain ⟨_,_,hus⟩:=Aa hus
    obtain ⟨_,_,hus⟩:=Aa hus
    obtain ⟨_,hus⟩:=Ad hus
    simp only [osi] at hus
    subst hus
    simp at hx
    simp [hx,ids1,ids0]
   ·cases hus
  ·cases hus
 case append sz bytes s y =>
  obtain ⟨p,hp,he⟩:=Aa he
  obtain ⟨v,hv,he⟩:=Aa he
  refine .inr ⟨rfl,.inl ⟨s,by simp [VOp.args],p,hp,?_⟩⟩
  unfold Et at he
  split at he
  ·split at he
   ·obtain ⟨_,he⟩:=Ad he
    obtain ⟨_,he⟩:=Ad he
    obtain ⟨_,he⟩:=Ad he
    obtain ⟨_,_,he⟩:=Aa he
    obtain ⟨_,he⟩:=Ad he
    obtain ⟨_,he⟩:=Ad he
    obtain ⟨_,he⟩:=Ad he
    simp only [osi] at he
    subst he
    simp at hx
    simp [hx,ids1,ids0]
   ·cases he
  ·cases he
 case copy sz s y =>
  obtain ⟨p,hp,he⟩:=Aa he
  obtain ⟨v,hv,he⟩:=Aa he
  refine .inr ⟨rfl,.inl ⟨s,by simp [VOp.args],p,hp,?_⟩⟩
  unfold HC at he
  split at he
  ·split at he
   ·obtain ⟨_,he⟩:=Ad he
    obtain ⟨_,he⟩:=Ad he
    obtain ⟨_,_,he⟩:=Aa he
    obtain ⟨_,he⟩:=Ad he
    simp only [osi] at he
    subst he
    simp at hx
    simp [hx,ids1,ids0]
   ·cases he
  ·cases he
 case make sz bytes zero y =>
  obtain ⟨p,hp,he⟩:=Aa he
  split at he
  ·obtain ⟨_,he⟩:=Ad he
   obtain ⟨_,he⟩:=Ad he
   obtain ⟨_,he⟩:=Ad he
   simp only [osi] at he
   subst he
   simp at hx
   exact .inl ⟨_,by rw [hx]⟩
  ·cases he
 case appendNil sz bytes y =>
  obtain ⟨v,hv,he⟩:=Aa he
  unfold Ha at he
  obtain ⟨_,_,he⟩:=Aa he
  obtain ⟨_,he⟩:=Ad he
  obtain ⟨_,he⟩:=Ad he
  obtain ⟨_,he⟩:=Ad he
  simp only [osi] at he
  subst he
  simp at hx
  exact .inl ⟨_,by rw [hx]⟩
 case slice str sz lo hi mx y =>
  obtain ⟨s,hs',he⟩:=Aa he
  unfold br at he
  split at he
  ·unfold Fy at he
   obtain ⟨_,_,he⟩:=Aa he
   obtain ⟨_,_,he⟩:=Aa he
   obtain ⟨_,_,he⟩:=Aa he
   obtain ⟨_,he⟩:=Ad he
   obtain ⟨_,he⟩:=Ad he
   unfold Kl at he
   split at he
   ·simp only [osi] at he; subst he; simp at hx
   ·cases he
  ·unfold D5 at he
   obtain ⟨_,_,he⟩:=Aa he
   obtain ⟨_,_,he⟩:=Aa he
   obtain ⟨_,_,he⟩:=Aa he
   obtain ⟨_,he⟩:=Ad he
   obtain ⟨_,he⟩:=Ad he
   unfold DW at he
   split at he
   ·unfold DF at he
    split at he
    ·obtain ⟨_,he⟩:=Ad he
     simp only [osi] at he; subst he; simp at hx
    ·split at he
     ·obtain ⟨_,he⟩:=Ad he
      obtain ⟨_,he⟩:=Ad he
      simp only [osi] at he; subst he; simp at hx
     ·cases he
    ·cases he
   ·obtain ⟨_,_,he⟩:=Aa he
    obtain ⟨_,_,he⟩:=Aa he
    obtain ⟨_,he⟩:=Ad he
    unfold FK at he
    split at he
    ·simp only [DF] at he
     split at he
     ·obtain ⟨_,he⟩:=Ad he
      obtain ⟨_,he⟩:=Ad he
      simp only [osi] at he; subst he; simp at hx
     .cases he
    ·obtain ⟨_,he⟩:=Ad he
     simp only [HB,osi] at he
     subst he
     simp at hx
     exact .inl ⟨_,by rw [hx]⟩
 case mapEntry kt zero m k =>
  obtain ⟨mv,hm,he⟩:=Aa he
  obtain ⟨_,_,he⟩:=Aa he
  obtain ⟨_,_,he⟩:=Aa he
  refine .inr ⟨rfl,.inl ⟨m,by simp [VOp.args],mv,hm,?_⟩⟩
  split at he
  ·split at he
   ·obtain ⟨_,he⟩:=Ad he
    obtain ⟨_,he⟩:=Ad he
    simp only [osi] at he
    subst he
    simp at hx
    simp [hx,ids1,ids0]
   ·cases he
  ·cases he
 case entryStore m s y =>
  obtain ⟨mv,hm,he⟩:=Aa he
  obtain ⟨_,_,he⟩:=Aa he
  obtain ⟨_,_,he⟩:=Aa he
  obtain ⟨_,_,he⟩:=Aa he
  refine .inr ⟨rfl,.inl ⟨m,by simp [VOp.args],mv,hm,?_⟩⟩
  split at he
  ·split at he
   ·obtain ⟨_,he⟩:=Ad he
    obtain ⟨_,he⟩:=Ad he
    obtain ⟨_,he⟩:=Ad he
    simp only [osi] at he
    subst he
    simp at hx
    simp [hx,ids1,ids0]
   ·cases he
  ·cases he
 case mapUpdate kt m k y =>
  obtain ⟨mv,hm,he⟩:=Aa he
  obtain ⟨_,_,he⟩:=Aa he
  obtain ⟨_,_,he⟩:=Aa he
  obtain ⟨_,_,he⟩:=Aa he
  obtain ⟨_,_,he⟩:=Aa he
  refine .inr ⟨rfl,.inl ⟨m,by simp [VOp.args],mv,hm,?_⟩⟩
  split at he
  ·split at he
   ·obtain ⟨_,he⟩:=Ad he
    obtain ⟨_,he⟩:=Ad he
    simp only [osi] at he
    subst he
    simp at hx
    simp [hx,ids1,ids0]
   .cases he
  ·cases he
 case call f args =>
  obtain ⟨vs,hvs,he⟩:=Aa he
  rcases KW he x hx with h0 | h0
  ·exact .inl h0
  ·exact .inr ⟨rfl,.inr (by simpa only [VOp.args,DJ hvs,B6,callRoots] using h0)⟩
 case callv y args =>
  obtain ⟨g,hg,he⟩:=Aa he
  obtain ⟨vs,hvs,he⟩:=Aa he
  split at he
  ·rcases KW he x hx with h0 | h0
   .exact .inl h0
   .exact .inr ⟨rfl,.inr (by simpa only [VOp.args,List.filterMap_cons,hg,DJ hvs,B6,callRoots] using h0)⟩
  ·rcases KW he x hx with h0 | h0
   .exact .inl h0
   .exact .inr ⟨rfl,.inr (by simpa only [VOp.args,List.filterMap_cons,hg,DJ hvs,B6,callRoots] using h0)⟩
  ·cases he
 case callW f args =>
  obtain ⟨vs,hvs,he⟩:=Aa he
  rcases I5 he x hx with h0 | h0
  ·exact .inl h0
  ·exact .inr ⟨rfl,.inr (by simpa only [VOp.args,DJ hvs,B6,callRoots] using h0)⟩
 case callvW y args =>
  obtain ⟨g,hg,he⟩:=Aa he
  obtain ⟨vs,hvs,he⟩:=Aa he
  split at he
  ·rcases I5 he x hx with h0 | h0
   .exact .inl h0
   .exact .inr ⟨rfl,.inr (by simpa only [VOp.args,List.filterMap_cons,hg,DJ hvs,B6,callRoots] using h0)⟩
  ·rcases I5 he x hx with h0 | h0
   .exact .inl h0
   .exact .inr ⟨rfl,.inr (by simpa only [VOp.args,List.filterMap_cons,hg,DJ hvs,B6,callRoots] using h0)⟩
  .cases he
end Go.V
namespace Go.V
def VOper.uses (o : VOper) : List VArg:=o.op.args ++ (match o.guard with
 | some (g,_)=>[g]
 | none=>[])
theorem Py {Γ : Sig} {look look' : VArg -> Option VVal} {h : VHeap} {o : VOper} (hx : ∀ x ∈ o.uses,look' x = look x) : B7 Γ look' h o = B7 Γ look h o:=by
 have ha : ∀ x ∈ o.op.args,look' x = look x:=fun x hm=>hx x (by simp [VOper.uses,hm])
 unfold B7
 split
 ·exact O6 _ ha
 ·rename_i g want hg
  have : look' g = look g:=hx g (by simp [VOper.uses,hg])
  rw [this,O6 _ ha]
theorem NY {α β : Type} {f g : α -> Option β} : ∀ {l : List α},(∀ x ∈ l,f x = g x) -> l.filterMap f = l.filterMap g
 | [],_=>rfl
 | x :: xs,h=>by
  rw [List.filterMap_cons,List.filterMap_cons,h x (lms ..),NY fun y hy=>h y (lmc _ hy)]
theorem OI {look look' : VArg -> Option VVal} {h : VHeap} {o : VOper} (hx : ∀ x ∈ o.uses,look' x = look x) : touchF look' h o = touchF look h o:=by
 have ha : o.op.args.filterMap look' = o.op.args.filterMap look:=NY fun x hm=>hx x (by simp [VOper.uses,hm])
 simp only [touchF,ha]
theorem QY {look : VArg -> Option VVal} {h : VHeap} {o : VOper} {x : VArg} (hx : x ∈ o.op.args) {v : VVal} (hv : look x = some v) {id : Id} (hi : id ∈ ids1 v) : id ∈ touchF look h o:=by
 simp only [touchF,lmp,List.mem_flatMap,List.mem_filterMap]
 exact .inl ⟨v,⟨x,hx,hv⟩,hi⟩
theorem Oc {look : VArg -> Option VVal} {h : VHeap} {o : VOper} (hw : (o.op.writes || o.op.isR) = true) {id : Id} (hi : id ∈ (B6 o.op (o.op.args.filterMap look)).flatMap ids1 ++ callRoots h o.op (B6 o.op (o.op.args.filterMap look))) : id ∈ touchF look h o:=by
 simp only [touchF,hw,if_true]
 exact lmp.2 (.inr hi)
theorem OO {Γ : Sig} {look : VArg -> Option VVal} {h h' : VHeap} {o : VOper} (ht : ∀ id ∈ touchF look h o,h' id = h id) (hd : ∀ k,h' (.slot o.dst.slot k) = h (.slot o.dst.slot k)) :
  B7 Γ look h' o = B7 Γ look h o:=by
 have:=Wn (Γ:=Γ) (look:=look) (h:=h) (h':=h') (d:=o.dst.slot) o.op (fun x hx v hv id hi=>ht id (QY hx hv hi)) (fun hw id hi=>ht id (Oc hw hi)) hd
 unfold B7
 rw [this]
theorem Oe {look : VArg -> Option VVal} {h h' : VHeap} {o : VOper} (ht : ∀ id ∈ touchF look h o,h' id = h id) : touchF look h' o = touchF look h o:=by
 simp only [touchF] at ht ⊢
 split
 ·rename_i hw
  rw [if_pos hw] at ht
  rw [UV fun id hi=>ht id (by simp [hi])]
 .rfl
theorem Oi {Γ : Sig} {look : VArg -> Option VVal} {h h' : VHeap} {o : VOper} (hs : o.op.silent = true) : B7 Γ look h' o = B7 Γ look h o:=by
 unfold B7
 rw [N5 (h:=h) (h':=h') hs]
theorem Od {look : VArg -> Option VVal} {h h' : VHeap} {o : VOper} (hs : o.op.silent = true) : touchF look h' o = touchF look h o:=by
 have : (o.op.writes || o.op.isR) = false:=by cases ho : o.op <;> simp_all [VOp.silent,VOp.writes,VOp.isR]
 simp [touchF,this]
theorem I8 {Γ : Sig} {look : VArg -> Option VVal} {h : VHeap} {o : VOper} (hs : o.op.silent = true \/ o.op.reader = true) {q : VVal × List (Id × Nat × Ob)} (he : B7 Γ look h o = some q) : q.2 = []:=by
 unfold B7 at he
 split at he
 ·exact K1 hs he
 ·split at he
  ·split at he
   .exact K1 hs he
   .simp at he; subst he; rfl
  .simp at he; subst he; rfl
  .cases he
theorem XX {t : List Id} : ∀ i ∈ headFp t,i ∈ t:=by
 cases t with
 | nil=>intro i h; exact h
 | cons a t =>
  intro i h
  simp only [headFp,List.mem_singleton] at h
  simp [h]
theorem Ib {op : VOp} {t : List Id} : ∀ i ∈ op.wrFp t,i ∈ t:=by
 unfold VOp.wrFp
 split
 .exact XX
 .exact fun _ h=>h
theorem Xc {Γ : Sig} {look : VArg -> Option VVal} {h : VHeap} {d sz bytes : Nat} {s y : VArg} {q : VVal × List (Id × Nat × Ob)} (he : Aj Γ look h d (.append sz bytes s y) = some q) : ∃ id ver len,look s = some (.own id ver 0 len) /\ ∀ x ∈ q.2,x.1 = id:=by
 simp only [Aj] at he
 obtain ⟨p,hp,he⟩:=Aa he
 obtain ⟨v,hv,he⟩:=Aa he
 unfold Et at he
 split at he
 ·split at he
  ·obtain ⟨_,he⟩:=Ad he
   obtain ⟨_,he⟩:=Ad he
   obtain ⟨_,he⟩:=Ad he
   obtain ⟨_,_,he⟩:=Aa he
   obtain ⟨_,he⟩:=Ad he
   obtain ⟨_,he⟩:=Ad he
   obtain ⟨_,he⟩:=Ad he
   simp only [osi] at he
   subst he
   exact ⟨_,_,_,hp,fun x hx=>by
    simp only [List.mem_singleton] at hx
    rw [hx]⟩
  .cases he
 .cases he
theorem Pz {Γ : Sig} {look : VArg -> Option VVal} {h : VHeap} {o : VOper} {q : VVal × List (Id × Nat × Ob)} (he : B7 Γ look h o = some q) : ∀ id ∈ q.2.map (·.1),(∃ k,id = .slot o.dst.slot k) \/ (o.op.writes = true /\ id ∈ o.op.wrFp (touchF look h o)):=by
 have main : Aj Γ look h o.dst.slot o.op = some q -> ∀ id ∈ q.2.map (·.1),(∃ k,id = .slot o.dst.slot k) \/ (o.op.writes = true /\ id ∈ o.op.wrFp (touchF look h o)):=fun he id hm=>by
  obtain ⟨x,hx,rfl⟩:=lmm.1 hm
  by_cases ha : ∃ sz bytes s y,o.op = .append sz bytes s y
  ·obtain ⟨sz,bytes,s,y,ha⟩:=ha
   rw [ha] at he
   obtain ⟨id,ver,len,hl,hk⟩:=Xc he
   refine .inr ⟨by rw [ha]; rfl,?_⟩
   rw [hk x hx,ha]
   have ht : ∃ t,touchF look h o = id :: t:=by
    simp only [touchF,ha,VOp.args,List.filterMap_cons,hl,lfc,ids1,ids0,lca,lna]
    exact ⟨_,rfl⟩
   obtain ⟨t,ht⟩:=ht
   rw [ht]
   simp [VOp.wrFp,headFp]
  ·have hw : o.op.wrFp (touchF look h o) = touchF look h o:=by
    unfold VOp.wrFp
    split
    ·rename_i heq
     exact absurd ⟨_,_,_,_,heq⟩ ha
    .rfl
   rw [hw]
   rcases W5 he x hx with h0 | ⟨h1,⟨y,hy,v,hv,hi⟩ | h2⟩
   .exact .inl h0
   .exact .inr ⟨h1,QY hy hv hi⟩
   .exact .inr ⟨h1,Oc (by rw [h1]; rfl) (lmp.2 (.inr h2))⟩
 unfold B7 at he
 split at he
 ·exact main he
 ·split at he
  ·split at he
   .exact main he
   .simp at he; subst he; simp
  .simp at he; subst he; simp
  .cases he
theorem zau {r : RS} {d : VDst} {v : VVal} {x : VArg} (h : d = .none \/ d ∉ x.slot?) : (r.put d v).look x = r.look x:=by
 cases d with
 | none=>rfl
 | v s =>
  cases x <;> simp [RS.put,RS.look,VArg.slot?,Ef] at h ⊢
  intro e; exact absurd e.symm h
 | t s =>
  cases x <;> simp [RS.put,RS.look,VArg.slot?,Fb] at h ⊢
  intro e; exact absurd e.symm h
theorem RV {r : RS} {o : VOper} {q : VVal × List (Id × Nat × Ob)} {x : VArg} (h : o.dst = .none \/ o.dst ∉ x.slot?) : (r.app o q).look x = r.look x:=by
 rw [<- zau (r:=r) (v:=q.1) h]
 cases x <;> rfl
theorem PK {o : VOper} {d : VDst} (h : d ∉ o.reads) : ∀ x ∈ o.uses,d ∉ x.slot?:=by
 intro x hx hd
 apply h
 simp only [VOper.reads,lmp,List.mem_flatMap]
 simp only [VOper.uses,lmp] at hx
 rcases hx with hx | hx
 ·exact .inl ⟨x,hx,hd⟩
 ·right
  split at hx
  ·rename_i g w hg
   simp at hx
   subst hx
   rw [hg]
   exact hd
  .cases hx
def HH (o o' : VOper) (t t' : List Id) : Prop :=
 Jn o o' = true /\ (o.op.silent = true \/ o'.op.silent = true \/ (o.op.reader = true /\ o'.op.reader = true) \/ E3 o o' t t' = true)
theorem Z2 (r : RS) {d d' : VDst} (v v' : VVal) (h : d = .none \/ d ≠ d') : (r.put d v).put d' v' = (r.put d' v').put d v:=by
 cases d <;> cases d' <;> simp only [RS.put]
 ·rename_i s s'
  have : s ≠ s':=fun e=>by simp [e] at h
  congr 1
  funext t
  simp only [Ef]
  by_cases h1 : t = s <;> by_cases h2 : t = s' <;> simp [h1,h2]
  .exact absurd (h1.symm.trans h2) this
  .intro e; exact absurd e this
  .intro e; exact absurd e.symm this
 ·rename_i s s'
  have : s ≠ s':=fun e=>by simp [e] at h
  congr 1
  funext t
  simp only [Fb]
  by_cases h1 : t = s <;> by_cases h2 : t = s' <;> simp [h1,h2]
  .exact absurd (h1.symm.trans h2) this
  .intro e; exact absurd e this
  .intro e; exact absurd e.symm this
theorem SS (r : RS) (o o' : VOper) (q q' : VVal × List (Id × Nat × Ob)) : (r.app o q).app o' q' = { (r.put o.dst q.1).put o'.dst q'.1 with h:=(r.h.upds q.2).upds q'.2 }:=by
 unfold RS.app
 cases o'.dst <;> rfl
theorem swap {Γ : Sig} {r : RS} {o o' : VOper} {q q' : VVal × List (Id × Nat × Ob)} (h : C7 Γ o r = some q) (h' : C7 Γ o' (r.app o q) = some q') (ha : HH o o' (Bl r o) (Bl (r.app o q) o')) :
  C7 Γ o' r = some q' /\ Bl r o' = Bl (r.app o q) o' /\ C7 Γ o (r.app o' q') = some q /\ Bl (r.app o' q') o = Bl r o /\ (r.app o' q').app o q = (r.app o q).app o' q':=by
 obtain ⟨hsl,hmem⟩:=ha
 simp only [Jn,bat,bot,beq_iff_eq,bne_iff_ne,Bool.not_eq_true',<- Bool.not_eq_true,List.contains_iff_mem] at hsl
 obtain ⟨hs1,hs2⟩:=hsl
 have L1 : ∀ x ∈ o'.uses,(r.app o q).look x = r.look x:=fun x hx=>RV (by
  rcases hs1 with e | ⟨_,e⟩
  ·exact .inl e
  ·exact .inr (PK e x hx))
 have L2 : ∀ x ∈ o.uses,(r.app o' q').look x = r.look x:=fun x hx=>RV (by
  rcases hs2 with e | e
  ·exact .inl e
  ·exact .inr (PK e x hx))
 have hput : (r.put o.dst q.1).put o'.dst q'.1 = (r.put o'.dst q'.1).put o.dst q.1:=Z2 r _ _ (by
  rcases hs1 with e | ⟨e,_⟩
  ·exact .inl e
  ·exact .inr e)
 have hh1 : (r.app o q).h = r.h.upds q.2:=rfl
 have hh2 : (r.app o' q').h = r.h.upds q'.2:=rfl
 have fin : B7 Γ (r.app o q).look r.h o' = B7 Γ (r.app o q).look (r.app o q).h o' -> touchF (r.app o q).look r.h o' = touchF (r.app o q).look (r.app o q).h o' ->
   (B7 Γ r.look r.h o' = some q' -> touchF r.look r.h o' = Bl (r.app o q) o' -> B7 Γ r.look (r.app o' q').h o = B7 Γ r.look r.h o /\ touchF r.look (r.app o' q').h o = touchF r.look r.h o /\ (r.h.upds q.2).upds q'.2 = (r.h.upds q'.2).upds q.2) ->
   C7 Γ o' r = some q' /\ Bl r o' = Bl (r.app o q) o' /\ C7 Γ o (r.app o' q') = some q /\ Bl (r.app o' q') o = Bl r o /\ (r.app o' q').app o q = (r.app o q).app o' q':=fun m1 m2 m3=>by
  have e1 : C7 Γ o' r = some q':=by rw [<- h',C7,C7,<- m1,Py L1]
  have e2 : Bl r o' = Bl (r.app o q) o':=by rw [Bl,Bl,<- m2,OI L1]
  obtain ⟨m4,m5,m6⟩:=m3 e1 e2
  refine ⟨e1,e2,?_,?_,?_⟩
  ·rw [C7,Py L2,m4]; exact h
  ·rw [Bl,OI L2,m5]; rfl
  ·rw [SS,SS,hput,m6]
 by_cases hso : o.op.silent = true
 ·have e : q.2 = []:=I8 (.inl hso) h
  have hr : (r.app o q).h = r.h:=by rw [hh1,e]; rfl
  rw [hr] at fin
  refine fin rfl rfl fun _ _=>⟨Oi hso,Od hso,?_⟩
  rw [e]; rfl
 by_cases hso' : o'.op.silent = true
 ·refine fin (Oi hso') (Od hso') fun he _=>?_
  have e : q'.2 = []:=I8 (.inl hso') he
  have hr : (r.app o' q').h = r.h:=by rw [hh2,e]; rfl
  rw [hr,e]
  exact ⟨rfl,rfl,rfl⟩
 by_cases hrd : o.op.reader = true /\ o'.op.reader = true
 ·have e : q.2 = []:=I8 (.inr hrd.1) h
  have hr : (r.app o q).h = r.h:=by rw [hh1,e]; rfl
  rw [hr] at fin
  refine fin rfl rfl fun he _=>?_
  have e' : q'.2 = []:=I8 (.inr hrd.2) he
  have hr' : (r.app o' q').h = r.h:=by rw [hh2,e']; rfl
  rw [hr',e,e']
  exact ⟨rfl,rfl,rfl⟩
 have hfp : E3 o o' (Bl r o) (Bl (r.app o q) o') = true:=by
  rcases hmem with h0 | h0 | h0 | h0
  ·exact absurd h0 hso
  ·exact absurd h0 hso'
  ·exact absurd h0 hrd
  ·exact h0
 simp only [E3,bat,bot,Bool.not_eq_true',List.all_eq_true,bne_iff_ne,<- Bool.not_eq_true,List.contains_iff_mem] at hfp
 obtain ⟨⟨⟨⟨f1,f2⟩,f3⟩,f4⟩,f5⟩:=hfp
 have at_ : ∀ d k,(Id.slot d k).at d = true:=fun d k=>by simp [Id.at]
 have k1:=Pz h
 have m1 : ∀ id ∈ touchF (r.app o q).look (r.app o q).h o',r.h id = (r.app o q).h id:=fun id hm=>by
  rw [hh1,Ck]
  intro hk
  rcases k1 id hk with ⟨k,rfl⟩ | ⟨hw,ht⟩
  ·exact f4 _ hm (at_ _ _)
  ·rcases f1 with f1 | f1
   ·exact f1 hw
   ·exact f1 id ht hm
 refine fin (OO m1 fun k=>?_) (Oe m1) fun he ht'=>?_
 ·rw [hh1,Ck]
  intro hk
  rcases k1 _ hk with ⟨k',e⟩ | ⟨hw,ht⟩
  ·simp at e
   exact f5 e.1.symm
  ·exact f3 _ (Ib _ ht) (at_ _ _)
 ·have k2:=Pz he
  rw [ht'] at k2
  have m2 : ∀ id ∈ touchF r.look r.h o,(r.app o' q').h id = r.h id:=fun id hm=>by
   rw [hh2,Ck]
   intro hk
   rcases k2 id hk with ⟨k,rfl⟩ | ⟨hw,ht⟩
   ·exact f3 _ hm (at_ _ _)
   ·rcases f2 with f2 | f2
    ·exact f2 hw
    ·exact f2 id ht hm
  refine ⟨OO m2 fun k=>?_,Oe m2,Yi _ _ _ fun id h1 h2=>?_⟩
  ·rw [hh2,Ck]
   intro hk
   rcases k2 _ hk with ⟨k',e⟩ | ⟨hw,ht⟩
   ·simp at e
    exact f5 e.1
   ·exact f4 _ (Ib _ ht) (at_ _ _)
  ·rcases k1 id h1 with ⟨k,rfl⟩ | ⟨hw,ht⟩
   ·rcases k2 _ h2 with ⟨k',e⟩ | ⟨hw',ht''⟩
    ·simp at e
     exact f5 e.1
    ·exact f4 _ (Ib _ ht'') (at_ _ _)
   ·rcases k2 _ h2 with ⟨k',rfl⟩ | ⟨hw',ht''⟩
    ·exact f3 _ (Ib _ ht) (at_ _ _)
    ·rcases f1 with f1 | f1
     .exact f1 hw
     .exact f1 id ht (Ib _ ht'')
abbrev RE:=Nat × VOper × List Id
def Runs (Γ : Sig) : List RE -> RS -> RS -> Prop
 | [],r,rn=>r = rn
 | e :: L,r,rn=>Bl r e.2.1 = e.2.2 /\ ∃ q,C7 Γ e.2.1 r = some q /\ Runs Γ L (r.app e.2.1 q) rn
theorem Runs.front {Γ : Sig} : ∀ (A : List RE) (e : RE) (B : List RE) (r rn : RS),Runs Γ (A ++ e :: B) r rn -> (∀ x ∈ A,HH x.2.1 e.2.1 x.2.2 e.2.2) -> Runs Γ (e :: (A ++ B)) r rn
 | [],_,_,_,_,h,_=>h
 | x :: A,e,B,r,rn,h,ha=>by
  obtain ⟨ht,q,hq,h⟩:=h
  obtain ⟨ht',q',hq',h⟩:=Runs.front A e B _ rn h fun y hy=>ha y (lmc _ hy)
  obtain ⟨s1,s2,s3,s4,s5⟩:=swap hq hq' (by rw [ht,ht']; exact ha x (lms ..))
  refine ⟨by rw [s2,ht'],q',s1,by rw [s4,ht],q,s3,?_⟩
  rw [s5]
  exact h
theorem PH {Γ : Sig} {fp : List (Nat × Nat)} : ∀ (os : List VOper) (i : Nat) (r rn : RS) (acc : List RE),BG Γ fp i os r acc = some rn ->
  ∃ L : List RE,L.map (·.2.1) = os /\ L.map (·.1) = List.range' i os.length /\ Runs Γ L r rn /\ (∀ x ∈ acc,∀ e ∈ L,fp.contains (x.1,e.1) = true -> E3 x.2.1 e.2.1 x.2.2 e.2.2 = true) /\
   L.Pairwise fun x e=>fp.contains (x.1,e.1) = true -> E3 x.2.1 e.2.1 x.2.2 e.2.2 = true
 | [], i, r, rn, acc, h=>by
  simp [BG] at h
  exact ⟨[],rfl,rfl,h,by simp,.nil⟩
 | o :: os,i,r,rn,acc,h=>by
  have hchk : ∀ acc : List RE,FB fp i o (Bl r o) acc = true -> ∀ x ∈ acc,fp.contains (x.1,i) = true -> E3 x.2.1 o x.2.2 (Bl r o) = true:=by
   intro acc
   induction acc with
   | nil=>intro _ x hx; cases hx
   | cons y ys ih =>
    intro hc x hx hf
    obtain ⟨a,o',t'⟩:=y
    simp only [FB] at hc
    rcases lmk.1 hx with rfl | hx
    ·simp only at hf
     rw [if_pos hf] at hc
     simp only [bat] at hc
     exact hc.1
    ·split at hc
     ·simp only [bat] at hc
      exact ih hc.2 x hx hf
     .exact ih hc x hx hf
  have hmain : (fpR fp i = true -> FB fp i o (Bl r o) acc = true) /\ (ob (BU Γ o r) fun r'=>BG Γ fp (i + 1) os r' (FG fp i o r acc)) = some rn:=by
   simp only [BG] at h
   split at h
   ·obtain ⟨hc,h⟩:=Ad h
    exact ⟨fun _=>hc,h⟩
   ·rename_i hn
    exact ⟨fun e=>absurd e hn,h⟩
  obtain ⟨hc,h⟩:=hmain
  obtain ⟨r1,h1,h⟩:=Aa h
  obtain ⟨q,hq,rfl⟩:=Rz h1
  obtain ⟨L,l1,l2,l3,l4,l5⟩:=PH os (i + 1) _ rn _ h
  have hsub : ∀ x ∈ acc,x ∈ FG fp i o r acc:=fun x hx=>by
   unfold FG
   split
   ·exact lmc _ hx
   ·exact hx
  have hin : ∀ b,fp.contains (i,b) = true -> (i,o,Bl r o) ∈ FG fp i o r acc:=fun b hb=>by
   unfold FG
   rw [if_pos]
   ·exact lms ..
   ·simp only [fpL,List.any_eq_true]
    exact ⟨(i,b),List.contains_iff_mem.1 hb,by simp⟩
  refine ⟨(i,o,Bl r o) :: L,by simp [l1],by simp [l2,List.range'_succ],⟨rfl,q,hq,l3⟩,fun x hx e he=>?_,?_⟩
  ·rcases lmk.1 he with rfl | he
   ·intro hf
    refine hchk acc (hc ?_) x hx hf
    simp only [fpR,List.any_eq_true]
    exact ⟨(x.1,i),List.contains_iff_mem.1 hf,by simp⟩
   .exact l4 x (hsub x hx) e he
  .refine lpw.2 ⟨fun e he hf=>l4 (i,o,Bl r o) (hin _ hf) e he hf,l5⟩
theorem OU {Γ : Sig} : ∀ (os : List VOper) (i : Nat) (r rn : RS),BT Γ os r = some rn ->
  ∃ L : List RE,L.map (·.2.1) = os /\ L.map (·.1) = List.range' i os.length /\ Runs Γ L r rn
 | [],i,r,rn,h=>by
  simp [BT] at h
  exact ⟨[],rfl,rfl,h⟩
 | o :: os,i,r,rn,h=>by
  simp only [BT] at h
  obtain ⟨r1,h1,h⟩:=Aa h
  obtain ⟨q,hq,rfl⟩:=Rz h1
  obtain ⟨L,l1,l2,l3⟩:=OU os (i + 1) _ rn h
  exact ⟨(i,o,Bl r o) :: L,by simp [l1],by simp [l2,List.range'_succ],⟨rfl,q,hq,l3⟩⟩
end Go.V
namespace Go.V
open Go.RowKit
section
variable [GK]
theorem Rb {acc : Array Nat} {i : Nat} : ∀ (l : List Edge) (s : Nat),(l.foldl (fun s e=>if Region.binds .any e then s ||| 2 ^ e.on ||| acc.getD e.on 0 else s) s).testBit i = true ->
  s.testBit i = true \/ ∃ e ∈ l,Region.binds .any e = true /\ (i = e.on \/ (acc.getD e.on 0).testBit i = true)
 | [],s,h=>.inl h
 | e :: l,s,h=>by
  simp only [List.foldl_cons] at h
  rcases Rb l _ h with h0 | ⟨e',he',hb,h1⟩
  ·split at h0
   ·rename_i hb
    simp only [Nat.testBit_or,Nat.testBit_two_pow,bot,decide_eq_true_eq] at h0
    rcases h0 with (h0 | h0) | h0
    .exact .inl h0
    .exact .inr ⟨e,lms ..,hb,.inl h0.symm⟩
    .exact .inr ⟨e,lms ..,hb,.inr h0⟩
   .exact .inl h0
  .exact .inr ⟨e',lmc _ he',hb,h1⟩
def D4 (acc : Array Nat) (o : Oper) : Array Nat:=acc.push (o.after.toList.foldl (fun s e=>if Region.binds .any e then s ||| 2 ^ e.on ||| acc.getD e.on 0 else s) 0)
theorem Wf {acc : Array Nat} {x k : Nat} (h : k < acc.size) : (acc.push x).getD k 0 = acc.getD k 0:=by
 simp [agd,Array.getElem?_push,Nat.ne_of_lt h]
theorem Wg {acc : Array Nat} {x : Nat} : (acc.push x).getD acc.size 0 = x:=by
 simp [agd]
theorem R9 : ∀ (l : List Oper) (acc : Array Nat),(∀ k,k < acc.size -> (l.foldl D4 acc).getD k 0 = acc.getD k 0) /\
  ∀ m o,l[m]? = some o -> ∀ i,((l.foldl D4 acc).getD (acc.size + m) 0).testBit i = true -> ∃ e ∈ o.after,Region.binds .any e = true /\ (i = e.on \/ (e.on < acc.size + m /\ ((l.foldl D4 acc).getD e.on 0).testBit i = true))
 | [], acc=>⟨fun _ _=>rfl, fun m o h=>by simp at h⟩
 | o :: l,acc=>by
  obtain ⟨h1,h2⟩:=R9 l (D4 acc o)
  have hs : (D4 acc o).size = acc.size + 1:=by simp [D4]
  simp only [List.foldl_cons]
  have h1' : ∀ k,k < acc.size -> (l.foldl D4 (D4 acc o)).getD k 0 = acc.getD k 0:=fun k hk=>by
   rw [h1 k (by omega)]
   exact Wf hk
  refine ⟨h1',fun m o' ho i hi=>?_⟩
  cases m with
  | zero =>
   simp at ho
   subst ho
   rw [Nat.add_zero] at hi ⊢
   rw [h1 acc.size (by omega)] at hi
   rw [D4,Wg] at hi
   rcases Rb _ _ hi with h0 | ⟨e,he,hb,h0⟩
   ·simp at h0
   ·refine ⟨e,by simpa using he,hb,?_⟩
    rcases h0 with h0 | h0
    ·exact .inl h0
    ·right
     have hlt : e.on < acc.size:=by
      rcases Nat.lt_or_ge e.on acc.size with h | h
      .exact h
      .simp [agd,Array.getElem?_eq_none h] at h0
     exact ⟨hlt,by rw [h1' _ hlt]; exact h0⟩
  | succ m =>
   simp at ho
   have:=h2 m o' ho i (by rw [hs,show acc.size + 1 + m = acc.size + (m + 1) by omega]; exact hi)
   obtain ⟨e,he,hb,h0⟩:=this
   refine ⟨e,he,hb,?_⟩
   rcases h0 with h0 | ⟨h3,h4⟩
   .exact .inl h0
   .exact .inr ⟨by omega,h4⟩
theorem Zi (ops : Array Oper) : Region.before ops = ops.toList.foldl D4 #[]:=by
 unfold Region.before
 rw [<- Array.foldl_toList]
 congr 1
 funext acc o
 unfold D4
 rw [<- Array.foldl_toList]
theorem Xa {ops : Array Oper} {j i : Nat} {o : Oper} (ho : ops[j]? = some o) (hi : ((Region.before ops).getD j 0).testBit i = true) : ∃ e ∈ o.after,Region.binds .any e = true /\ (i = e.on \/ (e.on < j /\ ((Region.before ops).getD e.on 0).testBit i = true)):=by
 rw [Zi] at hi ⊢
 have:=(R9 ops.toList #[]).2 j o (by simpa using ho) i (by simpa using hi)
 simpa using this
theorem VV {ops : Array Oper} {listed : Array Bool} (hdown : ∀ (j : Nat) (o : Oper),ops[j]? = some o -> listed.getD j false = true -> ∀ e ∈ o.after,Region.binds .any e = true -> listed.getD e.on false = true) :
  ∀ (j : Nat) (o : Oper),ops[j]? = some o -> (∀ e ∈ o.after,Region.binds .any e = true -> listed.getD e.on false = true) -> ∀ i,((Region.before ops).getD j 0).testBit i = true -> listed.getD i false = true:=by
 intro j
 induction j using Nat.strongRecOn with
 | _ j ih =>
  intro o ho hall i hi
  obtain ⟨e,he,hb,h0⟩:=Xa ho hi
  rcases h0 with rfl | ⟨hlt,h0⟩
  ·exact hall e he hb
  ·have hj : j < ops.size:=(ags.1 ho).1
   have ho' : ops[e.on]? = some ops[e.on]:=aggz (by omega)
   exact ih e.on hlt _ ho' (hdown e.on _ ho' (hall e he hb)) i h0
theorem LR {ops : Array Oper} {listed : Array Bool} {i : Nat} : i ∈ Region.ready .any ops listed ↔ listed.getD i true = false /\ ∃ o,ops[i]? = some o /\ ∀ e ∈ o.after,Region.binds .any e = true -> listed.getD e.on false = true:=mem_ready
theorem SN {listed : Array Bool} {i : Nat} (h : i < listed.size) : listed.getD i true = listed.getD i false:=by
 simp [agd,h]
theorem N4 {listed : Array Bool} {i : Nat} (h : listed.getD i false = true) : i < listed.size:=by
 rcases Nat.lt_or_ge i listed.size with h' | h'
 .exact h'
 .simp [agd,Array.getElem?_eq_none h'] at h
section
variable {P : Program} {Γ : Sig} (hΓ : De P Γ) {vs : List Nat} {n : Nat}
include hΓ
theorem Rn {ops : Array Oper} {Q : Exit -> Act -> World -> Prop} (hedge : ∀ (j : Nat) (o : Oper),ops[j]? = some o -> ∀ e ∈ o.after,Region.binds .any e = true -> e.on < j) :
  ∀ (fuel : Nat) (listed : Array Bool) (L : List RE) (G : Gh) (r rn : RS) (a : Act) (w : World),L.length = fuel -> listed.size = ops.size -> (∀ i,i < ops.size -> (listed.getD i true = false ↔ i ∈ L.map (·.1))) ->
   (L.Pairwise fun x e=>x.1 < e.1 /\ (((Region.before ops).getD e.1 0).testBit x.1 = true \/ HH x.2.1 e.2.1 x.2.2 e.2.2)) ->
   (∀ e ∈ L,∃ o,ops[e.1]? = some o /\ FF P vs n ops o e.2.1 = true) ->
   (∀ (j : Nat) (o : Oper),ops[j]? = some o -> listed.getD j false = true -> ∀ e ∈ o.after,Region.binds .any e = true -> listed.getD e.on false = true) ->
   RRel vs n G r a w -> HeapInv G r.h w -> Runs Γ L r rn -> (∀ a' w' G',Step G r.h w G' rn.h w' -> HeapInv G' rn.h w' -> RRel vs n G' rn a' w' -> Q .normal a' w') ->
   wpAny P .any ops Q fuel listed a w
 | 0, listed, L, G, r, rn, a, w, hlen, hsz, hls, hpw, hok, hdn, hr, hi, hrun, hQ=>by
  have hL : L = []:=List.length_eq_zero_iff.1 hlen
  subst hL
  simp only [Runs] at hrun
  subst hrun
  refine ⟨?_,hQ a w G (Step.refl _ _ _) hi hr⟩
  rw [List.eq_nil_iff_forall_not_mem]
  intro i hm
  obtain ⟨h1,o,ho,_⟩:=LR.1 hm
  have hlt : i < ops.size:=(ags.1 ho).1
  have := (hls i hlt).1 h1
  simp at this
 | fuel + 1,listed,L,G,r,rn,a,w,hlen,hsz,hls,hpw,hok,hdn,hr,hi,hrun,hQ=>by
  refine ⟨fun hnil=>?_,fun i hm=>?_⟩
  ·exfalso
   obtain ⟨e0,L',rfl⟩ : ∃ e0 L',L = e0 :: L':=by
    cases L with
    | nil=>simp at hlen
    | cons x xs=>exact ⟨x,xs,rfl⟩
   obtain ⟨o,ho,_⟩:=hok e0 (lms ..)
   have hlt : e0.1 < ops.size:=(ags.1 ho).1
   have : e0.1 ∈ Region.ready .any ops listed:=by
    refine LR.2 ⟨(hls _ hlt).2 (by simp),o,ho,fun e he hb=>?_⟩
    have hon:=hedge _ o ho e he hb
    rw [<- SN (by omega)]
    cases hv : listed.getD e.on true with
    | true=>rfl
    | false =>
     exfalso
     have:=(hls e.on (by omega)).1 hv
     simp only [lpc,lmk,lmm] at this
     rcases this with h0 | ⟨x,hx,h0⟩
     ·omega
     ·have:=((lpw.1 hpw).1 x hx).1
      omega
   rw [hnil] at this
   cases this
  ·obtain ⟨h1,o,ho,hall⟩:=LR.1 hm
   have hlt : i < ops.size:=(ags.1 ho).1
   have hin:=(hls i hlt).1 h1
   obtain ⟨e,he,hei⟩:=lmm.1 hin
   obtain ⟨A,B,rfl⟩:=List.append_of_mem he
   have hpA : ∀ x ∈ A,x.1 < e.1 /\ (((Region.before ops).getD e.1 0).testBit x.1 = true \/ HH x.2.1 e.2.1 x.2.2 e.2.2):=fun x hx =>
    (List.pairwise_append.1 hpw).2.2 x hx e (lms ..)
   have hap : ∀ x ∈ A,HH x.2.1 e.2.1 x.2.2 e.2.2:=fun x hx=>by
    rcases (hpA x hx).2 with hb | hb
    ·exfalso
     rw [hei] at hb
     have hl:=VV hdn i o ho hall x.1 hb
     have hxl : x.1 < listed.size:=N4 hl
     have:=(hls x.1 (by omega)).2 (by simp; exact .inl ⟨_,_,hx⟩)
     rw [SN hxl,hl] at this
     cases this
    ·exact hb
   obtain ⟨ht,q,hq,hrun'⟩:=Runs.front A e B r rn hrun hap
   obtain ⟨o',ho',hok'⟩:=hok e (by simp)
   rw [hei,ho] at ho'
   simp at ho'
   subst ho'
   refine ON hΓ hr hi hok' ho hq fun a' w' G' hs hinv hr'=>?_
   have hpw':=List.pairwise_append.1 hpw
   have hpB:=lpw.1 hpw'.2.1
   refine Rn hedge fuel _ (A ++ B) G' _ rn a' w' (by simp at hlen ⊢; omega) (by simp [hsz]) (fun k hk=>?_) ?_ (fun x hx=>hok x ?_) ?_ hr' hinv hrun' fun a'' w'' G'' hs' hinv' hr''=>hQ a'' w'' G'' (hs.trans hs') hinv' hr''
   ·by_cases hki : k = i
    ·subst hki
     constructor
     ·intro h0
      simp [agd,hsz,hk] at h0
     ·intro h0
      exfalso
      simp only [lma,lmp,lmm] at h0
      rcases h0 with ⟨x,hx,h0⟩ | ⟨x,hx,h0⟩
      ·have:=(hpA x hx).1
       omega
      ·have:=(hpB.1 x hx).1
       omega
    ·have : (listed.setIfInBounds i true).getD k true = listed.getD k true:=by
      simp [agd,Ne.symm hki]
     rw [this,hls k hk]
     simp only [lma,lpc,lmp,lmk,hei]
     constructor
     ·rintro (h0 | h0 | h0)
      .exact .inl h0
      .exact absurd h0 hki
      .exact .inr h0
     ·rintro (h0 | h0)
      .exact .inl h0
      .exact .inr (.inr h0)
   ·exact List.pairwise_append.2 ⟨hpw'.1,hpB.2,fun x hx y hy=>hpw'.2.2 x hx y (lmc _ hy)⟩
   ·simp only [lmp,lmk] at hx ⊢
    rcases hx with hx | hx
    ·exact .inl hx
    ·exact .inr (.inr hx)
   ·intro j o2 ho2 hl e2 he2 hb2
    have mono : ∀ k,listed.getD k false = true -> (listed.setIfInBounds i true).getD k false = true:=fun k hk=>by
     have hkl:=N4 hk
     by_cases hik : i = k
     .subst hik; simp [agd,hkl]
     .simpa [agd,Array.getElem?_setIfInBounds,hik] using hk
    by_cases hji : j = i
    ·subst hji
     rw [ho] at ho2
     simp at ho2
     subst ho2
     exact mono _ (hall e2 he2 hb2)
    ·refine mono _ (hdn j o2 ho2 ?_ e2 he2 hb2)
     simpa [agd,Array.getElem?_setIfInBounds,Ne.symm hji] using hl
end
end
end Go.V
namespace Go.V
open Go.RowKit
section
variable [GK]
def Ez (fz : List Nat) (h : VHeap) : Kind -> Kind
 | .mine id=>match h id with
  | some (_,.arr _ _)=>if EO fz id then .frozen else .mine id
  | _=>.mine id
 | k=>k
def CW (fz : List Nat) (G : Gh) (h : VHeap) : Gh:={ G with kind:=fun b=>Ez fz h (G.kind b) }
section
variable {fz : List Nat} {G : Gh} {h : VHeap} {w : World}
theorem XZ {b : Nat} (hb : G.kind b = .frozen) : (CW fz G h).kind b = .frozen:=by simp [CW,hb,Ez]
theorem Y6 {b : Nat} (hb : G.kind b = .other) : (CW fz G h).kind b = .other:=by simp [CW,hb,Ez]
theorem R4 {b : Nat} {id : Id} (hb : (CW fz G h).kind b = .mine id) : G.kind b = .mine id:=by
 simp only [CW] at hb
 cases hk : G.kind b with
 | frozen=>simp [hk,Ez] at hb
 | other=>simp [hk,Ez] at hb
 | mine id' =>
  simp only [hk,Ez] at hb
  split at hb
  ·split at hb
   .cases hb
   .exact hb
  .exact hb
theorem IS {b : Nat} {id : Id} (hb : G.kind b = .mine id) (hn : ∀ v sz xs,h id = some (v,.arr sz xs) -> EO fz id = false) : (CW fz G h).kind b = .mine id:=by
 simp only [CW,hb,Ez]
 split
 ·rename_i v sz xs hh
  simp [hn v sz xs hh]
 .rfl
theorem zb8 {b : Nat} {id : Id} (hb : G.kind b = .mine id) {v sz : Nat} {xs : List PV} (hh : h id = some (v,.arr sz xs)) (hf : EO fz id = true) : (CW fz G h).kind b = .frozen:=by
 simp [CW,hb,Ez,hh,hf]
theorem frz_step : Step G h w (CW fz G h) (Cq fz h) w where
 frozen:=fun b hb _=>⟨XZ hb,rfl⟩
 other:=fun b hb _=>⟨Y6 hb,rfl⟩
 mine:=fun b id _ hb=>.inl (R4 hb)
 frz := fun b _ hb=>by
  simp only [CW] at hb
  cases hk : G.kind b with
  | frozen=>exact .inl rfl
  | other=>simp [hk,Ez] at hb
  | mine id =>
   simp only [hk,Ez] at hb
   split at hb
   ·split at hb
    ·rename_i hf
     cases id with
     | slot s j=>exact .inr ⟨s,j,rfl⟩
     | arg i j=>simp [EO] at hf
    .cases hb
   .cases hb
 size:=lrf _
 os:=rfl
 tape:=rfl
 output:=rfl
 vers:=fun id v o hh=>by
  cases o with
  | box cs=>exact ⟨v,.box (cs.map (fz0 fz h)),by simp [Cq,hh],lrf _,fun _=>⟨rfl,rfl,trivial,fun _ _ e=>by cases e⟩⟩
  | map kt ks vs=>exact ⟨v,.map kt ks vs,by simp [Cq,hh],lrf _,fun _=>⟨rfl,rfl,trivial,fun _ _ e=>by cases e⟩⟩
  | gone=>exact ⟨v,.gone,by simp [Cq,hh],lrf _,fun _=>⟨rfl,rfl,trivial,fun _ _ e=>by cases e⟩⟩
  | arr sz xs =>
   by_cases hf : EO fz id = true
   .exact ⟨v + 1,.gone,by simp [Cq,hh,hf],by omega,fun e=>by omega⟩
   .refine ⟨v,.arr sz xs,by simp [Cq,hh,hf],lrf _,fun _=>⟨rfl,rfl,by simp [SameOb],fun _ _ _ hm=>IS hm fun v' sz' xs' _=>by simpa using hf⟩⟩
theorem Ey (hinv : HeapInv G h w) {v : VVal} {c : Value} (hv : VRel G h w v c) : VRel (CW fz G h) (Cq fz h) w (fz0 fz h v) c:=by
 cases hv with
 | @own id ver off len a n cap v o hn hcap hh hle hoo =>
  simp only [fz0]
  split
  ·rename_i hf
   split
   ·rename_i r hr
    simp only [Ba,hh] at hr
    cases o <;> try (cases hr; done)
    rename_i sz xs
    obtain ⟨rfl,hr1⟩:=Ad hr
    simp at hr1
    subst hr1
    obtain ⟨sz2,xs2,e,hlen,hreal⟩:=hoo rfl
    simp at e
    obtain ⟨rfl,rfl⟩:=e
    obtain ⟨hcs,_,hall⟩:=hinv _ _ _ hh
    subst hn
    have hyl : ((xs.drop off).take n).length = n:=by simp; omega
    refine .p ?_ rfl
    by_cases h0 : n = 0
    ·subst h0
     exact .slice ⟨0,0,none⟩ (fun _ _=>Go.undef) (by simp) hcap (fun h=>absurd h (by omega)) (by simp) (fun i x j c h=>by simp at h) (fun i x j c h=>by simp at h) (fun i x j c h=>by simp at h)
    ·rcases hreal with ⟨hc0,_⟩ | ⟨hm,hce,ha⟩
     ·omega
     ·obtain ⟨hxc,arr,t,hb,has,hcell⟩:=hall hm
      have hrest:=zb8 (fz:=fz) hm hh hf
      have hgk : ∀ (i : Nat) (y : PV),((xs.drop off).take n)[i]? = some y -> xs[off + i]? = some y /\ i < n:=fun i y hy=>by
       rw [List.getElem?_take] at hy
       split at hy
       ·rw [List.getElem?_drop] at hy; exact ⟨hy,by assumption⟩
       ·cases hy
      have hg : ∀ (i : Nat) (y : PV) (j : Nat) (cc : PV),((xs.drop off).take n)[i]? = some y -> y.cells[j]? = some cc -> arr[off * sz + (i * sz + j)]? = some (arr.getD (off * sz + (i * sz + j)) Go.undef) /\ (arr.getD (off * sz + (i * sz + j)) Go.undef).oneCell' = true /\ PRel (fun b=>G.kind b = .frozen) w cc (arr.getD (off * sz + (i * sz + j)) Go.undef):=fun i y j cc hy hj=>by
       obtain ⟨hy',hin⟩:=hgk i y hy
       obtain ⟨u,e1,e2,e3⟩:=hcell (off + i) y j cc hy' hj
       rw [Nat.add_mul,Nat.add_assoc] at e1
       have hu : arr.getD (off * sz + (i * sz + j)) Go.undef = u:=by
        obtain ⟨hlt,e⟩:=ags.1 e1
        simp [Array.getD,hlt,e]
       rw [hu]
       exact ⟨e1,e2,e3⟩
      refine .slice ⟨G.blk id,off * sz,none⟩ (fun i j=>arr.getD (off * sz + (i * sz + j)) Go.undef) hyl.symm hcap (fun _=>⟨ha (by omega),hrest,(ags.1 hb).1⟩)
       (fun x hx=>hcs x (List.mem_of_mem_drop (List.mem_of_mem_take hx))) (fun i y j cc hy hj=>(hg i y j cc hy hj).2.1) (fun i y j cc hy hj=>?_) (fun i y j cc hy hj=>((hg i y j cc hy hj).2.2).mono frz_step.keeps (lrf _))
      rw [add_lit,Fl hb]
      exact (hg i y j cc hy hj).1
   .exact .dead _
  .exact VRel.mono frz_step (.own hn hcap hh hle hoo)
 | p hp h1=>exact VRel.mono frz_step (.p hp h1)
 | ptr hh hle hoo=>exact VRel.mono frz_step (.ptr hh hle hoo)
 | vptr ad val ha hf hb h1 hc hr=>exact VRel.mono frz_step (.vptr ad val ha hf hb h1 hc hr)
 | eptr hh hle hoo=>exact VRel.mono frz_step (.eptr hh hle hoo)
 | mref hh hle hoo=>exact VRel.mono frz_step (.mref hh hle hoo)
 | fn hl hr=>exact VRel.mono frz_step (.fn hl hr)
 | agg hl h1 hr=>exact VRel.mono frz_step (.agg hl h1 hr)
 | tup hl hr=>exact VRel.mono frz_step (.tup hl hr)
 | undef=>exact .undef
 | dead c=>exact .dead c
theorem Hu {α β : Type} {f : α -> β} {l : List α} {i : Nat} {y : β} (h : (l.map f)[i]? = some y) : ∃ x,l[i]? = some x /\ y = f x:=by
 rw [List.getElem?_map] at h
 cases hx : l[i]? with
 | none=>simp [hx] at h
 | some x=>simp [hx] at h; exact ⟨x,rfl,h.symm⟩
theorem zb0 (hinv : HeapInv G h w) {v : VVal} {c : Value} (hv : VRel G h w v c) : VRel (CW fz G h) (Cq fz h) w (fz1 fz h v) c:=by
 cases hv with
 | agg hl h1 hr =>
  refine .agg (by simpa using hl) h1 fun i v c hv hc=>?_
  obtain ⟨x,hx,rfl⟩:=Hu hv
  exact Ey hinv (hr i x c hx hc)
 | tup hl hr =>
  refine .tup (by simpa using hl) fun i v c hv hc=>?_
  obtain ⟨x,hx,rfl⟩:=Hu hv
  exact Ey hinv (hr i x c hx hc)
 | p hp h1=>exact Ey hinv (.p hp h1)
 | own hn hcap hh hle hoo=>exact Ey hinv (.own hn hcap hh hle hoo)
 | ptr hh hle hoo=>exact Ey hinv (.ptr hh hle hoo)
 | vptr ad val ha hf hb h1 hc hr=>exact Ey hinv (.vptr ad val ha hf hb h1 hc hr)
 | eptr hh hle hoo=>exact Ey hinv (.eptr hh hle hoo)
 | mref hh hle hoo=>exact Ey hinv (.mref hh hle hoo)
 | fn hl hr=>exact Ey hinv (.fn hl hr)
 | undef=>exact .undef
 | dead c=>exact .dead c
theorem zb7 (hinv : HeapInv G h w) : HeapInv (CW fz G h) (Cq fz h) w:=by
 intro id v o hh
 simp only [Cq] at hh
 split at hh
 ·rename_i v0 sz xs h0
  split at hh
  ·simp at hh
   obtain ⟨_,rfl⟩:=hh
   trivial
  ·rename_i hf
   simp at hh
   obtain ⟨rfl,rfl⟩:=hh
   obtain ⟨h1,h2,h3⟩:=hinv _ _ _ h0
   refine ⟨h1,h2.elim Or.inl (fun hm=>Or.inr (IS hm fun _ _ _ _=>by simpa using hf)),fun hm=>?_⟩
   obtain ⟨h4,arr,t,h5,h6,h7⟩:=h3 (R4 hm)
   refine ⟨h4,arr,t,h5,h6,fun i x j c hx hj=>?_⟩
   obtain ⟨u,e1,e2,e3⟩:=h7 i x j c hx hj
   exact ⟨u,e1,e2,e3.mono frz_step.keeps (lrf _)⟩
 ·rename_i v0 cs h0
  simp at hh
  obtain ⟨rfl,rfl⟩:=hh
  obtain ⟨h1,arr,t,h2,h3,h4,h5⟩:=hinv _ _ _ h0
  refine ⟨IS h1 fun _ _ _ e=>by rw [h0] at e; simp at e,arr,t,h2,by simpa using h3,h4,fun i v c hv hc=>?_⟩
  obtain ⟨x,hx,rfl⟩:=Hu hv
  exact Ey hinv (h5 i x c hx hc)
 ·rename_i o0 n1 n2
  have hob:=hinv _ _ _ hh
  cases o with
  | box cs=>exact absurd hh (n2 v cs)
  | arr sz xs=>exact absurd hh (n1 v sz xs)
  | gone=>trivial
  | map kt ks vs =>
   obtain ⟨h1,es,cl,h2,h3,h4,h5,h6⟩:=hob
   refine ⟨IS h1 fun _ _ _ e=>by rw [hh] at e; simp at e,es,cl,h2,h3,h4,h5,fun i v e hv he=>?_⟩
   exact (h6 i v e hv he).mono frz_step.keeps (lrf _)
theorem zaV (hinv : HeapInv G h w) : HeapInv G h { w with drawn:=w.drawn + 1 }:=by
 have hst : Step G h w G h { w with drawn:=w.drawn + 1 }:=Step.drew
 intro id v o hh
 have hob:=hinv _ _ _ hh
 cases o with
 | gone=>trivial
 | box cs =>
  obtain ⟨h1,arr,t,h2,h3,h4,h5⟩:=hob
  exact ⟨h1,arr,t,h2,h3,h4,fun i v c hv hc=>(h5 i v c hv hc).mono hst⟩
 | arr sz xs =>
  obtain ⟨h1,h2,h3⟩:=hob
  refine ⟨h1,h2,fun hm=>?_⟩
  obtain ⟨h4,arr,t,h5,h6,h7⟩:=h3 hm
  refine ⟨h4,arr,t,h5,h6,fun i x j c hx hj=>?_⟩
  obtain ⟨u,e1,e2,e3⟩:=h7 i x j c hx hj
  exact ⟨u,e1,e2,e3.mono hst.keeps (lrf _)⟩
 | map kt ks vs =>
  obtain ⟨h1,es,cl,h2,h3,h4,h5,h6⟩:=hob
  exact ⟨h1,es,cl,h2,h3,h4,h5,fun i v e hv he=>(h6 i v e hv he).mono hst.keeps (lrf _)⟩
end
abbrev St.rs (s : St) : RS:=⟨s.pe,fun _=>none,s.h⟩
theorem Wh {vs : List Nat} {n : Nat} {fz : List Nat} {G : Gh} {s : St} {a : Act} {w : World} (hr : RRel vs n G s.rs a w) (hi : HeapInv G s.h w) :
  ∃ G',Step G s.h w G' (Dl fz s).h w /\ HeapInv G' (Dl fz s).h w /\ RRel vs n G' (Dl fz s).rs a w:=by
 unfold Dl
 split
 .exact ⟨G,Step.refl _ _ _,hi,hr⟩
 .exact ⟨CW fz G s.h,frz_step,zb7 hi,fun t ht=>zb0 hi (hr.pe t ht),fun _ _ e=>(by cases e),hr.defers,hr.size,hr.good.step frz_step⟩
theorem zaU {vs : List Nat} {n : Nat} {G : Gh} {r : RS} {a : Act} {w : World} (hr : RRel vs n G r a w) : RRel vs n G r a { w with drawn:=w.drawn + 1 } :=
 ⟨fun t ht=>(hr.pe t ht).mono Step.drew,fun s v e=>⟨(hr.te s v e).1,(hr.te s v e).2.mono Step.drew⟩,hr.defers,hr.size,hr.good.step (h:=r.h) Step.drew⟩
theorem WR {bs : Array Nat} {fp : List (Nat × Nat)} {us : List VOper} (h : J4 bs fp us = true) {i j : Nat} {o o' : VOper} (hi : us[i]? = some o) (hj : us[j]? = some o') (hlt : i < j) :
  (bs.getD j 0).testBit i = true \/ (Jn o o' = true /\ (o.op.silent = true \/ o'.op.silent = true \/ (o.op.reader = true /\ o'.op.reader = true) \/ fp.contains (i,j) = true)):=by
 simp only [J4,List.all_eq_true] at h
 have h1:=h (o',j) (by rw [List.mem_zipIdx_iff_getElem?]; simpa using hj) (o,i) (by rw [List.mem_zipIdx_iff_getElem?]; simpa using hi)
 simp only [bot,bat,decide_eq_true_eq] at h1
 rcases h1 with (h1 | h1) | ⟨h1,h2⟩
 ·omega
 ·exact .inl h1
 ·refine .inr ⟨h1,?_⟩
  rcases h2 with ((h2 | h2) | h2) | h2
  .exact .inl h2
  .exact .inr (.inl h2)
  .exact .inr (.inr (.inl h2))
  .exact .inr (.inr (.inr h2))
theorem Li {L : List RE} {us : List VOper} (h1 : L.map (·.2.1) = us) (h2 : L.map (·.1) = List.range' 0 us.length) {k : Nat} {e : RE} (he : L[k]? = some e) : e.1 = k /\ us[k]? = some e.2.1:=by
 have a1 : (L.map (·.1))[k]? = some e.1:=by simp [he]
 have a2 : (L.map (·.2.1))[k]? = some e.2.1:=by simp [he]
 rw [h2,List.getElem?_range'] at a1
 ·rw [h1] at a2
  simp at a1
  exact ⟨a1.symm,a2⟩
 ·rw [<- h1]
  simp
  exact (lgs.1 he).1
section
variable {P : Program} {Γ : Sig} (hΓ : De P Γ) (hm : P.follows .mixedOrders = true) {vs : List Nat} {n : Nat}
include hΓ hm
theorem WY {ops : Array Oper} {draw : Bool} {vr : VRegion} (hok : Mu P vs n ops draw vr = true) {G : Gh} {s s' : St} {a : Act} {w : World} (hr : RRel vs n G s.rs a w) (hi : HeapInv G s.h w) (he : B9 Γ vr s = some s') {id : Nat}
  {Q : Exit -> Act -> World -> Prop} (hQ : ∀ a' w' G',Step G s.h w G' s'.h w' -> HeapInv G' s'.h w' -> RRel vs n G' s'.rs a' w' -> Q .normal a' w') : (Code.region id ops draw).wp P Q a w:=by
 simp only [Mu,bat,bot,Bool.not_eq_true'] at hok
 obtain ⟨hops,hdraw⟩:=hok
 obtain ⟨hlen,hget⟩:=OZ hops
 unfold B9 at he
 obtain ⟨rn,hrn,he⟩:=Aa he
 simp only [osi] at he
 subst he
 obtain ⟨G1,hs1,hi1,hr1⟩:=Wh (fz:=vr.fz) hr hi
 generalize Dl vr.fz s = s1 at hrn hs1 hi1 hr1
 have hQ' : ∀ a' w' G',Step G1 s1.h w G' rn.h w' -> HeapInv G' rn.h w' -> RRel vs n G' rn a' w' -> Q .normal a' w':=fun a' w' G' hs hinv hrr =>
  hQ a' w' G' (hs1.trans hs) hinv ⟨hrr.pe,fun _ _ e=>by simp [St.rs] at e,hrr.defers,hrr.size,hrr.good⟩
 have hops' : ∀ (j : Nat) (u : VOper),vr.ops[j]? = some u -> ∃ o,ops[j]? = some o /\ FF P vs n ops o u = true:=fun j u hu=>by
  have hj : j < ops.toList.length:=by
   rw [<- hlen]
   exact (lgs.1 hu).1
  have ho : ops.toList[j]? = some ops.toList[j]:=lgg hj
  exact ⟨ops.toList[j],by simp,hget j _ u ho hu⟩
 have hL : ∃ L : List RE,L.map (·.2.1) = vr.ops /\ L.map (·.1) = List.range' 0 vr.ops.length /\ Runs Γ L s1.rs rn /\ (L.Pairwise fun x e=>vr.fp.contains (x.1,e.1) = true -> E3 x.2.1 e.2.1 x.2.2 e.2.2 = true):=by
  split at hrn
  ·rename_i hfe
   have hfe : vr.fp = []:=List.isEmpty_iff.1 hfe
   obtain ⟨L,l1,l2,l3⟩:=OU vr.ops 0 _ rn hrn
   exact ⟨L,l1,l2,l3,List.Pairwise.imp_of_mem (R:=fun _ _=>True) (fun _ _ _ h=>by rw [hfe] at h; simp at h) (List.pairwise_of_forall fun _ _=>trivial)⟩
  ·obtain ⟨L,l1,l2,l3,_,l5⟩:=PH vr.ops 0 _ rn _ hrn
   exact ⟨L,l1,l2,l3,l5⟩
 obtain ⟨L,l1,l2,l3,l5⟩:=hL
 have hLlen : L.length = ops.size:=by
  have : (L.map (·.2.1)).length = vr.ops.length:=by rw [l1]
  simp at this hlen
  omega
 have hLok : ∀ e ∈ L,∃ o,ops[e.1]? = some o /\ FF P vs n ops o e.2.1 = true:=fun e he=>by
  obtain ⟨k,hk⟩:=lgm he
  obtain ⟨e1,e2⟩:=Li l1 l2 hk
  rw [e1]
  exact hops' k _ e2
 cases draw with
 | false =>
  refine wp_region ?_
  have hruns : ∀ (L : List RE) (k : Nat) (G : Gh) (r : RS) (a : Act) (w : World),L.map (·.1) = List.range' k L.length -> (∀ e ∈ L,∃ o,ops[e.1]? = some o /\ FF P vs n ops o e.2.1 = true) -> RRel vs n G r a w -> HeapInv G r.h w -> Runs Γ L r rn ->
    (∀ a' w' G',Step G r.h w G' rn.h w' -> HeapInv G' rn.h w' -> RRel vs n G' rn a' w' -> Q .normal a' w') -> wpOps P ops Q (List.range' k L.length) a w:=by
   intro L
   induction L with
   | nil =>
    intro k G r a w _ _ hr hi hrun hQ
    simp only [Runs] at hrun
    subst hrun
    simp only [lln,List.range'_zero,wpOps]
    exact hQ a w G (Step.refl _ _ _) hi hr
   | cons e L ih =>
    intro k G r a w hk hok hr hi hrun hQ
    obtain ⟨_,q,hq,hrun⟩:=hrun
    simp only [lpc,llc,List.range'_succ,List.cons.injEq] at hk ⊢
    obtain ⟨o,ho,hok0⟩:=hok e (lms ..)
    rw [hk.1] at ho
    rw [wpOps_cons]
    refine ON hΓ hr hi hok0 ho hq fun a' w' G' hs hinv hr'=>?_
    exact ih (k + 1) G' _ a' w' hk.2 (fun x hx=>hok x (lmc _ hx)) hr' hinv hrun fun a'' w'' G'' hs' hinv' hr''=>hQ a'' w'' G'' (hs.trans hs') hinv' hr''
  have:=hruns L 0 G1 s1.rs a w (by rw [l2,<- l1]; simp) hLok hr1 hi1 l3 hQ'
  rw [hLlen] at this
  rw [List.range_eq_range']
  exact this
 | true =>
  have hdr : MT ops = true /\ J4 (Region.before ops) vr.fp vr.ops = true:=by
   rcases hdraw with h0 | h0
   ·cases h0
   ·simpa using h0
  refine wp_region_any hm ?_
  have hedge : ∀ (j : Nat) (o : Oper),ops[j]? = some o -> ∀ e ∈ o.after,Region.binds .any e = true -> e.on < j:=fun j o ho e he hb=>by
   have h1:=hdr.1
   simp only [MT,List.all_eq_true] at h1
   have h2:=h1 (o,j) (by rw [List.mem_zipIdx_iff_getElem?]; simpa using ho)
   simp only [Array.all_eq_true,bot,Bool.not_eq_true',decide_eq_true_eq] at h2
   obtain ⟨k,hk,e1⟩:=Array.mem_iff_getElem.1 he
   have h3:=h2 k hk
   rw [e1,hb] at h3
   rcases h3 with h3 | h3
   ·cases h3
   ·exact h3
  have hpw : L.Pairwise fun x e=>x.1 < e.1 /\ (((Region.before ops).getD e.1 0).testBit x.1 = true \/ HH x.2.1 e.2.1 x.2.2 e.2.2):=by
   rw [List.pairwise_iff_getElem] at l5 ⊢
   intro i j hil hjl hlt
   have hx:=Li l1 l2 (lgg hil)
   have hy:=Li l1 l2 (lgg hjl)
   refine ⟨by rw [hx.1,hy.1]; exact hlt,?_⟩
   have h5:=l5 i j hil hjl hlt
   rw [hx.1,hy.1] at h5
   rcases WR hdr.2 hx.2 hy.2 hlt with h0 | ⟨h0,h1⟩
   ·left
    rw [hx.1,hy.1]
    exact h0
   ·right
    refine ⟨h0,?_⟩
    rcases h1 with h1 | h1 | h1 | h1
    .exact .inl h1
    .exact .inr (.inl h1)
    .exact .inr (.inr (.inl h1))
    .exact .inr (.inr (.inr (h5 h1)))
  refine Rn hΓ hedge ops.size _ L G1 s1.rs rn a { w with drawn:=w.drawn + 1 } hLlen (by simp) (fun i hi=>?_) hpw hLok (fun j o ho hl=>?_) (zaU hr1) (zaV hi1) l3 fun a' w' G' hs=>hQ' a' w' G' (Step.drew.trans hs)
  ·have : i ∈ L.map (·.1):=by
    rw [l2,List.mem_range'_1]
    simp at hlen
    omega
   simp [agd,hi,this]
  ·simp [agd,Array.getElem?_replicate] at hl
   split at hl <;> simp at hl
end
end
end Go.V
namespace Go.V
open Go.RowKit
section
variable [GK]
def Dy (a b : Id) : Kind -> Kind
 | .mine i=>if i = b then .other else if i = a then .mine b else .mine i
 | k=>k
def mvG (a b : Id) (G : Gh) : Gh:={ kind:=fun x=>Dy a b (G.kind x),blk:=fun id=>if id = b then G.blk a else G.blk id,cap:=fun id=>if id = b then G.cap a else G.cap id }
section
variable {a b : Id} {G : Gh} {h : VHeap} {w : World} {va sz : Nat} {xs : List PV}
theorem QU {x : Nat} (hk : (mvG a b G).kind x = .mine b) (hab : a ≠ b) : G.kind x = .mine a:=by
 simp only [mvG] at hk
 cases hx : G.kind x with
 | frozen=>simp [hx,Dy] at hk
 | other=>simp [hx,Dy] at hk
 | mine i =>
  simp only [hx,Dy] at hk
  split at hk
  ·cases hk
  ·split at hk
   ·rename_i h; rw [h]
   ·rename_i h1 h2
    cases hk
    exact absurd rfl h1
theorem QT {x : Nat} {c : Id} (hk : (mvG a b G).kind x = .mine c) (hc : c ≠ b) : G.kind x = .mine c:=by
 simp only [mvG] at hk
 cases hx : G.kind x with
 | frozen=>simp [hx,Dy] at hk
 | other=>simp [hx,Dy] at hk
 | mine i =>
  simp only [hx,Dy] at hk
  split at hk
  ·cases hk
  ·split at hk
   ·cases hk
    exact absurd rfl hc
   .exact hk
theorem JO {x : Nat} {c : Id} (hk : G.kind x = .mine c) (ha : c ≠ a) (hb : c ≠ b) : (mvG a b G).kind x = .mine c:=by simp [mvG,hk,Dy,ha,hb]
theorem SC {x : Nat} (hk : G.kind x = .mine a) (hab : a ≠ b) : (mvG a b G).kind x = .mine b:=by simp [mvG,hk,Dy,hab]
theorem J8 (hab : a ≠ b) (has : ∃ s j,a = .slot s j) (hbs : ∃ s j,b = .slot s j) (hha : h a = some (va,.arr sz xs)) : Step G h w (mvG a b G) (Cp a b va (nv (h b)) sz xs h) w where
 frozen:=fun x hx _=>⟨by simp [mvG,hx,Dy],rfl⟩
 other:=fun x hx _=>⟨by simp [mvG,hx,Dy],rfl⟩
 mine:=fun x id _ hk=>by
  by_cases hid : id = b
  ·subst hid
   obtain ⟨s,j,e⟩:=has
   exact .inr ⟨hbs,s,j,by rw [QU hk hab,e]⟩
  ·exact .inl (QT hk hid)
 frz:=fun x _ hk=>by
  simp only [mvG] at hk
  cases hx : G.kind x with
  | frozen=>exact .inl rfl
  | other=>simp [hx,Dy] at hk
  | mine i =>
   simp only [hx,Dy] at hk
   split at hk
   ·cases hk
   ·split at hk <;> cases hk
 size:=lrf _
 os := rfl
 tape:=rfl
 output:=rfl
 vers:=fun id v o hh=>by
  by_cases hb : id = b
  ·subst hb
   exact ⟨v + 1,.arr sz xs,by simp [Cp,FN hh],by omega,fun e=>by omega⟩
  ·by_cases ha : id = a
   ·subst ha
    rw [hha] at hh
    simp at hh
    obtain ⟨rfl,rfl⟩:=hh
    exact ⟨va + 1,.gone,by simp [Cp,hb],by omega,fun e=>by omega⟩
   ·cases o with
    | box cs=>exact ⟨v,.box (cs.map (mv0 a b va (nv (h b)))),by simp only [Cp,if_neg hb,if_neg ha,hh],lrf _,fun _=>⟨by simp [mvG,hb],by simp [mvG,hb],trivial,fun _ _ e=>by cases e⟩⟩
    | map kt ks vs=>exact ⟨v,.map kt ks vs,by simp only [Cp,if_neg hb,if_neg ha,hh],lrf _,fun _=>⟨by simp [mvG,hb],by simp [mvG,hb],trivial,fun _ _ e=>by cases e⟩⟩
    | gone=>exact ⟨v,.gone,by simp only [Cp,if_neg hb,if_neg ha,hh],lrf _,fun _=>⟨by simp [mvG,hb],by simp [mvG,hb],trivial,fun _ _ e=>by cases e⟩⟩
    | arr sz' xs'=>exact ⟨v,.arr sz' xs',by simp only [Cp,if_neg hb,if_neg ha,hh],lrf _,fun _=>⟨by simp [mvG,hb],by simp [mvG,hb],by simp [SameOb],fun _ _ _ hm=>JO hm ha hb⟩⟩
theorem Ew (hab : a ≠ b) (has : ∃ s j,a = .slot s j) (hbs : ∃ s j,b = .slot s j) (hha : h a = some (va,.arr sz xs)) {v : VVal} {c : Value} (hv : VRel G h w v c) : VRel (mvG a b G) (Cp a b va (nv (h b)) sz xs h) w (mv0 a b va (nv (h b)) v) c:=by
 have hst : Step G h w (mvG a b G) (Cp a b va (nv (h b)) sz xs h) w:=J8 hab has hbs hha
 have hbn : Cp a b va (nv (h b)) sz xs h b = some (nv (h b),.arr sz xs):=by simp [Cp]
 have hbb : (mvG a b G).blk b = G.blk a:=by simp [mvG]
 have hbc : (mvG a b G).cap b = G.cap a:=by simp [mvG]
 cases hv with
 | @own id ver off len ad n cap v o hn hcap hh hle hoo =>
  by_cases hc : id = a /\ ver = va
  ·obtain ⟨rfl,rfl⟩:=hc
   rw [hha] at hh
   simp at hh
   obtain ⟨rfl,rfl⟩:=hh
   obtain ⟨sz2,xs2,e,hlen,hreal⟩:=hoo rfl
   simp at e
   obtain ⟨rfl,rfl⟩:=e
   simp only [mv0,and_self,if_true]
   refine .own hn hcap hbn (lrf _) fun _=>⟨sz,xs,rfl,hlen,?_⟩
   rcases hreal with h0 | ⟨h1,h2,h3⟩
   .exact .inl h0
   .exact .inr ⟨by rw [hbb]; exact SC h1 hab,by rw [hbc]; exact h2,by rw [hbb]; exact h3⟩
  ·simp only [mv0,if_neg hc]
   exact VRel.mono hst (.own hn hcap hh hle hoo)
 | @eptr id ver i off ad v o hh hle hoo =>
  by_cases hc : id = a /\ ver = va
  ·obtain ⟨rfl,rfl⟩:=hc
   rw [hha] at hh
   simp at hh
   obtain ⟨rfl,rfl⟩:=hh
   obtain ⟨sz2,xs2,e,hlen,hreal⟩:=hoo rfl
   simp at e
   obtain ⟨rfl,rfl⟩:=e
   simp only [mv0,and_self,if_true]
   exact .eptr hbn (lrf _) fun _=>⟨sz,xs,rfl,hlen,by rw [hbb]; exact hreal⟩
  ·simp only [mv0,if_neg hc]
   exact VRel.mono hst (.eptr hh hle hoo)
 | p hp h1=>exact VRel.mono hst (.p hp h1)
 | ptr hh hle hoo=>exact VRel.mono hst (.ptr hh hle hoo)
 | vptr ad val ha hf hb h1 hc hr=>exact VRel.mono hst (.vptr ad val ha hf hb h1 hc hr)
 | mref hh hle hoo=>exact VRel.mono hst (.mref hh hle hoo)
 | fn hl hr=>exact VRel.mono hst (.fn hl hr)
 | agg hl h1 hr=>exact VRel.mono hst (.agg hl h1 hr)
 | tup hl hr=>exact VRel.mono hst (.tup hl hr)
 | undef=>exact .undef
 | dead c=>exact .dead c
theorem zbG (hab : a ≠ b) (has : ∃ s j,a = .slot s j) (hbs : ∃ s j,b = .slot s j) (hha : h a = some (va,.arr sz xs)) {v : VVal} {c : Value} (hv : VRel G h w v c) : VRel (mvG a b G) (Cp a b va (nv (h b)) sz xs h) w (mv1 a b va (nv (h b)) v) c:=by
 cases hv with
 | agg hl h1 hr =>
  refine .agg (by simpa using hl) h1 fun i v c hv hc=>?_
  obtain ⟨x,hx,rfl⟩:=Hu hv
  exact Ew hab has hbs hha (hr i x c hx hc)
 | tup hl hr =>
  refine .tup (by simpa using hl) fun i v c hv hc=>?_
  obtain ⟨x,hx,rfl⟩:=Hu hv
  exact Ew hab has hbs hha (hr i x c hx hc)
 | p hp h1=>exact Ew hab has hbs hha (.p hp h1)
 | own hn hcap hh hle hoo=>exact Ew hab has hbs hha (.own hn hcap hh hle hoo)
 | ptr hh hle hoo=>exact Ew hab has hbs hha (.ptr hh hle hoo)
 | vptr ad val ha hf hb h1 hc hr=>exact Ew hab has hbs hha (.vptr ad val ha hf hb h1 hc hr)
 | eptr hh hle hoo=>exact Ew hab has hbs hha (.eptr hh hle hoo)
 | mref hh hle hoo=>exact Ew hab has hbs hha (.mref hh hle hoo)
 | fn hl hr=>exact Ew hab has hbs hha (.fn hl hr)
 | undef=>exact .undef
 | dead c=>exact .dead c
theorem zco (hab : a ≠ b) (has : ∃ s j,a = .slot s j) (hbs : ∃ s j,b = .slot s j) (hha : h a = some (va,.arr sz xs)) (hinv : HeapInv G h w) : HeapInv (mvG a b G) (Cp a b va (nv (h b)) sz xs h) w:=by
 have hst : Step G h w (mvG a b G) (Cp a b va (nv (h b)) sz xs h) w:=J8 hab has hbs hha
 intro id v o hh
 by_cases hb : id = b
 ·subst hb
  simp only [Cp,if_true,osi,pmi] at hh
  obtain ⟨_,rfl⟩:=hh
  obtain ⟨h1,h2,h3⟩:=hinv _ _ _ hha
  have hbb : (mvG a id G).blk id = G.blk a:=by simp [mvG]
  have hbc : (mvG a id G).cap id = G.cap a:=by simp [mvG]
  refine ⟨h1,h2.elim Or.inl (fun hm=>Or.inr (by rw [hbb]; exact SC hm hab)),fun hm=>?_⟩
  rw [hbb] at hm ⊢
  rw [hbc]
  obtain ⟨h4,arr,t,h5,h6,h7⟩:=h3 (QU hm hab)
  refine ⟨h4,arr,t,h5,h6,fun i x j c hx hj=>?_⟩
  obtain ⟨u,e1,e2,e3⟩:=h7 i x j c hx hj
  exact ⟨u,e1,e2,e3.mono hst.keeps (lrf _)⟩
 ·by_cases ha : id = a
  ·subst ha
   simp only [Cp,if_neg hb,if_true,osi,pmi] at hh
   obtain ⟨_,rfl⟩:=hh
   trivial
  ·have hbb : (mvG a b G).blk id = G.blk id:=by simp [mvG,hb]
   have hbc : (mvG a b G).cap id = G.cap id:=by simp [mvG,hb]
   simp only [Cp,if_neg hb,if_neg ha] at hh
   split at hh
   ·rename_i v0 cs h0
    simp only [osi,pmi] at hh
    obtain ⟨rfl,rfl⟩:=hh
    obtain ⟨h1,arr,t,h2,h3,h4,h5⟩:=hinv _ _ _ h0
    refine ⟨by rw [hbb]; exact JO h1 ha hb,arr,t,by rw [hbb]; exact h2,by simpa using h3,h4,fun i v c hv hc=>?_⟩
    obtain ⟨x,hx,rfl⟩:=Hu hv
    exact Ew hab has hbs hha (h5 i x c hx hc)
   ·rename_i n1
    have hob:=hinv _ _ _ hh
    cases o with
    | box cs=>exact absurd hh (n1 v cs)
    | gone=>trivial
    | arr sz' xs' =>
     obtain ⟨h1,h2,h3⟩:=hob
     refine ⟨h1,h2.elim Or.inl (fun hm=>Or.inr (by rw [hbb]; exact JO hm ha hb)),fun hm=>?_⟩
     rw [hbb] at hm ⊢
     rw [hbc]
     obtain ⟨h4,arr,t,h5,h6,h7⟩:=h3 (QT hm hb)
     refine ⟨h4,arr,t,h5,h6,fun i x j c hx hj=>?_⟩
     obtain ⟨u,e1,e2,e3⟩:=h7 i x j c hx hj
     exact ⟨u,e1,e2,e3.mono hst.keeps (lrf _)⟩
    | map kt ks vs =>
     obtain ⟨h1,es,cl,h2,h3,h4,h5,h6⟩:=hob
     exact ⟨by rw [hbb]; exact JO h1 ha hb,es,cl,by rw [hbb]; exact h2,h3,h4,h5,fun i v e hv he=>(h6 i v e hv he).mono hst.keeps (lrf _)⟩
end
theorem WU {vs : List Nat} {n : Nat} {p q : Id} (hab : p ≠ q) (has : ∃ s j,p = .slot s j) (hbs : ∃ s j,q = .slot s j) {G : Gh} {s : St} {a : Act} {w : World} (hr : RRel vs n G s.rs a w) (hi : HeapInv G s.h w) :
  ∃ G',Step G s.h w G' (FP p q s).h w /\ HeapInv G' (FP p q s).h w /\ RRel vs n G' (FP p q s).rs a w:=by
 unfold FP
 split
 ·rename_i va sz xs hha
  exact ⟨mvG p q G,J8 hab has hbs hha,zco hab has hbs hha hi,fun t ht=>zbG hab has hbs hha (hr.pe t ht),fun _ _ e=>(by cases e),hr.defers,hr.size,hr.good.step (J8 hab has hbs hha)⟩
 .exact ⟨G,Step.refl _ _ _,hi,hr⟩
end
end Go.V
namespace Go.V
open Go.RowKit
section
variable [GK]
def VExit.toExit : VExit -> Exit
 | .normal=>.normal
 | .exit id=>.exit id
 | .ret=>.ret
theorem zbR {b : St -> Option (VExit × St)} {s : St} {r : VExit × St} (h : EN b s = some r) : ∃ n,Bb b n s = some r:=by
 unfold EN at h
 split at h
 ·rename_i hex
  have:=Classical.choose_spec (Classical.choose_spec hex)
  simp only [osi] at h
  rw [h] at this
  exact ⟨_,this⟩
 .cases h
theorem PC {i : Id} (h : Nr i = true) : ∃ s j,i = .slot s j:=by
 cases i with
 | slot s j=>exact ⟨s,j,rfl⟩
 | arg i j=>cases h
def Kj (P : Program) (c : Code) (Q : Exit -> Act -> World -> Prop) (a : Act) (w : World) : Prop :=
 ∀ (b : Frame) (k : List Item) (cs : List Frame),∃ e a' w',Q e a' w' /\ Arrives P (lone (b.at a (.code c :: .inLoop c :: k)) cs w) b k cs e a' w'
theorem Wb {P : Program} {c : Code} {Q : Exit -> Act -> World -> Prop} {a : Act} {w : World} (h : c.wp P (Exit.then (Kj P c Q) Q) a w) : Kj P c Q a w:=by
 intro b k cs
 obtain ⟨e,a₁,w₁,hq,harr⟩:=h b (.inLoop c :: k) cs
 cases e with
 | normal =>
  obtain ⟨e₂,a₂,w₂,hq₂,harr₂⟩:=hq b k cs
  exact ⟨e₂,a₂,w₂,hq₂,.of_steps (Steps.trans harr (.one step_inLoop)) harr₂⟩
 | exit id=>exact ⟨_,a₁,w₁,hq,.pass (x:=.inLoop c) rfl (fun _ _=>.inl (by simp)) harr⟩
 | goto l=>exact ⟨_,a₁,w₁,hq,.pass (x:=.inLoop c) rfl (fun _ _=>.inl (by simp)) harr⟩
 | ret=>exact ⟨_,a₁,w₁,hq,.pass (x:=.inLoop c) rfl (fun _ _=>.inl (by simp)) harr⟩
 | panic ch=>exact ⟨_,a₁,w₁,hq,.pass (x:=.inLoop c) rfl (fun _ _=>.inl (by simp)) harr⟩
 | outgrown=>exact ⟨_,a₁,w₁,hq,.pass (x:=.inLoop c) rfl (fun _ _=>.inl (by simp)) harr⟩
theorem VW {P : Program} {c : Code} {Q : Exit -> Act -> World -> Prop} {a : Act} {w : World} (h : Kj P c Q a w) : (Code.loop c).wp P Q a w:=by
 intro b k cs
 obtain ⟨e,a',w',hq,harr⟩:=h b k cs
 exact ⟨e,a',w',hq,.of_steps (.one step_loop) harr⟩
section
variable {P : Program} {Γ : Sig} (hΓ : De P Γ) (hm : P.follows .mixedOrders = true) {vs : List Nat} {n : Nat}
include hΓ hm
theorem EU : ∀ (vc : VCode) (c : Code) (G : Gh) (s s' : St) (a : Act) (w : World) (e : VExit) (Q : Exit -> Act -> World -> Prop),BB P vs n c vc = true -> RRel vs n G s.rs a w -> HeapInv G s.h w -> AD Γ vc s = some (e,s') ->
  (∀ a' w' G',Step G s.h w G' s'.h w' -> HeapInv G' s'.h w' -> RRel vs n G' s'.rs a' w' -> Q e.toExit a' w') -> c.wp P Q a w
 | .mv p q x,c,G,s,s',a,w,e,Q,hok,hr,hi,he,hQ=>by
  simp only [BB,bat,decide_eq_true_eq] at hok
  obtain ⟨⟨⟨hab,hp⟩,hq⟩,hok⟩:=hok
  rw [Ir] at he
  obtain ⟨G1,hs1,hi1,hr1⟩:=WU hab (PC hp) (PC hq) hr hi
  exact EU x c G1 (FP p q s) s' a w e Q hok hr1 hi1 he fun a' w' G' hs=>hQ a' w' G' (hs1.trans hs)
 | .fail,c,G,s,s',a,w,e,Q,hok,hr,hi,he,hQ=>by
  rw [JC] at he
  cases he
 | .skip,c,G,s,s',a,w,e,Q,hok,hr,hi,he,hQ=>by
  cases c <;> try (simp [BB] at hok; done)
  ·rw [H9] at he
   simp only [osi,pmi] at he
   obtain ⟨rfl,rfl⟩:=he
   exact wp_skip (hQ a w G (Step.refl _ _ _) hi hr)
  ·rw [H9] at he
   simp only [osi,pmi] at he
   obtain ⟨rfl,rfl⟩:=he
   exact wp_label (hQ a w G (Step.refl _ _ _) hi hr)
 | .scope x,c,G,s,s',a,w,e,Q,hok,hr,hi,he,hQ=>by
  cases c <;> try (simp [BB] at hok; done)
  rename_i cx
  simp only [BB] at hok
  rw [H3] at he
  refine wp_scope_straight (EU x cx G s s' a w e _ hok hr hi he fun a' w' G' hs hinv hr'=>?_)
  have:=hQ a' w' G' hs hinv hr'
  cases e <;> exact this
 | .region r,c,G,s,s',a,w,e,Q,hok,hr,hi,he,hQ=>by
  cases c <;> try (simp [BB] at hok; done)
  rename_i id ops draw
  simp only [BB] at hok
  rw [G9] at he
  obtain ⟨s1,h1,he⟩:=Aa he
  simp only [osi,pmi] at he
  obtain ⟨rfl,rfl⟩:=he
  exact WY hΓ hm hok hr hi h1 hQ
 | .seq x y,c,G,s,s',a,w,e,Q,hok,hr,hi,he,hQ=>by
  cases c <;> try (simp [BB] at hok; done)
  rename_i cx cy
  simp only [BB,bat] at hok
  rw [EZ] at he
  obtain ⟨⟨e1,s1⟩,h1,he⟩:=Aa he
  refine wp_seq (EU x cx G s s1 a w e1 _ hok.1 hr hi h1 fun a' w' G' hs hinv hr'=>?_)
  cases e1 with
  | normal =>
   rw [GZ] at he
   exact EU y cy G' s1 s' a' w' e Q hok.2 hr' hinv he fun a'' w'' G'' hs'=>hQ a'' w'' G'' (hs.trans hs')
  | exit id =>
   rw [Pu] at he
   simp only [osi,pmi] at he
   obtain ⟨rfl,rfl⟩:=he
   exact hQ a' w' G' hs hinv hr'
  | ret =>
   rw [Qh] at he
   simp only [osi,pmi] at he
   obtain ⟨rfl,rfl⟩:=he
   exact hQ a' w' G' hs hinv hr'
 | .cond t x y,c,G,s,s',a,w,e,Q,hok,hr,hi,he,hQ=>by
  cases c <;> try (simp [BB] at hok; done)
  rename_i co cx cy
  simp only [BB,bat] at hok
  cases t with
  | v t =>
   rw [Hh] at he
   split at he
   ·rename_i b hb
    have hv:=Fn (Ay (r:=s.rs) hr hok.1.1 (v:=.p (.bool b)) (by simp [RS.look,hb]))
    cases b with
    | true =>
     rw [E2] at he
     exact wp_cond_true hv (EU x cx G s s' a w e Q hok.1.2 hr hi he hQ)
    | false =>
     rw [E0] at he
     exact wp_cond_false hv (EU y cy G s s' a w e Q hok.2 hr hi he hQ)
   ·cases he
  | t t=>simp [AD] at he
  | c d=>simp [AD] at he
 | .block id x,c,G,s,s',a,w,e,Q,hok,hr,hi,he,hQ=>by
  cases c <;> try (simp [BB] at hok; done)
  rename_i id' cx
  simp only [BB,bat,beq_iff_eq] at hok
  obtain ⟨rfl,hok⟩:=hok
  rw [H4] at he
  obtain ⟨⟨e1,s1⟩,h1,he⟩:=Aa he
  refine wp_block (EU x cx G s s1 a w e1 _ hok hr hi h1 fun a' w' G' hs hinv hr'=>?_)
  cases e1 with
  | normal =>
   rw [P3] at he
   simp only [osi,pmi] at he
   obtain ⟨rfl,rfl⟩:=he
   exact hQ a' w' G' hs hinv hr'
  | ret =>
   rw [SM] at he
   simp only [osi,pmi] at he
   obtain ⟨rfl,rfl⟩:=he
   exact hQ a' w' G' hs hinv hr'
  | exit i =>
   rw [RZ] at he
   simp only [VExit.toExit,Exit.inBlock]
   split at he
   ·rename_i hid
    simp only [osi,pmi] at he
    obtain ⟨rfl,rfl⟩:=he
    rw [if_pos hid]
    exact hQ a' w' G' hs hinv hr'
   ·rename_i hid
    simp only [osi,pmi] at he
    obtain ⟨rfl,rfl⟩:=he
    rw [if_neg hid]
    exact hQ a' w' G' hs hinv hr'
 | .loop x,c,G,s,s',a,w,e,Q,hok,hr,hi,he,hQ=>by
  cases c <;> try (simp [BB] at hok; done)
  rename_i cx
  simp only [BB] at hok
  rw [Ia] at he
  obtain ⟨k,hk⟩:=zbR he
  have key : ∀ (k : Nat) (G : Gh) (s : St) (a : Act) (w : World),RRel vs n G s.rs a w -> HeapInv G s.h w -> Bb (AD Γ x) k s = some (e,s') ->
    (∀ a' w' G',Step G s.h w G' s'.h w' -> HeapInv G' s'.h w' -> RRel vs n G' s'.rs a' w' -> Q e.toExit a' w') -> Kj P cx Q a w:=by
   intro k
   induction k with
   | zero=>intro G s a w _ _ hk; simp [Bb] at hk
   | succ k ih =>
    intro G s a w hr hi hk hQ
    simp only [Bb] at hk
    obtain ⟨⟨e1,s1⟩,h1,hk⟩:=Aa hk
    refine Wb (EU x cx G s s1 a w e1 _ hok hr hi h1 fun a' w' G' hs hinv hr'=>?_)
    cases e1 with
    | normal=>exact ih G' s1 a' w' hr' hinv hk fun a'' w'' G'' hs'=>hQ a'' w'' G'' (hs.trans hs')
    | exit id =>
     simp only [osi,pmi] at hk
     obtain ⟨rfl,rfl⟩:=hk
     exact hQ a' w' G' hs hinv hr'
    | ret =>
     simp only [osi,pmi] at hk
     obtain ⟨rfl,rfl⟩:=hk
     exact hQ a' w' G' hs hinv hr'
  exact VW (key k G s a w hr hi hk hQ)
 | .exit id,c,G,s,s',a,w,e,Q,hok,hr,hi,he,hQ=>by
  cases c <;> try (simp [BB] at hok; done)
  simp only [BB,beq_iff_eq] at hok
  subst hok
  rw [JD] at he
  simp only [osi,pmi] at he
  obtain ⟨rfl,rfl⟩:=he
  exact wp_exit (hQ a w G (Step.refl _ _ _) hi hr)
 | .ret,c,G,s,s',a,w,e,Q,hok,hr,hi,he,hQ=>by
  cases c <;> try (simp [BB] at hok; done)
  rw [JW] at he
  simp only [osi,pmi] at he
  obtain ⟨rfl,rfl⟩:=he
  exact wp_ret (hQ a w G (Step.refl _ _ _) hi hr)
end
theorem PT {P : Program} {vs : List Nat} : ∀ {rs : List ResultVar} {us : List VRet},Hy P vs rs us = true -> us.length = rs.length /\ ∀ (i : Nat) (r : ResultVar) (u : VRet),rs[i]? = some r -> us[i]? = some u -> Ku P vs r u = true
 | [],[],_=>⟨rfl,fun i o u h=>by simp at h⟩
 | o :: os,u :: us,h=>by
  simp only [Hy,bat] at h
  obtain ⟨h1,h2⟩:=PT h.2
  refine ⟨by simp [h1],fun i o' u' ho hu=>?_⟩
  cases i with
  | zero=>simp at ho hu; subst ho; subst hu; exact h.1
  | succ i=>simp at ho hu; exact h2 i o' u' ho hu
 | [],_ :: _,h=>by simp [Hy] at h
 | _ :: _,[],h=>by simp [Hy] at h
def Gs (tmps : Array Value) : ResultVar -> Sem Value
 | .tmp t=>pure (tmps.getD t undef)
 | .cell a t=>do loadVar t (<- asAddr (tmps.getD a undef))
theorem YC {P : Program} {vs : List Nat} {n : Nat} {G : Gh} {s : St} {a : Act} {w : World} (hr : RRel vs n G s.rs a w) (hi : HeapInv G s.h w) {rv : ResultVar} {u : VRet} (hok : Ku P vs rv u = true) {v : VVal} (hv : E8 s u = some v) :
  ∃ c,(Gs a.tmps rv).run P w = .ok c w /\ VRel G s.h w v c:=by
 unfold Ku at hok
 split at hok
 ·rename_i t t'
  simp only [bat,beq_iff_eq,List.contains_iff_mem] at hok
  obtain ⟨rfl,hmem⟩:=hok
  simp only [E8,osi] at hv
  subst hv
  exact ⟨_,by simp [Gs],hr.pe t hmem⟩
 ·rename_i t ty t' agg
  simp only [bat,beq_iff_eq,List.contains_iff_mem] at hok
  obtain ⟨⟨rfl,hmem⟩,hagg⟩:=hok
  simp only [E8,GN] at hv
  obtain ⟨⟨cs,off⟩,hrow,hv⟩:=Aa hv
  obtain ⟨ad,hp,hrr⟩:=Pi hi (hr.pe t hmem) hrow
  obtain ⟨c,h1,h2⟩:=N3 (P:=P) hrr hv hagg
  refine ⟨c,?_,h2⟩
  simp [Gs,hp,asAddr,h1]
 .cases hok
end
end Go.V
namespace Go.V
open Go.RowKit
section
variable [GK]
theorem RU {P : Program} {w : World} {f : ResultVar -> Sem Value} : ∀ (rs : List ResultVar) (vs : List Value),vs.length = rs.length -> (∀ (j : Nat) (r : ResultVar) (v : Value),rs[j]? = some r -> vs[j]? = some v -> (f r).run P w = .ok v w) ->
  (rs.mapM f).run P w = .ok vs w
 | [],vs,hl,_=>by
  have : vs = []:=List.length_eq_zero_iff.1 (by simpa using hl)
  subst this
  simp
 | r :: rs,vs,hl,hf=>by
  obtain ⟨v,vs',rfl⟩ : ∃ v vs',vs = v :: vs':=by
   cases vs with
   | nil=>simp at hl
   | cons v vs'=>exact ⟨v,vs',rfl⟩
  have h0:=hf 0 r v rfl rfl
  have ih:=RU (P:=P) (w:=w) (f:=f) rs vs' (by simpa using hl) (fun j r u hr hu=>hf (j + 1) r u (by simpa using hr) (by simpa using hu))
  rw [List.mapM_cons]
  simp only [Sem.run_bind,h0,Result.andThen_ok,ih,Sem.run_pure]
def Kr : List Value -> Value
 | [v]=>v
 | vs=>.tuple vs.toArray
theorem WE {P : Program} {fn : Func} {tmps : Array Value} {w : World} {vs : List Value} (hl : vs.length = fn.results.size) (h : ∀ (j : Nat) (r : ResultVar) (v : Value),fn.results[j]? = some r -> vs[j]? = some v -> (Gs tmps r).run P w = .ok v w) :
  (results fn tmps).run P w = .ok (Kr vs) w:=by
 have hm : (fn.results.toList.mapM (Gs tmps)).run P w = .ok vs w:=RU _ vs (by simpa using hl) (fun j r v hr hv=>h j r v (by simpa using hr) hv)
 have e : results fn tmps = (do
   let vs <- fn.results.mapM (Gs tmps)
   pure (if h : vs.size = 1 then vs[0] else .tuple vs)):=by
  unfold results
  congr 1
 rw [e,Array.mapM_eq_mapM_toList]
 simp only [map_eq_pure_bind,bind_assoc,pure_bind,Sem.run_bind,hm,Result.andThen_ok,Sem.run_pure]
 clear hl h hm
 match vs with
 | []=>simp [Kr]
 | [v]=>simp [Kr]
 | _ :: _ :: _=>simp [Kr]
theorem W9 {P : Program} {Γ : Sig} (hΓ : De P Γ) (hm : P.follows .mixedOrders = true) {f : FuncId} {vf : VFunc} (hok : Ix P f vf = true) {args : List VVal} {H : List Ob} {res : VVal} {H' : List Ob} (he : BW Γ vf args H = some (res,H')) :
  Ex P f = true /\ Kk P f args H res H':=by
 unfold Ix at hok
 split at hok <;> try (cases hok; done)
 rename_i fn hfn
 split at hok <;> try (cases hok; done)
 rename_i c hc
 simp only [bat,decide_eq_true_eq] at hok
 obtain ⟨⟨⟨h1,h2⟩,h3⟩,h4⟩:=hok
 refine ⟨by simp [Ex,hfn,hc,h1],fun G w cargs hinv hgd hlen hargs hkind=>?_⟩
 unfold BW at he
 obtain ⟨hn,he⟩:=Ad he
 obtain ⟨⟨e,s'⟩,hex,he⟩:=Aa he
 refine calls_of_wp hfn hc (EU hΓ hm (vs:=vf.vs) (n:=fn.ntmps) vf.body c G { pe:=GL args,h:=AV H } s' _ w e _ h2 ⟨fun s hs=>?_,fun _ _ e=>(by cases e),rfl,(by simp; omega),hgd⟩ hinv hex fun a' w' G' hs hinv' hr'=>?_)
 ·simp only [GL]
  by_cases hlt : s < args.length
  ·have e1 : args[s]? = some args[s]:=lgg hlt
   have e2 : cargs[s]? = some cargs[s]:=aggz (by omega)
   have:=hargs s _ _ e1 e2
   rw [List.getD_eq_getElem?_getD,e1,agd,Array.getElem?_append_left (by omega),e2]
   exact this
  ·rw [List.getD_eq_getElem?_getD,List.getElem?_eq_none (by omega),agd,Array.getElem?_append_right (by omega),Array.getElem?_replicate]
   split <;> exact .undef
 ·have fin : ∀ (vs : List VVal),Af (E8 s') vf.rets = some vs -> ∃ v,(results fn a'.tmps).run P w' = .ok v w' /\ E6 G' s'.h w' vs v:=fun vs hvs=>by
   obtain ⟨r1,r2⟩:=PT h3
   obtain ⟨l1,l2⟩:=Bg hvs
   have hex : ∀ k,k <= vs.length -> ∃ cs : List Value,cs.length = k /\ ∀ (j : Nat) (r : ResultVar) (v : VVal) (c : Value),fn.results[j]? = some r -> vs[j]? = some v -> cs[j]? = some c -> (Gs a'.tmps r).run P w' = .ok c w' /\ VRel G' s'.h w' v c:=by
    intro k
    induction k with
    | zero=>exact fun _=>⟨[],rfl,fun j r v c _ _ h=>by simp at h⟩
    | succ k ih =>
     intro hk
     obtain ⟨cs,hcl,hcs⟩:=ih (by omega)
     have hlt : k < vs.length:=by omega
     have hv : vs[k]? = some vs[k]:=lgg hlt
     obtain ⟨u,hu,huv⟩:=l2 k _ hv
     have hrl : k < fn.results.toList.length:=by omega
     have hrr : fn.results.toList[k]? = some fn.results.toList[k]:=lgg hrl
     obtain ⟨c,hc1,hc2⟩:=YC (s:=s') hr' hinv' (r2 k _ u hrr hu) huv
     refine ⟨cs ++ [c],by simp [hcl],fun j r v c' hr hv' hc'=>?_⟩
     by_cases hjk : j < k
     ·rw [List.getElem?_append_left (by omega)] at hc'
      exact hcs j r v c' hr hv' hc'
     ·have hjk' : j = k:=by
       have:=(lgs.1 hc').1
       simp at this
       omega
      subst hjk'
      rw [lgr (by omega),hcl] at hc'
      simp at hc'
      subst hc'
      rw [hv] at hv'
      simp at hv'
      subst hv'
      have : fn.results.toList[j]? = some r:=by simpa using hr
      rw [hrr] at this
      simp only [osi] at this
      rw [this] at hc1
      exact ⟨hc1,hc2⟩
   obtain ⟨cs,hcl,hcs⟩:=hex vs.length (lrf _)
   have hsz : fn.results.size = vs.length:=by simp at r1; omega
   refine ⟨_,WE (vs:=cs) (by omega) (fun j r c hr hc=>?_),?_⟩
   ·have hj : j < vs.length:=by
     have:=(lgs.1 hc).1
     omega
    exact (hcs j r _ c hr (lgg hj) hc).1
   ·have hrel : ∀ (j : Nat) (v : VVal) (c : Value),vs[j]? = some v -> cs[j]? = some c -> VRel G' s'.h w' v c:=fun j v c hv hc=>by
     have hj : j < fn.results.size:=by
      have:=(lgs.1 hv).1
      omega
     exact (hcs j _ v c (aggz hj) hv hc).2
    match vs,cs,hcl with
    | [],[],_=>exact ⟨#[],rfl,rfl,fun i v c h=>by simp at h⟩
    | [v],[c],_=>exact hrel 0 v c rfl rfl
    | v :: v' :: vs,c :: c' :: cs,hcl=>exact ⟨_,rfl,by simpa using hcl.symm,fun i u d hu hd=>hrel i u d hu (by simpa using hd)⟩
  have done : ∀ r,(ob (Af (E8 s') vf.rets) fun vs=>ob (Eh s'.h H.length vs) fun v=>ob (B5 s'.h 0 H.length) fun H'=>some (v,H')) = some r -> r = (res,H') -> a'.defers = [] /\ ∃ v,(results fn a'.tmps).run P w' = .ok v w' /\
    ∃ c G'' h' vs,Ending.returned v = .returned c /\ Step G (AV H) w G'' h' w' /\ HeapInv G'' h' w' /\ E6 G'' h' w' vs c /\ Eh h' H.length vs = some res /\ B5 h' 0 H.length = some H':=fun r he hr=>by
   obtain ⟨vs,hvs,he⟩:=Aa he
   obtain ⟨v,hv,he⟩:=Aa he
   obtain ⟨H2,hH,he⟩:=Aa he
   simp only [osi] at he
   subst hr
   simp only [pmi] at he
   obtain ⟨rfl,rfl⟩:=he
   obtain ⟨c,hc1,hc2⟩:=fin vs hvs
   exact ⟨hr'.defers,c,hc1,c,G',s'.h,vs,rfl,hs,hinv',hc2,hv,hH⟩
  cases e with
  | normal =>
   rw [Ow] at he
   exact done _ he rfl
  | ret =>
   rw [Q1] at he
   exact done _ he rfl
  | exit id=>simp [IF] at he
theorem Pa {P : Program} {prog : FuncId -> Option VFunc} {X : Sig} (hX : De P X) (hm : P.follows .mixedOrders = true) (hok : ∀ f vf,prog f = some vf -> Ix P f vf = true) : ∀ n,De P (CQ prog X n)
 | 0=>hX
 | n + 1=>by
  intro f args H res H' he
  simp only [CQ] at he
  split at he
  ·rename_i r hr
   simp at he
   subst he
   exact hX _ _ _ _ _ hr
  ·split at he
   ·rename_i vf hvf
    exact W9 (Pa hX hm hok n) hm (hok f vf hvf) he
   .cases he
theorem Zq {prog : FuncId -> Option VFunc} {X : Sig} {f : FuncId} {args : List VVal} {H : List Ob} {r : VVal × List Ob} (h : ED prog X f args H = some r) : ∃ n,CQ prog X n f args H = some r:=by
 unfold ED at h
 split at h
 ·rename_i hex
  have:=Classical.choose_spec (Classical.choose_spec hex)
  simp only [osi] at h
  rw [h] at this
  exact ⟨_,this⟩
 .cases h
theorem Wu {P : Program} {prog : FuncId -> Option VFunc} {X : Sig} (hX : De P X) (hm : P.follows .mixedOrders = true) (hok : ∀ f vf,prog f = some vf -> Ix P f vf = true) : De P (ED prog X):=by
 intro f args H res H' he
 obtain ⟨n,hn⟩:=Zq he
 exact Pa hX hm hok n _ _ _ _ _ hn
end
end Go.V
namespace Go.V
open Go.RowKit Go.ChangeShapes Go.WideShapes Go.ChangeAt
section
variable [GK]
def allFz : Gh:={ kind:=fun _=>.frozen,blk:=fun _=>0,cap:=fun _=>0 }
end
end Go.V
