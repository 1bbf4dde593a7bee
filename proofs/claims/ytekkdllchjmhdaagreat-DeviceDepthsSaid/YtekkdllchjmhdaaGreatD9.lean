/- Part 9 of the proof. -/
import Derived.Test.YtekkdllchjmhdaaGreatD8
import Derived.Orders
import Derived.Still
import Derived.Scope
import Derived.ProofKit
set_option linter.unusedSectionVars false
set_option linter.unusedSimpArgs false
set_option linter.unusedVariables false
set_option maxHeartbeats 32000000
open Nat renaming le_refl → lrf
open List renaming getElem?_eq_getElem → lgg, getElem?_eq_some_iff → lgs, mem_of_getElem? → lmg, mem_cons_of_mem → lmc, map_cons → lpc, nil_append → lna, append_nil → lan, mem_map → lmm, mem_cons_self → lms, map_append → lma, getElem?_of_mem → lgm, length_cons → llc, flatMap_cons → lfc, getElem?_append_right → lgr, mem_cons → lmk, length_nil → lln, mem_append → lmp, pairwise_cons → lpw, cons_append → lca
open Option renaming some.injEq → osi
open Bool renaming and_eq_true → bat, false_eq_true → bft, or_eq_true → bot
open Array renaming getElem?_eq_some_iff → ags, getElem?_eq_getElem → aggz, getD_eq_getD_getElem? → agd
open Prod renaming mk.injEq → pmi
namespace Go.V
open Go.RowKit
section
variable [GK]
theorem It {a : Act} {t s : Nat} {c : Value} (ht : t < a.tmps.size) : (a.put (some t) c).tmps.getD s Go.undef = if s = t then c else a.tmps.getD s Go.undef:=by
 simp only [Act.put,agd,Array.getElem?_setIfInBounds]
 by_cases h : t = s
 .subst h; simp [ht]
 .simp [h,Ne.symm h]
theorem PU {vs : List Nat} {n : Nat} {G G' : Gh} {r : RS} {a : Act} {w w' : World} {h' : VHeap} (hr : RRel vs n G r a w) (hs : Step G r.h w G' h' w') {t : Option Tmp} {d : VDst} (hd : LQ vs n t d = true) {val : VVal} {c : Value} (hv : VRel G' h' w' val c) :
  RRel vs n G' { r.put d val with h:=h' } (a.put t c) w':=by
 unfold LQ at hd
 split at hd
 ·exact ⟨fun s hm=>(hr.pe s hm).mono hs,fun s v hv=>⟨(hr.te s v hv).1,(hr.te s v hv).2.mono hs⟩,hr.defers,hr.size,hr.good.step hs⟩
 ·rename_i t s
  simp only [bat,beq_iff_eq,decide_eq_true_eq,List.contains_iff_mem] at hd
  obtain ⟨⟨rfl,hm⟩,hlt⟩:=hd
  have hlt' : t < a.tmps.size:=Nat.lt_of_lt_of_le hlt hr.size
  refine ⟨fun s' hm'=>?_,fun s' v' hv'=>?_,hr.defers,by simp [Act.put]; exact hr.size,hr.good.step hs⟩
  ·rw [It hlt']
   simp only [RS.put,D2]
   split
   ·exact hv
   ·exact (hr.pe s' hm').mono hs
  ·simp only [RS.put] at hv'
   obtain ⟨h1,h2⟩:=hr.te s' v' hv'
   refine ⟨h1,?_⟩
   rw [It hlt',if_neg (fun e : s' = t=>h1 (by rw [e]; exact hm))]
   exact h2.mono hs
 ·rename_i t s
  simp only [bat,beq_iff_eq,decide_eq_true_eq,Bool.not_eq_true'] at hd
  obtain ⟨⟨rfl,hm⟩,hlt⟩:=hd
  have hm' : t ∉ vs:=fun h=>by rw [<- List.contains_iff_mem,hm] at h; cases h
  have hlt' : t < a.tmps.size:=Nat.lt_of_lt_of_le hlt hr.size
  refine ⟨fun s' hs'=>?_,fun s' v' hv'=>?_,hr.defers,by simp [Act.put]; exact hr.size,hr.good.step hs⟩
  ·rw [It hlt',if_neg (fun e : s' = t=>hm' (by rw [<- e]; exact hs'))]
   exact (hr.pe s' hs').mono hs
  ·simp only [RS.put,EK] at hv'
   rw [It hlt']
   split at hv'
   ·rename_i e
    subst e
    simp at hv'
    subst hv'
    simp only [if_true]
    exact ⟨hm',hv⟩
   ·rename_i e
    rw [if_neg e]
    exact ⟨(hr.te s' v' hv').1,(hr.te s' v' hv').2.mono hs⟩
 .cases hd
noncomputable def BU (Γ : Sig) (look : VArg -> Option VVal) (h : VHeap) (o : VOper) : Option (VVal × List (Id × Nat × Ob)) :=
 match o.guard with
 | none=>Al Γ look h o.dst.slot o.op
 | some (g,want)=>match look g with
  | some (.p (.bool b))=>if b == want then Al Γ look h o.dst.slot o.op else some (.undef,[])
  | some .undef=>some (.undef,[])
  | _=>none
noncomputable abbrev CX (Γ : Sig) (o : VOper) (r : RS) : Option (VVal × List (Id × Nat × Ob)):=BU Γ r.look r.h o
def RS.app (r : RS) (o : VOper) (q : VVal × List (Id × Nat × Ob)) : RS:={ r.put o.dst q.1 with h:=r.h.upds q.2 }
theorem PI (r : RS) (o : VOper) : r.app o (.undef,[]) = r.put o.dst .undef:=by
 unfold RS.app
 simp only [VHeap.upds]
 cases o.dst <;> rfl
theorem O3 {Γ : Sig} {o : VOper} {r r' : RS} (h : BQ Γ o r = some r') : ∃ q,CX Γ o r = some q /\ r' = r.app o q:=by
 unfold BQ at h
 unfold CX BU
 cases hg : o.guard with
 | none =>
  rw [hg] at h
  obtain ⟨q,hq,h⟩:=Aa h
  simp at h
  exact ⟨q,hq,h.symm⟩
 | some gw =>
  obtain ⟨g,want⟩:=gw
  rw [hg] at h
  obtain ⟨gv,hgv,h⟩:=Aa h
  simp only [hgv]
  split at h
  ·rename_i b
   cases hb : b == want with
   | true =>
    rw [hb,EC] at h
    obtain ⟨q,hq,h⟩:=Aa h
    simp at h
    exact ⟨q,by simp only [hb,if_true]; exact hq,h.symm⟩
   | false =>
    rw [hb,EB] at h
    simp at h
    exact ⟨(.undef,[]),by simp only [hb,bft,if_false],by rw [PI]; exact h.symm⟩
  ·simp at h
   exact ⟨(.undef,[]),rfl,by rw [PI]; exact h.symm⟩
  .cases h
theorem Na {P : Program} {vs : List Nat} {n : Nat} {ops : Array Oper} : ∀ {os : List Oper} {us : List VOper},Gj P vs n ops os us = true -> us.length = os.length /\ ∀ (i : Nat) (o : Oper) (u : VOper),os[i]? = some o -> us[i]? = some u -> E0 P vs n ops o u = true
 | [],[],_=>⟨rfl,fun i o u h=>by simp at h⟩
 | o :: os,u :: us,h=>by
  simp only [Gj,bat] at h
  obtain ⟨h1,h2⟩:=Na h.2
  refine ⟨by simp [h1],fun i o' u' ho hu=>?_⟩
  cases i with
  | zero=>simp at ho hu; subst ho; subst hu; exact h.1
  | succ i=>simp at ho hu; exact h2 i o' u' ho hu
 | [],_ :: _,h=>by simp [Gj] at h
 | _ :: _,[],h=>by simp [Gj] at h
section
variable {P : Program} {Γ : Sig} (hΓ : C1 P Γ) {vs : List Nat} {n : Nat}
include hΓ
theorem MY {G : Gh} {r : RS} {a : Act} {w : World} (hr : RRel vs n G r a w) (hi : HeapInv G r.h w) {ops : Array Oper} {o : Oper} {v : VOper} (hok : E0 P vs n ops o v = true) {i : Nat} (hoi : ops[i]? = some o)
  {q : VVal × List (Id × Nat × Ob)} (he : CX Γ v r = some q) {K : Act -> World -> Prop} {Q : Exit -> Act -> World -> Prop}
  (hK : ∀ a' w' G',Step G r.h w G' (r.app v q).h w' -> HeapInv G' (r.app v q).h w' -> RRel vs n G' (r.app v q) a' w' -> K a' w') : wpOp P ops Q i K a w:=by
 simp only [E0,bat] at hok
 obtain ⟨⟨hd,hg⟩,hop⟩:=hok
 unfold wpOp
 simp only [hoi]
 have run : Al Γ r.look r.h v.dst.slot v.op = some q -> o.wp P a w K Q:=fun hq=>by
  refine UQ hΓ hr hi rfl hop (val:=q.1) (us:=q.2) hq K Q fun c w' G' hs hinv hv=>?_
  exact hK _ w' G' hs hinv (PU hr hs hd hv)
 have skip : q = (.undef,[]) -> K (a.put o.dst Go.undef) w:=fun hq=>by
  subst hq
  refine hK _ w G (Step.refl _ _ _) hi ?_
  exact PU hr (Step.refl _ _ _) hd .undef
 unfold CX BU at he
 unfold P1 at hg
 split at hg
 ·rename_i h1 h2
  rw [h2] at he
  simp only at he
  rw [show Region.wanted o (yielded ops a.tmps) = true by simp [Region.wanted,h1]]
  exact .inl (run he)
 ·rename_i j w0 g w1 h1 h2
  rw [h2] at he
  simp only [bat,beq_iff_eq] at hg
  obtain ⟨rfl,hg⟩:=hg
  split at hg <;> try (cases hg; done)
  rename_i t ht
  simp only at he
  split at he
  ·rename_i b hb
   have hv:=F5 (Ay hr hg hb)
   have hy : yielded ops a.tmps j = some b:=by
    simp only [Act.eval] at hv
    unfold yielded
    rw [ht]
    simp only [Option.bind_some]
    cases hx : a.tmps[t]? with
    | none=>simp [agd,hx,Go.undef] at hv
    | some x=>simp [agd,hx] at hv; subst hv; rfl
   simp only [Region.wanted,h1,hy]
   split at he
   ·rename_i e
    simp only [beq_iff_eq] at e
    subst e
    simp only [beq_self_eq_true,if_true]
    exact .inl (run he)
   ·rename_i e
    have : (some b == some w0) = false:=by simpa using e
    rw [this]
    simp at he
    exact skip he.symm
  ·rename_i hb
   have hv:=Ay hr hg hb
   have hy : yielded ops a.tmps j = none:=by
    simp only [Act.eval] at hv
    unfold yielded
    rw [ht]
    simp only [Option.bind_some]
    cases hx : a.tmps[t]? with
    | none=>rfl
    | some x =>
     simp [agd,hx] at hv
     cases hv
     rfl
   simp only [Region.wanted,h1,hy]
   simp at he
   exact skip he.symm
  .cases he
 .cases hg
end
end
end Go.V
namespace Go.V
def Agree (p : Id -> Prop) (h h' : VHeap) : Prop:=∀ id,p id -> h' id = h id
theorem Agree.upds {p : Id -> Prop} : ∀ (us : List (Id × Nat × Ob)) {h h' : VHeap},Agree p h h' -> Agree p (h.upds us) (h'.upds us)
 | [],_,_,ha=>ha
 | (id,o) :: us,_,_,ha=>Agree.upds us fun i hi=>by
  simp only [VHeap.upd]
  split
  .rfl
  .exact ha i hi
theorem K2 : ∀ (us : List (Id × Nat × Ob)) (h h' : VHeap) (id : Id),id ∈ us.map (·.1) -> h.upds us id = h'.upds us id
 | [],_,_,_,hm=>by simp at hm
 | (i,o) :: us,h,h',id,hm=>by
  simp only [VHeap.upds]
  by_cases hin : id ∈ us.map (·.1)
  ·exact K2 us _ _ id hin
  ·rw [Ce us _ id hin,Ce us _ id hin]
   simp at hm
   rcases hm with rfl | hm
   .simp [VHeap.upd]
   .exact absurd (by simpa using hm) hin
theorem WI (us us' : List (Id × Nat × Ob)) (h : VHeap) (hd : ∀ id,id ∈ us.map (·.1) -> id ∈ us'.map (·.1) -> False) : (h.upds us).upds us' = (h.upds us').upds us:=by
 funext id
 by_cases h1 : id ∈ us'.map (·.1)
 ·have h2 : id ∉ us.map (·.1):=fun h2=>hd id h2 h1
  rw [K2 us' (h.upds us) h id h1,Ce us _ id h2]
 ·rw [Ce us' _ id h1]
  by_cases h2 : id ∈ us.map (·.1)
  .rw [K2 us (h.upds us') h id h2]
  .rw [Ce us _ id h2,Ce us _ id h2,Ce us' _ id h1]
theorem BA {α β : Type} {f g : α -> Option β} : ∀ {l : List α},(∀ x ∈ l,f x = g x) -> Ad f l = Ad g l
 | [],_=>rfl
 | x :: xs,h=>by
  simp only [Ad]
  rw [h x (lms ..),BA fun y hy=>h y (lmc _ hy)]
section
variable {p : Id -> Prop} {h h' : VHeap}
theorem Ez {v : VVal} {id : Id} (hm : id ∈ ids0 v) : id ∈ ids1 v:=by
 cases v <;> simp_all [ids0,ids1]
theorem VN {v : VVal} (ha : ∀ id ∈ ids0 v,h' id = h id) : Fc h' v = Fc h v:=by
 cases v with
 | ptr=>simp only [Fc,ids0] at ha ⊢; rw [ha _ (List.mem_singleton_self _)]
 | eptr=>simp only [Fc,ids0] at ha ⊢; rw [ha _ (List.mem_singleton_self _)]
 | _=>rfl
theorem JB {v : VVal} (ha : ∀ id ∈ ids0 v,h' id = h id) : AH h' v = AH h v:=by
 cases v with
 | p d=>cases d <;> rfl
 | own=>simp only [AH,ids0] at ha ⊢; rw [ha _ (List.mem_singleton_self _)]
 | _=>rfl
theorem Mi {v : VVal} (ha : ∀ id ∈ ids0 v,h' id = h id) : Cz h' v = Cz h v:=by
 cases v with
 | p d=>cases d <;> rfl
 | mref=>simp only [Cz,ids0] at ha ⊢; rw [ha _ (List.mem_singleton_self _)]
 | _=>rfl
theorem T1 {n : Nat} {vs : List VVal} {v : VVal} (ha : ∀ id ∈ ids0 v,h' id = h id) : D7 h' n vs v = D7 h n vs v:=by
 cases v with
 | ptr=>simp only [D7,ids0] at ha ⊢; rw [ha _ (List.mem_singleton_self _)]
 | eptr=>simp only [D7,ids0] at ha ⊢; rw [ha _ (List.mem_singleton_self _)]
 | _=>rfl
theorem T2 {sz i : Nat} {v : VVal} (ha : ∀ id ∈ ids0 v,h' id = h id) : D8 h' sz i v = D8 h sz i v:=by
 cases v with
 | p d=>cases d <;> rfl
 | own=>simp only [D8,ids0] at ha ⊢; rw [ha _ (List.mem_singleton_self _)]
 | _=>rfl
theorem Nt {sz l m : Nat} {v : VVal} (ha : ∀ id ∈ ids0 v,h' id = h id) : Ds h' sz l m v = Ds h sz l m v:=by
 cases v with
 | p d=>cases d <;> rfl
 | own=>simp only [Ds,ids0] at ha ⊢; rw [ha _ (List.mem_singleton_self _)]
 | _=>rfl
theorem MQ {d j : Nat} {z : ZC} (ha : ∀ k,h' (.slot d k) = h (.slot d k)) : zcell d h' j z = zcell d h j z:=by
 cases z <;> simp only [zcell,ha]
theorem Kc {d : Nat} (us : List (Id × Nat × Ob)) (ha : ∀ k,h' (.slot d k) = h (.slot d k)) : ∀ k,(h'.upds us) (.slot d k) = (h.upds us) (.slot d k):=fun k =>
 Agree.upds (p:=fun id=>∃ k,id = .slot d k) us (fun _ ⟨k,e⟩=>e ▸ ha k) _ ⟨k,rfl⟩
end
theorem Mv {d : Nat} : ∀ (zs : List ZC) (j : Nat) (h h' : VHeap),(∀ k,h' (.slot d k) = h (.slot d k)) -> zcells d h' j zs = zcells d h j zs
 | [],_,_,_,_=>rfl
 | z :: zs,j,h,h',ha=>by
  simp only [zcells]
  rw [MQ ha,Mv zs (j + 1) _ _ (Kc _ ha)]
theorem JE {look : VArg -> Option VVal} {d : Nat} : ∀ (bs : List BC) (j : Nat) (h h' : VHeap),(∀ k,h' (.slot d k) = h (.slot d k)) -> BP look d h' j bs = BP look d h j bs
 | [],_,_,_,_=>rfl
 | .z z :: bs,j,h,h',ha=>by
  simp only [BP]
  rw [MQ ha,JE bs (j + 1) _ _ (Kc _ ha)]
 | .a x i n :: bs,j,h,h',ha=>by
  simp only [BP]
  rw [JE bs (j + 1) _ _ ha]
theorem Fm : ∀ (l R : List Id) {i : Id},i ∈ R -> i ∈ B5 R l
 | [],_,_,h=>h
 | x :: xs,R,i,h=>by
  simp only [B5]
  refine Fm xs _ ?_
  split
  .exact h
  .exact lmp.2 (.inl h)
theorem Mn {h h' : VHeap} {l : List Id} (ha : ∀ id ∈ l,h' id = h id) : l.flatMap (Fu h') = l.flatMap (Fu h):=by
 induction l with
 | nil=>rfl
 | cons x xs ih =>
  simp only [lfc]
  rw [ih fun id hm=>ha id (lmc _ hm)]
  simp only [Fu,ha x (lms ..)]
theorem M7 {h h' : VHeap} {args : List VVal} (ha : ∀ id ∈ roots h args,h' id = h id) : roots h' args = roots h args:=by
 simp only [roots] at ha ⊢
 split
 ·rfl
 ·rename_i hne
  rw [if_neg hne] at ha
  have h0:=Mn (h:=h) (h':=h') (l:=B5 [] (args.flatMap GC)) fun id hm=>ha id (Fm _ _ (Fm _ _ hm))
  rw [h0]
  have h1:=Mn (h:=h) (h':=h') (l:=B5 (B5 [] (args.flatMap GC)) ((B5 [] (args.flatMap GC)).flatMap (Fu h))) fun id hm=>ha id (Fm _ _ hm)
  rw [h1]
theorem JS {h h' : VHeap} {id : Id} {ver : Nat} (ha : h' id = h id) : BE h' id ver = BE h id ver:=by simp only [BE,ha]
theorem NW {R : List Id} {h h' : VHeap} {v : VVal} (ha : ∀ id ∈ ids0 v,h' id = h id) : Be R h' v = Be R h v:=by
 cases v <;> simp only [Be]
 case own=>rw [JB ha]
 case mref=>rw [Mi ha]
 case ptr=>simp only [ids0] at ha; rw [JS (ha _ (List.mem_singleton_self _))]
 case eptr=>simp only [ids0] at ha; rw [ha _ (List.mem_singleton_self _)]
theorem Wn {R : List Id} {h h' : VHeap} {v : VVal} (ha : ∀ id ∈ ids1 v,h' id = h id) : BY R h' v = BY R h v:=by
 cases v <;> simp only [BY] <;> try (exact NW fun id hm=>ha id (Ez hm))
 all_goals
  rw [BA fun x hx=>NW fun id hm=>ha id (by simp only [ids1,List.mem_flatMap]; exact ⟨x,hx,hm⟩)]
theorem Oh {R : List Id} {id : Id} (h : id ∉ R) : BJ R id = none:=by
 cases hp : BJ R id with
 | none=>simp only [Aw]
 | some i=>exact absurd (lmg (CH hp)) h
theorem Qg {α : Type} (c : Prop) [Decidable c] (u : Tok (none : Option α)) : gd c (none : Option α) u = none:=by
 unfold gd
 split <;> rfl
theorem PC {R : List Id} {h h' : VHeap} {v : VVal} (ha : ∀ id ∈ R,h' id = h id) (hl : Gu v = false) : Be R h' v = Be R h v:=by
 cases v <;> simp only [Be] <;> try (simp [Gu] at hl; done)
 rename_i id ver off
 by_cases hm : id ∈ R
 ·rw [JS (ha id hm)]
 ·rw [Oh hm]
  simp only [Aw,Qg]
theorem Y3 {R : List Id} {h h' : VHeap} {v : VVal} (ha : ∀ id ∈ R,h' id = h id) (hl : DX v = false) : BY R h' v = BY R h v:=by
 cases v <;> simp only [BY,DX] at hl ⊢ <;> try (exact PC ha hl)
 all_goals
  rw [BA fun x hx=>PC ha (by
   rw [List.any_eq_false] at hl
   simpa using hl x hx)]
theorem UO {R : List Id} {h h' : VHeap} {id : Id} (hid : id ∈ R) (ha : ∀ id ∈ R,h' id = h id) : CW R h' id = CW R h id:=by
 simp only [CW,ha id hid]
 split
 ·rename_i cs _
  by_cases hl : cs.any DX = false
  ·simp only [gd,if_pos hl]
   rw [BA fun x hx=>Y3 ha (by
    rw [List.any_eq_false] at hl
    simpa using hl x hx)]
  .simp only [gd,if_neg hl]
 .rfl
section
variable {R : List Id} {h h' : VHeap} (ha : ∀ id ∈ R,h' id = h id)
include ha
theorem JR (v : VVal) : CE R h' v = CE R h v:=by
 unfold CE
 split
 ·rfl
 ·rename_i i off
  cases hi : R[i]? with
  | none=>simp only [Aw]
  | some id =>
   simp only [Ai]
   rw [ha id (lmg hi)]
 ·rename_i i j off
  cases hi : R[i]? with
  | none=>simp only [Aw]
  | some id =>
   simp only [Ai]
   rw [ha id (lmg hi)]
 .rfl
theorem VE (v : VVal) : DZ R h' v = DZ R h v:=by
 cases v <;> simp only [DZ] <;> try (exact JR ha _)
 rw [BA fun x _=>JR ha x]
theorem Mh : ∀ (ids : List Id) (os : List Ob),(∀ id ∈ ids,id ∈ R) -> C2 R h' ids os = C2 R h ids os
 | [],[],_=>rfl
 | [],_ :: _,_=>rfl
 | _ :: _,[],_=>rfl
 | id :: ids,o :: os,hs=>by
  cases o <;> simp only [C2]
  rw [BA fun x _=>VE ha x,ha id (hs id (lms ..)),Mh ids os fun i hi=>hs i (lmc _ hi)]
variable {d : Nat} (hd : ∀ k,h' (.slot d k) = h (.slot d k))
include hd
theorem Kr (j : Nat) (v : VVal) : in0 R h' d j v = in0 R h d j v:=by
 unfold in0
 split
 .rw [hd]
 .rw [JR ha]
theorem Kq : ∀ (j : Nat) (vs : List VVal),inL R h' d j vs = inL R h d j vs
 | _,[]=>rfl
 | j,v :: vs=>by
  simp only [inL]
  rw [Kr ha hd,Kq (j + 1) vs]
theorem OH (j : Nat) (v : VVal) : in1 R h' d j v = in1 R h d j v:=by
 unfold in1
 split
 .rw [Kq ha hd]
 .rw [Kq ha hd,hd]
 .rw [Kr ha hd]
theorem OD : ∀ (j : Nat) (vs : List VVal),inT R h' d j vs = inT R h d j vs
 | _,[]=>rfl
 | j,v :: vs=>by
  simp only [inT]
  rw [OH ha hd,OD (j + Ee v) vs]
theorem Nc (v : VVal) : CZ R h' d v = CZ R h d v:=by
 unfold CZ
 split
 .rw [OD ha hd]
 .rw [OH ha hd]
end
theorem Us {Γ : Sig} {h h' : VHeap} {d : Nat} {f : FuncId} {args : List VVal} {R : List Id} (h1 : ∀ v ∈ args,∀ id ∈ ids1 v,h' id = h id) (h2 : ∀ id ∈ R,h' id = h id) (hd : ∀ k,h' (.slot d k) = h (.slot d k)) :
  C5 Γ h' d f args R = C5 Γ h d f args R:=by
 unfold C5
 have e1 : Ad (BY R h') args = Ad (BY R h) args:=BA fun x hx=>Wn (h1 x hx)
 have e2 : Ad (CW R h') R = Ad (CW R h) R:=BA fun x hx=>UO hx h2
 have e3 : ∀ os,C2 R h' R os = C2 R h R os:=fun os=>Mh h2 R os fun _ h=>h
 have e4 : ∀ v,CZ R h' d v = CZ R h d v:=fun v=>Nc h2 hd v
 rw [e1,e2]
 cases Ad (BY R h) args with
 | none=>simp only [Aw]
 | some args' =>
  cases Ad (CW R h) R with
  | none=>simp only [Aw]
  | some H =>
   cases hr : Γ f args' H with
   | none=>simp only [Ai,hr,Aw]
   | some r =>
    simp only [Ai,hr]
    rw [e3,e4]
theorem HI {Γ : Sig} {h h' : VHeap} {d : Nat} {f : FuncId} {args : List VVal} (h1 : ∀ v ∈ args,∀ id ∈ ids1 v,h' id = h id) (h2 : ∀ id ∈ roots h args,h' id = h id) (hd : ∀ k,h' (.slot d k) = h (.slot d k)) :
  CK Γ h' d f args = CK Γ h d f args:=by
 unfold CK
 rw [M7 h2]
 exact Us h1 h2 hd
theorem Mj {h h' : VHeap} {l : List Id} (ha : ∀ id ∈ l,h' id = h id) : l.flatMap (Fq h') = l.flatMap (Fq h):=by
 induction l with
 | nil=>rfl
 | cons x xs ih =>
  simp only [lfc]
  rw [ih fun id hm=>ha id (lmc _ hm)]
  simp only [Fq,ha x (lms ..)]
theorem MC {h h' : VHeap} {args : List VVal} (ha : ∀ id ∈ rootsW h args,h' id = h id) : rootsW h' args = rootsW h args:=by
 simp only [rootsW] at ha ⊢
 split
 ·rfl
 ·rename_i hne
  rw [if_neg hne] at ha
  have h0:=Mj (h:=h) (h':=h') (l:=B5 [] (args.flatMap Gr)) fun id hm=>ha id (Fm _ _ (Fm _ _ hm))
  rw [h0]
  have h1:=Mj (h:=h) (h':=h') (l:=B5 (B5 [] (args.flatMap Gr)) ((B5 [] (args.flatMap Gr)).flatMap (Fq h))) fun id hm=>ha id (Fm _ _ hm)
  rw [h1]
theorem TU {h h' : VHeap} {op : VOp} {args : List VVal} (ha : ∀ id ∈ callRoots h op args,h' id = h id) : callRoots h' op args = callRoots h op args:=by
 cases op <;> first | exact MC ha | exact M7 ha
theorem Ng {R : List Id} {h h' : VHeap} {v : VVal} (ha : ∀ id ∈ R,h' id = h id) : Bx R h' v = Bx R h v:=by
 have key : ∀ (id : Id) (ver : Nat) (f : Nat -> Option VVal),gd (BE h' id ver = true) (ob (BJ R id) f) = gd (BE h id ver = true) (ob (BJ R id) f):=fun id ver f=>by
  by_cases hm : id ∈ R
  ·rw [JS (ha id hm)]
  ·rw [Oh hm]
   simp only [Aw,Qg]
 cases v <;> simp only [Bx] <;> exact key _ _ _
theorem Nf {R : List Id} {h h' : VHeap} {v : VVal} (ha : ∀ id ∈ R,h' id = h id) : Cv R h' v = Cv R h v:=by
 cases v <;> simp only [Cv] <;> try (exact Ng ha)
 all_goals rw [BA fun x _=>Ng ha]
theorem UN {R : List Id} {h h' : VHeap} {id : Id} (hid : id ∈ R) (ha : ∀ id ∈ R,h' id = h id) : DF R h' id = DF R h id:=by
 simp only [DF,ha id hid]
 split
 .rw [BA fun x _=>Nf ha]
 .rfl
 .rfl
 .rfl
section
variable {R : List Id} {h h' : VHeap} (ha : ∀ id ∈ R,h' id = h id)
include ha
theorem MM (v : VVal) : CC R h' v = CC R h v:=by
 have key : ∀ (i : Nat) (f : Id -> Nat × Ob -> Option VVal),(ob R[i]? fun id=>ob (h' id) (f id)) = ob R[i]? fun id=>ob (h id) (f id):=fun i f=>by
  cases hi : R[i]? with
  | none=>simp only [Aw]
  | some id =>
   simp only [Ai]
   rw [ha id (lmg hi)]
 unfold CC
 split
 .rfl
 .exact key _ _
 .exact key _ _
 .exact key _ _
 .exact key _ _
 .rfl
theorem UY (v : VVal) : DG R h' v = DG R h v:=by
 cases v <;> simp only [DG] <;> try (exact MM ha _)
 rw [BA fun x _=>MM ha x]
variable {d : Nat} (hd : ∀ k,h' (.slot d k) = h (.slot d k))
include hd
theorem Xl (j : Nat) (v : VVal) : inC R h' d j v = inC R h d j v:=by
 unfold inC
 split
 .rw [hd]
 .rw [UY ha]
theorem NQ : ∀ (j : Nat) (vs : List VVal),Cc R h' d j vs = Cc R h d j vs
 | _,[]=>rfl
 | j,v :: vs=>by
  simp only [Cc]
  rw [Xl ha hd,NQ (j + 1) vs]
theorem Ms : ∀ (j : Nat) (ids : List Id) (os : List Ob),(∀ id ∈ ids,id ∈ R) -> BI R h' d j ids os = BI R h d j ids os
 | _, [], [], _=>rfl
 | _, [], _ :: _, _=>rfl
 | _, _ :: _, [], _=>rfl
 | j, id :: ids, o :: os, hs=>by
  have ih:=fun k=>Ms k ids os fun i hi=>hs i (lmc _ hi)
  simp only [BI]
  rw [ha id (hs id (lms ..))]
  cases h id with
  | none=>simp only [Aw]
  | some q =>
   simp only [Ai]
   split
   ·rw [NQ ha hd]
    cases Cc R h d j _ with
    | none=>simp only [Aw]
    | some r =>
     simp only [Ai]
     rw [ih]
   .rw [ih]
   .rw [ih]
   .rw [ih]
   .rfl
end
theorem Wg {R : List Id} {h h' : VHeap} {d j : Nat} (h2 : ∀ id ∈ R,h' id = h id) (hd : ∀ k,h' (.slot d k) = h (.slot d k)) (v : VVal) : Dt R h' d j v = Dt R h d j v:=by
 unfold Dt
 split
 ·rename_i i off len
  cases hR : R[i]? with
  | none=>simp only [Aw]
  | some id=>simp only [Ai,h2 id (lmg hR)]
 ·rename_i i off len
  cases hR : R[i]? with
  | none=>simp only [Aw]
  | some id=>simp only [Ai,h2 id (lmg hR)]
 .exact Kr h2 hd _ _
theorem NP {R : List Id} {h h' : VHeap} {d : Nat} (h2 : ∀ id ∈ R,h' id = h id) (hd : ∀ k,h' (.slot d k) = h (.slot d k)) : ∀ (vs : List VVal) (j : Nat),Cx R h' d j vs = Cx R h d j vs
 | [],_=>rfl
 | v :: vs,j=>by
  simp only [Cx]
  rw [Wg h2 hd,NP h2 hd vs (j + 1)]
theorem UI {R : List Id} {h h' : VHeap} {d : Nat} (h2 : ∀ id ∈ R,h' id = h id) (hd : ∀ k,h' (.slot d k) = h (.slot d k)) (v : VVal) : Dm R h' d v = Dm R h d v:=by
 unfold Dm
 split
 ·rename_i i off len
  cases hR : R[i]? with
  | none=>simp only [Aw]
  | some id=>simp only [Ai,h2 id (lmg hR)]
 ·rename_i i off len
  cases hR : R[i]? with
  | none=>simp only [Aw]
  | some id=>simp only [Ai,h2 id (lmg hR)]
 .rw [NP h2 hd]
 .exact Nc h2 hd _
theorem T9 {Γ : Sig} {h h' : VHeap} {d : Nat} {f : FuncId} {args : List VVal} {R : List Id} (h2 : ∀ id ∈ R,h' id = h id) (hd : ∀ k,h' (.slot d k) = h (.slot d k)) :
  C3 Γ h' d f args R = C3 Γ h d f args R:=by
 unfold C3
 have e1 : Ad (Cv R h') args = Ad (Cv R h) args:=BA fun x _=>Nf h2
 have e2 : Ad (DF R h') R = Ad (DF R h) R:=BA fun x hx=>UN hx h2
 have e3 : ∀ os,BI R h' d 1000 R os = BI R h d 1000 R os:=fun os=>Ms h2 hd 1000 R os fun _ h=>h
 have e4 : ∀ v,Dm R h' d v = Dm R h d v:=fun v=>UI h2 hd v
 rw [e1,e2]
 cases Ad (Cv R h) args with
 | none=>simp only [Aw]
 | some args' =>
  cases Ad (DF R h) R with
  | none=>simp only [Aw]
  | some H =>
   cases hr : Γ f args' H with
   | none=>simp only [Ai,hr,Aw]
   | some r =>
    simp only [Ai,hr]
    rw [e3,e4]
theorem FO {Γ : Sig} {h h' : VHeap} {d : Nat} {f : FuncId} {args : List VVal} (h2 : ∀ id ∈ rootsW h args,h' id = h id) (hd : ∀ k,h' (.slot d k) = h (.slot d k)) :
  Bv Γ h' d f args = Bv Γ h d f args:=by
 unfold Bv
 rw [MC h2]
 exact T9 h2 hd
end Go.V
namespace Go.V
theorem CQ {α β : Type} {f : α -> Option β} : ∀ {l : List α} {ys : List β},Ad f l = some ys -> l.filterMap f = ys
 | [],ys,h=>by simp [Ad] at h; subst h; rfl
 | x :: xs,ys,h=>by
  obtain ⟨y,hy,h⟩:=Aa h
  obtain ⟨zs,hz,h⟩:=Aa h
  simp at h
  subst h
  rw [List.filterMap_cons,hy,CQ hz]
theorem JP {look look' : VArg -> Option VVal} {d : Nat} : ∀ (bs : List BC) (j : Nat) (h : VHeap),(∀ x i n,BC.a x i n ∈ bs -> look' x = look x) -> BP look' d h j bs = BP look d h j bs
 | [],_,_,_=>rfl
 | .z z :: bs,j,h,ha=>by
  simp only [BP]
  rw [JP bs (j + 1) _ fun x i n hm=>ha x i n (lmc _ hm)]
 | .a x i n :: bs,j,h,ha=>by
  simp only [BP]
  rw [ha x i n (lms ..),JP bs (j + 1) _ fun x i n hm=>ha x i n (lmc _ hm)]
theorem M9 {look look' : VArg -> Option VVal} {x : Option VArg} {k : Nat} (h : ∀ y,x = some y -> look' y = look y) : Ci look' k x = Ci look k x:=by
 cases x with
 | none=>rfl
 | some y=>simp only [Ci,h y rfl]
theorem Nh {Γ : Sig} {look look' : VArg -> Option VVal} {h : VHeap} {d : Nat} (op : VOp) (hx : ∀ x ∈ op.args,look' x = look x) : Al Γ look' h d op = Al Γ look h d op:=by
 cases op <;> simp only [VOp.args,lmk,List.not_mem_nil,or_false,forall_eq_or_imp,forall_eq] at hx <;> simp only [Al]
 case pick=>rw [hx.1,hx.2.1,hx.2.2]
 case build cs =>
  rw [JP cs 0 h fun x i n hm=>hx x (List.mem_filterMap.2 ⟨_,hm,rfl⟩)]
 case buildPtrs ps=>rw [BA hx]
 case callA=>rw [BA hx]
 case buildFz sz ps =>
  rw [BA (f:=fun x=>ob (look' x) fun v=>BB v) (g:=fun x=>ob (look x) fun v=>BB v) fun x hm=>by rw [hx x hm]]
 case buildSlice sz ps =>
  rw [BA (f:=fun x=>ob (look' x) fun v=>BB v) (g:=fun x=>ob (look x) fun v=>BB v) fun x hm=>by rw [hx x hm]]
 case buildArr sz ps =>
  rw [BA (f:=fun x=>ob (look' x) fun v=>BB v) (g:=fun x=>ob (look x) fun v=>BB v) fun x hm=>by rw [hx x hm]]
 case slice str sz lo hi mx x =>
  rw [hx.1]
  cases look x with
  | none=>simp only [Aw]
  | some s =>
   simp only [Ai]
   have e1 : ∀ k,Ci look' k lo = Ci look k lo:=fun k=>M9 fun y hy=>hx.2 y (by simp [hy])
   have e2 : ∀ k,Ci look' k hi = Ci look k hi:=fun k=>M9 fun y hy=>hx.2 y (by simp [hy])
   have e3 : ∀ sz l m s,DH d h look' sz l m s mx = DH d h look sz l m s mx:=fun sz l m s=>by
    cases mx with
    | none=>rfl
    | some y=>simp only [DH,hx.2 y (by simp)]
   have e4 : EY look' lo hi s = EY look lo hi s:=by
    unfold EY
    cases FE s with
    | none=>simp only [Aw]
    | some n =>
     simp only [Ai]
     rw [e1,e2]
   have e5 : DU d h look' sz lo hi mx s = DU d h look sz lo hi mx s:=by
    unfold DU
    cases D0 s with
    | none=>simp only [Aw]
    | some n =>
     simp only [Ai]
     rw [e1,e2]
     cases Ci look 0 lo with
     | none=>simp only [Aw]
     | some l =>
      simp only [Ai]
      cases Ci look n hi with
      | none=>simp only [Aw]
      | some m =>
       simp only [Ai]
       rw [e3]
   rw [e4,e5]
 case minmax=>rw [BA hx]
 case makeFunc=>rw [BA hx]
 case call=>rw [BA hx]
 case callv=>rw [hx.1,BA hx.2]
 case callW=>rw [BA hx]
 case callR=>rw [BA hx]
 case callvW=>rw [hx.1,BA hx.2]
 all_goals first
  | done
  | rw [hx]
  | rw [hx.1,hx.2]
  | rw [hx.1,hx.2.1,hx.2.2]
theorem Mq {Γ : Sig} {look : VArg -> Option VVal} {h h' : VHeap} {d : Nat} {op : VOp} (hs : op.silent = true) : Al Γ look h' d op = Al Γ look h d op:=by
 cases op <;> first | rfl | (simp [VOp.silent] at hs)
theorem JC {Γ : Sig} {look : VArg -> Option VVal} {h : VHeap} {d : Nat} {op : VOp} (hs : op.silent = true \/ op.reader = true) {q : VVal × List (Id × Nat × Ob)} (he : Al Γ look h d op = some q) : q.2 = []:=by
 cases op <;> first | (simp [VOp.silent,VOp.reader] at hs; done) | skip
 all_goals simp only [Al] at he
 case callR =>
  obtain ⟨_,_,he⟩:=Aa he
  obtain ⟨_,_,he⟩:=Aa he
  obtain ⟨_,he⟩:=Ac he
  simp only [osi] at he
  rw [<- he]
 case buildPtrs =>
  obtain ⟨_,_,he⟩:=Aa he
  obtain ⟨_,he⟩:=Ac he
  simp only [osi] at he
  rw [<- he]
 case buildFz =>
  obtain ⟨_,_,he⟩:=Aa he
  obtain ⟨_,he⟩:=Ac he
  simp only [osi] at he
  rw [<- he]
 case buildArr =>
  obtain ⟨_,_,he⟩:=Aa he
  obtain ⟨_,he⟩:=Ac he
  simp only [osi] at he
  rw [<- he]
 case indexArr =>
  obtain ⟨_,_,he⟩:=Aa he
  obtain ⟨_,_,he⟩:=Aa he
  split at he <;> first | (cases he; done) | skip
  obtain ⟨_,he⟩:=Ac he
  obtain ⟨_,he⟩:=Ac he
  obtain ⟨_,_,he⟩:=Aa he
  simp only [osi] at he
  rw [<- he]
 case move =>
  obtain ⟨_,_,he⟩:=Aa he
  simp only [osi] at he
  rw [<- he]
 case pick =>
  obtain ⟨_,_,he⟩:=Aa he
  split at he <;> first | (cases he; done) | skip
  unfold br at he
  split at he
  ·obtain ⟨_,_,he⟩:=Aa he
   simp only [osi] at he
   rw [<- he]
  ·obtain ⟨_,_,he⟩:=Aa he
   simp only [osi] at he
   rw [<- he]
 case load =>
  obtain ⟨_,_,he⟩:=Aa he
  obtain ⟨_,_,he⟩:=Aa he
  simp only [osi] at he
  rw [<- he]
 case fieldAddr =>
  obtain ⟨_,_,he⟩:=Aa he
  split at he <;> first | (cases he; done) | skip
  all_goals
   simp only [osi] at he
   rw [<- he]
 case field =>
  obtain ⟨_,_,he⟩:=Aa he
  split at he <;> first | (cases he; done) | skip
  obtain ⟨_,_,he⟩:=Aa he
  simp only [osi] at he
  rw [<- he]
 case indexAddr =>
  obtain ⟨_,_,he⟩:=Aa he
  obtain ⟨_,_,he⟩:=Aa he
  split at he <;> first | (cases he; done) | skip
  obtain ⟨_,_,he⟩:=Aa he
  simp only [osi] at he
  rw [<- he]
 case indexStr =>
  obtain ⟨_,_,he⟩:=Aa he
  obtain ⟨_,_,he⟩:=Aa he
  split at he <;> first | (cases he; done) | skip
  obtain ⟨_,he⟩:=Ac he
  obtain ⟨_,_,he⟩:=Aa he
  simp only [osi] at he
  rw [<- he]
 case bin =>
  obtain ⟨_,_,he⟩:=Aa he
  obtain ⟨_,_,he⟩:=Aa he
  obtain ⟨_,_,he⟩:=Aa he
  simp only [osi] at he
  rw [<- he]
 case eqAgg =>
  obtain ⟨_,_,he⟩:=Aa he
  obtain ⟨_,_,he⟩:=Aa he
  split at he <;> first | (cases he; done) | skip
  obtain ⟨_,_,he⟩:=Aa he
  obtain ⟨_,_,he⟩:=Aa he
  obtain ⟨_,_,he⟩:=Aa he
  simp only [osi] at he
  rw [<- he]
 case not =>
  obtain ⟨_,_,he⟩:=Aa he
  split at he <;> first | (cases he; done) | skip
  simp only [osi] at he
  rw [<- he]
 case len =>
  obtain ⟨_,_,he⟩:=Aa he
  obtain ⟨_,_,he⟩:=Aa he
  simp only [osi] at he
  rw [<- he]
 case lenStr =>
  obtain ⟨_,_,he⟩:=Aa he
  obtain ⟨_,_,he⟩:=Aa he
  simp only [osi] at he
  rw [<- he]
 case lookup =>
  obtain ⟨_,_,he⟩:=Aa he
  obtain ⟨_,_,he⟩:=Aa he
  obtain ⟨_,_,he⟩:=Aa he
  obtain ⟨_,he⟩:=Ac he
  obtain ⟨_,_,he⟩:=Aa he
  simp only [osi] at he
  rw [<- he]
 case extract =>
  obtain ⟨_,_,he⟩:=Aa he
  split at he <;> first | (cases he; done) | skip
  obtain ⟨_,_,he⟩:=Aa he
  simp only [osi] at he
  rw [<- he]
 case minmax =>
  obtain ⟨_,_,he⟩:=Aa he
  obtain ⟨_,_,he⟩:=Aa he
  simp only [osi] at he
  rw [<- he]
 case nilCheck =>
  obtain ⟨_,_,he⟩:=Aa he
  split at he <;> first | (cases he; done) | skip
  all_goals
   simp only [osi] at he
   rw [<- he]
 case makeFunc =>
  obtain ⟨_,_,he⟩:=Aa he
  simp only [osi] at he
  rw [<- he]
theorem Nm {d j : Nat} {h : VHeap} {z : ZC} : ∀ x ∈ (zcell d h j z).2,∃ k,x.1 = .slot d k:=by
 cases z <;> simp [zcell]
theorem MO {d : Nat} : ∀ (zs : List ZC) (j : Nat) (h : VHeap),∀ x ∈ (zcells d h j zs).2,∃ k,x.1 = .slot d k
 | [],_,_,x,hx=>by simp [zcells] at hx
 | z :: zs,j,h,x,hx=>by
  simp only [zcells,lmp] at hx
  rcases hx with hx | hx
  .exact Nm x hx
  .exact MO zs _ _ x hx
theorem JQ {look : VArg -> Option VVal} {d : Nat} : ∀ (bs : List BC) (j : Nat) (h : VHeap) (q : List VVal × List (Id × Nat × Ob)),BP look d h j bs = some q -> ∀ x ∈ q.2,∃ k,x.1 = .slot d k
 | [],_,_,q,he,x,hx=>by simp [BP] at he; subst he; simp at hx
 | .z z :: bs,j,h,q,he,x,hx=>by
  simp only [BP] at he
  obtain ⟨q',hq',he⟩:=Aa he
  simp only [osi] at he
  subst he
  simp only [lmp] at hx
  rcases hx with hx | hx
  .exact Nm x hx
  .exact JQ bs _ _ q' hq' x hx
 | .a y i n :: bs,j,h,q,he,x,hx=>by
  simp only [BP] at he
  obtain ⟨v,_,he⟩:=Aa he
  obtain ⟨_,he⟩:=Ac he
  obtain ⟨c,_,he⟩:=Aa he
  obtain ⟨_,he⟩:=Ac he
  obtain ⟨q',hq',he⟩:=Aa he
  simp only [osi] at he
  subst he
  exact JQ bs _ _ q' hq' x hx
section
variable {R : List Id} {h : VHeap} {d : Nat}
theorem KS {j : Nat} {v : VVal} {q : VVal × List (Id × Nat × Ob)} (he : in0 R h d j v = some q) : ∀ x ∈ q.2,∃ k,x.1 = .slot d k:=by
 unfold in0 at he
 split at he
 ·simp only [osi] at he
  subst he
  simp
 ·obtain ⟨v',_,he1⟩:=Aa he
  simp only [osi] at he1
  subst he1
  simp
theorem KR : ∀ {vs : List VVal} {j : Nat} {q : List VVal × List (Id × Nat × Ob)},inL R h d j vs = some q -> ∀ x ∈ q.2,∃ k,x.1 = .slot d k
 | [],_,q,he,x,hx=>by simp [inL] at he; subst he; simp at hx
 | v :: vs,j,q,he,x,hx=>by
  simp only [inL] at he
  obtain ⟨q1,h1,he⟩:=Aa he
  obtain ⟨q2,h2,he⟩:=Aa he
  simp only [osi] at he
  subst he
  simp only [lmp] at hx
  rcases hx with hx | hx
  .exact KS h1 x hx
  .exact KR h2 x hx
theorem Pv {j : Nat} {v : VVal} {q : VVal × List (Id × Nat × Ob)} (he : in1 R h d j v = some q) : ∀ x ∈ q.2,∃ k,x.1 = .slot d k:=by
 unfold in1 at he
 split at he
 ·obtain ⟨q1,h1,he1⟩:=Aa he
  simp only [osi] at he1
  subst he1
  exact KR h1
 ·obtain ⟨q1,h1,he1⟩:=Aa he
  simp only [osi] at he1
  subst he1
  intro x hx
  simp only [lmk] at hx
  rcases hx with rfl | hx
  .exact ⟨_,rfl⟩
  .exact KR h1 x hx
 .exact KS he
theorem Ps : ∀ {vs : List VVal} {j : Nat} {q : List VVal × List (Id × Nat × Ob)},inT R h d j vs = some q -> ∀ x ∈ q.2,∃ k,x.1 = .slot d k
 | [],_,q,he,x,hx=>by simp [inT] at he; subst he; simp at hx
 | v :: vs,j,q,he,x,hx=>by
  simp only [inT] at he
  obtain ⟨q1,h1,he⟩:=Aa he
  obtain ⟨q2,h2,he⟩:=Aa he
  simp only [osi] at he
  subst he
  simp only [lmp] at hx
  rcases hx with hx | hx
  .exact Pv h1 x hx
  .exact Ps h2 x hx
theorem NO {v : VVal} {q : VVal × List (Id × Nat × Ob)} (he : CZ R h d v = some q) : ∀ x ∈ q.2,∃ k,x.1 = .slot d k:=by
 unfold CZ at he
 split at he
 ·obtain ⟨q1,h1,he1⟩:=Aa he
  simp only [osi] at he1
  subst he1
  exact Ps h1
 .exact Pv he
end
theorem Xj {R : List Id} {h : VHeap} {d j : Nat} {v : VVal} {q : VVal × List (Id × Nat × Ob)} (he : Dt R h d j v = some q) : ∀ x ∈ q.2,∃ k,x.1 = .slot d k:=by
 unfold Dt at he
 split at he
 ·obtain ⟨_,_,he⟩:=Aa he
  obtain ⟨_,_,he⟩:=Aa he
  simp only [osi] at he
  subst he
  intro x hx
  cases hx
 ·obtain ⟨_,_,he⟩:=Aa he
  obtain ⟨_,_,he⟩:=Aa he
  simp only [osi] at he
  subst he
  intro x hx
  cases hx
 .exact KS he
theorem OE {R : List Id} {h : VHeap} {d : Nat} : ∀ {vs : List VVal} {j : Nat} {q : List VVal × List (Id × Nat × Ob)},Cx R h d j vs = some q -> ∀ x ∈ q.2,∃ k,x.1 = .slot d k
 | [],_,q,he=>by
  simp only [Cx,osi] at he
  subst he
  intro x hx
  cases hx
 | v :: vs,j,q,he=>by
  simp only [Cx] at he
  obtain ⟨r,h1,he⟩:=Aa he
  obtain ⟨rs,h2,he⟩:=Aa he
  simp only [osi] at he
  subst he
  intro x hx
  rcases lmp.1 hx with hx | hx
  .exact Xj h1 x hx
  .exact OE h2 x hx
theorem Vq {R : List Id} {h : VHeap} {d : Nat} {v : VVal} {q : VVal × List (Id × Nat × Ob)} (he : Dm R h d v = some q) : ∀ x ∈ q.2,∃ k,x.1 = .slot d k:=by
 unfold Dm at he
 split at he
 ·obtain ⟨_,_,he⟩:=Aa he
  obtain ⟨_,_,he⟩:=Aa he
  simp only [osi] at he
  subst he
  intro x hx
  cases hx
 ·obtain ⟨_,_,he⟩:=Aa he
  obtain ⟨_,_,he⟩:=Aa he
  simp only [osi] at he
  subst he
  intro x hx
  cases hx
 ·obtain ⟨r,h1,he⟩:=Aa he
  simp only [osi] at he
  subst he
  exact OE h1
 .exact NO he
theorem HK {Γ : Sig} {h : VHeap} {d : Nat} {f : FuncId} {args : List VVal} {q : VVal × List (Id × Nat × Ob)} (he : CK Γ h d f args = some q) : ∀ x ∈ q.2,(∃ k,x.1 = .slot d k) \/ x.1 ∈ roots h args:=by
 unfold CK C5 at he
 obtain ⟨_,_,he⟩:=Aa he
 obtain ⟨_,_,he⟩:=Aa he
 obtain ⟨r,_,he⟩:=Aa he
 obtain ⟨_,he⟩:=Ac he
 obtain ⟨us,hus,he⟩:=Aa he
 obtain ⟨q1,hq,he⟩:=Aa he
 simp only [osi] at he
 subst he
 intro x hx
 simp only [lmp] at hx
 rcases hx with hx | hx
 ·right
  rw [<- (JA hus).1]
  exact List.mem_map_of_mem hx
 .exact .inl (NO hq x hx)
theorem YR {R : List Id} {h : VHeap} {d j : Nat} {v v' : VVal} {qs : List (Id × Nat × Ob)} (hi : inC R h d j v = some (v',qs)) : ∀ x ∈ qs,∃ k,x.1 = .slot d k:=by
 unfold inC at hi
 split at hi
 ·simp only [osi,pmi] at hi
  obtain ⟨_,rfl⟩:=hi
  intro x hx
  simp at hx
  exact ⟨j + 1,by rw [hx]⟩
 ·obtain ⟨u,_,hi⟩:=Aa hi
  simp at hi
  rw [hi.2]
  simp
theorem OG {R : List Id} {h : VHeap} {d : Nat} : ∀ {vs us : List VVal} {j : Nat} {qs : List (Id × Nat × Ob)},Cc R h d j vs = some (us,qs) -> ∀ x ∈ qs,∃ k,x.1 = .slot d k
 | [],us,j,qs,hi=>by
  simp [Cc] at hi
  rw [hi.2]
  simp
 | v :: vs,us,j,qs,hi=>by
  simp only [Cc] at hi
  obtain ⟨q,hq,hi⟩:=Aa hi
  obtain ⟨q',hq',hi⟩:=Aa hi
  simp at hi
  obtain ⟨_,rfl⟩:=hi
  intro x hx
  rcases lmp.1 hx with hx | hx
  .exact YR hq x hx
  .exact OG hq' x hx
theorem JF {R : List Id} {h : VHeap} {d : Nat} : ∀ {ids : List Id} {os : List Ob} {j : Nat} {us : List (Id × Nat × Ob) × List (Id × Nat × Ob)},BI R h d j ids os = some us -> (∀ x ∈ us.1,x.1 ∈ ids) /\ ∀ x ∈ us.2,∃ k,x.1 = .slot d k
  | [], [], j, us, hb=>by
    simp [BI] at hb
    subst hb
    simp
  | [], _ :: _, j, us, hb=>by simp [BI] at hb
  | _ :: _,[],j,us,hb=>by simp [BI] at hb
  | id :: ids,o :: os,j,us,hb=>by
    simp only [BI] at hb
    obtain ⟨q,_,hb⟩:=Aa hb
    split at hb
    · obtain ⟨r,hr,hb⟩:=Aa hb
      obtain ⟨us',hus,hb⟩:=Aa hb
      simp at hb
      subst hb
      obtain ⟨a1,a2⟩:=JF hus
      refine ⟨fun x hx=>?_,fun x hx=>?_⟩
      · rcases lmk.1 hx with rfl | hx
        · exact lms ..
        · exact lmc _ (a1 x hx)
      · rcases lmp.1 hx with hx | hx
        · exact OG (us:=r.1) hr x hx
        · exact a2 x hx
    all_goals first
      | (obtain ⟨us',hus,hb⟩:=Aa hb
         simp at hb
         subst hb
         obtain ⟨a1,a2⟩:=JF hus
         refine ⟨fun x hx=>?_,a2⟩
         rcases lmk.1 hx with rfl | hx
         .exact lms ..
         .exact lmc _ (a1 x hx))
      | cases hb
theorem FV {Γ : Sig} {h : VHeap} {d : Nat} {f : FuncId} {args : List VVal} {q : VVal × List (Id × Nat × Ob)} (he : Bv Γ h d f args = some q) : ∀ x ∈ q.2,(∃ k,x.1 = .slot d k) \/ x.1 ∈ rootsW h args:=by
 unfold Bv C3 at he
 obtain ⟨_,_,he⟩:=Aa he
 obtain ⟨_,_,he⟩:=Aa he
 obtain ⟨r,_,he⟩:=Aa he
 obtain ⟨us,hus,he⟩:=Aa he
 obtain ⟨q1,hq,he⟩:=Aa he
 obtain ⟨_,he⟩:=Ac he
 simp only [osi] at he
 subst he
 obtain ⟨a1,a2⟩:=JF hus
 intro x hx
 simp only [lmp] at hx
 rcases hx with hx | hx | hx
 .exact .inr (a1 x hx)
 .exact .inl (a2 x hx)
 .exact .inl (Vq hq x hx)
theorem Hb {d : Nat} : ∀ {us : List (Id × Nat × Ob)} {x : Id × Nat × Ob},x ∈ EL d us -> x ∈ us /\ ∃ k,x.1 = .slot d k
 | [],x,h=>by cases h
 | y :: us,x,h=>by
  unfold EL at h
  split at h
  ·rename_i hy
   rcases lmk.1 h with rfl | h
   ·refine ⟨lms ..,?_⟩
    obtain ⟨i,n,o⟩:=x
    cases i with
    | arg=>simp [Id.at] at hy
    | slot s k=>simp [Id.at] at hy; exact ⟨k,by rw [hy]⟩
   .exact ⟨lmc _ (Hb h).1,(Hb h).2⟩
  .exact ⟨lmc _ (Hb h).1,(Hb h).2⟩
theorem KK {d : Nat} : ∀ {us : List (Id × Nat × Ob)} {x : Id × Nat × Ob},x ∈ oldU d us -> x ∈ us
 | [],x,h=>by cases h
 | y :: us,x,h=>by
  unfold oldU at h
  split at h
  ·exact lmc _ (KK h)
  ·rcases lmk.1 h with rfl | h
   .exact lms ..
   .exact lmc _ (KK h)
theorem US {Γ : Sig} {look : VArg -> Option VVal} {h h' : VHeap} {d : Nat} (op : VOp) (h1 : ∀ x ∈ op.args,∀ v,look x = some v -> ∀ id ∈ ids1 v,h' id = h id)
  (h2 : (op.writes || op.isR) = true -> ∀ id ∈ (Bt op (op.args.filterMap look)).flatMap ids1 ++ callRoots h op (Bt op (op.args.filterMap look)),h' id = h id) (hd : ∀ k,h' (.slot d k) = h (.slot d k)) :
  Al Γ look h' d op = Al Γ look h d op:=by
 by_cases hsil : op.silent = true
 ·exact Mq hsil
 cases op <;> first | (simp [VOp.silent] at hsil; done) | skip
 all_goals simp only [VOp.args,lmk,List.not_mem_nil,or_false,forall_eq_or_imp,forall_eq] at h1
 all_goals simp only [Al]
 case newArr=>rw [hd]
 case alloc zs=>rw [Mv zs 0 h h' hd,Kc _ hd]
 case box=>rw [hd]
 case build bs=>rw [JE bs 0 h h' hd]
 case buildSlice=>rw [hd]
 case load agg a =>
  cases hl : look a with
  | none=>simp only [Aw]
  | some p =>
   simp only [Ai,FD]
   rw [VN fun id hm=>h1 p hl id (Ez hm)]
 case store n a x =>
  cases hl : look a with
  | none=>simp only [Aw]
  | some p =>
   simp only [Ai]
   cases look x with
   | none=>simp only [Aw]
   | some v =>
    simp only [Ai,Hs]
    rw [T1 fun id hm=>h1.1 p hl id (Ez hm)]
 case indexAddr sz x i =>
  cases hl : look x with
  | none=>simp only [Aw]
  | some p =>
   simp only [Ai]
   cases look i with
   | none=>simp only [Aw]
   | some v =>
    simp only [Ai]
    split
    ·simp only [Ht]
     rw [T2 fun id hm=>h1.1 p hl id (Ez hm)]
    ·rfl
 case append sz bytes s x =>
  cases hl : look s with
  | none=>simp only [Aw]
  | some p =>
   simp only [Ai]
   cases hx : look x with
   | none=>simp only [Aw]
   | some v =>
    simp only [Ai]
    have e2 : AH h' v = AH h v:=JB fun id hm=>h1.2 v hx id (Ez hm)
    unfold Ea
    split
    ·rename_i id ver len
     rw [h1.1 _ hl id (by simp [ids1,ids0]),e2]
    ·rfl
 case appendNil sz bytes x =>
  cases hx : look x with
  | none=>simp only [Aw]
  | some v =>
   simp only [Ai]
   have e2 : AH h' v = AH h v:=JB fun id hm=>h1 v hx id (Ez hm)
   unfold F0
   rw [e2,hd]
 case slice str sz lo hi mx x =>
  cases hx : look x with
  | none=>simp only [Aw]
  | some s =>
   simp only [Ai]
   have e3 : ∀ l m,DH d h' look sz l m s mx = DH d h look sz l m s mx:=fun l m=>by
    cases mx with
    | none=>simp only [DH]; exact Nt fun id hm=>h1.1 s hx id (Ez hm)
    | some y =>
     simp only [DH]
     have e0 : E3 d h' sz l m s = E3 d h sz l m s:=by
      unfold E3
      split
      ·exact Nt fun id hm=>h1.1 _ hx id (Ez hm)
      ·simp only [GB]; rw [hd]
     rw [e0]
   have e5 : DU d h' look sz lo hi mx s = DU d h look sz lo hi mx s:=by
    unfold DU
    cases D0 s with
    | none=>simp only [Aw]
    | some n =>
     simp only [Ai]
     cases Ci look 0 lo with
     | none=>simp only [Aw]
     | some l =>
      simp only [Ai]
      cases Ci look n hi with
      | none=>simp only [Aw]
      | some m =>
       simp only [Ai]
       rw [e3]
   rw [e5]
 case lookup ok kt zero m k =>
  cases hm : look m with
  | none=>simp only [Aw]
  | some v =>
   simp only [Ai]
   rw [Mi fun id hi=>h1.1 v hm id (Ez hi)]
 case mapUpdate kt m k x =>
  cases hm : look m with
  | none=>simp only [Aw]
  | some v =>
   simp only [Ai]
   have e : ∀ id ver,v = .mref id ver -> h' id = h id:=fun id ver e=>h1.1 v hm id (by simp [e,ids1,ids0])
   cases look k with
   | none=>simp only [Aw]
   | some kv =>
    simp only [Ai]
    cases look x with
    | none=>simp only [Aw]
    | some xv =>
     simp only [Ai]
     cases En kt kv with
     | none=>simp only [Aw]
     | some kk =>
      simp only [Ai]
      cases BB xv with
      | none=>simp only [Aw]
      | some xx =>
       simp only [Ai]
       cases v <;> first | rfl | skip
       rename_i id ver
       simp only [e id ver rfl]
 case makeMap=>rw [hd]
 case call f args =>
  cases hm : Ad look args with
  | none=>simp only [Aw]
  | some vs =>
   simp only [Ai]
   have h2':=h2 rfl
   simp only [VOp.args,CQ hm,Bt,callRoots,lmp,List.mem_flatMap] at h2'
   exact HI (fun v hv id hi=>h2' id (.inl ⟨v,hv,hi⟩)) (fun id hi=>h2' id (.inr hi)) hd
 case callv x args =>
  cases hx : look x with
  | none=>simp only [Aw]
  | some g =>
   simp only [Ai]
   cases hm : Ad look args with
   | none=>simp only [Aw]
   | some vs =>
    simp only [Ai]
    have h2':=h2 rfl
    simp only [VOp.args,List.filterMap_cons,hx,CQ hm,callRoots,lmp,List.mem_flatMap] at h2'
    split
    ·simp only [Bt,lmp] at h2'
     exact HI (fun v hv id hi=>h2' id (.inl ⟨v,by simpa using hv,hi⟩)) (fun id hi=>h2' id (.inr hi)) hd
    ·simp only [Bt] at h2'
     exact HI (fun v hv id hi=>h2' id (.inl ⟨v,hv,hi⟩)) (fun id hi=>h2' id (.inr hi)) hd
    ·simp only [Bt,lmp] at h2'
     exact HI (fun v hv id hi=>h2' id (.inl ⟨v,by simpa using hv,hi⟩)) (fun id hi=>h2' id (.inr hi)) hd
    ·rfl
 case callW f args =>
  cases hm : Ad look args with
  | none=>simp only [Aw]
  | some vs =>
   simp only [Ai]
   have h2':=h2 rfl
   simp only [VOp.args,CQ hm,Bt,callRoots,lmp,List.mem_flatMap] at h2'
   exact FO (fun id hi=>h2' id (.inr hi)) hd
 case callA f args =>
  cases hm : Ad look args with
  | none=>simp only [Aw]
  | some vs =>
   simp only [Ai]
   have h2':=h2 rfl
   simp only [VOp.args,CQ hm,Bt,callRoots,lmp,List.mem_flatMap] at h2'
   rw [FO (fun id hi=>h2' id (.inr hi)) hd]
   cases he : Bv Γ h d f vs with
   | none=>simp only [Aw]
   | some q =>
    simp only [Ai]
    have e : CB h' (oldU d q.2) = CB h (oldU d q.2):=by
     have : ∀ x ∈ oldU d q.2,h' x.1 = h x.1:=fun x hx=>by
      rcases FV he x (KK hx) with ⟨k,h0⟩ | h0
      .rw [h0]; exact hd k
      .exact h2' _ (.inr h0)
     simp only [CB]
     congr 1
     exact propext ⟨fun a x hx=>by rw [<- this x hx]; exact a x hx,fun a x hx=>by rw [this x hx]; exact a x hx⟩
    rw [e]
 case callR f args =>
  cases hm : Ad look args with
  | none=>simp only [Aw]
  | some vs =>
   simp only [Ai]
   have h2':=h2 rfl
   simp only [VOp.args,CQ hm,Bt,callRoots,lmp,List.mem_flatMap] at h2'
   rw [FO (fun id hi=>h2' id (.inr hi)) hd]
   cases he : Bv Γ h d f vs with
   | none=>simp only [Aw]
   | some q =>
    simp only [Ai]
    have e : CB h' q.2 = CB h q.2:=by
     have : ∀ x ∈ q.2,h' x.1 = h x.1:=fun x hx=>by
      rcases FV he x hx with ⟨k,h0⟩ | h0
      .rw [h0]; exact hd k
      .exact h2' _ (.inr h0)
     simp only [CB]
     congr 1
     exact propext ⟨fun a x hx=>by rw [<- this x hx]; exact a x hx,fun a x hx=>by rw [this x hx]; exact a x hx⟩
    rw [e]
 case callvW x args =>
  cases hx : look x with
  | none=>simp only [Aw]
  | some g =>
   simp only [Ai]
   cases hm : Ad look args with
   | none=>simp only [Aw]
   | some vs =>
    simp only [Ai]
    have h2':=h2 rfl
    simp only [VOp.args,List.filterMap_cons,hx,CQ hm,callRoots,lmp,List.mem_flatMap] at h2'
    split
    ·simp only [Bt,lmp] at h2'
     exact FO (fun id hi=>h2' id (.inr hi)) hd
    ·simp only [Bt,lmp] at h2'
     exact FO (fun id hi=>h2' id (.inr hi)) hd
    ·simp only [Bt] at h2'
     exact FO (fun id hi=>h2' id (.inr hi)) hd
    .rfl
theorem Vx {Γ : Sig} {look : VArg -> Option VVal} {h : VHeap} {d : Nat} {op : VOp} {q : VVal × List (Id × Nat × Ob)} (he : Al Γ look h d op = some q) : ∀ x ∈ q.2,(∃ k,x.1 = .slot d k) \/
  (op.writes = true /\ ((∃ y ∈ op.args,∃ v,look y = some v /\ x.1 ∈ ids1 v) \/ x.1 ∈ callRoots h op (Bt op (op.args.filterMap look)))):=by
 by_cases hs : op.silent = true \/ op.reader = true
 ·intro x hx
  rw [JC hs he] at hx
  cases hx
 intro x hx
 cases op <;> first | (simp [VOp.silent,VOp.reader] at hs; done) | skip
 all_goals simp only [Al] at he
 case newArr=>simp only [osi] at he; subst he; simp at hx; exact .inl ⟨_,by rw [hx]⟩
 case makeMap=>simp only [osi] at he; subst he; simp at hx; exact .inl ⟨_,by rw [hx]⟩
 case alloc zs =>
  simp only [osi] at he
  subst he
  simp only [lmp,List.mem_singleton] at hx
  rcases hx with hx | hx
  ·exact .inl (MO zs _ _ x hx)
  ·exact .inl ⟨_,by rw [hx]⟩
 case box =>
  obtain ⟨_,_,he⟩:=Aa he
  obtain ⟨_,he⟩:=Ac he
  obtain ⟨_,he⟩:=Ac he
  simp only [osi] at he; subst he; simp at hx; exact .inl ⟨_,by rw [hx]⟩
 case build bs =>
  obtain ⟨q',hq',he⟩:=Aa he
  simp only [osi] at he
  subst he
  exact .inl (JQ bs _ _ q' hq' x hx)
 case buildSlice =>
  obtain ⟨_,_,he⟩:=Aa he
  obtain ⟨_,he⟩:=Ac he
  simp only [osi] at he; subst he; simp at hx; exact .inl ⟨_,by rw [hx]⟩
 case strBytes =>
  obtain ⟨_,_,he⟩:=Aa he
  split at he
  ·simp only [osi] at he; subst he; simp at hx
  ·cases he
 case store n a y =>
  obtain ⟨p,hp,he⟩:=Aa he
  obtain ⟨v,hv,he⟩:=Aa he
  obtain ⟨us,hus,he⟩:=Aa he
  simp only [osi] at he
  subst he
  obtain ⟨_,hus⟩:=Ac hus
  obtain ⟨_,hus⟩:=Ac hus
  refine .inr ⟨rfl,.inl ⟨a,by simp [VOp.args],p,hp,?_⟩⟩
  unfold D7 at hus
  split at hus
  ·split at hus
   ·obtain ⟨_,hus⟩:=Ac hus
    obtain ⟨_,hus⟩:=Ac hus
    simp only [osi] at hus
    subst hus
    simp at hx
    simp [hx,ids1,ids0]
   ·cases hus
  ·split at hus
   ·obtain ⟨_,hus⟩:=Ac hus
    obtain ⟨_,_,hus⟩:=Aa hus
    obtain ⟨_,_,hus⟩:=Aa hus
    obtain ⟨_,hus⟩:=Ac hus
    simp only [osi] at hus
    subst hus
    simp at hx
    simp [hx,ids1,ids0]
   ·cases hus
  ·cases hus
 case append sz bytes s y =>
  obtain ⟨p,hp,he⟩:=Aa he
  obtain ⟨v,hv,he⟩:=Aa he
  refine .inr ⟨rfl,.inl ⟨s,by simp [VOp.args],p,hp,?_⟩⟩
  unfold Ea at he
  split at he
  ·split at he
   ·obtain ⟨_,he⟩:=Ac he
    obtain ⟨_,he⟩:=Ac he
    obtain ⟨_,he⟩:=Ac he
    obtain ⟨_,_,he⟩:=Aa he
    obtain ⟨_,he⟩:=Ac he
    obtain ⟨_,he⟩:=Ac he
    obtain ⟨_,he⟩:=Ac he
    simp only [osi] at he
    subst he
    simp at hx
    simp [hx,ids1,ids0]
   ·cases he
  ·cases he
 case appendNil sz bytes y =>
  obtain ⟨v,hv,he⟩:=Aa he
  unfold F0 at he
  obtain ⟨_,_,he⟩:=Aa he
  obtain ⟨_,he⟩:=Ac he
  obtain ⟨_,he⟩:=Ac he
  obtain ⟨_,he⟩:=Ac he
  simp only [osi] at he
  subst he
  simp at hx
  exact .inl ⟨_,by rw [hx]⟩
 case slice str sz lo hi mx y =>
  obtain ⟨s,hs',he⟩:=Aa he
  unfold br at he
  split at he
  ·unfold EY at he
   obtain ⟨_,_,he⟩:=Aa he
   obtain ⟨_,_,he⟩:=Aa he
   obtain ⟨_,_,he⟩:=Aa he
   obtain ⟨_,he⟩:=Ac he
   obtain ⟨_,he⟩:=Ac he
   unfold IV at he
   split at he
   ·simp only [osi] at he; subst he; simp at hx
   ·cases he
  ·unfold DU at he
   obtain ⟨_,_,he⟩:=Aa he
   obtain ⟨_,_,he⟩:=Aa he
   obtain ⟨_,_,he⟩:=Aa he
   obtain ⟨_,he⟩:=Ac he
   obtain ⟨_,he⟩:=Ac he
   unfold DH at he
   split at he
   ·unfold Ds at he
    split at he
    ·obtain ⟨_,he⟩:=Ac he
     simp only [osi] at he; subst he; simp at hx
    ·split at he
     ·obtain ⟨_,he⟩:=Ac he
      obtain ⟨_,he⟩:=Ac he
      simp only [osi] at he; subst he; simp at hx
     ·cases he
    ·cases he
   ·obtain ⟨_,_,he⟩:=Aa he
    obtain ⟨_,_,he⟩:=Aa he
    obtain ⟨_,he⟩:=Ac he
    unfold E3 at he
    split at he
    ·simp only [Ds] at he
     split at he
     ·obtain ⟨_,he⟩:=Ac he
      obtain ⟨_,he⟩:=Ac he
      simp only [osi] at he; subst he; simp at hx
     .cases he
    ·obtain ⟨_,he⟩:=Ac he
     simp only [GB,osi] at he
     subst he
     simp at hx
     exact .inl ⟨_,by rw [hx]⟩
 case mapUpdate kt m k y =>
  obtain ⟨mv,hm,he⟩:=Aa he
  obtain ⟨_,_,he⟩:=Aa he
  obtain ⟨_,_,he⟩:=Aa he
  obtain ⟨_,_,he⟩:=Aa he
  obtain ⟨_,_,he⟩:=Aa he
  refine .inr ⟨rfl,.inl ⟨m,by simp [VOp.args],mv,hm,?_⟩⟩
  split at he
  ·split at he
   ·obtain ⟨_,he⟩:=Ac he
    obtain ⟨_,he⟩:=Ac he
    simp only [osi] at he
    subst he
    simp at hx
    simp [hx,ids1,ids0]
   .cases he
  ·cases he
 case call f args =>
  obtain ⟨vs,hvs,he⟩:=Aa he
  rcases HK he x hx with h0 | h0
  ·exact .inl h0
  ·exact .inr ⟨rfl,.inr (by simpa only [VOp.args,CQ hvs,Bt,callRoots] using h0)⟩
 case callv y args =>
  obtain ⟨g,hg,he⟩:=Aa he
  obtain ⟨vs,hvs,he⟩:=Aa he
  split at he
  ·rcases HK he x hx with h0 | h0
   .exact .inl h0
   .exact .inr ⟨rfl,.inr (by simpa only [VOp.args,List.filterMap_cons,hg,CQ hvs,Bt,callRoots] using h0)⟩
  ·rcases HK he x hx with h0 | h0
   .exact .inl h0
   .exact .inr ⟨rfl,.inr (by simpa only [VOp.args,List.filterMap_cons,hg,CQ hvs,Bt,callRoots] using h0)⟩
  ·rcases HK he x hx with h0 | h0
   .exact .inl h0
   .exact .inr ⟨rfl,.inr (by simpa only [VOp.args,List.filterMap_cons,hg,CQ hvs,Bt,callRoots] using h0)⟩
  ·cases he
 case callA f args =>
  obtain ⟨vs,hvs,he⟩:=Aa he
  obtain ⟨q1,hq1,he⟩:=Aa he
  obtain ⟨_,he⟩:=Ac he
  simp only [osi] at he
  subst he
  exact .inl (Hb hx).2
 case callW f args =>
  obtain ⟨vs,hvs,he⟩:=Aa he
  rcases FV he x hx with h0 | h0
  ·exact .inl h0
  ·exact .inr ⟨rfl,.inr (by simpa only [VOp.args,CQ hvs,Bt,callRoots] using h0)⟩
 case callvW y args =>
  obtain ⟨g,hg,he⟩:=Aa he
  obtain ⟨vs,hvs,he⟩:=Aa he
  split at he
  ·rcases FV he x hx with h0 | h0
   .exact .inl h0
   .exact .inr ⟨rfl,.inr (by simpa only [VOp.args,List.filterMap_cons,hg,CQ hvs,Bt,callRoots] using h0)⟩
  ·rcases FV he x hx with h0 | h0
   .exact .inl h0
   .exact .inr ⟨rfl,.inr (by simpa only [VOp.args,List.filterMap_cons,hg,CQ hvs,Bt,callRoots] using h0)⟩
  ·rcases FV he x hx with h0 | h0
   .exact .inl h0
   .exact .inr ⟨rfl,.inr (by simpa only [VOp.args,List.filterMap_cons,hg,CQ hvs,Bt,callRoots] using h0)⟩
  .cases he
end Go.V
namespace Go.V
def VOper.uses (o : VOper) : List VArg:=o.op.args ++ (match o.guard with
 | some (g,_)=>[g]
 | none=>[])
theorem Nx {Γ : Sig} {look look' : VArg -> Option VVal} {h : VHeap} {o : VOper} (hx : ∀ x ∈ o.uses,look' x = look x) : BU Γ look' h o = BU Γ look h o:=by
 have ha : ∀ x ∈ o.op.args,look' x = look x:=fun x hm=>hx x (by simp [VOper.uses,hm])
 unfold BU
 split
 ·exact Nh _ ha
 ·rename_i g want hg
  have : look' g = look g:=hx g (by simp [VOper.uses,hg])
  rw [this,Nh _ ha]
theorem Ml {α β : Type} {f g : α -> Option β} : ∀ {l : List α},(∀ x ∈ l,f x = g x) -> l.filterMap f = l.filterMap g
 | [],_=>rfl
 | x :: xs,h=>by
  rw [List.filterMap_cons,List.filterMap_cons,h x (lms ..),Ml fun y hy=>h y (lmc _ hy)]
theorem MU {look look' : VArg -> Option VVal} {h : VHeap} {o : VOper} (hx : ∀ x ∈ o.uses,look' x = look x) : touchF look' h o = touchF look h o:=by
 have ha : o.op.args.filterMap look' = o.op.args.filterMap look:=Ml fun x hm=>hx x (by simp [VOper.uses,hm])
 simp only [touchF,ha]
theorem Ou {look : VArg -> Option VVal} {h : VHeap} {o : VOper} {x : VArg} (hx : x ∈ o.op.args) {v : VVal} (hv : look x = some v) {id : Id} (hi : id ∈ ids1 v) : id ∈ touchF look h o:=by
 simp only [touchF,lmp,List.mem_flatMap,List.mem_filterMap]
 exact .inl ⟨v,⟨x,hx,hv⟩,hi⟩
theorem Mx {look : VArg -> Option VVal} {h : VHeap} {o : VOper} (hw : (o.op.writes || o.op.isR) = true) {id : Id} (hi : id ∈ (Bt o.op (o.op.args.filterMap look)).flatMap ids1 ++ callRoots h o.op (Bt o.op (o.op.args.filterMap look))) : id ∈ touchF look h o:=by
 simp only [touchF,hw,if_true]
 exact lmp.2 (.inr hi)
theorem MZ {Γ : Sig} {look : VArg -> Option VVal} {h h' : VHeap} {o : VOper} (ht : ∀ id ∈ touchF look h o,h' id = h id) (hd : ∀ k,h' (.slot o.dst.slot k) = h (.slot o.dst.slot k)) :
  BU Γ look h' o = BU Γ look h o:=by
 have:=US (Γ:=Γ) (look:=look) (h:=h) (h':=h') (d:=o.dst.slot) o.op (fun x hx v hv id hi=>ht id (Ou hx hv hi)) (fun hw id hi=>ht id (Mx hw hi)) hd
 unfold BU
 rw [this]
theorem Mz {look : VArg -> Option VVal} {h h' : VHeap} {o : VOper} (ht : ∀ id ∈ touchF look h o,h' id = h id) : touchF look h' o = touchF look h o:=by
 simp only [touchF] at ht ⊢
 split
 ·rename_i hw
  rw [if_pos hw] at ht
  rw [TU fun id hi=>ht id (by simp [hi])]
 .rfl
theorem MB {Γ : Sig} {look : VArg -> Option VVal} {h h' : VHeap} {o : VOper} (hs : o.op.silent = true) : BU Γ look h' o = BU Γ look h o:=by
 unfold BU
 rw [Mq (h:=h) (h':=h') hs]
theorem My {look : VArg -> Option VVal} {h h' : VHeap} {o : VOper} (hs : o.op.silent = true) : touchF look h' o = touchF look h o:=by
 have : (o.op.writes || o.op.isR) = false:=by cases ho : o.op <;> simp_all [VOp.silent,VOp.writes,VOp.isR]
 simp [touchF,this]
theorem HS {Γ : Sig} {look : VArg -> Option VVal} {h : VHeap} {o : VOper} (hs : o.op.silent = true \/ o.op.reader = true) {q : VVal × List (Id × Nat × Ob)} (he : BU Γ look h o = some q) : q.2 = []:=by
 unfold BU at he
 split at he
 ·exact JC hs he
 ·split at he
  ·split at he
   .exact JC hs he
   .simp at he; subst he; rfl
  .simp at he; subst he; rfl
  .cases he
theorem Wj {t : List Id} : ∀ i ∈ headFp t,i ∈ t:=by
 cases t with
 | nil=>intro i h; exact h
 | cons a t =>
  intro i h
  simp only [headFp,List.mem_singleton] at h
  simp [h]
theorem G7 {op : VOp} {t : List Id} : ∀ i ∈ op.wrFp t,i ∈ t:=by
 unfold VOp.wrFp
 split
 .exact Wj
 .exact fun _ h=>h
theorem VF {Γ : Sig} {look : VArg -> Option VVal} {h : VHeap} {d sz bytes : Nat} {s y : VArg} {q : VVal × List (Id × Nat × Ob)} (he : Al Γ look h d (.append sz bytes s y) = some q) : ∃ id ver len,look s = some (.own id ver 0 len) /\ ∀ x ∈ q.2,x.1 = id:=by
 simp only [Al] at he
 obtain ⟨p,hp,he⟩:=Aa he
 obtain ⟨v,hv,he⟩:=Aa he
 unfold Ea at he
 split at he
 ·split at he
  ·obtain ⟨_,he⟩:=Ac he
   obtain ⟨_,he⟩:=Ac he
   obtain ⟨_,he⟩:=Ac he
   obtain ⟨_,_,he⟩:=Aa he
   obtain ⟨_,he⟩:=Ac he
   obtain ⟨_,he⟩:=Ac he
   obtain ⟨_,he⟩:=Ac he
   simp only [osi] at he
   subst he
   exact ⟨_,_,_,hp,fun x hx=>by
    simp only [List.mem_singleton] at hx
    rw [hx]⟩
  .cases he
 .cases he
theorem Ny {Γ : Sig} {look : VArg -> Option VVal} {h : VHeap} {o : VOper} {q : VVal × List (Id × Nat × Ob)} (he : BU Γ look h o = some q) : ∀ id ∈ q.2.map (·.1),(∃ k,id = .slot o.dst.slot k) \/ (o.op.writes = true /\ id ∈ o.op.wrFp (touchF look h o)):=by
 have main : Al Γ look h o.dst.slot o.op = some q -> ∀ id ∈ q.2.map (·.1),(∃ k,id = .slot o.dst.slot k) \/ (o.op.writes = true /\ id ∈ o.op.wrFp (touchF look h o)):=fun he id hm=>by
  obtain ⟨x,hx,rfl⟩:=lmm.1 hm
  by_cases ha : ∃ sz bytes s y,o.op = .append sz bytes s y
  ·obtain ⟨sz,bytes,s,y,ha⟩:=ha
   rw [ha] at he
   obtain ⟨id,ver,len,hl,hk⟩:=VF he
   refine .inr ⟨by rw [ha]; rfl,?_⟩
   rw [hk x hx,ha]
   have ht : ∃ t,touchF look h o = id :: t:=by
    simp only [touchF,ha,VOp.args,List.filterMap_cons,hl,lfc,ids1,ids0,lca,lna]
    exact ⟨_,rfl⟩
   obtain ⟨t,ht⟩:=ht
   rw [ht]
   simp [VOp.wrFp,headFp]
  ·have hw : o.op.wrFp (touchF look h o) = touchF look h o:=by
    unfold VOp.wrFp
    split
    ·rename_i heq
     exact absurd ⟨_,_,_,_,heq⟩ ha
    .rfl
   rw [hw]
   rcases Vx he x hx with h0 | ⟨h1,⟨y,hy,v,hv,hi⟩ | h2⟩
   .exact .inl h0
   .exact .inr ⟨h1,Ou hy hv hi⟩
   .exact .inr ⟨h1,Mx (by rw [h1]; rfl) (lmp.2 (.inr h2))⟩
 unfold BU at he
 split at he
 ·exact main he
 ·split at he
  ·split at he
   .exact main he
   .simp at he; subst he; simp
  .simp at he; subst he; simp
  .cases he
theorem YN {r : RS} {d : VDst} {v : VVal} {x : VArg} (h : d = .none \/ d ∉ x.slot?) : (r.put d v).look x = r.look x:=by
 cases d with
 | none=>rfl
 | v s =>
  cases x <;> simp [RS.put,RS.look,VArg.slot?,D2] at h ⊢
  intro e; exact absurd e.symm h
 | t s =>
  cases x <;> simp [RS.put,RS.look,VArg.slot?,EK] at h ⊢
  intro e; exact absurd e.symm h
theorem Pm {r : RS} {o : VOper} {q : VVal × List (Id × Nat × Ob)} {x : VArg} (h : o.dst = .none \/ o.dst ∉ x.slot?) : (r.app o q).look x = r.look x:=by
 rw [<- YN (r:=r) (v:=q.1) h]
 cases x <;> rfl
theorem NF {o : VOper} {d : VDst} (h : d ∉ o.reads) : ∀ x ∈ o.uses,d ∉ x.slot?:=by
 intro x hx hd
 apply h
 simp only [VOper.reads,lmp,List.mem_flatMap]
 simp only [VOper.uses,lmp] at hx
 rcases hx with hx | hx
 ·exact .inl ⟨x,hx,hd⟩
 ·right
  split at hx
  ·rename_i g w hg
   simp at hx
   subst hx
   rw [hg]
   exact hd
  .cases hx
def GJ (o o' : VOper) (t t' : List Id) : Prop :=
 HZ o o' = true /\ (o.op.silent = true \/ o'.op.silent = true \/ (o.op.reader = true /\ o'.op.reader = true) \/ ED o o' t t' = true)
theorem Ys (r : RS) {d d' : VDst} (v v' : VVal) (h : d = .none \/ d ≠ d') : (r.put d v).put d' v' = (r.put d' v').put d v:=by
 cases d <;> cases d' <;> simp only [RS.put]
 ·rename_i s s'
  have : s ≠ s':=fun e=>by simp [e] at h
  congr 1
  funext t
  simp only [D2]
  by_cases h1 : t = s <;> by_cases h2 : t = s' <;> simp [h1,h2]
  .exact absurd (h1.symm.trans h2) this
  .intro e; exact absurd e this
  .intro e; exact absurd e.symm this
 ·rename_i s s'
  have : s ≠ s':=fun e=>by simp [e] at h
  congr 1
  funext t
  simp only [EK]
  by_cases h1 : t = s <;> by_cases h2 : t = s' <;> simp [h1,h2]
  .exact absurd (h1.symm.trans h2) this
  .intro e; exact absurd e this
  .intro e; exact absurd e.symm this
theorem Qj (r : RS) (o o' : VOper) (q q' : VVal × List (Id × Nat × Ob)) : (r.app o q).app o' q' = { (r.put o.dst q.1).put o'.dst q'.1 with h:=(r.h.upds q.2).upds q'.2 }:=by
 unfold RS.app
 cases o'.dst <;> rfl
theorem swap {Γ : Sig} {r : RS} {o o' : VOper} {q q' : VVal × List (Id × Nat × Ob)} (h : CX Γ o r = some q) (h' : CX Γ o' (r.app o q) = some q') (ha : GJ o o' (Bb r o) (Bb (r.app o q) o')) :
  CX Γ o' r = some q' /\ Bb r o' = Bb (r.app o q) o' /\ CX Γ o (r.app o' q') = some q /\ Bb (r.app o' q') o = Bb r o /\ (r.app o' q').app o q = (r.app o q).app o' q':=by
 obtain ⟨hsl,hmem⟩:=ha
 simp only [HZ,bat,bot,beq_iff_eq,bne_iff_ne,Bool.not_eq_true',<- Bool.not_eq_true,List.contains_iff_mem] at hsl
 obtain ⟨hs1,hs2⟩:=hsl
 have L1 : ∀ x ∈ o'.uses,(r.app o q).look x = r.look x:=fun x hx=>Pm (by
  rcases hs1 with e | ⟨_,e⟩
  ·exact .inl e
  ·exact .inr (NF e x hx))
 have L2 : ∀ x ∈ o.uses,(r.app o' q').look x = r.look x:=fun x hx=>Pm (by
  rcases hs2 with e | e
  ·exact .inl e
  ·exact .inr (NF e x hx))
 have hput : (r.put o.dst q.1).put o'.dst q'.1 = (r.put o'.dst q'.1).put o.dst q.1:=Ys r _ _ (by
  rcases hs1 with e | ⟨e,_⟩
  ·exact .inl e
  ·exact .inr e)
 have hh1 : (r.app o q).h = r.h.upds q.2:=rfl
 have hh2 : (r.app o' q').h = r.h.upds q'.2:=rfl
 have fin : BU Γ (r.app o q).look r.h o' = BU Γ (r.app o q).look (r.app o q).h o' -> touchF (r.app o q).look r.h o' = touchF (r.app o q).look (r.app o q).h o' ->
   (BU Γ r.look r.h o' = some q' -> touchF r.look r.h o' = Bb (r.app o q) o' -> BU Γ r.look (r.app o' q').h o = BU Γ r.look r.h o /\ touchF r.look (r.app o' q').h o = touchF r.look r.h o /\ (r.h.upds q.2).upds q'.2 = (r.h.upds q'.2).upds q.2) ->
   CX Γ o' r = some q' /\ Bb r o' = Bb (r.app o q) o' /\ CX Γ o (r.app o' q') = some q /\ Bb (r.app o' q') o = Bb r o /\ (r.app o' q').app o q = (r.app o q).app o' q':=fun m1 m2 m3=>by
  have e1 : CX Γ o' r = some q':=by rw [<- h',CX,CX,<- m1,Nx L1]
  have e2 : Bb r o' = Bb (r.app o q) o':=by rw [Bb,Bb,<- m2,MU L1]
  obtain ⟨m4,m5,m6⟩:=m3 e1 e2
  refine ⟨e1,e2,?_,?_,?_⟩
  ·rw [CX,Nx L2,m4]; exact h
  ·rw [Bb,MU L2,m5]; rfl
  ·rw [Qj,Qj,hput,m6]
 by_cases hso : o.op.silent = true
 ·have e : q.2 = []:=HS (.inl hso) h
  have hr : (r.app o q).h = r.h:=by rw [hh1,e]; rfl
  rw [hr] at fin
  refine fin rfl rfl fun _ _=>⟨MB hso,My hso,?_⟩
  rw [e]; rfl
 by_cases hso' : o'.op.silent = true
 ·refine fin (MB hso') (My hso') fun he _=>?_
  have e : q'.2 = []:=HS (.inl hso') he
  have hr : (r.app o' q').h = r.h:=by rw [hh2,e]; rfl
  rw [hr,e]
  exact ⟨rfl,rfl,rfl⟩
 by_cases hrd : o.op.reader = true /\ o'.op.reader = true
 ·have e : q.2 = []:=HS (.inr hrd.1) h
  have hr : (r.app o q).h = r.h:=by rw [hh1,e]; rfl
  rw [hr] at fin
  refine fin rfl rfl fun he _=>?_
  have e' : q'.2 = []:=HS (.inr hrd.2) he
  have hr' : (r.app o' q').h = r.h:=by rw [hh2,e']; rfl
  rw [hr',e,e']
  exact ⟨rfl,rfl,rfl⟩
 have hfp : ED o o' (Bb r o) (Bb (r.app o q) o') = true:=by
  rcases hmem with h0 | h0 | h0 | h0
  ·exact absurd h0 hso
  ·exact absurd h0 hso'
  ·exact absurd h0 hrd
  ·exact h0
 simp only [ED,bat,bot,Bool.not_eq_true',List.all_eq_true,bne_iff_ne,<- Bool.not_eq_true,List.contains_iff_mem] at hfp
 obtain ⟨⟨⟨⟨f1,f2⟩,f3⟩,f4⟩,f5⟩:=hfp
 have at_ : ∀ d k,(Id.slot d k).at d = true:=fun d k=>by simp [Id.at]
 have k1:=Ny h
 have m1 : ∀ id ∈ touchF (r.app o q).look (r.app o q).h o',r.h id = (r.app o q).h id:=fun id hm=>by
  rw [hh1,Ce]
  intro hk
  rcases k1 id hk with ⟨k,rfl⟩ | ⟨hw,ht⟩
  ·exact f4 _ hm (at_ _ _)
  ·rcases f1 with f1 | f1
   ·exact f1 hw
   ·exact f1 id ht hm
 refine fin (MZ m1 fun k=>?_) (Mz m1) fun he ht'=>?_
 ·rw [hh1,Ce]
  intro hk
  rcases k1 _ hk with ⟨k',e⟩ | ⟨hw,ht⟩
  ·simp at e
   exact f5 e.1.symm
  ·exact f3 _ (G7 _ ht) (at_ _ _)
 ·have k2:=Ny he
  rw [ht'] at k2
  have m2 : ∀ id ∈ touchF r.look r.h o,(r.app o' q').h id = r.h id:=fun id hm=>by
   rw [hh2,Ce]
   intro hk
   rcases k2 id hk with ⟨k,rfl⟩ | ⟨hw,ht⟩
   ·exact f3 _ hm (at_ _ _)
   ·rcases f2 with f2 | f2
    ·exact f2 hw
    ·exact f2 id ht hm
  refine ⟨MZ m2 fun k=>?_,Mz m2,WI _ _ _ fun id h1 h2=>?_⟩
  ·rw [hh2,Ce]
   intro hk
   rcases k2 _ hk with ⟨k',e⟩ | ⟨hw,ht⟩
   ·simp at e
    exact f5 e.1
   ·exact f4 _ (G7 _ ht) (at_ _ _)
  ·rcases k1 id h1 with ⟨k,rfl⟩ | ⟨hw,ht⟩
   ·rcases k2 _ h2 with ⟨k',e⟩ | ⟨hw',ht''⟩
    ·simp at e
     exact f5 e.1
    ·exact f4 _ (G7 _ ht'') (at_ _ _)
   ·rcases k2 _ h2 with ⟨k',rfl⟩ | ⟨hw',ht''⟩
    ·exact f3 _ (G7 _ ht) (at_ _ _)
    ·rcases f1 with f1 | f1
     .exact f1 hw
     .exact f1 id ht (G7 _ ht'')
abbrev RE:=Nat × VOper × List Id
def Runs (Γ : Sig) : List RE -> RS -> RS -> Prop
 | [],r,rn=>r = rn
 | e :: L,r,rn=>Bb r e.2.1 = e.2.2 /\ ∃ q,CX Γ e.2.1 r = some q /\ Runs Γ L (r.app e.2.1 q) rn
theorem Runs.front {Γ : Sig} : ∀ (A : List RE) (e : RE) (B : List RE) (r rn : RS),Runs Γ (A ++ e :: B) r rn -> (∀ x ∈ A,GJ x.2.1 e.2.1 x.2.2 e.2.2) -> Runs Γ (e :: (A ++ B)) r rn
 | [],_,_,_,_,h,_=>h
 | x :: A,e,B,r,rn,h,ha=>by
  obtain ⟨ht,q,hq,h⟩:=h
  obtain ⟨ht',q',hq',h⟩:=Runs.front A e B _ rn h fun y hy=>ha y (lmc _ hy)
  obtain ⟨s1,s2,s3,s4,s5⟩:=swap hq hq' (by rw [ht,ht']; exact ha x (lms ..))
  refine ⟨by rw [s2,ht'],q',s1,by rw [s4,ht],q,s3,?_⟩
  rw [s5]
  exact h
theorem NC {Γ : Sig} {fp : List (Nat × Nat)} : ∀ (os : List VOper) (i : Nat) (r rn : RS) (acc : List RE),Cs Γ fp i os r acc = some rn ->
  ∃ L : List RE,L.map (·.2.1) = os /\ L.map (·.1) = List.range' i os.length /\ Runs Γ L r rn /\ (∀ x ∈ acc,∀ e ∈ L,fp.contains (x.1,e.1) = true -> ED x.2.1 e.2.1 x.2.2 e.2.2 = true) /\
   L.Pairwise fun x e=>fp.contains (x.1,e.1) = true -> ED x.2.1 e.2.1 x.2.2 e.2.2 = true
 | [], i, r, rn, acc, h=>by
  simp [Cs] at h
  exact ⟨[],rfl,rfl,h,by simp,.nil⟩
 | o :: os,i,r,rn,acc,h=>by
  have hchk : ∀ acc : List RE,Fw fp i o (Bb r o) acc = true -> ∀ x ∈ acc,fp.contains (x.1,i) = true -> ED x.2.1 o x.2.2 (Bb r o) = true:=by
   intro acc
   induction acc with
   | nil=>intro _ x hx; cases hx
   | cons y ys ih =>
    intro hc x hx hf
    obtain ⟨a,o',t'⟩:=y
    simp only [Fw] at hc
    rcases lmk.1 hx with rfl | hx
    ·simp only at hf
     rw [if_pos hf] at hc
     simp only [bat] at hc
     exact hc.1
    ·split at hc
     ·simp only [bat] at hc
      exact ih hc.2 x hx hf
     .exact ih hc x hx hf
  have hmain : (fpR fp i = true -> Fw fp i o (Bb r o) acc = true) /\ (ob (BQ Γ o r) fun r'=>Cs Γ fp (i + 1) os r' (E1 fp i o r acc)) = some rn:=by
   simp only [Cs] at h
   split at h
   ·obtain ⟨hc,h⟩:=Ac h
    exact ⟨fun _=>hc,h⟩
   ·rename_i hn
    exact ⟨fun e=>absurd e hn,h⟩
  obtain ⟨hc,h⟩:=hmain
  obtain ⟨r1,h1,h⟩:=Aa h
  obtain ⟨q,hq,rfl⟩:=O3 h1
  obtain ⟨L,l1,l2,l3,l4,l5⟩:=NC os (i + 1) _ rn _ h
  have hsub : ∀ x ∈ acc,x ∈ E1 fp i o r acc:=fun x hx=>by
   unfold E1
   split
   ·exact lmc _ hx
   ·exact hx
  have hin : ∀ b,fp.contains (i,b) = true -> (i,o,Bb r o) ∈ E1 fp i o r acc:=fun b hb=>by
   unfold E1
   rw [if_pos]
   ·exact lms ..
   ·simp only [fpL,List.any_eq_true]
    exact ⟨(i,b),List.contains_iff_mem.1 hb,by simp⟩
  refine ⟨(i,o,Bb r o) :: L,by simp [l1],by simp [l2,List.range'_succ],⟨rfl,q,hq,l3⟩,fun x hx e he=>?_,?_⟩
  ·rcases lmk.1 he with rfl | he
   ·intro hf
    refine hchk acc (hc ?_) x hx hf
    simp only [fpR,List.any_eq_true]
    exact ⟨(x.1,i),List.contains_iff_mem.1 hf,by simp⟩
   .exact l4 x (hsub x hx) e he
  .refine lpw.2 ⟨fun e he hf=>l4 (i,o,Bb r o) (hin _ hf) e he hf,l5⟩
theorem M4 {Γ : Sig} : ∀ (os : List VOper) (i : Nat) (r rn : RS),C6 Γ os r = some rn ->
  ∃ L : List RE,L.map (·.2.1) = os /\ L.map (·.1) = List.range' i os.length /\ Runs Γ L r rn
 | [],i,r,rn,h=>by
  simp [C6] at h
  exact ⟨[],rfl,rfl,h⟩
 | o :: os,i,r,rn,h=>by
  simp only [C6] at h
  obtain ⟨r1,h1,h⟩:=Aa h
  obtain ⟨q,hq,rfl⟩:=O3 h1
  obtain ⟨L,l1,l2,l3⟩:=M4 os (i + 1) _ rn h
  exact ⟨(i,o,Bb r o) :: L,by simp [l1],by simp [l2,List.range'_succ],⟨rfl,q,hq,l3⟩⟩
end Go.V
namespace Go.V
open Go.RowKit
section
variable [GK]
theorem OJ {acc : Array Nat} {i : Nat} : ∀ (l : List Edge) (s : Nat),(l.foldl (fun s e=>if Region.binds .any e then s ||| 2 ^ e.on ||| acc.getD e.on 0 else s) s).testBit i = true ->
  s.testBit i = true \/ ∃ e ∈ l,Region.binds .any e = true /\ (i = e.on \/ (acc.getD e.on 0).testBit i = true)
 | [],s,h=>.inl h
 | e :: l,s,h=>by
  simp only [List.foldl_cons] at h
  rcases OJ l _ h with h0 | ⟨e',he',hb,h1⟩
  ·split at h0
   ·rename_i hb
    simp only [Nat.testBit_or,Nat.testBit_two_pow,bot,decide_eq_true_eq] at h0
    rcases h0 with (h0 | h0) | h0
    .exact .inl h0
    .exact .inr ⟨e,lms ..,hb,.inl h0.symm⟩
    .exact .inr ⟨e,lms ..,hb,.inr h0⟩
   .exact .inl h0
  .exact .inr ⟨e',lmc _ he',hb,h1⟩
def DT (acc : Array Nat) (o : Oper) : Array Nat:=acc.push (o.after.toList.foldl (fun s e=>if Region.binds .any e then s ||| 2 ^ e.on ||| acc.getD e.on 0 else s) 0)
theorem UK {acc : Array Nat} {x k : Nat} (h : k < acc.size) : (acc.push x).getD k 0 = acc.getD k 0:=by
 simp [agd,Array.getElem?_push,Nat.ne_of_lt h]
theorem UL {acc : Array Nat} {x : Nat} : (acc.push x).getD acc.size 0 = x:=by
 simp [agd]
theorem PH : ∀ (l : List Oper) (acc : Array Nat),(∀ k,k < acc.size -> (l.foldl DT acc).getD k 0 = acc.getD k 0) /\
  ∀ m o,l[m]? = some o -> ∀ i,((l.foldl DT acc).getD (acc.size + m) 0).testBit i = true -> ∃ e ∈ o.after,Region.binds .any e = true /\ (i = e.on \/ (e.on < acc.size + m /\ ((l.foldl DT acc).getD e.on 0).testBit i = true))
 | [], acc=>⟨fun _ _=>rfl, fun m o h=>by simp at h⟩
 | o :: l,acc=>by
  obtain ⟨h1,h2⟩:=PH l (DT acc o)
  have hs : (DT acc o).size = acc.size + 1:=by simp [DT]
  simp only [List.foldl_cons]
  have h1' : ∀ k,k < acc.size -> (l.foldl DT (DT acc o)).getD k 0 = acc.getD k 0:=fun k hk=>by
   rw [h1 k (by omega)]
   exact UK hk
  refine ⟨h1',fun m o' ho i hi=>?_⟩
  cases m with
  | zero =>
   simp at ho
   subst ho
   rw [Nat.add_zero] at hi ⊢
   rw [h1 acc.size (by omega)] at hi
   rw [DT,UL] at hi
   rcases OJ _ _ hi with h0 | ⟨e,he,hb,h0⟩
   ·simp at h0
   ·refine ⟨e,by simpa using he,hb,?_⟩
    rcases h0 with h0 | h0
    ·exact .inl h0
    ·right
     have hlt : e.on < acc.size:=by
      rcases Nat.lt_or_ge e.on acc.size with h | h
      .exact h
      .simp [agd,Array.getElem?_eq_none h] at h0
     exact ⟨hlt,by rw [h1' _ hlt]; exact h0⟩
  | succ m =>
   simp at ho
   have:=h2 m o' ho i (by rw [hs,show acc.size + 1 + m = acc.size + (m + 1) by omega]; exact hi)
   obtain ⟨e,he,hb,h0⟩:=this
   refine ⟨e,he,hb,?_⟩
   rcases h0 with h0 | ⟨h3,h4⟩
   .exact .inl h0
   .exact .inr ⟨by omega,h4⟩
theorem XK (ops : Array Oper) : Region.before ops = ops.toList.foldl DT #[]:=by
 unfold Region.before
 rw [<- Array.foldl_toList]
 congr 1
 funext acc o
 unfold DT
 rw [<- Array.foldl_toList]
theorem VD {ops : Array Oper} {j i : Nat} {o : Oper} (ho : ops[j]? = some o) (hi : ((Region.before ops).getD j 0).testBit i = true) : ∃ e ∈ o.after,Region.binds .any e = true /\ (i = e.on \/ (e.on < j /\ ((Region.before ops).getD e.on 0).testBit i = true)):=by
 rw [XK] at hi ⊢
 have:=(PH ops.toList #[]).2 j o (by simpa using ho) i (by simpa using hi)
 simpa using this
theorem Un {ops : Array Oper} {listed : Array Bool} (hdown : ∀ (j : Nat) (o : Oper),ops[j]? = some o -> listed.getD j false = true -> ∀ e ∈ o.after,Region.binds .any e = true -> listed.getD e.on false = true) :
  ∀ (j : Nat) (o : Oper),ops[j]? = some o -> (∀ e ∈ o.after,Region.binds .any e = true -> listed.getD e.on false = true) -> ∀ i,((Region.before ops).getD j 0).testBit i = true -> listed.getD i false = true:=by
 intro j
 induction j using Nat.strongRecOn with
 | _ j ih =>
  intro o ho hall i hi
  obtain ⟨e,he,hb,h0⟩:=VD ho hi
  rcases h0 with rfl | ⟨hlt,h0⟩
  ·exact hall e he hb
  ·have hj : j < ops.size:=(ags.1 ho).1
   have ho' : ops[e.on]? = some ops[e.on]:=aggz (by omega)
   exact ih e.on hlt _ ho' (hdown e.on _ ho' (hall e he hb)) i h0
theorem Kk {ops : Array Oper} {listed : Array Bool} {i : Nat} : i ∈ Region.ready .any ops listed ↔ listed.getD i true = false /\ ∃ o,ops[i]? = some o /\ ∀ e ∈ o.after,Region.binds .any e = true -> listed.getD e.on false = true:=mem_ready
theorem Qf {listed : Array Bool} {i : Nat} (h : i < listed.size) : listed.getD i true = listed.getD i false:=by
 simp [agd,h]
theorem Mp {listed : Array Bool} {i : Nat} (h : listed.getD i false = true) : i < listed.size:=by
 rcases Nat.lt_or_ge i listed.size with h' | h'
 .exact h'
 .simp [agd,Array.getElem?_eq_none h'] at h
section
variable {P : Program} {Γ : Sig} (hΓ : C1 P Γ) {vs : List Nat} {n : Nat}
include hΓ
theorem OS {ops : Array Oper} {Q : Exit -> Act -> World -> Prop} (hedge : ∀ (j : Nat) (o : Oper),ops[j]? = some o -> ∀ e ∈ o.after,Region.binds .any e = true -> e.on < j) :
  ∀ (fuel : Nat) (listed : Array Bool) (L : List RE) (G : Gh) (r rn : RS) (a : Act) (w : World),L.length = fuel -> listed.size = ops.size -> (∀ i,i < ops.size -> (listed.getD i true = false ↔ i ∈ L.map (·.1))) ->
   (L.Pairwise fun x e=>x.1 < e.1 /\ (((Region.before ops).getD e.1 0).testBit x.1 = true \/ GJ x.2.1 e.2.1 x.2.2 e.2.2)) ->
   (∀ e ∈ L,∃ o,ops[e.1]? = some o /\ E0 P vs n ops o e.2.1 = true) ->
   (∀ (j : Nat) (o : Oper),ops[j]? = some o -> listed.getD j false = true -> ∀ e ∈ o.after,Region.binds .any e = true -> listed.getD e.on false = true) ->
   RRel vs n G r a w -> HeapInv G r.h w -> Runs Γ L r rn -> (∀ a' w' G',Step G r.h w G' rn.h w' -> HeapInv G' rn.h w' -> RRel vs n G' rn a' w' -> Q .normal a' w') ->
   wpAny P .any ops Q fuel listed a w
 | 0, listed, L, G, r, rn, a, w, hlen, hsz, hls, hpw, hok, hdn, hr, hi, hrun, hQ=>by
  have hL : L = []:=List.length_eq_zero_iff.1 hlen
  subst hL
  simp only [Runs] at hrun
  subst hrun
  refine ⟨?_,hQ a w G (Step.refl _ _ _) hi hr⟩
  rw [List.eq_nil_iff_forall_not_mem]
  intro i hm
  obtain ⟨h1,o,ho,_⟩:=Kk.1 hm
  have hlt : i < ops.size:=(ags.1 ho).1
  have := (hls i hlt).1 h1
  simp at this
 | fuel + 1,listed,L,G,r,rn,a,w,hlen,hsz,hls,hpw,hok,hdn,hr,hi,hrun,hQ=>by
  refine ⟨fun hnil=>?_,fun i hm=>?_⟩
  ·exfalso
   obtain ⟨e0,L',rfl⟩ : ∃ e0 L',L = e0 :: L':=by
    cases L with
    | nil=>simp at hlen
    | cons x xs=>exact ⟨x,xs,rfl⟩
   obtain ⟨o,ho,_⟩:=hok e0 (lms ..)
   have hlt : e0.1 < ops.size:=(ags.1 ho).1
   have : e0.1 ∈ Region.ready .any ops listed:=by
    refine Kk.2 ⟨(hls _ hlt).2 (by simp),o,ho,fun e he hb=>?_⟩
    have hon:=hedge _ o ho e he hb
    rw [<- Qf (by omega)]
    cases hv : listed.getD e.on true with
    | true=>rfl
    | false =>
     exfalso
     have:=(hls e.on (by omega)).1 hv
     simp only [lpc,lmk,lmm] at this
     rcases this with h0 | ⟨x,hx,h0⟩
     ·omega
     ·have:=((lpw.1 hpw).1 x hx).1
      omega
   rw [hnil] at this
   cases this
  ·obtain ⟨h1,o,ho,hall⟩:=Kk.1 hm
   have hlt : i < ops.size:=(ags.1 ho).1
   have hin:=(hls i hlt).1 h1
   obtain ⟨e,he,hei⟩:=lmm.1 hin
   obtain ⟨A,B,rfl⟩:=List.append_of_mem he
   have hpA : ∀ x ∈ A,x.1 < e.1 /\ (((Region.before ops).getD e.1 0).testBit x.1 = true \/ GJ x.2.1 e.2.1 x.2.2 e.2.2):=fun x hx =>
    (List.pairwise_append.1 hpw).2.2 x hx e (lms ..)
   have hap : ∀ x ∈ A,GJ x.2.1 e.2.1 x.2.2 e.2.2:=fun x hx=>by
    rcases (hpA x hx).2 with hb | hb
    ·exfalso
     rw [hei] at hb
     have hl:=Un hdn i o ho hall x.1 hb
     have hxl : x.1 < listed.size:=Mp hl
     have:=(hls x.1 (by omega)).2 (by simp; exact .inl ⟨_,_,hx⟩)
     rw [Qf hxl,hl] at this
     cases this
    ·exact hb
   obtain ⟨ht,q,hq,hrun'⟩:=Runs.front A e B r rn hrun hap
   obtain ⟨o',ho',hok'⟩:=hok e (by simp)
   rw [hei,ho] at ho'
   simp at ho'
   subst ho'
   refine MY hΓ hr hi hok' ho hq fun a' w' G' hs hinv hr'=>?_
   have hpw':=List.pairwise_append.1 hpw
   have hpB:=lpw.1 hpw'.2.1
   refine OS hedge fuel _ (A ++ B) G' _ rn a' w' (by simp at hlen ⊢; omega) (by simp [hsz]) (fun k hk=>?_) ?_ (fun x hx=>hok x ?_) ?_ hr' hinv hrun' fun a'' w'' G'' hs' hinv' hr''=>hQ a'' w'' G'' (hs.trans hs') hinv' hr''
   ·by_cases hki : k = i
    ·subst hki
     constructor
     ·intro h0
      simp [agd,hsz,hk] at h0
     ·intro h0
      exfalso
      simp only [lma,lmp,lmm] at h0
      rcases h0 with ⟨x,hx,h0⟩ | ⟨x,hx,h0⟩
      ·have:=(hpA x hx).1
       omega
      ·have:=(hpB.1 x hx).1
       omega
    ·have : (listed.setIfInBounds i true).getD k true = listed.getD k true:=by
      simp [agd,Array.getElem?_setIfInBounds,Ne.symm hki]
     rw [this,hls k hk]
     simp only [lma,lpc,lmp,lmk,hei]
     constructor
     ·rintro (h0 | h0 | h0)
      .exact .inl h0
      .exact absurd h0 hki
      .exact .inr h0
     ·rintro (h0 | h0)
      .exact .inl h0
      .exact .inr (.inr h0)
   ·exact List.pairwise_append.2 ⟨hpw'.1,hpB.2,fun x hx y hy=>hpw'.2.2 x hx y (lmc _ hy)⟩
   ·simp only [lmp,lmk] at hx ⊢
    rcases hx with hx | hx
    ·exact .inl hx
    ·exact .inr (.inr hx)
   ·intro j o2 ho2 hl e2 he2 hb2
    have mono : ∀ k,listed.getD k false = true -> (listed.setIfInBounds i true).getD k false = true:=fun k hk=>by
     have hkl:=Mp hk
     by_cases hik : i = k
     .subst hik; simp [agd,hkl]
     .simpa [agd,Array.getElem?_setIfInBounds,hik] using hk
    by_cases hji : j = i
    ·subst hji
     rw [ho] at ho2
     simp at ho2
     subst ho2
     exact mono _ (hall e2 he2 hb2)
    ·refine mono _ (hdn j o2 ho2 ?_ e2 he2 hb2)
     simpa [agd,Array.getElem?_setIfInBounds,Ne.symm hji] using hl
end
end
end Go.V
namespace Go.V
open Go.RowKit
section
variable [GK]
def Eb (fz : List Nat) (h : VHeap) : Kind -> Kind
 | .mine id=>match h id with
  | some (_,.arr _ _)=>if Ep fz id then .frozen else .mine id
  | _=>.mine id
 | k=>k
def CP (fz : List Nat) (G : Gh) (h : VHeap) : Gh:={ G with kind:=fun b=>Eb fz h (G.kind b) }
section
variable {fz : List Nat} {G : Gh} {h : VHeap} {w : World}
theorem Wm {b : Nat} (hb : G.kind b = .frozen) : (CP fz G h).kind b = .frozen:=by simp [CP,hb,Eb]
theorem Xr {b : Nat} (hb : G.kind b = .other) : (CP fz G h).kind b = .other:=by simp [CP,hb,Eb]
theorem Pw {b : Nat} {id : Id} (hb : (CP fz G h).kind b = .mine id) : G.kind b = .mine id:=by
 simp only [CP] at hb
 cases hk : G.kind b with
 | frozen=>simp [hk,Eb] at hb
 | other=>simp [hk,Eb] at hb
 | mine id' =>
  simp only [hk,Eb] at hb
  split at hb
  ·split at hb
   .cases hb
   .exact hb
  .exact hb
theorem GO {b : Nat} {id : Id} (hb : G.kind b = .mine id) (hn : ∀ v sz xs,h id = some (v,.arr sz xs) -> Ep fz id = false) : (CP fz G h).kind b = .mine id:=by
 simp only [CP,hb,Eb]
 split
 ·rename_i v sz xs hh
  simp [hn v sz xs hh]
 .rfl
theorem zav {b : Nat} {id : Id} (hb : G.kind b = .mine id) {v sz : Nat} {xs : List PV} (hh : h id = some (v,.arr sz xs)) (hf : Ep fz id = true) : (CP fz G h).kind b = .frozen:=by
 simp [CP,hb,Eb,hh,hf]
theorem frz_step : Step G h w (CP fz G h) (Bs fz h) w where
 frozen:=fun b hb _=>⟨Wm hb,rfl⟩
 other:=fun b hb _=>⟨Xr hb,rfl⟩
 mine:=fun b id _ hb=>.inl (Pw hb)
 frz := fun b _ hb=>by
  simp only [CP] at hb
  cases hk : G.kind b with
  | frozen=>exact .inl rfl
  | other=>simp [hk,Eb] at hb
  | mine id =>
   simp only [hk,Eb] at hb
   split at hb
   ·split at hb
    ·rename_i hf
     cases id with
     | slot s j=>exact .inr ⟨s,j,rfl⟩
     | arg i j=>simp [Ep] at hf
    .cases hb
   .cases hb
 size:=lrf _
 os:=rfl
 tape:=rfl
 output:=rfl
 vers:=fun id v o hh=>by
  cases o with
  | box cs=>exact ⟨v,.box (cs.map (fz0 fz h)),by simp [Bs,hh],lrf _,fun _=>⟨rfl,rfl,trivial,fun _ _ e=>by cases e⟩⟩
  | map kt ks vs=>exact ⟨v,.map kt ks vs,by simp [Bs,hh],lrf _,fun _=>⟨rfl,rfl,trivial,fun _ _ e=>by cases e⟩⟩
  | gone=>exact ⟨v,.gone,by simp [Bs,hh],lrf _,fun _=>⟨rfl,rfl,trivial,fun _ _ e=>by cases e⟩⟩
  | iter s pos=>exact ⟨v,.iter s pos,by simp [Bs,hh],lrf _,fun _=>⟨rfl,rfl,trivial,fun _ _ e=>by cases e⟩⟩
  | arr sz xs =>
   by_cases hf : Ep fz id = true
   .exact ⟨v + 1,.gone,by simp [Bs,hh,hf],by omega,fun e=>by omega⟩
   .refine ⟨v,.arr sz xs,by simp [Bs,hh,hf],lrf _,fun _=>⟨rfl,rfl,by simp [SameOb],fun _ _ _ hm=>GO hm fun v' sz' xs' _=>by simpa using hf⟩⟩
theorem DD (hinv : HeapInv G h w) {v : VVal} {c : Value} (hv : VRel G h w v c) : VRel (CP fz G h) (Bs fz h) w (fz0 fz h v) c:=by
 cases hv with
 | @own id ver off len a n cap v o hn hcap hh hle hoo =>
  simp only [fz0]
  split
  ·rename_i hf
   split
   ·rename_i r hr
    simp only [AH,hh] at hr
    cases o <;> try (cases hr; done)
    rename_i sz xs
    obtain ⟨rfl,hr1⟩:=Ac hr
    simp at hr1
    subst hr1
    obtain ⟨sz2,xs2,e,hlen,hreal⟩:=hoo rfl
    simp at e
    obtain ⟨rfl,rfl⟩:=e
    obtain ⟨hcs,_,hall⟩:=hinv _ _ _ hh
    subst hn
    have hyl : ((xs.drop off).take n).length = n:=by simp; omega
    refine .p ?_ rfl
    by_cases h0 : n = 0
    ·subst h0
     exact .slice ⟨0,0,none⟩ (fun _ _=>Go.undef) (by simp) hcap (fun h=>absurd h (by omega)) (by simp) (fun i x j c h=>by simp at h) (fun i x j c h=>by simp at h) (fun i x j c h=>by simp at h)
    ·rcases hreal with ⟨hc0,_⟩ | ⟨hm,hce,ha⟩
     ·omega
     ·obtain ⟨hxc,arr,t,hb,has,hcell⟩:=hall hm
      have hrest:=zav (fz:=fz) hm hh hf
      have hgk : ∀ (i : Nat) (y : PV),((xs.drop off).take n)[i]? = some y -> xs[off + i]? = some y /\ i < n:=fun i y hy=>by
       rw [List.getElem?_take] at hy
       split at hy
       ·rw [List.getElem?_drop] at hy; exact ⟨hy,by assumption⟩
       ·cases hy
      have hg : ∀ (i : Nat) (y : PV) (j : Nat) (cc : PV),((xs.drop off).take n)[i]? = some y -> y.cells[j]? = some cc -> arr[off * sz + (i * sz + j)]? = some (arr.getD (off * sz + (i * sz + j)) Go.undef) /\ (arr.getD (off * sz + (i * sz + j)) Go.undef).oneCell' = true /\ PRel (fun b=>G.kind b = .frozen) w cc (arr.getD (off * sz + (i * sz + j)) Go.undef):=fun i y j cc hy hj=>by
       obtain ⟨hy',hin⟩:=hgk i y hy
       obtain ⟨u,e1,e2,e3⟩:=hcell (off + i) y j cc hy' hj
       rw [Nat.add_mul,Nat.add_assoc] at e1
       have hu : arr.getD (off * sz + (i * sz + j)) Go.undef = u:=by
        obtain ⟨hlt,e⟩:=ags.1 e1
        simp [Array.getD,hlt,e]
       rw [hu]
       exact ⟨e1,e2,e3⟩
      refine .slice ⟨G.blk id,off * sz,none⟩ (fun i j=>arr.getD (off * sz + (i * sz + j)) Go.undef) hyl.symm hcap (fun _=>⟨ha (by omega),hrest,(ags.1 hb).1⟩)
       (fun x hx=>hcs x (List.mem_of_mem_drop (List.mem_of_mem_take hx))) (fun i y j cc hy hj=>(hg i y j cc hy hj).2.1) (fun i y j cc hy hj=>?_) (fun i y j cc hy hj=>((hg i y j cc hy hj).2.2).mono frz_step.keeps (lrf _))
      rw [add_lit,Cy hb]
      exact (hg i y j cc hy hj).1
   .exact .dead _
  .exact VRel.mono frz_step (.own hn hcap hh hle hoo)
 | p hp h1=>exact VRel.mono frz_step (.p hp h1)
 | ptr hh hle hoo=>exact VRel.mono frz_step (.ptr hh hle hoo)
 | vptr ad val ha hf hb h1 hc hr=>exact VRel.mono frz_step (.vptr ad val ha hf hb h1 hc hr)
 | eptr hh hle hoo=>exact VRel.mono frz_step (.eptr hh hle hoo)
 | plist ad val hn hcap ha h1 hc hr=>exact VRel.mono frz_step (.plist ad val hn hcap ha h1 hc hr)
 | pcell hf hb h1 hc hr=>exact VRel.mono frz_step (.pcell hf hb h1 hc hr)
 | mref hh hle hoo=>exact VRel.mono frz_step (.mref hh hle hoo)
 | fn hl hr=>exact VRel.mono frz_step (.fn hl hr)
 | agg hl h1 hr=>exact VRel.mono frz_step (.agg hl h1 hr)
 | tup hl hr=>exact VRel.mono frz_step (.tup hl hr)
 | undef=>exact .undef
 | dead c=>exact .dead c
theorem Fv {α β : Type} {f : α -> β} {l : List α} {i : Nat} {y : β} (h : (l.map f)[i]? = some y) : ∃ x,l[i]? = some x /\ y = f x:=by
 rw [List.getElem?_map] at h
 cases hx : l[i]? with
 | none=>simp [hx] at h
 | some x=>simp [hx] at h; exact ⟨x,rfl,h.symm⟩
theorem zam (hinv : HeapInv G h w) {v : VVal} {c : Value} (hv : VRel G h w v c) : VRel (CP fz G h) (Bs fz h) w (fz1 fz h v) c:=by
 cases hv with
 | agg hl h1 hr =>
  refine .agg (by simpa using hl) h1 fun i v c hv hc=>?_
  obtain ⟨x,hx,rfl⟩:=Fv hv
  exact DD hinv (hr i x c hx hc)
 | tup hl hr =>
  refine .tup (by simpa using hl) fun i v c hv hc=>?_
  obtain ⟨x,hx,rfl⟩:=Fv hv
  exact DD hinv (hr i x c hx hc)
 | p hp h1=>exact DD hinv (.p hp h1)
 | own hn hcap hh hle hoo=>exact DD hinv (.own hn hcap hh hle hoo)
 | ptr hh hle hoo=>exact DD hinv (.ptr hh hle hoo)
 | vptr ad val ha hf hb h1 hc hr=>exact DD hinv (.vptr ad val ha hf hb h1 hc hr)
 | eptr hh hle hoo=>exact DD hinv (.eptr hh hle hoo)
 | plist ad val hn hcap ha h1 hc hr=>exact DD hinv (.plist ad val hn hcap ha h1 hc hr)
 | pcell hf hb h1 hc hr=>exact DD hinv (.pcell hf hb h1 hc hr)
 | mref hh hle hoo=>exact DD hinv (.mref hh hle hoo)
 | fn hl hr=>exact DD hinv (.fn hl hr)
 | undef=>exact .undef
 | dead c=>exact .dead c
theorem zau (hinv : HeapInv G h w) : HeapInv (CP fz G h) (Bs fz h) w:=by
 intro id v o hh
 simp only [Bs] at hh
 split at hh
 ·rename_i v0 sz xs h0
  split at hh
  ·simp at hh
   obtain ⟨_,rfl⟩:=hh
   trivial
  ·rename_i hf
   simp at hh
   obtain ⟨rfl,rfl⟩:=hh
   obtain ⟨h1,h2,h3⟩:=hinv _ _ _ h0
   refine ⟨h1,h2.elim Or.inl (fun hm=>Or.inr (GO hm fun _ _ _ _=>by simpa using hf)),fun hm=>?_⟩
   obtain ⟨h4,arr,t,h5,h6,h7⟩:=h3 (Pw hm)
   refine ⟨h4,arr,t,h5,h6,fun i x j c hx hj=>?_⟩
   obtain ⟨u,e1,e2,e3⟩:=h7 i x j c hx hj
   exact ⟨u,e1,e2,e3.mono frz_step.keeps (lrf _)⟩
 ·rename_i v0 cs h0
  simp at hh
  obtain ⟨rfl,rfl⟩:=hh
  obtain ⟨h1,arr,t,h2,h3,h4,h5⟩:=hinv _ _ _ h0
  refine ⟨GO h1 fun _ _ _ e=>by rw [h0] at e; simp at e,arr,t,h2,by simpa using h3,h4,fun i v c hv hc=>?_⟩
  obtain ⟨x,hx,rfl⟩:=Fv hv
  exact DD hinv (h5 i x c hx hc)
 ·rename_i o0 n1 n2
  have hob:=hinv _ _ _ hh
  cases o with
  | box cs=>exact absurd hh (n2 v cs)
  | arr sz xs=>exact absurd hh (n1 v sz xs)
  | gone=>trivial
  | iter s pos =>
   obtain ⟨h1,h2⟩:=hob
   exact ⟨GO h1 fun _ _ _ e=>by rw [hh] at e; simp at e,h2⟩
  | map kt ks vs =>
   obtain ⟨h1,es,cl,h2,h3,h4,h5,h6⟩:=hob
   refine ⟨GO h1 fun _ _ _ e=>by rw [hh] at e; simp at e,es,cl,h2,h3,h4,h5,fun i v e hv he=>?_⟩
   exact (h6 i v e hv he).mono frz_step.keeps (lrf _)
theorem Za (hinv : HeapInv G h w) : HeapInv G h { w with drawn:=w.drawn + 1 }:=by
 have hst : Step G h w G h { w with drawn:=w.drawn + 1 }:=Step.drew
 intro id v o hh
 have hob:=hinv _ _ _ hh
 cases o with
 | gone=>trivial
 | iter s pos=>exact hob
 | box cs =>
  obtain ⟨h1,arr,t,h2,h3,h4,h5⟩:=hob
  exact ⟨h1,arr,t,h2,h3,h4,fun i v c hv hc=>(h5 i v c hv hc).mono hst⟩
 | arr sz xs =>
  obtain ⟨h1,h2,h3⟩:=hob
  refine ⟨h1,h2,fun hm=>?_⟩
  obtain ⟨h4,arr,t,h5,h6,h7⟩:=h3 hm
  refine ⟨h4,arr,t,h5,h6,fun i x j c hx hj=>?_⟩
  obtain ⟨u,e1,e2,e3⟩:=h7 i x j c hx hj
  exact ⟨u,e1,e2,e3.mono hst.keeps (lrf _)⟩
 | map kt ks vs =>
  obtain ⟨h1,es,cl,h2,h3,h4,h5,h6⟩:=hob
  exact ⟨h1,es,cl,h2,h3,h4,h5,fun i v e hv he=>(h6 i v e hv he).mono hst.keeps (lrf _)⟩
end
abbrev St.rs (s : St) : RS:=⟨s.pe,fun _=>none,s.h⟩
theorem UM {vs : List Nat} {n : Nat} {fz : List Nat} {G : Gh} {s : St} {a : Act} {w : World} (hr : RRel vs n G s.rs a w) (hi : HeapInv G s.h w) :
  ∃ G',Step G s.h w G' (Dn fz s).h w /\ HeapInv G' (Dn fz s).h w /\ RRel vs n G' (Dn fz s).rs a w:=by
 unfold Dn
 split
 .exact ⟨G,Step.refl _ _ _,hi,hr⟩
 .exact ⟨CP fz G s.h,frz_step,zau hi,fun t ht=>zam hi (hr.pe t ht),fun _ _ e=>(by cases e),hr.defers,hr.size,hr.good.step frz_step⟩
theorem Y9 {vs : List Nat} {n : Nat} {G : Gh} {r : RS} {a : Act} {w : World} (hr : RRel vs n G r a w) : RRel vs n G r a { w with drawn:=w.drawn + 1 } :=
 ⟨fun t ht=>(hr.pe t ht).mono Step.drew,fun s v e=>⟨(hr.te s v e).1,(hr.te s v e).2.mono Step.drew⟩,hr.defers,hr.size,hr.good.step (h:=r.h) Step.drew⟩
theorem Vl {bs : Array Nat} {fp : List (Nat × Nat)} {us : List VOper} (h : IC bs fp us = true) {i j : Nat} {o o' : VOper} (hi : us[i]? = some o) (hj : us[j]? = some o') (hlt : i < j) :
  (bs.getD j 0).testBit i = true \/ (HZ o o' = true /\ (o.op.silent = true \/ o'.op.silent = true \/ (o.op.reader = true /\ o'.op.reader = true) \/ fp.contains (i,j) = true)):=by
 simp only [IC,List.all_eq_true] at h
 have h1:=h (o',j) (by rw [List.mem_zipIdx_iff_getElem?]; simpa using hj) (o,i) (by rw [List.mem_zipIdx_iff_getElem?]; simpa using hi)
 simp only [bot,bat,decide_eq_true_eq] at h1
 rcases h1 with (h1 | h1) | ⟨h1,h2⟩
 ·omega
 ·exact .inl h1
 ·refine .inr ⟨h1,?_⟩
  rcases h2 with ((h2 | h2) | h2) | h2
  .exact .inl h2
  .exact .inr (.inl h2)
  .exact .inr (.inr (.inl h2))
  .exact .inr (.inr (.inr h2))
theorem JO {L : List RE} {us : List VOper} (h1 : L.map (·.2.1) = us) (h2 : L.map (·.1) = List.range' 0 us.length) {k : Nat} {e : RE} (he : L[k]? = some e) : e.1 = k /\ us[k]? = some e.2.1:=by
 have a1 : (L.map (·.1))[k]? = some e.1:=by simp [he]
 have a2 : (L.map (·.2.1))[k]? = some e.2.1:=by simp [he]
 rw [h2,List.getElem?_range'] at a1
 ·rw [h1] at a2
  simp at a1
  exact ⟨a1.symm,a2⟩
 ·rw [<- h1]
  simp
  exact (lgs.1 he).1
section
variable {P : Program} {Γ : Sig} (hΓ : C1 P Γ) (hm : P.follows .mixedOrders = true) {vs : List Nat} {n : Nat}
include hΓ hm
theorem Vs {ops : Array Oper} {draw : Bool} {vr : VRegion} (hok : KL P vs n ops draw vr = true) {G : Gh} {s s' : St} {a : Act} {w : World} (hr : RRel vs n G s.rs a w) (hi : HeapInv G s.h w) (he : B9 Γ vr s = some s') {id : Nat}
  {Q : Exit -> Act -> World -> Prop} (hQ : ∀ a' w' G',Step G s.h w G' s'.h w' -> HeapInv G' s'.h w' -> RRel vs n G' s'.rs a' w' -> Q .normal a' w') : (Code.region id ops draw).wp P Q a w:=by
 simp only [KL,bat,bot,Bool.not_eq_true'] at hok
 obtain ⟨hops,hdraw⟩:=hok
 obtain ⟨hlen,hget⟩:=Na hops
 unfold B9 at he
 obtain ⟨rn,hrn,he⟩:=Aa he
 simp only [osi] at he
 subst he
 obtain ⟨G1,hs1,hi1,hr1⟩:=UM (fz:=vr.fz) hr hi
 generalize Dn vr.fz s = s1 at hrn hs1 hi1 hr1
 have hQ' : ∀ a' w' G',Step G1 s1.h w G' rn.h w' -> HeapInv G' rn.h w' -> RRel vs n G' rn a' w' -> Q .normal a' w':=fun a' w' G' hs hinv hrr =>
  hQ a' w' G' (hs1.trans hs) hinv ⟨hrr.pe,fun _ _ e=>by simp [St.rs] at e,hrr.defers,hrr.size,hrr.good⟩
 have hops' : ∀ (j : Nat) (u : VOper),vr.ops[j]? = some u -> ∃ o,ops[j]? = some o /\ E0 P vs n ops o u = true:=fun j u hu=>by
  have hj : j < ops.toList.length:=by
   rw [<- hlen]
   exact (lgs.1 hu).1
  have ho : ops.toList[j]? = some ops.toList[j]:=lgg hj
  exact ⟨ops.toList[j],by simp,hget j _ u ho hu⟩
 have hL : ∃ L : List RE,L.map (·.2.1) = vr.ops /\ L.map (·.1) = List.range' 0 vr.ops.length /\ Runs Γ L s1.rs rn /\ (L.Pairwise fun x e=>vr.fp.contains (x.1,e.1) = true -> ED x.2.1 e.2.1 x.2.2 e.2.2 = true):=by
  split at hrn
  ·rename_i hfe
   have hfe : vr.fp = []:=List.isEmpty_iff.1 hfe
   obtain ⟨L,l1,l2,l3⟩:=M4 vr.ops 0 _ rn hrn
   exact ⟨L,l1,l2,l3,List.Pairwise.imp_of_mem (R:=fun _ _=>True) (fun _ _ _ h=>by rw [hfe] at h; simp at h) (List.pairwise_of_forall fun _ _=>trivial)⟩
  ·obtain ⟨L,l1,l2,l3,_,l5⟩:=NC vr.ops 0 _ rn _ hrn
   exact ⟨L,l1,l2,l3,l5⟩
 obtain ⟨L,l1,l2,l3,l5⟩:=hL
 have hLlen : L.length = ops.size:=by
  have : (L.map (·.2.1)).length = vr.ops.length:=by rw [l1]
  simp at this hlen
  omega
 have hLok : ∀ e ∈ L,∃ o,ops[e.1]? = some o /\ E0 P vs n ops o e.2.1 = true:=fun e he=>by
  obtain ⟨k,hk⟩:=lgm he
  obtain ⟨e1,e2⟩:=JO l1 l2 hk
  rw [e1]
  exact hops' k _ e2
 cases draw with
 | false =>
  refine wp_region ?_
  have hruns : ∀ (L : List RE) (k : Nat) (G : Gh) (r : RS) (a : Act) (w : World),L.map (·.1) = List.range' k L.length -> (∀ e ∈ L,∃ o,ops[e.1]? = some o /\ E0 P vs n ops o e.2.1 = true) -> RRel vs n G r a w -> HeapInv G r.h w -> Runs Γ L r rn ->
    (∀ a' w' G',Step G r.h w G' rn.h w' -> HeapInv G' rn.h w' -> RRel vs n G' rn a' w' -> Q .normal a' w') -> wpOps P ops Q (List.range' k L.length) a w:=by
   intro L
   induction L with
   | nil =>
    intro k G r a w _ _ hr hi hrun hQ
    simp only [Runs] at hrun
    subst hrun
    simp only [lln,List.range'_zero,wpOps]
    exact hQ a w G (Step.refl _ _ _) hi hr
   | cons e L ih =>
    intro k G r a w hk hok hr hi hrun hQ
    obtain ⟨_,q,hq,hrun⟩:=hrun
    simp only [lpc,llc,List.range'_succ,List.cons.injEq] at hk ⊢
    obtain ⟨o,ho,hok0⟩:=hok e (lms ..)
    rw [hk.1] at ho
    rw [wpOps_cons]
    refine MY hΓ hr hi hok0 ho hq fun a' w' G' hs hinv hr'=>?_
    exact ih (k + 1) G' _ a' w' hk.2 (fun x hx=>hok x (lmc _ hx)) hr' hinv hrun fun a'' w'' G'' hs' hinv' hr''=>hQ a'' w'' G'' (hs.trans hs') hinv' hr''
  have:=hruns L 0 G1 s1.rs a w (by rw [l2,<- l1]; simp) hLok hr1 hi1 l3 hQ'
  rw [hLlen] at this
  rw [List.range_eq_range']
  exact this
 | true =>
  have hdr : K8 ops = true /\ IC (Region.before ops) vr.fp vr.ops = true:=by
   rcases hdraw with h0 | h0
   ·cases h0
   ·simpa using h0
  refine wp_region_any hm ?_
  have hedge : ∀ (j : Nat) (o : Oper),ops[j]? = some o -> ∀ e ∈ o.after,Region.binds .any e = true -> e.on < j:=fun j o ho e he hb=>by
   have h1:=hdr.1
   simp only [K8,List.all_eq_true] at h1
   have h2:=h1 (o,j) (by rw [List.mem_zipIdx_iff_getElem?]; simpa using ho)
   simp only [Array.all_eq_true,bot,Bool.not_eq_true',decide_eq_true_eq] at h2
   obtain ⟨k,hk,e1⟩:=Array.mem_iff_getElem.1 he
   have h3:=h2 k hk
   rw [e1,hb] at h3
   rcases h3 with h3 | h3
   ·cases h3
   ·exact h3
  have hpw : L.Pairwise fun x e=>x.1 < e.1 /\ (((Region.before ops).getD e.1 0).testBit x.1 = true \/ GJ x.2.1 e.2.1 x.2.2 e.2.2):=by
   rw [List.pairwise_iff_getElem] at l5 ⊢
   intro i j hil hjl hlt
   have hx:=JO l1 l2 (lgg hil)
   have hy:=JO l1 l2 (lgg hjl)
   refine ⟨by rw [hx.1,hy.1]; exact hlt,?_⟩
   have h5:=l5 i j hil hjl hlt
   rw [hx.1,hy.1] at h5
   rcases Vl hdr.2 hx.2 hy.2 hlt with h0 | ⟨h0,h1⟩
   ·left
    rw [hx.1,hy.1]
    exact h0
   ·right
    refine ⟨h0,?_⟩
    rcases h1 with h1 | h1 | h1 | h1
    .exact .inl h1
    .exact .inr (.inl h1)
    .exact .inr (.inr (.inl h1))
    .exact .inr (.inr (.inr (h5 h1)))
  refine OS hΓ hedge ops.size _ L G1 s1.rs rn a { w with drawn:=w.drawn + 1 } hLlen (by simp) (fun i hi=>?_) hpw hLok (fun j o ho hl=>?_) (Y9 hr1) (Za hi1) l3 fun a' w' G' hs=>hQ' a' w' G' (Step.drew.trans hs)
  ·have : i ∈ L.map (·.1):=by
    rw [l2,List.mem_range'_1]
    simp at hlen
    omega
   simp [agd,hi,this]
  ·simp [agd,Array.getElem?_replicate] at hl
   split at hl <;> simp at hl
end
end
end Go.V
namespace Go.V
open Go.RowKit
section
variable [GK]
def Dk (a b : Id) : Kind -> Kind
 | .mine i=>if i = b then .other else if i = a then .mine b else .mine i
 | k=>k
def mvG (a b : Id) (G : Gh) : Gh:={ kind:=fun x=>Dk a b (G.kind x),blk:=fun id=>if id = b then G.blk a else G.blk id,cap:=fun id=>if id = b then G.cap a else G.cap id }
section
variable {a b : Id} {G : Gh} {h : VHeap} {w : World} {va sz : Nat} {xs : List PV}
theorem Oq {x : Nat} (hk : (mvG a b G).kind x = .mine b) (hab : a ≠ b) : G.kind x = .mine a:=by
 simp only [mvG] at hk
 cases hx : G.kind x with
 | frozen=>simp [hx,Dk] at hk
 | other=>simp [hx,Dk] at hk
 | mine i =>
  simp only [hx,Dk] at hk
  split at hk
  ·cases hk
  ·split at hk
   ·rename_i h; rw [h]
   ·rename_i h1 h2
    cases hk
    exact absurd rfl h1
theorem Oo {x : Nat} {c : Id} (hk : (mvG a b G).kind x = .mine c) (hc : c ≠ b) : G.kind x = .mine c:=by
 simp only [mvG] at hk
 cases hx : G.kind x with
 | frozen=>simp [hx,Dk] at hk
 | other=>simp [hx,Dk] at hk
 | mine i =>
  simp only [hx,Dk] at hk
  split at hk
  ·cases hk
  ·split at hk
   ·cases hk
    exact absurd rfl hc
   .exact hk
theorem Hc {x : Nat} {c : Id} (hk : G.kind x = .mine c) (ha : c ≠ a) (hb : c ≠ b) : (mvG a b G).kind x = .mine c:=by simp [mvG,hk,Dk,ha,hb]
theorem P7 {x : Nat} (hk : G.kind x = .mine a) (hab : a ≠ b) : (mvG a b G).kind x = .mine b:=by simp [mvG,hk,Dk,hab]
theorem IE (hab : a ≠ b) (has : ∃ s j,a = .slot s j) (hbs : ∃ s j,b = .slot s j) (hha : h a = some (va,.arr sz xs)) : Step G h w (mvG a b G) (Cb a b va (nv (h b)) sz xs h) w where
 frozen:=fun x hx _=>⟨by simp [mvG,hx,Dk],rfl⟩
 other:=fun x hx _=>⟨by simp [mvG,hx,Dk],rfl⟩
 mine:=fun x id _ hk=>by
  by_cases hid : id = b
  ·subst hid
   obtain ⟨s,j,e⟩:=has
   exact .inr ⟨hbs,s,j,by rw [Oq hk hab,e]⟩
  ·exact .inl (Oo hk hid)
 frz:=fun x _ hk=>by
  simp only [mvG] at hk
  cases hx : G.kind x with
  | frozen=>exact .inl rfl
  | other=>simp [hx,Dk] at hk
  | mine i =>
   simp only [hx,Dk] at hk
   split at hk
   ·cases hk
   ·split at hk <;> cases hk
 size:=lrf _
 os := rfl
 tape:=rfl
 output:=rfl
 vers:=fun id v o hh=>by
  by_cases hb : id = b
  ·subst hb
   exact ⟨v + 1,.arr sz xs,by simp [Cb,Ej hh],by omega,fun e=>by omega⟩
  ·by_cases ha : id = a
   ·subst ha
    rw [hha] at hh
    simp at hh
    obtain ⟨rfl,rfl⟩:=hh
    exact ⟨va + 1,.gone,by simp [Cb,hb],by omega,fun e=>by omega⟩
   ·cases o with
    | box cs=>exact ⟨v,.box (cs.map (mv0 a b va (nv (h b)))),by simp only [Cb,if_neg hb,if_neg ha,hh],lrf _,fun _=>⟨by simp [mvG,hb],by simp [mvG,hb],trivial,fun _ _ e=>by cases e⟩⟩
    | map kt ks vs=>exact ⟨v,.map kt ks vs,by simp only [Cb,if_neg hb,if_neg ha,hh],lrf _,fun _=>⟨by simp [mvG,hb],by simp [mvG,hb],trivial,fun _ _ e=>by cases e⟩⟩
    | gone=>exact ⟨v,.gone,by simp only [Cb,if_neg hb,if_neg ha,hh],lrf _,fun _=>⟨by simp [mvG,hb],by simp [mvG,hb],trivial,fun _ _ e=>by cases e⟩⟩
    | iter s pos=>exact ⟨v,.iter s pos,by simp only [Cb,if_neg hb,if_neg ha,hh],lrf _,fun _=>⟨by simp [mvG,hb],by simp [mvG,hb],trivial,fun _ _ e=>by cases e⟩⟩
    | arr sz' xs'=>exact ⟨v,.arr sz' xs',by simp only [Cb,if_neg hb,if_neg ha,hh],lrf _,fun _=>⟨by simp [mvG,hb],by simp [mvG,hb],by simp [SameOb],fun _ _ _ hm=>Hc hm ha hb⟩⟩
theorem DC (hab : a ≠ b) (has : ∃ s j,a = .slot s j) (hbs : ∃ s j,b = .slot s j) (hha : h a = some (va,.arr sz xs)) {v : VVal} {c : Value} (hv : VRel G h w v c) : VRel (mvG a b G) (Cb a b va (nv (h b)) sz xs h) w (mv0 a b va (nv (h b)) v) c:=by
 have hst : Step G h w (mvG a b G) (Cb a b va (nv (h b)) sz xs h) w:=IE hab has hbs hha
 have hbn : Cb a b va (nv (h b)) sz xs h b = some (nv (h b),.arr sz xs):=by simp [Cb]
 have hbb : (mvG a b G).blk b = G.blk a:=by simp [mvG]
 have hbc : (mvG a b G).cap b = G.cap a:=by simp [mvG]
 cases hv with
 | @own id ver off len ad n cap v o hn hcap hh hle hoo =>
  by_cases hc : id = a /\ ver = va
  ·obtain ⟨rfl,rfl⟩:=hc
   rw [hha] at hh
   simp at hh
   obtain ⟨rfl,rfl⟩:=hh
   obtain ⟨sz2,xs2,e,hlen,hreal⟩:=hoo rfl
   simp at e
   obtain ⟨rfl,rfl⟩:=e
   simp only [mv0,and_self,if_true]
   refine .own hn hcap hbn (lrf _) fun _=>⟨sz,xs,rfl,hlen,?_⟩
   rcases hreal with h0 | ⟨h1,h2,h3⟩
   .exact .inl h0
   .exact .inr ⟨by rw [hbb]; exact P7 h1 hab,by rw [hbc]; exact h2,by rw [hbb]; exact h3⟩
  ·simp only [mv0,if_neg hc]
   exact VRel.mono hst (.own hn hcap hh hle hoo)
 | @eptr id ver i off ad v o hh hle hoo =>
  by_cases hc : id = a /\ ver = va
  ·obtain ⟨rfl,rfl⟩:=hc
   rw [hha] at hh
   simp at hh
   obtain ⟨rfl,rfl⟩:=hh
   obtain ⟨sz2,xs2,e,hlen,hreal⟩:=hoo rfl
   simp at e
   obtain ⟨rfl,rfl⟩:=e
   simp only [mv0,and_self,if_true]
   exact .eptr hbn (lrf _) fun _=>⟨sz,xs,rfl,hlen,by rw [hbb]; exact hreal⟩
  ·simp only [mv0,if_neg hc]
   exact VRel.mono hst (.eptr hh hle hoo)
 | p hp h1=>exact VRel.mono hst (.p hp h1)
 | plist ad val hn hcap ha h1 hc hr=>exact VRel.mono hst (.plist ad val hn hcap ha h1 hc hr)
 | pcell hf hb h1 hc hr=>exact VRel.mono hst (.pcell hf hb h1 hc hr)
 | ptr hh hle hoo=>exact VRel.mono hst (.ptr hh hle hoo)
 | vptr ad val ha hf hb h1 hc hr=>exact VRel.mono hst (.vptr ad val ha hf hb h1 hc hr)
 | mref hh hle hoo=>exact VRel.mono hst (.mref hh hle hoo)
 | fn hl hr=>exact VRel.mono hst (.fn hl hr)
 | agg hl h1 hr=>exact VRel.mono hst (.agg hl h1 hr)
 | tup hl hr=>exact VRel.mono hst (.tup hl hr)
 | undef=>exact .undef
 | dead c=>exact .dead c
theorem Z6 (hab : a ≠ b) (has : ∃ s j,a = .slot s j) (hbs : ∃ s j,b = .slot s j) (hha : h a = some (va,.arr sz xs)) {v : VVal} {c : Value} (hv : VRel G h w v c) : VRel (mvG a b G) (Cb a b va (nv (h b)) sz xs h) w (mv1 a b va (nv (h b)) v) c:=by
 cases hv with
 | agg hl h1 hr =>
  refine .agg (by simpa using hl) h1 fun i v c hv hc=>?_
  obtain ⟨x,hx,rfl⟩:=Fv hv
  exact DC hab has hbs hha (hr i x c hx hc)
 | tup hl hr =>
  refine .tup (by simpa using hl) fun i v c hv hc=>?_
  obtain ⟨x,hx,rfl⟩:=Fv hv
  exact DC hab has hbs hha (hr i x c hx hc)
 | p hp h1=>exact DC hab has hbs hha (.p hp h1)
 | plist ad val hn hcap ha h1 hc hr=>exact DC hab has hbs hha (.plist ad val hn hcap ha h1 hc hr)
 | pcell hf hb h1 hc hr=>exact DC hab has hbs hha (.pcell hf hb h1 hc hr)
 | own hn hcap hh hle hoo=>exact DC hab has hbs hha (.own hn hcap hh hle hoo)
 | ptr hh hle hoo=>exact DC hab has hbs hha (.ptr hh hle hoo)
 | vptr ad val ha hf hb h1 hc hr=>exact DC hab has hbs hha (.vptr ad val ha hf hb h1 hc hr)
 | eptr hh hle hoo=>exact DC hab has hbs hha (.eptr hh hle hoo)
 | mref hh hle hoo=>exact DC hab has hbs hha (.mref hh hle hoo)
 | fn hl hr=>exact DC hab has hbs hha (.fn hl hr)
 | undef=>exact .undef
 | dead c=>exact .dead c
theorem zaM (hab : a ≠ b) (has : ∃ s j,a = .slot s j) (hbs : ∃ s j,b = .slot s j) (hha : h a = some (va,.arr sz xs)) (hinv : HeapInv G h w) : HeapInv (mvG a b G) (Cb a b va (nv (h b)) sz xs h) w:=by
 have hst : Step G h w (mvG a b G) (Cb a b va (nv (h b)) sz xs h) w:=IE hab has hbs hha
 intro id v o hh
 by_cases hb : id = b
 ·subst hb
  simp only [Cb,if_true,osi,pmi] at hh
  obtain ⟨_,rfl⟩:=hh
  obtain ⟨h1,h2,h3⟩:=hinv _ _ _ hha
  have hbb : (mvG a id G).blk id = G.blk a:=by simp [mvG]
  have hbc : (mvG a id G).cap id = G.cap a:=by simp [mvG]
  refine ⟨h1,h2.elim Or.inl (fun hm=>Or.inr (by rw [hbb]; exact P7 hm hab)),fun hm=>?_⟩
  rw [hbb] at hm ⊢
  rw [hbc]
  obtain ⟨h4,arr,t,h5,h6,h7⟩:=h3 (Oq hm hab)
  refine ⟨h4,arr,t,h5,h6,fun i x j c hx hj=>?_⟩
  obtain ⟨u,e1,e2,e3⟩:=h7 i x j c hx hj
  exact ⟨u,e1,e2,e3.mono hst.keeps (lrf _)⟩
 ·by_cases ha : id = a
  ·subst ha
   simp only [Cb,if_neg hb,if_true,osi,pmi] at hh
   obtain ⟨_,rfl⟩:=hh
   trivial
  ·have hbb : (mvG a b G).blk id = G.blk id:=by simp [mvG,hb]
   have hbc : (mvG a b G).cap id = G.cap id:=by simp [mvG,hb]
   simp only [Cb,if_neg hb,if_neg ha] at hh
   split at hh
   ·rename_i v0 cs h0
    simp only [osi,pmi] at hh
    obtain ⟨rfl,rfl⟩:=hh
    obtain ⟨h1,arr,t,h2,h3,h4,h5⟩:=hinv _ _ _ h0
    refine ⟨by rw [hbb]; exact Hc h1 ha hb,arr,t,by rw [hbb]; exact h2,by simpa using h3,h4,fun i v c hv hc=>?_⟩
    obtain ⟨x,hx,rfl⟩:=Fv hv
    exact DC hab has hbs hha (h5 i x c hx hc)
   ·rename_i n1
    have hob:=hinv _ _ _ hh
    cases o with
    | box cs=>exact absurd hh (n1 v cs)
    | gone=>trivial
    | iter s pos =>
     obtain ⟨h1,h2⟩:=hob
     exact ⟨by rw [hbb]; exact Hc h1 ha hb,by rw [hbb]; exact h2⟩
    | arr sz' xs' =>
     obtain ⟨h1,h2,h3⟩:=hob
     refine ⟨h1,h2.elim Or.inl (fun hm=>Or.inr (by rw [hbb]; exact Hc hm ha hb)),fun hm=>?_⟩
     rw [hbb] at hm ⊢
     rw [hbc]
     obtain ⟨h4,arr,t,h5,h6,h7⟩:=h3 (Oo hm hb)
     refine ⟨h4,arr,t,h5,h6,fun i x j c hx hj=>?_⟩
     obtain ⟨u,e1,e2,e3⟩:=h7 i x j c hx hj
     exact ⟨u,e1,e2,e3.mono hst.keeps (lrf _)⟩
    | map kt ks vs =>
     obtain ⟨h1,es,cl,h2,h3,h4,h5,h6⟩:=hob
     exact ⟨by rw [hbb]; exact Hc h1 ha hb,es,cl,by rw [hbb]; exact h2,h3,h4,h5,fun i v e hv he=>(h6 i v e hv he).mono hst.keeps (lrf _)⟩
end
theorem Vn {vs : List Nat} {n : Nat} {p q : Id} (hab : p ≠ q) (has : ∃ s j,p = .slot s j) (hbs : ∃ s j,q = .slot s j) {G : Gh} {s : St} {a : Act} {w : World} (hr : RRel vs n G s.rs a w) (hi : HeapInv G s.h w) :
  ∃ G',Step G s.h w G' (E9 p q s).h w /\ HeapInv G' (E9 p q s).h w /\ RRel vs n G' (E9 p q s).rs a w:=by
 unfold E9
 split
 ·rename_i va sz xs hha
  exact ⟨mvG p q G,IE hab has hbs hha,zaM hab has hbs hha hi,fun t ht=>Z6 hab has hbs hha (hr.pe t ht),fun _ _ e=>(by cases e),hr.defers,hr.size,hr.good.step (IE hab has hbs hha)⟩
 .exact ⟨G,Step.refl _ _ _,hi,hr⟩
end
end Go.V
namespace Go.V
open Go.RowKit
section
variable [GK]
def VExit.toExit : VExit -> Exit
 | .normal=>.normal
 | .exit id=>.exit id
 | .ret=>.ret
theorem zae {b : St -> Option (VExit × St)} {s : St} {r : VExit × St} (h : iter b s = some r) : ∃ n,A0 b n s = some r:=by
 unfold iter at h
 split at h
 ·rename_i hex
  have:=Classical.choose_spec (Classical.choose_spec hex)
  simp only [osi] at h
  rw [h] at this
  exact ⟨_,this⟩
 .cases h
theorem NB {i : Id} (h : LP i = true) : ∃ s j,i = .slot s j:=by
 cases i with
 | slot s j=>exact ⟨s,j,rfl⟩
 | arg i j=>cases h
def IU (P : Program) (c : Code) (Q : Exit -> Act -> World -> Prop) (a : Act) (w : World) : Prop :=
 ∀ (b : Frame) (k : List Item) (cs : List Frame),∃ e a' w',Q e a' w' /\ Arrives P (lone (b.at a (.code c :: .inLoop c :: k)) cs w) b k cs e a' w'
theorem UF {P : Program} {c : Code} {Q : Exit -> Act -> World -> Prop} {a : Act} {w : World} (h : c.wp P (Exit.then (IU P c Q) Q) a w) : IU P c Q a w:=by
 intro b k cs
 obtain ⟨e,a₁,w₁,hq,harr⟩:=h b (.inLoop c :: k) cs
 cases e with
 | normal =>
  obtain ⟨e₂,a₂,w₂,hq₂,harr₂⟩:=hq b k cs
  exact ⟨e₂,a₂,w₂,hq₂,.of_steps (Steps.trans harr (.one step_inLoop)) harr₂⟩
 | exit id=>exact ⟨_,a₁,w₁,hq,.pass (x:=.inLoop c) rfl (fun _ _=>.inl (by simp)) harr⟩
 | goto l=>exact ⟨_,a₁,w₁,hq,.pass (x:=.inLoop c) rfl (fun _ _=>.inl (by simp)) harr⟩
 | ret=>exact ⟨_,a₁,w₁,hq,.pass (x:=.inLoop c) rfl (fun _ _=>.inl (by simp)) harr⟩
 | panic ch=>exact ⟨_,a₁,w₁,hq,.pass (x:=.inLoop c) rfl (fun _ _=>.inl (by simp)) harr⟩
 | outgrown=>exact ⟨_,a₁,w₁,hq,.pass (x:=.inLoop c) rfl (fun _ _=>.inl (by simp)) harr⟩
theorem Uo {P : Program} {c : Code} {Q : Exit -> Act -> World -> Prop} {a : Act} {w : World} (h : IU P c Q a w) : (Code.loop c).wp P Q a w:=by
 intro b k cs
 obtain ⟨e,a',w',hq,harr⟩:=h b k cs
 exact ⟨e,a',w',hq,.of_steps (.one step_loop) harr⟩
section
variable {P : Program} {Γ : Sig} (hΓ : C1 P Γ) (hm : P.follows .mixedOrders = true) {vs : List Nat} {n : Nat}
include hΓ hm
theorem Ev : ∀ (vc : VCode) (c : Code) (G : Gh) (s s' : St) (a : Act) (w : World) (e : VExit) (Q : Exit -> Act -> World -> Prop),Bq P vs n c vc = true -> RRel vs n G s.rs a w -> HeapInv G s.h w -> Az Γ vc s = some (e,s') ->
  (∀ a' w' G',Step G s.h w G' s'.h w' -> HeapInv G' s'.h w' -> RRel vs n G' s'.rs a' w' -> Q e.toExit a' w') -> c.wp P Q a w
 | .mv p q x,c,G,s,s',a,w,e,Q,hok,hr,hi,he,hQ=>by
  simp only [Bq,bat,decide_eq_true_eq] at hok
  obtain ⟨⟨⟨hab,hp⟩,hq⟩,hok⟩:=hok
  rw [Ho] at he
  obtain ⟨G1,hs1,hi1,hr1⟩:=Vn hab (NB hp) (NB hq) hr hi
  exact Ev x c G1 (E9 p q s) s' a w e Q hok hr1 hi1 he fun a' w' G' hs=>hQ a' w' G' (hs1.trans hs)
 | .fail,c,G,s,s',a,w,e,Q,hok,hr,hi,he,hQ=>by
  rw [Ih] at he
  cases he
 | .skip,c,G,s,s',a,w,e,Q,hok,hr,hi,he,hQ=>by
  cases c <;> try (simp [Bq] at hok; done)
  ·rw [G5] at he
   simp only [osi,pmi] at he
   obtain ⟨rfl,rfl⟩:=he
   exact wp_skip (hQ a w G (Step.refl _ _ _) hi hr)
  ·rw [G5] at he
   simp only [osi,pmi] at he
   obtain ⟨rfl,rfl⟩:=he
   exact wp_label (hQ a w G (Step.refl _ _ _) hi hr)
 | .scope x,c,G,s,s',a,w,e,Q,hok,hr,hi,he,hQ=>by
  cases c <;> try (simp [Bq] at hok; done)
  rename_i cx
  simp only [Bq] at hok
  rw [GY] at he
  refine wp_scope_straight (Ev x cx G s s' a w e _ hok hr hi he fun a' w' G' hs hinv hr'=>?_)
  have:=hQ a' w' G' hs hinv hr'
  cases e <;> exact this
 | .region r,c,G,s,s',a,w,e,Q,hok,hr,hi,he,hQ=>by
  cases c <;> try (simp [Bq] at hok; done)
  rename_i id ops draw
  simp only [Bq] at hok
  rw [GV] at he
  obtain ⟨s1,h1,he⟩:=Aa he
  simp only [osi,pmi] at he
  obtain ⟨rfl,rfl⟩:=he
  exact Vs hΓ hm hok hr hi h1 hQ
 | .seq x y,c,G,s,s',a,w,e,Q,hok,hr,hi,he,hQ=>by
  cases c <;> try (simp [Bq] at hok; done)
  rename_i cx cy
  simp only [Bq,bat] at hok
  rw [Fr] at he
  obtain ⟨⟨e1,s1⟩,h1,he⟩:=Aa he
  refine wp_seq (Ev x cx G s s1 a w e1 _ hok.1 hr hi h1 fun a' w' G' hs hinv hr'=>?_)
  cases e1 with
  | normal =>
   rw [GP] at he
   exact Ev y cy G' s1 s' a' w' e Q hok.2 hr' hinv he fun a'' w'' G'' hs'=>hQ a'' w'' G'' (hs.trans hs')
  | exit id =>
   rw [Nw] at he
   simp only [osi,pmi] at he
   obtain ⟨rfl,rfl⟩:=he
   exact hQ a' w' G' hs hinv hr'
  | ret =>
   rw [N9] at he
   simp only [osi,pmi] at he
   obtain ⟨rfl,rfl⟩:=he
   exact hQ a' w' G' hs hinv hr'
 | .cond t x y,c,G,s,s',a,w,e,Q,hok,hr,hi,he,hQ=>by
  cases c <;> try (simp [Bq] at hok; done)
  rename_i co cx cy
  simp only [Bq,bat] at hok
  cases t with
  | v t =>
   rw [Ga] at he
   split at he
   ·rename_i b hb
    have hv:=F5 (Ay (r:=s.rs) hr hok.1.1 (v:=.p (.bool b)) (by simp [RS.look,hb]))
    cases b with
    | true =>
     rw [EC] at he
     exact wp_cond_true hv (Ev x cx G s s' a w e Q hok.1.2 hr hi he hQ)
    | false =>
     rw [EB] at he
     exact wp_cond_false hv (Ev y cy G s s' a w e Q hok.2 hr hi he hQ)
   ·cases he
  | t t=>simp [Az] at he
  | c d=>simp [Az] at he
 | .block id x,c,G,s,s',a,w,e,Q,hok,hr,hi,he,hQ=>by
  cases c <;> try (simp [Bq] at hok; done)
  rename_i id' cx
  simp only [Bq,bat,beq_iff_eq] at hok
  obtain ⟨rfl,hok⟩:=hok
  rw [GZ] at he
  obtain ⟨⟨e1,s1⟩,h1,he⟩:=Aa he
  refine wp_block (Ev x cx G s s1 a w e1 _ hok hr hi h1 fun a' w' G' hs hinv hr'=>?_)
  cases e1 with
  | normal =>
   rw [NR] at he
   simp only [osi,pmi] at he
   obtain ⟨rfl,rfl⟩:=he
   exact hQ a' w' G' hs hinv hr'
  | ret =>
   rw [Qc] at he
   simp only [osi,pmi] at he
   obtain ⟨rfl,rfl⟩:=he
   exact hQ a' w' G' hs hinv hr'
  | exit i =>
   rw [Pu] at he
   simp only [VExit.toExit,Exit.inBlock]
   split at he
   ·rename_i hid
    simp only [osi,pmi] at he
    obtain ⟨rfl,rfl⟩:=he
    rw [if_pos hid]
    exact hQ a' w' G' hs hinv hr'
   ·rename_i hid
    simp only [osi,pmi] at he
    obtain ⟨rfl,rfl⟩:=he
    rw [if_neg hid]
    exact hQ a' w' G' hs hinv hr'
 | .loop x,c,G,s,s',a,w,e,Q,hok,hr,hi,he,hQ=>by
  cases c <;> try (simp [Bq] at hok; done)
  rename_i cx
  simp only [Bq] at hok
  rw [G6] at he
  obtain ⟨k,hk⟩:=zae he
  have key : ∀ (k : Nat) (G : Gh) (s : St) (a : Act) (w : World),RRel vs n G s.rs a w -> HeapInv G s.h w -> A0 (Az Γ x) k s = some (e,s') ->
    (∀ a' w' G',Step G s.h w G' s'.h w' -> HeapInv G' s'.h w' -> RRel vs n G' s'.rs a' w' -> Q e.toExit a' w') -> IU P cx Q a w:=by
   intro k
   induction k with
   | zero=>intro G s a w _ _ hk; simp [A0] at hk
   | succ k ih =>
    intro G s a w hr hi hk hQ
    simp only [A0] at hk
    obtain ⟨⟨e1,s1⟩,h1,hk⟩:=Aa hk
    refine UF (Ev x cx G s s1 a w e1 _ hok hr hi h1 fun a' w' G' hs hinv hr'=>?_)
    cases e1 with
    | normal=>exact ih G' s1 a' w' hr' hinv hk fun a'' w'' G'' hs'=>hQ a'' w'' G'' (hs.trans hs')
    | exit id =>
     simp only [osi,pmi] at hk
     obtain ⟨rfl,rfl⟩:=hk
     exact hQ a' w' G' hs hinv hr'
    | ret =>
     simp only [osi,pmi] at hk
     obtain ⟨rfl,rfl⟩:=hk
     exact hQ a' w' G' hs hinv hr'
  exact Uo (key k G s a w hr hi hk hQ)
 | .exit id,c,G,s,s',a,w,e,Q,hok,hr,hi,he,hQ=>by
  cases c <;> try (simp [Bq] at hok; done)
  simp only [Bq,beq_iff_eq] at hok
  subst hok
  rw [Ii] at he
  simp only [osi,pmi] at he
  obtain ⟨rfl,rfl⟩:=he
  exact wp_exit (hQ a w G (Step.refl _ _ _) hi hr)
 | .ret,c,G,s,s',a,w,e,Q,hok,hr,hi,he,hQ=>by
  cases c <;> try (simp [Bq] at hok; done)
  rw [Iu] at he
  simp only [osi,pmi] at he
  obtain ⟨rfl,rfl⟩:=he
  exact wp_ret (hQ a w G (Step.refl _ _ _) hi hr)
end
theorem NK {P : Program} {vs : List Nat} : ∀ {rs : List ResultVar} {us : List VRet},Gt P vs rs us = true -> us.length = rs.length /\ ∀ (i : Nat) (r : ResultVar) (u : VRet),rs[i]? = some r -> us[i]? = some u -> Ja P vs r u = true
 | [],[],_=>⟨rfl,fun i o u h=>by simp at h⟩
 | o :: os,u :: us,h=>by
  simp only [Gt,bat] at h
  obtain ⟨h1,h2⟩:=NK h.2
  refine ⟨by simp [h1],fun i o' u' ho hu=>?_⟩
  cases i with
  | zero=>simp at ho hu; subst ho; subst hu; exact h.1
  | succ i=>simp at ho hu; exact h2 i o' u' ho hu
 | [],_ :: _,h=>by simp [Gt] at h
 | _ :: _,[],h=>by simp [Gt] at h
def Fp (tmps : Array Value) : ResultVar -> Sem Value
 | .tmp t=>pure (tmps.getD t undef)
 | .cell a t=>do loadVar t (<- asAddr (tmps.getD a undef))
theorem WT {P : Program} {vs : List Nat} {n : Nat} {G : Gh} {s : St} {a : Act} {w : World} (hr : RRel vs n G s.rs a w) (hi : HeapInv G s.h w) {rv : ResultVar} {u : VRet} (hok : Ja P vs rv u = true) {v : VVal} (hv : EJ s u = some v) :
  ∃ c,(Fp a.tmps rv).run P w = .ok c w /\ VRel G s.h w v c:=by
 unfold Ja at hok
 split at hok
 ·rename_i t t'
  simp only [bat,beq_iff_eq,List.contains_iff_mem] at hok
  obtain ⟨rfl,hmem⟩:=hok
  simp only [EJ,osi] at hv
  subst hv
  exact ⟨_,by simp [Fp],hr.pe t hmem⟩
 ·rename_i t ty t' agg
  simp only [bat,beq_iff_eq,List.contains_iff_mem] at hok
  obtain ⟨⟨rfl,hmem⟩,hagg⟩:=hok
  simp only [EJ,FD] at hv
  obtain ⟨⟨cs,off⟩,hrow,hv⟩:=Aa hv
  obtain ⟨ad,hp,hrr⟩:=Np hi (hr.pe t hmem) hrow
  obtain ⟨c,h1,h2⟩:=Mo (P:=P) hrr hv hagg
  refine ⟨c,?_,h2⟩
  simp [Fp,hp,asAddr,h1]
 .cases hok
end
end Go.V
namespace Go.V
open Go.RowKit
section
variable [GK]
theorem Pk {P : Program} {w : World} {f : ResultVar -> Sem Value} : ∀ (rs : List ResultVar) (vs : List Value),vs.length = rs.length -> (∀ (j : Nat) (r : ResultVar) (v : Value),rs[j]? = some r -> vs[j]? = some v -> (f r).run P w = .ok v w) ->
  (rs.mapM f).run P w = .ok vs w
 | [],vs,hl,_=>by
  have : vs = []:=List.length_eq_zero_iff.1 (by simpa using hl)
  subst this
  simp
 | r :: rs,vs,hl,hf=>by
  obtain ⟨v,vs',rfl⟩ : ∃ v vs',vs = v :: vs':=by
   cases vs with
   | nil=>simp at hl
   | cons v vs'=>exact ⟨v,vs',rfl⟩
  have h0:=hf 0 r v rfl rfl
  have ih:=Pk (P:=P) (w:=w) (f:=f) rs vs' (by simpa using hl) (fun j r u hr hu=>hf (j + 1) r u (by simpa using hr) (by simpa using hu))
  rw [List.mapM_cons]
  simp only [Sem.run_bind,h0,Result.andThen_ok,ih,Sem.run_pure]
def I7 : List Value -> Value
 | [v]=>v
 | vs=>.tuple vs.toArray
theorem Va {P : Program} {fn : Func} {tmps : Array Value} {w : World} {vs : List Value} (hl : vs.length = fn.results.size) (h : ∀ (j : Nat) (r : ResultVar) (v : Value),fn.results[j]? = some r -> vs[j]? = some v -> (Fp tmps r).run P w = .ok v w) :
  (results fn tmps).run P w = .ok (I7 vs) w:=by
 have hm : (fn.results.toList.mapM (Fp tmps)).run P w = .ok vs w:=Pk _ vs (by simpa using hl) (fun j r v hr hv=>h j r v (by simpa using hr) hv)
 have e : results fn tmps = (do
   let vs <- fn.results.mapM (Fp tmps)
   pure (if h : vs.size = 1 then vs[0] else .tuple vs)):=by
  unfold results
  congr 1
 rw [e,Array.mapM_eq_mapM_toList]
 simp only [map_eq_pure_bind,bind_assoc,pure_bind,Sem.run_bind,hm,Result.andThen_ok,Sem.run_pure]
 clear hl h hm
 match vs with
 | []=>simp [I7]
 | [v]=>simp [I7]
 | _ :: _ :: _=>simp [I7]
theorem VC {P : Program} {Γ : Sig} (hΓ : C1 P Γ) (hm : P.follows .mixedOrders = true) {f : FuncId} {vf : VFunc} (hok : Hv P f vf = true) {args : List VVal} {H : List Ob} {res : VVal} {H' : List Ob} (he : BW Γ vf args H = some (res,H')) :
  DS P f = true /\ Dq P f args H res H':=by
 unfold Hv at hok
 split at hok <;> try (cases hok; done)
 rename_i fn hfn
 split at hok <;> try (cases hok; done)
 rename_i c hc
 simp only [bat,decide_eq_true_eq] at hok
 obtain ⟨⟨⟨h1,h2⟩,h3⟩,h4⟩:=hok
 refine ⟨by simp [DS,hfn,hc,h1],fun G w cargs hinv hgd hlen hargs hkind=>?_⟩
 unfold BW at he
 obtain ⟨hn,he⟩:=Ac he
 obtain ⟨⟨e,s'⟩,hex,he⟩:=Aa he
 refine calls_of_wp hfn hc (Ev hΓ hm (vs:=vf.vs) (n:=fn.ntmps) vf.body c G { pe:=Gx args,h:=Aq H } s' _ w e _ h2 ⟨fun s hs=>?_,fun _ _ e=>(by cases e),rfl,(by simp; omega),hgd⟩ hinv hex fun a' w' G' hs hinv' hr'=>?_)
 ·simp only [Gx]
  by_cases hlt : s < args.length
  ·have e1 : args[s]? = some args[s]:=lgg hlt
   have e2 : cargs[s]? = some cargs[s]:=aggz (by omega)
   have:=hargs s _ _ e1 e2
   rw [List.getD_eq_getElem?_getD,e1,agd,Array.getElem?_append_left (by omega),e2]
   exact this
  ·rw [List.getD_eq_getElem?_getD,List.getElem?_eq_none (by omega),agd,Array.getElem?_append_right (by omega),Array.getElem?_replicate]
   split <;> exact .undef
 ·have fin : ∀ (vs : List VVal),Ad (EJ s') vf.rets = some vs -> ∃ v,(results fn a'.tmps).run P w' = .ok v w' /\ CD G' s'.h w' vs v:=fun vs hvs=>by
   obtain ⟨r1,r2⟩:=NK h3
   obtain ⟨l1,l2⟩:=AX hvs
   have hex : ∀ k,k <= vs.length -> ∃ cs : List Value,cs.length = k /\ ∀ (j : Nat) (r : ResultVar) (v : VVal) (c : Value),fn.results[j]? = some r -> vs[j]? = some v -> cs[j]? = some c -> (Fp a'.tmps r).run P w' = .ok c w' /\ VRel G' s'.h w' v c:=by
    intro k
    induction k with
    | zero=>exact fun _=>⟨[],rfl,fun j r v c _ _ h=>by simp at h⟩
    | succ k ih =>
     intro hk
     obtain ⟨cs,hcl,hcs⟩:=ih (by omega)
     have hlt : k < vs.length:=by omega
     have hv : vs[k]? = some vs[k]:=lgg hlt
     obtain ⟨u,hu,huv⟩:=l2 k _ hv
     have hrl : k < fn.results.toList.length:=by omega
     have hrr : fn.results.toList[k]? = some fn.results.toList[k]:=lgg hrl
     obtain ⟨c,hc1,hc2⟩:=WT (s:=s') hr' hinv' (r2 k _ u hrr hu) huv
     refine ⟨cs ++ [c],by simp [hcl],fun j r v c' hr hv' hc'=>?_⟩
     by_cases hjk : j < k
     ·rw [List.getElem?_append_left (by omega)] at hc'
      exact hcs j r v c' hr hv' hc'
     ·have hjk' : j = k:=by
       have:=(lgs.1 hc').1
       simp at this
       omega
      subst hjk'
      rw [lgr (by omega),hcl] at hc'
      simp at hc'
      subst hc'
      rw [hv] at hv'
      simp at hv'
      subst hv'
      have : fn.results.toList[j]? = some r:=by simpa using hr
      rw [hrr] at this
      simp only [osi] at this
      rw [this] at hc1
      exact ⟨hc1,hc2⟩
   obtain ⟨cs,hcl,hcs⟩:=hex vs.length (lrf _)
   have hsz : fn.results.size = vs.length:=by simp at r1; omega
   refine ⟨_,Va (vs:=cs) (by omega) (fun j r c hr hc=>?_),?_⟩
   ·have hj : j < vs.length:=by
     have:=(lgs.1 hc).1
     omega
    exact (hcs j r _ c hr (lgg hj) hc).1
   ·have hrel : ∀ (j : Nat) (v : VVal) (c : Value),vs[j]? = some v -> cs[j]? = some c -> VRel G' s'.h w' v c:=fun j v c hv hc=>by
     have hj : j < fn.results.size:=by
      have:=(lgs.1 hv).1
      omega
     exact (hcs j _ v c (aggz hj) hv hc).2
    match vs,cs,hcl with
    | [],[],_=>exact ⟨#[],rfl,rfl,fun i v c h=>by simp at h⟩
    | [v],[c],_=>exact hrel 0 v c rfl rfl
    | v :: v' :: vs,c :: c' :: cs,hcl=>exact ⟨_,rfl,by simpa using hcl.symm,fun i u d hu hd=>hrel i u d hu (by simpa using hd)⟩
  have done : ∀ r,(ob (Ad (EJ s') vf.rets) fun vs=>ob (Bi s'.h H.length vs) fun v=>ob (AS s'.h 0 H.length) fun H'=>some (v,H')) = some r -> r = (res,H') -> a'.defers = [] /\ ∃ v,(results fn a'.tmps).run P w' = .ok v w' /\
    ∃ c G'' h' vs,Ending.returned v = .returned c /\ Step G (Aq H) w G'' h' w' /\ HeapInv G'' h' w' /\ CD G'' h' w' vs c /\ Bi h' H.length vs = some res /\ AS h' 0 H.length = some H':=fun r he hr=>by
   obtain ⟨vs,hvs,he⟩:=Aa he
   obtain ⟨v,hv,he⟩:=Aa he
   obtain ⟨H2,hH,he⟩:=Aa he
   simp only [osi] at he
   subst hr
   simp only [pmi] at he
   obtain ⟨rfl,rfl⟩:=he
   obtain ⟨c,hc1,hc2⟩:=fin vs hvs
   exact ⟨hr'.defers,c,hc1,c,G',s'.h,vs,rfl,hs,hinv',hc2,hv,hH⟩
  cases e with
  | normal =>
   rw [MG] at he
   exact done _ he rfl
  | ret =>
   rw [Oy] at he
   exact done _ he rfl
  | exit id=>simp [Jb] at he
theorem Nk {P : Program} {prog : FuncId -> Option VFunc} {X : Sig} (hX : C1 P X) (hm : P.follows .mixedOrders = true) (hok : ∀ f vf,prog f = some vf -> Hv P f vf = true) : ∀ n,C1 P (CN prog X n)
 | 0=>hX
 | n + 1=>by
  intro f args H res H' he
  simp only [CN] at he
  split at he
  ·rename_i r hr
   simp at he
   subst he
   exact hX _ _ _ _ _ hr
  ·split at he
   ·rename_i vf hvf
    exact VC (Nk hX hm hok n) hm (hok f vf hvf) he
   .cases he
theorem XV {prog : FuncId -> Option VFunc} {X : Sig} {f : FuncId} {args : List VVal} {H : List Ob} {r : VVal × List Ob} (h : Ef prog X f args H = some r) : ∃ n,CN prog X n f args H = some r:=by
 unfold Ef at h
 split at h
 ·rename_i hex
  have:=Classical.choose_spec (Classical.choose_spec hex)
  simp only [osi] at h
  rw [h] at this
  exact ⟨_,this⟩
 .cases h
theorem U1 {P : Program} {prog : FuncId -> Option VFunc} {X : Sig} (hX : C1 P X) (hm : P.follows .mixedOrders = true) (hok : ∀ f vf,prog f = some vf -> Hv P f vf = true) : C1 P (Ef prog X):=by
 intro f args H res H' he
 obtain ⟨n,hn⟩:=XV he
 exact Nk hX hm hok n _ _ _ _ _ hn
end
end Go.V
namespace Go.V
open Go.RowKit Go.ChangeShapes Go.WideShapes Go.ChangeAt
section
variable [GK]
inductive Fit (P : Program) : TypeId -> VVal -> Prop where
 | int {t : TypeId} {k : IntKind} {n : Int} (h : P.underlying t = some (.int k)) (hn : (Lit.int k n).wf = true) : Fit P t (.p (.int k n))
 | ints {t e : TypeId} {k : IntKind} {xs : List Int} (h : P.underlying t = some (.slice e)) (he : P.underlying e = some (.int k)) (hn : ∀ n ∈ xs,(Lit.int k n).wf = true) : Fit P t (.p (.slice 1 (xs.map (.int k))))
def EN (P : Program) (t : TypeId) : Bool :=
 P.readableRec t && decide (t < P.types.size) && (match P.underlying t with
  | some (.int _)=>true
  | some (.slice e)=>P.cellsOf e == 1 && (match P.underlying e with
   | some (.int _)=>true
   | _=>false)
  | _=>false)
theorem Fit.isInts {P : Program} {t e : TypeId} {k : IntKind} {u : VVal} (h : P.underlying t = some (.slice e)) (he : P.underlying e = some (.int k)) (hf : Fit P t u) : ∃ xs : List Int,u = .p (.slice 1 (xs.map (.int k))) /\ ∀ n ∈ xs,(Lit.int k n).wf = true:=by
 cases hf with
 | int h' hn=>rw [h] at h'; simp at h'
 | ints h' he' hn =>
  rw [h] at h'
  simp at h'
  subst h'
  rw [he] at he'
  simp at he'
  subst he'
  exact ⟨_,rfl,hn⟩
def Je : Gh:={ kind:=fun _=>.frozen,blk:=fun _=>0,cap:=fun _=>0 }
section
variable {H : Type} {enc : TypeId × Value -> H} {P : Program} {W : World}
theorem zaw {base : Nat} {t : TypeId} (ht : EN P t = true) {v : Value} {d : DataW H} {ps : List MemPlace} (hval : Value.okWide P W .any base t v) (hd : DataW.Trod enc P W 0 (fun _=>true) true t v d ps) :
  ∃ u, Fit P t u /\ VRel Je (Aq []) W u v:=by
 simp only [EN,bat] at ht
 obtain ⟨⟨_,_⟩,ht⟩:=ht
 split at ht
 ·rename_i k hu
  obtain ⟨n,rfl,rfl,rfl,hw⟩:=open_int hu hval hd
  exact ⟨_,.int hu hw,.p (.int k n) rfl⟩
 ·rename_i e hu
  simp only [bat,beq_iff_eq] at ht
  obtain ⟨hc,ht⟩:=ht
  split at ht
  ·rename_i k he
   obtain ⟨fuel,hf⟩:=hd
   have hv : ∃ a len cap,v = .slice a len cap:=by
    simp only [Value.okWide,hu,Cell.okWide] at hval
    cases v <;> simp_all [Cell.ok]
   obtain ⟨a,len,cap,rfl⟩:=hv
   rcases Go.ChangeShapes.open_ints hu he hc hf with ⟨h0,_⟩ | ⟨ad,len',cap',zs,h0,_,hle,hm,hlen,hx,hcell,hwf⟩
   ·simp [Value.cells] at h0
    obtain ⟨rfl,rfl,rfl⟩:=h0
    exact ⟨_,.ints (xs:=[]) hu he (by simp),.p (Pc _ _ _) rfl⟩
   ·simp [Value.cells] at h0
    obtain ⟨rfl,rfl,rfl⟩:=h0
    simp at hlen
    have hget : ∀ (i : Nat) (x : PV),((zs.take len).map (PV.int k))[i]? = some x -> x = .int k (zs.getD i 0) /\ W.cell? (ad.add i) = some (.int k (zs.getD i 0)):=fun i x hx=>by
     obtain ⟨z,hz,rfl⟩:=Fv hx
     rw [List.getElem?_take] at hz
     split at hz
     ·have hi:=(lgs.1 hz).1
      have : zs.getD i 0 = z:=by simp [List.getD_eq_getElem?_getD,hz]
      rw [<- this]
      exact ⟨rfl,hcell i hi⟩
     .cases hz
    have hcells : ∀ (i : Nat) (x : PV) (j : Nat) (c : PV),((zs.take len).map (PV.int k))[i]? = some x -> x.cells[j]? = some c -> j = 0 /\ c = .int k (zs.getD i 0) /\ W.cell? (ad.add i) = some (.int k (zs.getD i 0)):=fun i x j c hx hj=>by
     obtain ⟨rfl,h2⟩:=hget i x hx
     simp only [PV.cells] at hj
     cases j with
     | zero=>simp at hj; exact ⟨rfl,hj.symm,h2⟩
     | succ j=>simp at hj
    refine ⟨_,.ints (xs:=zs.take len) hu he (fun n hn=>hwf n (List.mem_of_mem_take hn)),.p (.slice ad (fun i _=>.int k (zs.getD i 0)) (by simp; omega) hle (fun h0=>⟨rfl,rfl,?_⟩) (fun x hx=>?_) (fun _ _ _ _ _ _=>rfl) (fun i x j c hx hj=>?_) (fun i x j c hx hj=>?_)) rfl⟩
    ·have h1:=hcell 0 (by omega)
     simp only [World.cell?,DN] at h1
     rcases Nat.lt_or_ge ad.block W.heap.size with h | h
     .exact h
     .rw [Array.getElem?_eq_none h] at h1; simp at h1
    ·simp only [lmm] at hx
     obtain ⟨n,_,rfl⟩:=hx
     rfl
    ·obtain ⟨rfl,_,h2⟩:=hcells i x j c hx hj
     rw [Nat.mul_one,Nat.add_zero]
     exact h2
    ·obtain ⟨rfl,rfl,_⟩:=hcells i x j c hx hj
     exact .int _ _
  .cases ht
 .cases ht
theorem Pz {base : Nat} : ∀ {ts : List TypeId} {vs : List Value} {ds : List (DataW H)} {ps : List MemPlace},ts.all (EN P) = true -> (∀ (j : Nat) t v,ts[j]? = some t -> vs[j]? = some v -> Value.okWide P W .any base t v) -> DataW.TrodAll enc P W 0 (fun _=>true) true ts vs ds ps ->
  ∃ us : List VVal,us.length = vs.length /\ us.length = ts.length /\ (∀ (i : Nat) (t : TypeId) (u : VVal),ts[i]? = some t -> us[i]? = some u -> Fit P t u) /\ ∀ (i : Nat) (u : VVal) (c : Value),us[i]? = some u -> vs[i]? = some c -> VRel Je (Aq []) W u c
 | [],vs,ds,ps,_,_,h=>by
  obtain ⟨rfl,rfl,rfl⟩:=trodAll_nil h
  exact ⟨[],rfl,rfl,fun i t u h=>by simp at h,fun i u c h=>by simp at h⟩
 | t :: ts,vs,ds,ps,hfit,hval,h=>by
  obtain ⟨v,vs1,d,ds1,a,b,rfl,rfl,rfl,h1,h2⟩:=trodAll_cons h
  simp only [List.all_cons,bat] at hfit
  obtain ⟨u,hu1,hu2⟩:=zaw hfit.1 (hval 0 t v rfl rfl) h1
  obtain ⟨us,e1,e2,e3,e4⟩:=Pz hfit.2 (fun j t v ht hv=>hval (j + 1) t v (by simpa using ht) (by simpa using hv)) h2
  refine ⟨u :: us,by simp [e1],by simp [e2],fun i t' u' ht hu=>?_,fun i u' c hu hc=>?_⟩
  ·cases i with
   | zero=>simp at ht hu; subst ht; subst hu; exact hu1
   | succ i=>simp at ht hu; exact e3 i t' u' ht hu
  ·cases i with
   | zero=>simp at hu hc; subst hu; subst hc; exact hu2
   | succ i=>simp at hu hc; exact e4 i u' c hu hc
theorem NZ (hl : laidOutB P = true) {W' : World} (hb : Below W.heap.size W W') : ∀ {ts : List TypeId} {vs : List Value} {ds : List (DataW H)} {ps : List MemPlace},ts.all (EN P) = true -> DataW.TrodAll enc P W 0 (fun _=>true) true ts vs ds ps -> (∀ x ∈ ps,x.block < W.heap.size) ->
  DataW.TrodAll enc P W' 0 (fun b=>decide (b < W.heap.size)) true ts vs ds ps
 | [],vs,ds,ps,_,h,_=>by
  obtain ⟨rfl,rfl,rfl⟩:=trodAll_nil h
  rfl
 | t :: ts,vs,ds,ps,hfit,h,hlt=>by
  obtain ⟨v,vs1,d,ds1,a,b,rfl,rfl,rfl,h1,h2⟩:=trodAll_cons h
  simp only [List.all_cons,bat] at hfit
  have hf:=hfit.1
  simp only [EN,bat,decide_eq_true_eq] at hf
  exact ⟨a,b,Below.trod hl hf.1.1 hf.1.2 h1 hb (fun x hx=>hlt x (by simp [hx])),NZ hl hb hfit.2 h2 (fun x hx=>hlt x (by simp [hx])),rfl⟩
theorem Oz {Γ : Sig} (hΓ : C1 P Γ) (hK : ∀ b B,GK.K b = some B -> W.heap[b]? = some B) {base : Nat} {ts : List TypeId} {args : Array Value} {ds : List (DataW H)} {ps : List MemPlace} (hfit : ts.all (EN P) = true) (hval : ∀ (j : Nat) t v,ts[j]? = some t -> args[j]? = some v -> Value.okWide P W .any base t v)
  (hA : DataW.TrodAll enc P W 0 (fun _=>true) true ts args.toList ds ps) {k : FuncId} (hcall : ∀ us : List VVal,us.length = ts.length -> (∀ (i : Nat) (t : TypeId) (u : VVal),ts[i]? = some t -> us[i]? = some u -> Fit P t u) -> Γ k us [] = some (.p (.bool true),[])) :
  Calls P k args W fun e W'=>e = .returned (.bool true) /\ Below W.heap.size W W':=by
 obtain ⟨us,e1,e2,e3,e4⟩:=Pz (vs:=args.toList) hfit (fun j t v ht hv=>hval j t v ht (by simpa using hv)) hA
 obtain ⟨_,hok⟩:=hΓ _ _ _ _ _ (hcall us e2 e3)
 refine (hok Je W args (fun id v o h=>?_) (fun b B hb=>⟨.inr rfl,(ags.1 (hK b B hb)).1,hK b B hb⟩) (by simpa using e1) (fun i u c hu hc=>e4 i u c hu (by simpa using hc)) (fun b id h=>by simp [Je] at h)).mono fun e W' he=>?_
 ·cases id with
  | slot s j=>simp [Aq] at h
  | arg i j=>cases j <;> simp [Aq] at h
 ·obtain ⟨c,G',h',vs,rfl,hst,_,hret,hout,_⟩:=he
  have hb : Below W.heap.size W W':=⟨hst.os,hst.tape,hst.output,hst.size,fun b hb=>(hst.frozen b rfl hb).2⟩
  refine ⟨?_,hb⟩
  obtain ⟨_,hout⟩:=Ac hout
  obtain ⟨_,hout⟩:=Ac hout
  have hone : ∃ v,vs = [v]:=by
   by_cases h1 : ∃ v,vs = [v]
   ·exact h1
   ·exfalso
    unfold B8 at hout
    split at hout
    ·exact h1 ⟨_,rfl⟩
    ·obtain ⟨_,_,hout⟩:=Aa hout
     simp at hout
  obtain ⟨v,rfl⟩:=hone
  simp only [B8] at hout
  have hv : v = .p (.bool true):=by
   replace hout : A6 h' v = some (.p (.bool true)):=by
    rcases J0 hout with h0 | ⟨_,_,_,_,e⟩ | ⟨_,_,_,_,_,_,e⟩
    ·exact h0.1
    ·cases e
    ·cases e
   unfold A6 at hout
   split at hout
   ·obtain ⟨_,_,hout⟩:=Aa hout
    simp at hout
   ·split at hout
    ·obtain ⟨_,hout⟩:=Ac hout
     obtain ⟨_,_,hout⟩:=Aa hout
     simp at hout
    ·cases hout
   ·unfold As at hout
    split at hout
    ·simp at hout; rw [hout]
    ·obtain ⟨_,_,hout⟩:=Aa hout
     obtain ⟨_,hout⟩:=Ac hout
     simp at hout
    ·obtain ⟨_,_,hout⟩:=Aa hout
     simp at hout
    ·obtain ⟨_,hout⟩:=Ac hout
     simp at hout
    ·obtain ⟨_,hout⟩:=Ac hout
     simp at hout
    ·simp at hout
    ·obtain ⟨_,_,hout⟩:=Aa hout
     simp at hout
    .cases hout
  subst hv
  simp only [CD] at hret
  rw [F5 hret]
theorem Po (hl : laidOutB P = true) {f : Func} {s : ChangeSpec} {fresh handsOn : Bool} {W' : World} {args : Array Value} {ds gs : List (DataW H)} {before p q : List MemPlace} (hW : DataW.Whole enc P f.params.toList s.vars false W args.toList ds gs before) (hvars : s.vars = [])
  (hfit : f.params.toList.all (EN P) = true) (hA : DataW.TrodAll enc P W 0 (fun _=>true) true f.params.toList args.toList ds p) (hV : DataW.TrodVars enc P W (fun _=>true) s.vars gs q) (hbe : before = p ++ q) {t : TypeId} (hrt : f.resultTypes = #[t]) (ht : P.underlying t = some .bool)
  (hres : (s.fn H (ds ++ gs)).results = [.lit (.bool true)]) (hargs : (s.fn H (ds ++ gs)).args = ds) (hvr : (s.fn H (ds ++ gs)).vars = []) (hb : Below W.heap.size W W') : s.post enc P f false fresh handsOn false W args (.bool true) W':=by
 rw [hvars] at hV
 obtain ⟨rfl,rfl⟩:=trodVars_none hV
 rw [lan] at hbe
 subst hbe
 refine ⟨ds,[],before,[],before,[],hW,?_,?_,?_,hb.frame _,fun h=>by cases h⟩
 ·rw [hres,hrt]
  exact trodAll_mk1 (shut_bool ht true)
 ·rw [hargs]
  exact NZ hl hb hfit hA (fun x hx=>hW.lt x hx)
 ·rw [hvars,hvr]
  rfl
end
end
end Go.V
namespace Go.V
open Go.RowKit Go.ChangeShapes Go.WideShapes Go.ChangeAt
section
variable [GK]
end
end Go.V
