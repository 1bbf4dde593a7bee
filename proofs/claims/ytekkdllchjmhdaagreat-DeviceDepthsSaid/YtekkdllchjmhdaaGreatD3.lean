/- Part 3 of the proof. -/
import Derived.Test.YtekkdllchjmhdaaGreatD2
set_option linter.unusedSectionVars false
set_option linter.unusedSimpArgs false
set_option linter.unusedVariables false
set_option maxHeartbeats 32000000
open Nat renaming le_refl → lrf
open List renaming getElem?_eq_getElem → lgg, getElem?_eq_some_iff → lgs, mem_of_getElem? → lmg, drop_eq_getElem_cons → ldg, mem_cons_of_mem → lmc, map_cons → lpc, drop_of_length_le → ldl, nil_append → lna, append_assoc → laa, append_nil → lan, mem_map → lmm, mem_cons_self → lms, map_append → lma, take_of_length_le → ltl, getElem?_of_mem → lgm, length_cons → llc, length_append → lla, flatMap_cons → lfc, mem_cons → lmk, map_nil → lpn, mem_append → lmp, length_map → llm, eq_nil_of_length_eq_zero → lez, getElem_mem → lgk, length_take → llt, length_drop → lld, pairwise_cons → lpw, foldl_append → lfa
open Option renaming some.injEq → osi
open Bool renaming and_eq_true → bat, false_and → bfa, false_eq_true → bft, true_and → bta, not_false → bnf, and_self → bas
namespace Go.V
def InN (ns : List Nd) (x : Int) : Prop:=∃ (i : Nat) (n : Nd),ns[i]? = some n /\ n.id = x
theorem Ke {t : Tr} (h : TreeOk t) {x : Int} (hx : InN t.nodes x) : AB t.nodes t.nodes.length x = x :: (kidsN t.nodes x).flatMap (AB t.nodes t.nodes.length):=by
 obtain ⟨i,n,hn,rfl⟩:=hx
 have hi:=(lgs.1 hn).1
 obtain ⟨N,hN⟩ : ∃ N,t.nodes.length = N + 1:=⟨t.nodes.length - 1,by omega⟩
 have e1 : AB t.nodes t.nodes.length n.id = AB t.nodes (N + 1) n.id:=by rw [hN]
 rw [e1,AB]
 congr 1
 refine Jt fun y hy=>?_
 obtain ⟨j,m,hm,hp,rfl⟩:=CJ.1 hy
 have:=h.kid hn hm hp
 exact WK h _ _ j m hm (by omega) (by omega)
theorem X2 {t : Tr} (h : TreeOk t) {x : Int} (hx : InN t.nodes x) : AB t.nodes t.nodes.length x ≠ []:=by
 rw [Ke h hx]
 simp
theorem KW {t : Tr} (h : TreeOk t) : ∀ (l : List Int),(∀ x ∈ l,InN t.nodes x) -> l.length <= (l.flatMap (AB t.nodes t.nodes.length)).length
 | [],_=>by simp
 | x :: l,hl=>by
  have h1:=KW h l (fun y hy=>hl y (by simp [hy]))
  have h2:=List.length_pos_iff.2 (X2 h (hl x (by simp)))
  rw [lfc,lla,llc]
  omega
theorem Ko (ns : List Nd) (x : Int) : (kidsN ns x).length <= ns.length:=by
 rw [kidsN,llm]
 exact List.length_filter_le _ _
theorem zat {t : Tr} (id : Int) (h : TreeOk t) : V 212 [t.vv,.p (.int .i64 id)] [] = some (.fresh 1 ((BM t id).map (.int .i64)),[]):=by
 refine Ae (vf:=vf212) rfl ?_
 have hlen:=h.len
 have hat:=Ry t id (by omega)
 by_cases hneg : Ek t.nodes id < 0
 ·have hfn:=(Is t.nodes id)
  have hemp : BM t id = []:=by
   rcases hfn with ⟨_,h2⟩ | ⟨k,_,h2,_⟩
   ·simp [BM,A3,h2]
   ·omega
  simp -implicitDefEqProofs (disch:=omega) only [vf212,Lr,hat,hneg,hemp,go_sem]
 ·have hin : InN t.nodes id:=by
   obtain ⟨k,m,_,hkm,hfm,hme⟩:=(Is t.nodes id).resolve_left (fun h=>hneg h.1)
   exact ⟨k,m,hkm,hme⟩
  have hsub : BM t id = AB t.nodes t.nodes.length id:=by
   obtain ⟨k,m,_,hkm,hfm,hme⟩:=(Is t.nodes id).resolve_left (fun h=>hneg h.1)
   simp [BM,A3,(BH t).2 h,hfm]
  have hsl:=KF h id
  rw [hsub] at hsl
  rw [hsub]
  simp -implicitDefEqProofs (disch:=omega) only [vf212,Lr,hat,hneg,go_sem]
  obtain ⟨I,hI⟩:=lpI fun k s=>∃ (out : List Int) (nx : List Int) (ww : Nat) (d : Nat) (e : Nat),out.length = k /\ (∀ x ∈ nx,InN t.nodes x) /\ out ++ nx.flatMap (AB t.nodes t.nodes.length) = AB t.nodes t.nodes.length id /\ ((d = 12 /\ e = 0) \/ (d = 34 /\ e = 1)) /\ s.pe 2 = .ptr (.slot 2 0) 0 0 /\ s.pe 5 = .own (.slot 5 0) ww 0 out.length /\ (∃ v,s.pe 6 = .own (.slot d e) v 0 (nx.length) /\ s.h (.slot d e) = some (v,Ob.arr 1 (nx.map (.int .i64)))) /\ s.h (.slot 2 0) = some (0,Ob.box [.p (Ap t.nodes),.p (.int .i64 t.next)]) /\ s.h (.slot 5 0) = some (ww,Ob.arr 1 (out.map (.int .i64)))
  refine Am (t.nodes.length) I ?_ ?_
  ·refine (hI _ _).2 ⟨[],[id],0,12,0,?_⟩
   and_intros
   ·rfl
   ·exact by simpa using hin
   ·exact by simp
   ·exact Or.inl ⟨rfl,rfl⟩
   all_goals first | exact cl0 | (simp -implicitDefEqProofs (disch:=omega) only [lma,go_sem] <;> (refine ⟨_,rfl,?_⟩; first | rfl | (simp -implicitDefEqProofs (disch:=omega) only [lma,go_sem]; done) | (simp -implicitDefEqProofs (disch:=omega) only [lma,go_sem]; rfl)))
  intro k s hk hIk
  obtain ⟨out,nx,ww,d,e,hol,hall,hall',hde,h2,h5,⟨v6,h6,hhd_e⟩,hH⟩:=(hI _ _).1 hIk
  clear hIk
  rcases hde with ⟨rfl,rfl⟩ | ⟨rfl,rfl⟩
  ·rcases nx with - | ⟨x,rest⟩
   ·rw [List.flatMap_nil,lan] at hall'
    simp -implicitDefEqProofs (disch:=omega) only [h2,h5,h6,hhd_e,hH,Mt,go_sem]
    rw [hall']
   have hpos : (0 : Int) < ((rest.length + 1 : Nat) : Int):=by omega
   by_cases hlt : out.length < t.nodes.length
   ·have hx:=hall x (by simp)
    have hkids:=KX t x (by omega)
    have hkl:=Ko t.nodes x
    have hrl : rest.length <= 64:=by
     have h1:=congrArg List.length hall'
     have h2:=KW h (x :: rest) hall
     rw [lla] at h1
     rw [llc] at h2
     omega
    simp -implicitDefEqProofs (disch:=omega) only [h2,h5,h6,hhd_e,hH,hlt,hkids,hpos,Int.toNat_zero,List.getElem?_cons_zero,Int.toNat_one,List.drop_succ_cons,List.drop_zero,llm,Nat.add_sub_cancel,Nat.min_self,go_sem]
    have hnx : ∀ y ∈ kidsN t.nodes x ++ rest,InN t.nodes y:=by
     intro y hy
     rcases lmp.1 hy with hy | hy
     ·obtain ⟨j,m,hm,_,hme⟩:=CJ.1 hy
      exact ⟨j,m,hm,hme⟩
     ·exact hall y (by simp [hy])
    have hnx' : (out ++ [x]) ++ (kidsN t.nodes x ++ rest).flatMap (AB t.nodes t.nodes.length) = AB t.nodes t.nodes.length id:=by
     rw [<- hall',lfc,Ke h hx,List.flatMap_append]
     simp
    try refine ai ?_
    refine (hI _ _).2 ⟨out ++ [x],kidsN t.nodes x ++ rest,ww + 1,34,1,?_⟩
    and_intros
    ·exact by simp [hol]
    ·exact hnx
    ·exact hnx'
    ·exact Or.inr ⟨rfl,rfl⟩
    all_goals first | exact cl0 | (simp -implicitDefEqProofs (disch:=omega) only [h2,h5,h6,hhd_e,hH,lma,go_sem] <;> (refine ⟨_,rfl,?_⟩; first | rfl | (simp -implicitDefEqProofs (disch:=omega) only [h2,h5,h6,hhd_e,hH,lma,go_sem]; done) | (simp -implicitDefEqProofs (disch:=omega) only [h2,h5,h6,hhd_e,hH,lma,go_sem]; rfl)))
   ·have hz : (x :: rest).flatMap (AB t.nodes t.nodes.length) = []:=by
     have h1:=congrArg List.length hall'
     rw [lla] at h1
     exact lez (by omega)
    rw [hz,lan] at hall'
    simp -implicitDefEqProofs (disch:=omega) only [h2,h5,h6,hhd_e,hH,hlt,hpos,go_sem]
    rw [hall']
  ·rcases nx with - | ⟨x,rest⟩
   ·rw [List.flatMap_nil,lan] at hall'
    simp -implicitDefEqProofs (disch:=omega) only [h2,h5,h6,hhd_e,hH,Mt,go_sem]
    rw [hall']
   have hpos : (0 : Int) < ((rest.length + 1 : Nat) : Int):=by omega
   by_cases hlt : out.length < t.nodes.length
   ·have hx:=hall x (by simp)
    have hkids:=KX t x (by omega)
    have hkl:=Ko t.nodes x
    have hrl : rest.length <= 64:=by
     have h1:=congrArg List.length hall'
     have h2:=KW h (x :: rest) hall
     rw [lla] at h1
     rw [llc] at h2
     omega
    simp -implicitDefEqProofs (disch:=omega) only [h2,h5,h6,hhd_e,hH,hlt,hkids,hpos,Int.toNat_zero,List.getElem?_cons_zero,Int.toNat_one,List.drop_succ_cons,List.drop_zero,llm,Nat.add_sub_cancel,Nat.min_self,go_sem]
    have hnx : ∀ y ∈ kidsN t.nodes x ++ rest,InN t.nodes y:=by
     intro y hy
     rcases lmp.1 hy with hy | hy
     ·obtain ⟨j,m,hm,_,hme⟩:=CJ.1 hy
      exact ⟨j,m,hm,hme⟩
     .exact hall y (by simp [hy])
    have hnx' : (out ++ [x]) ++ (kidsN t.nodes x ++ rest).flatMap (AB t.nodes t.nodes.length) = AB t.nodes t.nodes.length id:=by
     rw [<- hall',lfc,Ke h hx,List.flatMap_append]
     simp
    try refine ai ?_
    refine (hI _ _).2 ⟨out ++ [x],kidsN t.nodes x ++ rest,ww + 1,34,1,?_⟩
    and_intros
    ·exact by simp [hol]
    ·exact hnx
    ·exact hnx'
    ·exact Or.inr ⟨rfl,rfl⟩
    all_goals first | exact cl0 | (simp -implicitDefEqProofs (disch:=omega) only [h2,h5,h6,hhd_e,hH,lma,go_sem] <;> (refine ⟨_,rfl,?_⟩; first | rfl | (simp -implicitDefEqProofs (disch:=omega) only [h2,h5,h6,hhd_e,hH,lma,go_sem]; done) | (simp -implicitDefEqProofs (disch:=omega) only [h2,h5,h6,hhd_e,hH,lma,go_sem]; rfl)))
   ·have hz : (x :: rest).flatMap (AB t.nodes t.nodes.length) = []:=by
     have h1:=congrArg List.length hall'
     rw [lla] at h1
     exact lez (by omega)
    rw [hz,lan] at hall'
    simp -implicitDefEqProofs (disch:=omega) only [h2,h5,h6,hhd_e,hH,hlt,hpos,go_sem]
    rw [hall']
def BL (l : List Int) : List Int:=l.mergeSort fun x y=>decide (x <= y)
theorem Pi : ∀ (l : List Int),Ad unI (l.map (.int .i64)) = some l
 | []=>rfl
 | x :: l=>by
  have:=Pi l
  rw [lpc]
  show ob (some x) (fun y=>ob (Ad unI (List.map (PV.int .i64) l)) fun ys=>some (y :: ys)) = _
  rw [this,Ai,Ai]
theorem ZI (l : List Int) (hl : l.length < 1000000) : V 120 [.own (.arg 0 0) 0 0 l.length] [.arr 1 (l.map (.int .i64))] = some (.tup [],[.arr 1 ((BL l).map (.int .i64))]):=by
 refine V_x ?_
 have h1 : l.length = (l.map (PV.int .i64)).length:=by simp
 have h2 : l.length < 4611686018427387904:=by omega
 simp only [XS,if_pos,XI,gd,if_pos h1,if_pos h2,Pi,Ai,BL]
theorem MF (l : List Int) : (BL l).length = l.length:=List.length_mergeSort l
abbrev maxR : Int:=4611686018427387904
structure Bk where
 rate : Int
 per : Int
 burst : Int
 level : Int
 now : Int
 deriving DecidableEq
abbrev Bk.cs (b : Bk) : List PV:=[.int .i64 b.rate,.int .i64 b.per,.int .i64 b.burst,.int .i64 b.level,.int .i64 b.now]
abbrev Bk.vv (b : Bk) : VVal:=.agg [.p (.int .i64 b.rate),.p (.int .i64 b.per),.p (.int .i64 b.burst),.p (.int .i64 b.level),.p (.int .i64 b.now)]
structure Cp where
 group : Int
 rp : Bk
 wp : Bk
 ro : Bk
 wo : Bk
 deriving DecidableEq
def Cp.pv (c : Cp) : PV:=.agg [.int .i64 c.group,.int .i64 c.rp.rate,.int .i64 c.rp.per,.int .i64 c.rp.burst,.int .i64 c.rp.level,.int .i64 c.rp.now,.int .i64 c.wp.rate,.int .i64 c.wp.per,.int .i64 c.wp.burst,.int .i64 c.wp.level,.int .i64 c.wp.now,.int .i64 c.ro.rate,.int .i64 c.ro.per,.int .i64 c.ro.burst,.int .i64 c.ro.level,.int .i64 c.ro.now,.int .i64 c.wo.rate,.int .i64 c.wo.per,.int .i64 c.wo.burst,.int .i64 c.wo.level,.int .i64 c.wo.now]
structure Rq where
 task : Int
 group : Int
 at_ : Int
 pages : Int
 write : Bool
 time : Int
 deriving DecidableEq
def Rq.pv (r : Rq) : PV:=.agg [.int .i64 r.task,.int .i64 r.group,.int .i64 r.at_,.int .i64 r.pages,.bool r.write,.int .i64 r.time]
abbrev Rq.vv (r : Rq) : VVal:=.agg [.p (.int .i64 r.task),.p (.int .i64 r.group),.p (.int .i64 r.at_),.p (.int .i64 r.pages),.p (.bool r.write),.p (.int .i64 r.time)]
structure Fl where
 r : Rq
 done : Int
 deriving DecidableEq
def Fl.pv (f : Fl) : PV:=.agg [.int .i64 f.r.task,.int .i64 f.r.group,.int .i64 f.r.at_,.int .i64 f.r.pages,.bool f.r.write,.int .i64 f.r.time,.int .i64 f.done]
structure Dp where
 group : Int
 target : Int
 depth : Int
 deriving DecidableEq
def Dp.pv (d : Dp) : PV:=.agg [.int .i64 d.group,.int .i64 d.target,.int .i64 d.depth]
structure Mdl where
 rb : Int
 rp : Int
 wb : Int
 wp : Int
 seek : Int
 deriving DecidableEq
structure Dv where
 m : Mdl
 speed : Int
 margin : Int
 now : Int
 free : Int
 head : Int
 weights : List Ch
 buckets : List Cp
 depths : List Dp
 v : List Ch
 queue : List Rq
 flights : List Fl
attribute [go_sem] Rq.pv Fl.pv Dp.pv
theorem XF (l : List Cp) : (l.map Cp.pv).all PV.flat = true:=by
 rw [List.all_eq_true]
 intro x hx
 obtain ⟨n,_,rfl⟩:=lmm.1 hx
 rfl
theorem Yk (l : List Rq) : (l.map Rq.pv).all PV.flat = true:=by
 rw [List.all_eq_true]
 intro x hx
 obtain ⟨n,_,rfl⟩:=lmm.1 hx
 rfl
theorem Y2 (l : List Fl) : (l.map Fl.pv).all PV.flat = true:=by
 rw [List.all_eq_true]
 intro x hx
 obtain ⟨n,_,rfl⟩:=lmm.1 hx
 rfl
theorem Zb (l : List Dp) : (l.map Dp.pv).all PV.flat = true:=by
 rw [List.all_eq_true]
 intro x hx
 obtain ⟨n,_,rfl⟩:=lmm.1 hx
 rfl
attribute [go_sem] XF Yk Y2 Zb
def inZ (n lo hi : Int) : Bool:=decide (lo <= n /\ n <= hi)
def Cj (b : Bk) : Bool:=inZ b.per 1 1048576 && inZ b.now 0 1048576 && (if b.rate = maxR then decide (b.burst = 0) && decide (b.level = 0) else inZ b.rate 0 1073741824 && inZ b.burst 0 1073741824 && inZ b.level 0 (b.burst * b.per))
def AD (b : Bk) (now : Int) : Bk:=if b.rate = maxR then { b with now:=now } else { b with level:=min (b.level + b.rate * (now - b.now)) (b.burst * b.per),now:=now }
def AN (b : Bk) : Int:=if b.rate = maxR then 1073741824 else b.level / b.per
def Bc (b : Bk) (n : Int) : Bk:=if b.rate = maxR then b else if b.level / b.per < n then b else { b with level:=b.level - n * b.per }
def AC (r : Rq) : Bool:=inZ r.task 0 2147483647 && inZ r.group 1 2147483647 && inZ r.at_ 0 16777216 && inZ r.pages 1 4096 && decide (r.at_ + r.pages <= 16777216) && inZ r.time 0 1048576
def Cm (m : Mdl) : Bool:=inZ m.rb 0 1000000 && inZ m.rp 0 1000000 && inZ m.wb 0 1000000 && inZ m.wp 0 1000000 && inZ m.seek 0 1000000
def Cw (m : Mdl) (r : Rq) (head : Int) : Int:=(if r.write then m.wb + m.wp * r.pages else m.rb + m.rp * r.pages) + (if r.at_ = head then 0 else m.seek)
def getD (l : List Dp) (id : Int) : Dp:=match l with
 | []=>⟨id,0,256⟩
 | x :: r=>if x.group = id then x else getD r id
def AG (fs : List Fl) (id : Int) : Int:=((fs.filter fun f=>decide (f.r.group = id)).length : Int)
def El (t : Tr) (fs : List Fl) (g : Int) : Int:=Ag ((AB t.nodes t.nodes.length g).map (AG fs))
def EI (t : Tr) (ds : List Dp) (fs : List Fl) (id : Int) : Bool:=(ancF t.nodes t.nodes.length id).all fun g=>decide (El t fs g < (getD ds g).depth)
def BV : List Cp -> Int -> Option Cp
 | [],_=>none
 | c :: l,id=>if c.group = id then some c else BV l id
def kpB (c : Cp) (w : Bool) : Bk:=if w then c.wp else c.rp
def koB (c : Cp) (w : Bool) : Bk:=if w then c.wo else c.ro
def Ct (l : List Cp) (r : Rq) (g : Int) : Bool:=match BV l g with
 | none=>true
 | some c=>decide (r.pages <= AN (kpB c r.write)) && decide (1 <= AN (koB c r.write))
def C8 (t : Tr) (d : Dv) (r : Rq) : Bool:=EI t d.depths d.flights r.group && (ancF t.nodes t.nodes.length r.group).all (Ct d.buckets r)
def A8 (t : Tr) (d : Dv) : List Int -> List Rq -> List Int
 | _,[]=>[]
 | seen,r :: q=>(if r.group ∈ seen then [] else if C8 t d r = true then [r.group] else []) ++ A8 t d (r.group :: seen) q
def AV (t : Tr) (a : List Ch) (now : Int) : Int -> List Int -> Int
 | best,[]=>best
 | best,x :: l=>AV t a now (if CF t a x now = true /\ (best = 0 \/ An a x < An a best \/ (An a x = An a best /\ x < best)) then x else best) l
def actL (d : Dv) : List Int:=d.queue.map (·.group) ++ d.flights.map (·.r.group)
def Bw (c : Cp) (r : Rq) : Cp:=if r.write then { c with wp:=Bc c.wp r.pages,wo:=Bc c.wo 1 } else { c with rp:=Bc c.rp r.pages,ro:=Bc c.ro 1 }
def BN : List Cp -> Int -> (Cp -> Cp) -> List Cp
 | [],_,_=>[]
 | c :: l,id,f=>if c.group = id then f c :: l else c :: BN l id f
def EZ (t : Tr) (l : List Cp) (r : Rq) : List Cp:=(ancF t.nodes t.nodes.length r.group).foldl (fun l g=>BN l g fun c=>Bw c r) l
def Bd : List Rq -> Int -> List Rq
 | [],_=>[]
 | r :: q,g=>if r.group = g then q else r :: Bd q g
def A2 : List Rq -> Int -> Option Rq
 | [],_=>none
 | r :: q,g=>if r.group = g then some r else A2 q g
def BR (l : List Fl) (f : Fl) : List Fl:=l.takeWhile (fun x=>decide (x.done <= f.done)) ++ f :: l.dropWhile (fun x=>decide (x.done <= f.done))
def BG (d : Dv) (r : Rq) : Int:=max (Cw d.m r d.head) 1
def Cq (t : Tr) (d : Dv) (g : Int) : Int:=shr t (Ar d.weights) (onB t (actL d)) g
def Bh (d : Dv) (r : Rq) : Int:=max d.free ((d.now - 1) * d.speed) + BG d r
def AY (d : Dv) (r : Rq) : Int:=max (d.now + 1) ((Bh d r + d.speed - 1) / d.speed)
def Do (t : Tr) (d : Dv) (g : Int) (r : Rq) (v : List Ch) : Dv :=
  { d with v:=v,buckets:=EZ t d.buckets r,queue:=Bd d.queue g,head:=r.at_ + r.pages,free:=Bh d r,flights:=BR d.flights ⟨r,AY d r⟩ }
def DJ (now : Int) (c : Cp) : Cp:=⟨c.group,AD c.rp now,AD c.wp now,AD c.ro now,AD c.wo now⟩
def advD (d : Dv) : Dv:={ d with now:=d.now + 1,buckets:=d.buckets.map (DJ (d.now + 1)),flights:=d.flights.dropWhile fun f=>decide (f.done <= d.now + 1) }
def endedD (d : Dv) : List Fl:=d.flights.takeWhile fun f=>decide (f.done <= d.now + 1)
def Cu (t : Tr) : Nat -> Dv -> Dv
 | 0,d=>d
 | k + 1,d=>if d.now * d.speed <= d.free then d else
  let g:=AV t d.v (d.now * d.speed) 0 (BL (A8 t d [] d.queue))
  if g = 0 then d else match A2 d.queue g with
  | none=>d
  | some r =>
   let i:=B6 t d.v g (Cq t d g) (BG d r) (d.now * d.speed) d.margin
   if i.2 ≠ 0 then d else Cu t k (Do t d g r i.1)
def tickD (t : Tr) (d : Dv) : Dv:=Cu t (d.queue.length + 1) (advD d)
def CG (kn : Int -> Bool) (ok : Cp -> Bool) : Option Int -> List Cp -> Bool
 | _,[]=>true
 | p,c :: l=>kn c.group && Cr p c.group && ok c && CG kn ok (some c.group) l
def BS (kn : Int -> Bool) : Option Int -> List Dp -> Bool
 | _,[]=>true
 | p,c :: l=>kn c.group && Cr p c.group && (inZ c.target 0 1048576 && inZ c.depth 1 256) && BS kn (some c.group) l
def A1 (now : Int) (b : Bk) : Bool:=Cj b && decide (b.per = 100) && decide (b.now = now)
def BD (now : Int) (c : Cp) : Bool:=A1 now c.rp && A1 now c.wp && A1 now c.ro && A1 now c.wo
def Fz (p : Option Int) (n : Int) : Bool:=match p with | none=>true | some q=>decide (q <= n)
def Du (kn : Int -> Bool) : Option Int -> List Fl -> Bool
 | _,[]=>true
 | p,f :: l=>(AC f.r && kn f.r.group) && inZ f.done 0 1125899906842624 && Fz p f.done && Du kn (some f.done) l
def DB (m : Mdl) (speed margin : Int) : Bool:=Cm m && inZ speed 1 1000000 && inZ margin 0 1073741824
def Hh (t : Tr) (d : Dv) : Bool :=
 AZ t && DB d.m d.speed d.margin && inZ d.now 0 1048576 && inZ d.free 0 1125899906842624 && inZ d.head 0 16777216 && Gq t d.weights && BS (Ak t.nodes) none d.depths && B4 t d.v &&
 decide (d.queue.length + d.flights.length <= 256) && CG (Ak t.nodes) (BD d.now) none d.buckets && d.queue.all (fun r=>AC r && Ak t.nodes r.group) && Du (Ak t.nodes) none d.flights
theorem Cn {n lo hi : Int} : inZ n lo hi = true ↔ lo <= n /\ n <= hi:=by simp [inZ]
theorem JZ {p : Option Int} {g : Int} : Cr p g = true ↔ ∀ q,p = some q -> q < g:=by
 cases p <;> simp [Cr]
theorem CT {kn : Int -> Bool} {ok : Cp -> Bool} : ∀ {l : List Cp} {p : Option Int},CG kn ok p l = true ↔ (∀ c ∈ l,kn c.group = true /\ ok c = true) /\ l.Pairwise (fun a b=>a.group < b.group) /\ ∀ q,p = some q -> ∀ c ∈ l,q < c.group
 | [],p=>by simp [CG]
 | c :: l,p=>by
  simp only [CG,bat,JZ,CT (l:=l),lmk,lpw,forall_eq_or_imp,osi]
  constructor
  ·rintro ⟨⟨⟨h1,h2⟩,h3⟩,h4,h5,h6⟩
   exact ⟨⟨⟨h1,h3⟩,h4⟩,⟨fun b hb=>h6 _ rfl b hb,h5⟩,fun q hq=>⟨h2 q hq,fun b hb=>Int.lt_trans (h2 q hq) (h6 _ rfl b hb)⟩⟩
  ·rintro ⟨⟨⟨h1,h3⟩,h4⟩,⟨h6,h5⟩,h7⟩
   exact ⟨⟨⟨h1,fun q hq=>(h7 q hq).1⟩,h3⟩,h4,h5,fun q hq b hb=>by subst hq; exact h6 b hb⟩
theorem V1 {p : Option Int} {g : Int} : Fz p g = true ↔ ∀ q,p = some q -> q <= g:=by
 cases p <;> simp [Fz]
theorem Di {kn : Int -> Bool} : ∀ {l : List Fl} {p : Option Int},Du kn p l = true ↔ (∀ f ∈ l,(AC f.r = true /\ kn f.r.group = true) /\ 0 <= f.done /\ f.done <= 1125899906842624) /\ l.Pairwise (fun a b=>a.done <= b.done) /\ ∀ q,p = some q -> ∀ f ∈ l,q <= f.done
 | [],p=>by simp [Du]
 | f :: l,p=>by
  simp only [Du,bat,V1,Cn,Di (l:=l),lmk,lpw,forall_eq_or_imp,osi]
  constructor
  ·rintro ⟨⟨⟨⟨h1,h2⟩,h3⟩,h4⟩,h5,h6,h7⟩
   exact ⟨⟨⟨⟨h1,h2⟩,h3⟩,h5⟩,⟨fun b hb=>h7 _ rfl b hb,h6⟩,fun q hq=>⟨h4 q hq,fun b hb=>Int.le_trans (h4 q hq) (h7 _ rfl b hb)⟩⟩
  ·rintro ⟨⟨⟨⟨h1,h2⟩,h3⟩,h5⟩,⟨h7,h6⟩,h8⟩
   exact ⟨⟨⟨⟨h1,h2⟩,h3⟩,fun q hq=>(h8 q hq).1⟩,h5,h6,fun q hq b hb=>by subst hq; exact h7 b hb⟩
structure DvOk (t : Tr) (d : Dv) : Prop where
 tree : TreeOk t
 cfg : DB d.m d.speed d.margin = true
 now : 0 <= d.now /\ d.now <= 1048576
 free : 0 <= d.free /\ d.free <= 1125899906842624
 head : 0 <= d.head /\ d.head <= 16777216
 w : AscOk (Ak t.nodes) 1 10000 d.weights
 dp : BS (Ak t.nodes) none d.depths = true
 v : AscOk (Ak t.nodes) 0 1152921504606846976 d.v
 len : d.queue.length + d.flights.length <= 256
 bk : CG (Ak t.nodes) (BD d.now) none d.buckets = true
 q : ∀ r ∈ d.queue,AC r = true /\ Ak t.nodes r.group = true
 fl : Du (Ak t.nodes) none d.flights = true
theorem dvOk_iff {t : Tr} {d : Dv} : Hh t d = true ↔ DvOk t d:=by
 simp only [Hh,bat,Cn,decide_eq_true_eq,List.all_eq_true,Nu,B4,EU,BH]
 constructor
 ·rintro ⟨⟨⟨⟨⟨⟨⟨⟨⟨⟨⟨h1,h2⟩,h3⟩,h4⟩,h5⟩,h6⟩,h7⟩,h8⟩,h9⟩,h10⟩,h11⟩,h12⟩
  exact ⟨h1,h2,h3,h4,h5,h6.2,h7,h8.2,h9,h10,h11,h12⟩
 ·rintro ⟨h1,h2,h3,h4,h5,h6,h7,h8,h9,h10,h11,h12⟩
  exact ⟨⟨⟨⟨⟨⟨⟨⟨⟨⟨⟨h1,h2⟩,h3⟩,h4⟩,h5⟩,⟨h1,h6⟩⟩,h7⟩,⟨h1,h8⟩⟩,h9⟩,h10⟩,h11⟩,h12⟩
theorem Bu {b : Bk} : Cj b = true ↔ (1 <= b.per /\ b.per <= 1048576) /\ (0 <= b.now /\ b.now <= 1048576) /\ ((b.rate = maxR /\ b.burst = 0 /\ b.level = 0) \/ (b.rate ≠ maxR /\ (0 <= b.rate /\ b.rate <= 1073741824) /\ (0 <= b.burst /\ b.burst <= 1073741824) /\ 0 <= b.level /\ b.level <= b.burst * b.per)):=by
 unfold Cj
 by_cases h : b.rate = maxR
 ·rw [if_pos h]
  simp only [bat,Cn,decide_eq_true_eq,h,true_and,ne_eq,not_true_eq_false,false_and,or_false,and_assoc]
 ·rw [if_neg h]
  simp only [bat,Cn,h,false_and,ne_eq,not_false_eq_true,true_and,false_or,and_assoc]
theorem AK {now : Int} {b : Bk} : A1 now b = true ↔ Cj b = true /\ b.per = 100 /\ b.now = now:=by
 simp only [A1,bat,decide_eq_true_eq,and_assoc]
theorem IT {now : Int} {b : Bk} (h : A1 now b = true) (hn : now + 1 <= 1048576) (h0 : 0 <= now) : A1 (now + 1) (AD b (now + 1)) = true:=by
 rw [AK,Bu] at h
 obtain ⟨⟨h1,h2,h3⟩,h4,h5⟩:=h
 rw [AK,Bu]
 unfold AD
 rcases h3 with ⟨e,h6,h7⟩ | ⟨e,h6,h7,h8⟩
 ·rw [if_pos e]
  exact ⟨⟨h1,by simp only; omega,.inl ⟨e,h6,h7⟩⟩,h4,rfl⟩
 ·rw [if_neg e]
  refine ⟨⟨h1,by simp only; omega,.inr ⟨e,h6,h7,?_⟩⟩,h4,rfl⟩
  simp only
  have hb : 0 <= b.burst * b.per:=Int.mul_nonneg h7.1 (by omega)
  have hr : 0 <= b.rate * (now + 1 - b.now):=Int.mul_nonneg h6.1 (by omega)
  omega
theorem IL {now : Int} {b : Bk} (h : A1 now b = true) {n : Int} (hn : 0 <= n) : A1 now (Bc b n) = true:=by
 have h':=h
 rw [AK,Bu] at h
 obtain ⟨⟨h1,h2,h3⟩,h4,h5⟩:=h
 unfold Bc
 by_cases e : b.rate = maxR
 ·rw [if_pos e]; exact h'
 ·rw [if_neg e]
  by_cases hl : b.level / b.per < n
  ·rw [if_pos hl]; exact h'
  ·rw [if_neg hl,AK,Bu]
   rcases h3 with ⟨e',_⟩ | ⟨_,h6,h7,h8⟩
   ·exact absurd e' e
   ·refine ⟨⟨h1,h2,.inr ⟨e,h6,h7,?_⟩⟩,h4,h5⟩
    simp only
    have hk : n * b.per <= b.level:=by
     have:=Int.mul_le_mul_of_nonneg_right (show n <= b.level / b.per by omega) (show 0 <= b.per by omega)
     have h9:=Int.ediv_mul_le b.level (show b.per ≠ 0 by omega)
     omega
    have : 0 <= n * b.per:=Int.mul_nonneg hn (by omega)
    omega
theorem Dg {now : Int} {c : Cp} : BD now c = true ↔ A1 now c.rp = true /\ A1 now c.wp = true /\ A1 now c.ro = true /\ A1 now c.wo = true:=by
 simp only [BD,bat,and_assoc]
theorem Yb {l : List Cp} {id : Int} {f : Cp -> Cp} : ∀ {c : Cp},c ∈ BN l id f -> c ∈ l \/ ∃ c0 ∈ l,c = f c0:=by
 induction l with
 | nil=>intro c h; simp [BN] at h
 | cons x l ih =>
  intro c h
  unfold BN at h
  split at h
  ·rcases lmk.1 h with rfl | h
   ·exact .inr ⟨x,lms ..,rfl⟩
   ·exact .inl (lmc _ h)
  ·rcases lmk.1 h with rfl | h
   ·exact .inl (lms ..)
   ·rcases ih h with h | ⟨c0,h0,e⟩
    .exact .inl (lmc _ h)
    .exact .inr ⟨c0,lmc _ h0,e⟩
theorem M2 {f : Cp -> Cp} (hf : ∀ c,(f c).group = c.group) (id : Int) : ∀ l : List Cp,(BN l id f).map (·.group) = l.map (·.group)
 | []=>rfl
 | c :: l=>by
  unfold BN
  split
  .simp [hf]
  .simp [M2 hf id l]
theorem Vd {l m : List Cp} (h : l.map (·.group) = m.map (·.group)) : l.Pairwise (fun a b=>a.group < b.group) ↔ m.Pairwise (fun a b=>a.group < b.group):=by
 rw [<- List.pairwise_map (f:=Cp.group) (R:=fun a b=>a < b),<- List.pairwise_map (f:=Cp.group) (R:=fun a b=>a < b),h]
theorem OR {kn : Int -> Bool} {ok ok' : Cp -> Bool} {l m : List Cp} (h : l.map (·.group) = m.map (·.group)) (hl : CG kn ok none l = true) (hm : ∀ c ∈ m,ok' c = true) : CG kn ok' none m = true:=by
 rw [CT] at hl ⊢
 refine ⟨fun c hc=>⟨?_,hm c hc⟩,(Vd h).1 hl.2.1,fun q hq=>by cases hq⟩
 have : c.group ∈ l.map (·.group):=by rw [h]; exact List.mem_map_of_mem hc
 obtain ⟨c0,h0,e⟩:=lmm.1 this
 rw [<- e]
 exact (hl.1 c0 h0).1
theorem U6 (c : Cp) (r : Rq) : (Bw c r).group = c.group:=by unfold Bw; split <;> rfl
theorem X5 {now : Int} {c : Cp} {r : Rq} (h : BD now c = true) (hp : 0 <= r.pages) : BD now (Bw c r) = true:=by
 rw [Dg] at h ⊢
 obtain ⟨h1,h2,h3,h4⟩:=h
 unfold Bw
 split
 .exact ⟨h1,IL h2 hp,h3,IL h4 (by omega)⟩
 .exact ⟨IL h1 hp,h2,IL h3 (by omega),h4⟩
theorem Ia {t : Tr} {now : Int} {r : Rq} (hp : 0 <= r.pages) {kn : Int -> Bool} : ∀ (gs : List Int) (l : List Cp),CG kn (BD now) none l = true -> CG kn (BD now) none (gs.foldl (fun l g=>BN l g fun c=>Bw c r) l) = true
 | [],l,h=>h
 | g :: gs,l,h=>Ia (t:=t) hp gs _ (OR (M2 (fun c=>U6 c r) g l).symm h fun c hc=>by
   rw [CT] at h
   rcases Yb hc with hc | ⟨c0,h0,rfl⟩
   .exact (h.1 c hc).2
   .exact X5 (h.1 c0 h0).2 hp)
theorem F4 {g : Int} : ∀ {l : List Rq} {r : Rq},A2 l g = some r -> r ∈ l /\ r.group = g
 | [],r,h=>by cases h
 | x :: l,r,h=>by
  unfold A2 at h
  split at h
  .rename_i e; cases h; exact ⟨lms ..,e⟩
  .obtain ⟨h1,h2⟩:=F4 h; exact ⟨lmc _ h1,h2⟩
theorem EW {g : Int} : ∀ {l : List Rq} {r : Rq},A2 l g = some r -> (Bd l g).length + 1 = l.length
 | [],r,h=>by cases h
 | x :: l,r,h=>by
  unfold A2 at h
  unfold Bd
  split at h
  .rename_i e; rw [if_pos e]; rfl
  .rename_i e; rw [if_neg e,llc,EW h]; rfl
theorem O7 (g : Int) : ∀ l : List Rq,List.Sublist (Bd l g) l
 | []=>List.Sublist.refl _
 | x :: l=>by
  unfold Bd
  split
  .exact List.sublist_cons_self _ _
  .exact (O7 g l).cons_cons x
theorem KQ (l : List Fl) (f : Fl) : (BR l f).length = l.length + 1:=by
 unfold BR
 rw [lla,llc]
 have:=congrArg List.length (List.takeWhile_append_dropWhile (p:=fun x : Fl=>decide (x.done <= f.done)) (l:=l))
 rw [lla] at this
 omega
theorem KP {l : List Fl} {f x : Fl} : x ∈ BR l f ↔ x = f \/ x ∈ l:=by
 have:=List.takeWhile_append_dropWhile (p:=fun x : Fl=>decide (x.done <= f.done)) (l:=l)
 have h2 : x ∈ l ↔ x ∈ l.takeWhile (fun x=>decide (x.done <= f.done)) \/ x ∈ l.dropWhile (fun x=>decide (x.done <= f.done)):=by
  rw [<- lmp,this]
 unfold BR
 rw [lmp,lmk,h2]
 exact ⟨fun h=>by rcases h with h | h | h <;> simp [h],fun h=>by rcases h with h | h | h <;> simp [h]⟩
theorem Vo {l : List Fl} (f : Fl) (h : l.Pairwise fun a b=>a.done <= b.done) : (BR l f).Pairwise fun a b=>a.done <= b.done:=by
 induction l with
 | nil=>simp [BR]
 | cons x l ih =>
  rw [lpw] at h
  by_cases hx : x.done <= f.done
  ·have e : BR (x :: l) f = x :: BR l f:=by simp [BR,hx]
   rw [e,lpw]
   refine ⟨fun y hy=>?_,ih h.2⟩
   rcases KP.1 hy with rfl | hy
   .exact hx
   .exact h.1 y hy
  ·have e : BR (x :: l) f = f :: x :: l:=by simp [BR,hx]
   rw [e,lpw]
   refine ⟨fun y hy=>?_,lpw.2 h⟩
   rcases lmk.1 hy with rfl | hy
   .omega
   .have:=h.1 y hy; omega
theorem C0 {r : Rq} : AC r = true ↔ (0 <= r.task /\ r.task <= 2147483647) /\ (1 <= r.group /\ r.group <= 2147483647) /\ (0 <= r.at_ /\ r.at_ <= 16777216) /\ (1 <= r.pages /\ r.pages <= 4096) /\ r.at_ + r.pages <= 16777216 /\ 0 <= r.time /\ r.time <= 1048576:=by
 simp only [AC,bat,Cn,decide_eq_true_eq,and_assoc]
theorem Es {m : Mdl} {speed margin : Int} : DB m speed margin = true ↔ Cm m = true /\ (1 <= speed /\ speed <= 1000000) /\ 0 <= margin /\ margin <= 1073741824:=by
 simp only [DB,bat,Cn,and_assoc]
theorem Fi {m : Mdl} : Cm m = true ↔ (0 <= m.rb /\ m.rb <= 1000000) /\ (0 <= m.rp /\ m.rp <= 1000000) /\ (0 <= m.wb /\ m.wb <= 1000000) /\ (0 <= m.wp /\ m.wp <= 1000000) /\ 0 <= m.seek /\ m.seek <= 1000000:=by
 simp only [Cm,bat,Cn,and_assoc]
theorem B1 {a b A B : Int} (h0 : 0 <= a) (h1 : a <= A) (h2 : 0 <= b) (h3 : b <= B) : 0 <= a * b /\ a * b <= A * B:=by
 refine ⟨Int.mul_nonneg h0 h2,?_⟩
 have e1:=Int.mul_le_mul_of_nonneg_right h1 h2
 have e2:=Int.mul_le_mul_of_nonneg_left h3 (show 0 <= A by omega)
 omega
theorem Wv {m : Mdl} (hm : Cm m = true) {r : Rq} (hr : AC r = true) (head : Int) : 0 <= Cw m r head /\ Cw m r head <= 4098000000:=by
 rw [Fi] at hm
 rw [C0] at hr
 have h1:=B1 (a:=m.rp) (b:=r.pages) (A:=1000000) (B:=4096) hm.2.1.1 hm.2.1.2 (by omega) (by omega)
 have h2:=B1 (a:=m.wp) (b:=r.pages) (A:=1000000) (B:=4096) hm.2.2.2.1.1 hm.2.2.2.1.2 (by omega) (by omega)
 unfold Cw
 split <;> split <;> omega
theorem Hq {t : Tr} {d : Dv} (h : DvOk t d) (hn : d.now < 1048576) : DvOk t (advD d) where
 tree:=h.tree
 cfg:=h.cfg
 now:=by have:=h.now; show 0 <= d.now + 1 /\ d.now + 1 <= _; omega
 free:=h.free
 head:=h.head
 w := h.w
 dp:=h.dp
 v := h.v
 len:=by
  have:=h.len
  have h2:=(List.dropWhile_sublist (l:=d.flights) fun f=>decide (f.done <= d.now + 1)).length_le
  show d.queue.length + (d.flights.dropWhile _).length <= 256
  omega
 bk:=by
  have hb:=h.bk
  refine OR ?_ hb fun c hc=>?_
  ·show _ = (d.buckets.map (DJ (d.now + 1))).map (·.group)
   rw [List.map_map]
   rfl
  ·obtain ⟨c0,h0,rfl⟩:=lmm.1 hc
   have:=(CT.1 hb).1 c0 h0
   rw [Dg] at this
   have hnn:=h.now
   exact Dg.2 ⟨IT this.2.1 (by omega) hnn.1,IT this.2.2.1 (by omega) hnn.1,IT this.2.2.2.1 (by omega) hnn.1,IT this.2.2.2.2 (by omega) hnn.1⟩
 q:=h.q
 fl:=by
  have:=Di.1 h.fl
  have hs:=List.dropWhile_sublist (l:=d.flights) fun f=>decide (f.done <= d.now + 1)
  exact Di.2 ⟨fun f hf=>this.1 f (hs.subset hf),this.2.1.sublist hs,fun q hq=>by cases hq⟩
theorem E2 (n lo hi : Int) : V 175 [.p (.int .i64 n),.p (.int .i64 lo),.p (.int .i64 hi)] [] = some (.p (.bool (inZ n lo hi)),[]):=by
 refine Ae (vf:=vf175) rfl ?_
 unfold inZ
 by_cases h1 : lo <= n
 ·by_cases h2 : n <= hi
  ·rw [decide_eq_true ⟨h1,h2⟩]
   simp -implicitDefEqProofs (disch:=omega) only [vf175,I0,h1,h2,go_sem]
  ·rw [decide_eq_false (fun h=>h2 h.2)]
   simp -implicitDefEqProofs (disch:=omega) only [vf175,I0,h1,h2,go_sem]
 ·rw [decide_eq_false (fun h=>h1 h.1)]
  simp -implicitDefEqProofs (disch:=omega) only [vf175,I0,h1,go_sem]
theorem Hg (b : Bk) : V 176 [b.vv] [] = some (.p (.bool (decide (b.rate = maxR))),[]):=by
 refine Ae (vf:=vf176) rfl ?_
 simp -implicitDefEqProofs (disch:=omega) only [vf176,Q3,go_sem]
theorem KA (b : Bk) : V 174 [b.vv] [] = some (.p (.bool (Cj b)),[]):=by
 refine Ae (vf:=vf174) rfl ?_
 have i1:=E2 b.per 1 1048576
 have i2:=E2 b.now 0 1048576
 have i3:=E2 b.rate 0 1073741824
 have i4:=E2 b.burst 0 1073741824
 have i5:=E2 b.level 0 (b.burst * b.per)
 have op:=Hg b
 unfold Cj
 cases h1 : inZ b.per 1 1048576 with
 | false =>
  rw [h1] at i1
  simp -implicitDefEqProofs (disch:=omega) only [vf174,E4,i1,bfa,go_sem]
 | true =>
  rw [h1] at i1
  cases h2 : inZ b.now 0 1048576 with
  | false =>
   rw [h2] at i2
   simp -implicitDefEqProofs (disch:=omega) only [vf174,E4,i1,i2,bfa,bta,go_sem]
  | true =>
   rw [h2] at i2
   by_cases hm : b.rate = maxR
   ·rw [decide_eq_true hm] at op
    rw [if_pos hm]
    cases hb : decide (b.burst = 0) with
    | false=>simp -implicitDefEqProofs (disch:=omega) only [vf174,E4,i1,i2,op,hb,bta,bfa,go_sem]
    | true=>simp -implicitDefEqProofs (disch:=omega) only [vf174,E4,i1,i2,op,hb,bta,go_sem]
   ·rw [decide_eq_false hm] at op
    rw [if_neg hm]
    cases h3 : inZ b.rate 0 1073741824 with
    | false =>
     rw [h3] at i3
     simp -implicitDefEqProofs (disch:=omega) only [vf174,E4,i1,i2,op,i3,bfa,bta,go_sem]
    | true =>
     rw [h3] at i3
     cases h4 : inZ b.burst 0 1073741824 with
     | false =>
      rw [h4] at i4
      simp -implicitDefEqProofs (disch:=omega) only [vf174,E4,i1,i2,op,i3,i4,bfa,bta,go_sem]
     | true =>
      rw [h4] at i4
      have e1:=Cn.1 h1
      have e4:=Cn.1 h4
      have hr:=B1 e4.1 e4.2 (show 0 <= b.per by omega) e1.2
      simp -implicitDefEqProofs (disch:=omega) only [vf174,E4,i1,i2,op,i3,i4,i5,bta,go_sem]
theorem Gn (b : Bk) (now : Int) (h : Cj b = true) (h1 : b.now <= now) (h2 : now <= 1048576) : V 115 [b.vv,.p (.int .i64 now)] [] = some (.tup [(AD b now).vv,.p (.int .i64 0)],[]):=by
 refine Ae (vf:=vf115) rfl ?_
 have hv:=KA b
 rw [h] at hv
 rw [Bu] at h
 obtain ⟨hp,hw,hc⟩:=h
 have i1:=E2 now 0 1048576
 rw [show inZ now 0 1048576 = true from Cn.2 ⟨by omega,h2⟩] at i1
 have hlt : ¬ now < b.now:=by omega
 have op:=Hg b
 unfold AD
 rcases hc with ⟨e,hb,hl⟩ | ⟨e,hr,hb,hl⟩
 ·rw [if_pos e]
  rw [decide_eq_true e] at op
  simp -implicitDefEqProofs (disch:=omega) only [vf115,LI,hv,i1,hlt,op,go_sem]
 ·rw [if_neg e]
  rw [decide_eq_false e] at op
  have m1:=B1 hr.1 hr.2 (show 0 <= now - b.now by omega) (show now - b.now <= 1048576 by omega)
  have m2:=B1 hb.1 hb.2 (show 0 <= b.per by omega) hp.2
  simp -implicitDefEqProofs (disch:=omega) only [vf115,LI,hv,i1,hlt,op,go_sem]
theorem IJ (b : Bk) (h : Cj b = true) : V 181 [b.vv] [] = some (.p (.int .i64 (AN b)),[]):=by
 refine Ae (vf:=vf181) rfl ?_
 have hv:=KA b
 rw [h] at hv
 rw [Bu] at h
 obtain ⟨hp,hw,hc⟩:=h
 have op:=Hg b
 unfold AN
 rcases hc with ⟨e,hb,hl⟩ | ⟨e,hr,hb,hl⟩
 ·rw [if_pos e]
  rw [decide_eq_true e] at op
  simp -implicitDefEqProofs (disch:=omega) only [vf181,Lt,hv,op,go_sem]
 ·rw [if_neg e]
  rw [decide_eq_false e] at op
  have m2:=B1 hb.1 hb.2 (show 0 <= b.per by omega) hp.2
  have hp0 : ¬ b.per = 0:=by omega
  have hq : b.level.tdiv b.per = b.level / b.per:=Int.tdiv_eq_ediv_of_nonneg hl.1
  have hq0 : 0 <= b.level / b.per:=Int.ediv_nonneg hl.1 (by omega)
  have hq1 : b.level / b.per <= b.level:=Int.ediv_le_self _ hl.1
  simp -implicitDefEqProofs (disch:=omega) only [vf181,Lt,hv,op,hp0,hq,go_sem]
abbrev Mdl.cs (m : Mdl) : List VVal:=[.p (.int .i64 m.rb),.p (.int .i64 m.rp),.p (.int .i64 m.wb),.p (.int .i64 m.wp),.p (.int .i64 m.seek)]
abbrev Mdl.vv (m : Mdl) : VVal:=.agg m.cs
theorem FB (n lo hi : Int) : V 170 [.p (.int .i64 n),.p (.int .i64 lo),.p (.int .i64 hi)] [] = some (.p (.bool (inZ n lo hi)),[]):=by
 refine Ae (vf:=vf170) rfl ?_
 unfold inZ
 by_cases h1 : lo <= n
 ·by_cases h2 : n <= hi
  ·rw [decide_eq_true ⟨h1,h2⟩]
   simp -implicitDefEqProofs (disch:=omega) only [vf170,I3,h1,h2,go_sem]
  ·rw [decide_eq_false (fun h=>h2 h.2)]
   simp -implicitDefEqProofs (disch:=omega) only [vf170,I3,h1,h2,go_sem]
 ·rw [decide_eq_false (fun h=>h1 h.1)]
  simp -implicitDefEqProofs (disch:=omega) only [vf170,I3,h1,go_sem]
theorem Gy (n lo hi : Int) : V 109 [.p (.int .i64 n),.p (.int .i64 lo),.p (.int .i64 hi)] [] = some (.p (.bool (inZ n lo hi)),[]):=by
 refine Ae (vf:=vf109) rfl ?_
 unfold inZ
 by_cases h1 : lo <= n
 ·by_cases h2 : n <= hi
  ·rw [decide_eq_true ⟨h1,h2⟩]
   simp -implicitDefEqProofs (disch:=omega) only [vf109,I6,h1,h2,go_sem]
  ·rw [decide_eq_false (fun h=>h2 h.2)]
   simp -implicitDefEqProofs (disch:=omega) only [vf109,I6,h1,h2,go_sem]
 ·rw [decide_eq_false (fun h=>h1 h.1)]
  simp -implicitDefEqProofs (disch:=omega) only [vf109,I6,h1,go_sem]
theorem Kz (r : Rq) : V 102 [r.vv] [] = some (.p (.bool (AC r)),[]):=by
 refine Ae (vf:=vf102) rfl ?_
 have i1:=FB r.task 0 2147483647
 have i2:=FB r.group 1 2147483647
 have i3:=FB r.at_ 0 16777216
 have i4:=FB r.pages 1 4096
 have i5:=FB r.time 0 1048576
 unfold AC
 cases h1 : inZ r.task 0 2147483647 with
 | false =>
  rw [h1] at i1
  simp -implicitDefEqProofs (disch:=omega) only [vf102,FF,i1,bfa,go_sem]
 | true =>
  rw [h1] at i1
  cases h2 : inZ r.group 1 2147483647 with
  | false =>
   rw [h2] at i2
   simp -implicitDefEqProofs (disch:=omega) only [vf102,FF,i1,i2,bfa,bta,go_sem]
  | true =>
   rw [h2] at i2
   cases h3 : inZ r.at_ 0 16777216 with
   | false =>
    rw [h3] at i3
    simp -implicitDefEqProofs (disch:=omega) only [vf102,FF,i1,i2,i3,bfa,bta,go_sem]
   | true =>
    rw [h3] at i3
    cases h4 : inZ r.pages 1 4096 with
    | false =>
     rw [h4] at i4
     simp -implicitDefEqProofs (disch:=omega) only [vf102,FF,i1,i2,i3,i4,bfa,bta,go_sem]
    | true =>
     rw [h4] at i4
     have e3:=Cn.1 h3
     have e4:=Cn.1 h4
     by_cases h5 : r.at_ + r.pages <= 16777216
     .simp -implicitDefEqProofs (disch:=omega) only [vf102,FF,i1,i2,i3,i4,i5,h5,bta,go_sem]
     .simp -implicitDefEqProofs (disch:=omega) only [vf102,FF,i1,i2,i3,i4,i5,h5,bfa,bta,go_sem]
def EM (l : List Int) : Bool:=l.all fun n=>inZ n 0 1000000
theorem NY (m : Mdl) : V 141 [m.vv] [] = some (.p (.bool (Cm m)),[]):=by
 refine Ae (vf:=vf141) rfl ?_
 have hM : Cm m = EM [m.rb,m.rp,m.wb,m.wp,m.seek]:=by simp [EM,Cm,Bool.and_assoc]
 rw [hM]
 simp -implicitDefEqProofs (disch:=omega) only [vf141,Rd,go_sem]
 obtain ⟨I,hI⟩:=lpI fun k s=>EM [m.rb,m.rp,m.wb,m.wp,m.seek] = EM ([m.rb,m.rp,m.wb,m.wp,m.seek].drop k) /\ s.pe 2 = .p (.bool false) /\ s.pe 15 = m.vv /\ s.pe 16 = .p (.int .i64 k)
 refine Am (5) I ?_ ?_
 ·refine (hI _ _).2 ?_
  and_intros
  ·exact cl3
  all_goals exact cl0
 intro k s hk hIk
 obtain ⟨hq,hH⟩:=(hI _ _).1 hIk
 clear hIk
 simp -implicitDefEqProofs (disch:=omega) only [hH,go_sem]
 refine Af (fun hlt=>?_) (fun hge=>?_)
 ·have hk5' : (k : Int) < 5:=hlt
  have hk5 : k < 5:=by omega
  obtain ⟨n,hm,hcs⟩ : ∃ n,[m.rb,m.rp,m.wb,m.wp,m.seek][k]? = some n /\ m.cs[k * 1]? = some (.p (.int .i64 n)):=by
   have : k = 0 \/ k = 1 \/ k = 2 \/ k = 3 \/ k = 4:=by omega
   rcases this with rfl | rfl | rfl | rfl | rfl <;> exact ⟨_,rfl,rfl⟩
  have hd : EM ([m.rb,m.rp,m.wb,m.wp,m.seek].drop k) = (inZ n 0 1000000 && EM ([m.rb,m.rp,m.wb,m.wp,m.seek].drop (k + 1))):=by
   have hk : k < [m.rb,m.rp,m.wb,m.wp,m.seek].length:=hk5
   rw [ldg hk,EM,List.all_cons]
   rw [lgg hk] at hm
   cases hm
   rfl
  rw [hd] at hq
  have hin:=FB n 0 1000000
  cases hb : inZ n 0 1000000 with
  | false =>
   rw [hb] at hin hq
   have hF : EM [m.rb,m.rp,m.wb,m.wp,m.seek] = false:=hq.trans (bfa _)
   simp -implicitDefEqProofs (disch:=omega) only [hH,hlt,hcs,hin,hF,go_sem]
  | true =>
   rw [hb] at hin hq
   simp -implicitDefEqProofs (disch:=omega) only [hH,hlt,hcs,hin,go_sem]
   try refine ai ?_
   refine (hI _ _).2 ?_
   and_intros
   .exact hq.trans (bta _)
   all_goals exact cl0
 ·have hT : EM [m.rb,m.rp,m.wb,m.wp,m.seek] = true:=by
   rw [hq,List.drop_eq_nil_of_le (by simp; omega)]
   rfl
  simp -implicitDefEqProofs (disch:=omega) only [hH,hge,hT,go_sem]
theorem Ln (n lo hi : Int) : V 173 [.p (.int .i64 n),.p (.int .i64 lo),.p (.int .i64 hi)] [] = some (.p (.bool (inZ n lo hi)),[]):=by
 refine Ae (vf:=vf173) rfl ?_
 unfold inZ
 by_cases h1 : lo <= n
 ·by_cases h2 : n <= hi
  ·rw [decide_eq_true ⟨h1,h2⟩]
   simp -implicitDefEqProofs (disch:=omega) only [vf173,I1,h1,h2,go_sem]
  ·rw [decide_eq_false (fun h=>h2 h.2)]
   simp -implicitDefEqProofs (disch:=omega) only [vf173,I1,h1,h2,go_sem]
 ·rw [decide_eq_false (fun h=>h1 h.1)]
  simp -implicitDefEqProofs (disch:=omega) only [vf173,I1,h1,go_sem]
theorem YO (id : Int) : V 208 [.p (.int .i64 id)] [] = some (.agg [.p (.int .i64 id),.p (.int .i64 0),.p (.int .i64 256)],[]):=by
 refine Ae (vf:=vf208) rfl ?_
 simp -implicitDefEqProofs (disch:=omega) only [vf208,QN,go_sem]
abbrev AF (l : List Dp) : PV:=.slice 3 (l.map Dp.pv)
abbrev Dp.vv (d : Dp) : VVal:=.agg [.p (.int .i64 d.group),.p (.int .i64 d.target),.p (.int .i64 d.depth)]
def E6 (l : List Dp) : Nat -> Option Int
 | 0=>none
 | k + 1=>l[k]?.map Dp.group
theorem XL {kn : Int -> Bool} {l : List Dp} {k : Nat} {c : Dp} (hm : l[k]? = some c) : BS kn (E6 l k) (l.drop k) = (kn c.group && Cr (E6 l k) c.group && (inZ c.target 0 1048576 && inZ c.depth 1 256) && BS kn (E6 l (k + 1)) (l.drop (k + 1))):=by
 have hk:=(lgs.1 hm).1
 rw [ldg hk]
 have e : l[k] = c:=by rw [lgg hk] at hm; exact Option.some.inj hm
 rw [e,BS]
 simp [E6,hm]
theorem Ox (t : Tr) (l : List Dp) (hf : t.Fits) (hn : t.nodes.length < 1000000) (hl : l.length < 1000000) : V 111 [t.vv,.p (AF l)] [] = some (.p (.bool (AZ t && BS (Ak t.nodes) none l)),[]):=by
 refine Ae (vf:=vf111) rfl ?_
 have hc:=H8 t hf hn
 cases ht : AZ t with
 | false =>
  rw [ht] at hc
  simp -implicitDefEqProofs (disch:=omega) only [vf111,LL,hc,bfa,go_sem]
 | true =>
  rw [ht] at hc
  rw [Bool.true_and]
  simp -implicitDefEqProofs (disch:=omega) only [vf111,LL,hc,go_sem]
  obtain ⟨I,hI⟩:=lpI fun k s=>BS (Ak t.nodes) none l = BS (Ak t.nodes) (E6 l k) (l.drop k) /\ s.pe 1 = .p (AF l) /\ s.pe 2 = .ptr (.slot 2 0) 0 0 /\ s.pe 12 = .p (AF l) /\ s.pe 13 = .p (.int .i64 l.length) /\ s.pe 14 = .p (.int .i64 k) /\ s.h (.slot 2 0) = some (0,.box [.p (Ap t.nodes),.p (.int .i64 t.next)])
  refine Am (l.length) I ?_ ?_
  ·refine (hI _ _).2 ?_
   and_intros
   ·exact cl3
   all_goals exact cl0
  intro k s hk hIk
  obtain ⟨hq,hH⟩:=(hI _ _).1 hIk
  clear hIk
  simp -implicitDefEqProofs (disch:=omega) only [hH,go_sem]
  refine Af (fun hlt=>?_) (fun hge=>?_)
  ·have hm : l[k]? = some l[k]:=lgg hlt
   generalize l[k] = c at hm
   rw [XL hm] at hq
   have hfi:=Ge t c.group hn
   have hkn : Ak t.nodes c.group = (AP t.nodes c.group).isSome:=rfl
   generalize (AP t.nodes c.group).getD zeroNd = nd at hfi
   rw [← hkn] at hfi
   have i1:=Ln c.target 0 1048576
   have i2:=Ln c.depth 1 256
   cases hA : Ak t.nodes c.group with
   | false =>
    rw [hA] at hfi hq
    simp -implicitDefEqProofs (disch:=omega) only [hH,hlt,hm,hfi,hq,Nd.vv,bfa,go_sem]
   | true =>
    rw [hA,bta] at hq
    rw [hA] at hfi
    have ord : (∃ e : Dp,0 < k /\ l[k - 1]? = some e /\ (Cr (E6 l k) c.group = decide (e.group < c.group))) \/ (k = 0 /\ Cr (E6 l k) c.group = true):=by
     cases k with
     | zero=>exact .inr ⟨rfl,rfl⟩
     | succ k' =>
      have hk' : k' < l.length:=by omega
      refine .inl ⟨l[k'],by omega,by simp,?_⟩
      simp [E6,lgg hk',Cr]
    rcases ord with ⟨e,hk0,he,hpo⟩ | ⟨hk0,hpo⟩
    ·have hk0' : (0 : Int) < k:=by omega
     have hk1 : (0 : Int) <= (k : Int) - 1:=by omega
     have hk2 : ((k : Int) - 1).toNat = k - 1:=by omega
     rw [hpo] at hq
     by_cases hB : e.group < c.group
     ·rw [decide_eq_true hB,bta] at hq
      have hB' : ¬ c.group <= e.group:=by omega
      cases hC : inZ c.target 0 1048576 with
      | false =>
       rw [hC] at i1 hq
       simp -implicitDefEqProofs (disch:=omega) only [hH,hlt,hm,hfi,hq,Nd.vv,hk0',hk1,hk2,he,hB',i1,bfa,go_sem]
      | true =>
       rw [hC] at i1 hq
       cases hD : inZ c.depth 1 256 with
       | false =>
        rw [hD] at i2 hq
        simp -implicitDefEqProofs (disch:=omega) only [hH,hlt,hm,hfi,hq,Nd.vv,hk0',hk1,hk2,he,hB',i1,i2,bfa,Bool.and_false,go_sem]
       | true =>
        rw [hD] at i2 hq
        simp -implicitDefEqProofs (disch:=omega) only [hH,hlt,hm,hfi,Nd.vv,hk0',hk1,hk2,he,hB',i1,i2,go_sem]
        try refine ai ?_
        refine (hI _ _).2 ?_
        and_intros
        .exact by simpa using hq
        all_goals exact cl0
     ·rw [decide_eq_false hB,bfa,bfa] at hq
      have hB' : c.group <= e.group:=by omega
      simp -implicitDefEqProofs (disch:=omega) only [hH,hlt,hm,hfi,hq,Nd.vv,hk0',hk1,hk2,he,hB',go_sem]
    ·have hk0' : ¬ (0 : Int) < k:=by omega
     rw [hpo,bta] at hq
     cases hC : inZ c.target 0 1048576 with
     | false =>
      rw [hC] at i1 hq
      simp -implicitDefEqProofs (disch:=omega) only [hH,hlt,hm,hfi,hq,Nd.vv,hk0',i1,bfa,go_sem]
     | true =>
      rw [hC] at i1 hq
      cases hD : inZ c.depth 1 256 with
      | false =>
       rw [hD] at i2 hq
       simp -implicitDefEqProofs (disch:=omega) only [hH,hlt,hm,hfi,hq,Nd.vv,hk0',i1,i2,bfa,Bool.and_false,go_sem]
      | true =>
       rw [hD] at i2 hq
       simp -implicitDefEqProofs (disch:=omega) only [hH,hlt,hm,hfi,Nd.vv,hk0',i1,i2,go_sem]
       try refine ai ?_
       refine (hI _ _).2 ?_
       and_intros
       .exact by simpa using hq
       all_goals exact cl0
  ·have hT : BS (Ak t.nodes) none l = true:=by
    rw [hq,List.drop_eq_nil_of_le (by omega)]
    rfl
   simp -implicitDefEqProofs (disch:=omega) only [hH,hge,hT,go_sem]
theorem Ky (t : Tr) (id : Int) (hn : t.nodes.length < 1000000) : V 73 [t.vv,.p (.int .i64 id)] [] = some (.p (.bool (Ak t.nodes id)),[]):=by
 refine Ae (vf:=vf73) rfl ?_
 have hfi:=Ge t id hn
 unfold Ak
 generalize (AP t.nodes id).getD zeroNd = nd at hfi
 generalize (AP t.nodes id).isSome = b at hfi
 simp -implicitDefEqProofs (disch:=omega) only [vf73,RJ,hfi,Nd.vv,go_sem]
abbrev FL (m : Mdl) (speed margin : Int) : VVal:=.agg [.p (.int .i64 m.rb),.p (.int .i64 m.rp),.p (.int .i64 m.wb),.p (.int .i64 m.wp),.p (.int .i64 m.seek),.p (.int .i64 speed),.p (.int .i64 margin)]
theorem NX (m : Mdl) (speed margin : Int) : V 63 [FL m speed margin] [] = some (.p (.bool (DB m speed margin)),[]):=by
 refine Ae (vf:=vf63) rfl ?_
 have i0:=NY m
 have i1:=Gy speed 1 1000000
 have i2:=Gy margin 0 1073741824
 unfold DB
 cases h0 : Cm m with
 | false =>
  rw [h0] at i0
  simp -implicitDefEqProofs (disch:=omega) only [vf63,Jj,i0,bfa,go_sem]
 | true =>
  rw [h0] at i0
  cases h1 : inZ speed 1 1000000 with
  | false =>
   rw [h1] at i1
   simp -implicitDefEqProofs (disch:=omega) only [vf63,Jj,i0,i1,bfa,bta,go_sem]
  | true =>
   rw [h1] at i1
   simp -implicitDefEqProofs (disch:=omega) only [vf63,Jj,i0,i1,i2,bta,go_sem]
theorem Ij (b : Bk) (now : Int) : V 113 [b.vv,.p (.int .i64 now)] [] = some (.p (.bool (A1 now b)),[]):=by
 refine Ae (vf:=vf113) rfl ?_
 have i0:=KA b
 unfold A1
 cases h0 : Cj b with
 | false =>
  rw [h0] at i0
  simp -implicitDefEqProofs (disch:=omega) only [vf113,I5,i0,bfa,go_sem]
 | true =>
  rw [h0] at i0
  cases h1 : decide (b.per = 100) with
  | false=>simp -implicitDefEqProofs (disch:=omega) only [vf113,I5,i0,h1,bfa,bta,go_sem]
  | true=>simp -implicitDefEqProofs (disch:=omega) only [vf113,I5,i0,h1,bta,go_sem]
theorem Nj (t : Tr) (r : Rq) (hn : t.nodes.length < 1000000) : V 114 [t.vv,r.vv] [] = some (.p (.bool (AC r && Ak t.nodes r.group)),[]):=by
 refine Ae (vf:=vf114) rfl ?_
 have i0:=Kz r
 have i1:=Ky t r.group hn
 cases h0 : AC r with
 | false =>
  rw [h0] at i0
  simp -implicitDefEqProofs (disch:=omega) only [vf114,LJ,i0,bfa,go_sem]
 | true =>
  rw [h0] at i0
  simp -implicitDefEqProofs (disch:=omega) only [vf114,LJ,i0,i1,bta,go_sem]
abbrev A5 (l : List Cp) : PV:=.slice 21 (l.map Cp.pv)
abbrev AJ (l : List Rq) : PV:=.slice 6 (l.map Rq.pv)
abbrev A4 (l : List Fl) : PV:=.slice 7 (l.map Fl.pv)
abbrev Dv.vv (d : Dv) : VVal:=.agg [.p (.int .i64 d.m.rb),.p (.int .i64 d.m.rp),.p (.int .i64 d.m.wb),.p (.int .i64 d.m.wp),.p (.int .i64 d.m.seek),.p (.int .i64 d.speed),.p (.int .i64 d.margin),.p (.int .i64 d.now),.p (.int .i64 d.free),.p (.int .i64 d.head),.p (Aj d.weights),.p (A5 d.buckets),.p (AF d.depths),.p (Aj d.v),.p (AJ d.queue),.p (A4 d.flights)]
structure Dv.Small (d : Dv) : Prop where
 w : d.weights.length < 1000000
 b : d.buckets.length < 1000000
 p : d.depths.length < 1000000
 v : d.v.length < 1000000
 q : d.queue.length < 1000000
 f : d.flights.length < 1000000
def E7 (l : List Cp) : Nat -> Option Int
 | 0=>none
 | k + 1=>l[k]?.map Cp.group
theorem XM {kn : Int -> Bool} {ok : Cp -> Bool} {l : List Cp} {k : Nat} {c : Cp} (hm : l[k]? = some c) : CG kn ok (E7 l k) (l.drop k) = (kn c.group && Cr (E7 l k) c.group && ok c && CG kn ok (E7 l (k + 1)) (l.drop (k + 1))):=by
 have hk:=(lgs.1 hm).1
 rw [ldg hk]
 have e : l[k] = c:=by rw [lgg hk] at hm; exact Option.some.inj hm
 rw [e,CG]
 simp [E7,hm]
def E5 (l : List Fl) : Nat -> Option Int
 | 0=>none
 | k + 1=>l[k]?.map Fl.done
theorem Xu {kn : Int -> Bool} {l : List Fl} {k : Nat} {c : Fl} (hm : l[k]? = some c) : Du kn (E5 l k) (l.drop k) = ((AC c.r && kn c.r.group) && inZ c.done 0 1125899906842624 && Fz (E5 l k) c.done && Du kn (E5 l (k + 1)) (l.drop (k + 1))):=by
 have hk:=(lgs.1 hm).1
 rw [ldg hk]
 have e : l[k] = c:=by rw [lgg hk] at hm; exact Option.some.inj hm
 rw [e,Du]
 simp [E5,hm]
def Cd {α : Type} (p : α -> Bool) (l : List α) : Int:=match l.findIdx? p with
 | some i=>i
 | none=>-1
theorem Gl {α : Type} {p : α -> Bool} {l : List α} {k : Nat} {m : α} (hm : l[k]? = some m) (h : ∀ (i : Nat) (n : α),i < k -> l[i]? = some n -> p n = false) (he : p m = true) : Cd p l = k:=by
 unfold Cd
 have : l.findIdx? p = some k:=by
  rw [List.findIdx?_eq_some_iff_getElem]
  refine ⟨(lgs.1 hm).1,by rw [(lgs.1 hm).2]; exact he,fun j hj=>?_⟩
  have hl : j < l.length:=Nat.lt_trans hj (lgs.1 hm).1
  simpa using h j l[j] hj (lgg hl)
 rw [this]
theorem F9 {α : Type} {p : α -> Bool} {l : List α} (h : ∀ n ∈ l,p n = false) : Cd p l = -1:=by
 unfold Cd
 have : l.findIdx? p = none:=by
  rw [List.findIdx?_eq_none_iff]
  intro x hx
  simpa using h x hx
 rw [this]
theorem F3 {α : Type} (p : α -> Bool) (l : List α) : (Cd p l = -1 /\ ∀ n ∈ l,p n = false) \/ ∃ (k : Nat) (m : α),Cd p l = k /\ l[k]? = some m /\ p m = true /\ ∀ (i : Nat) (n : α),i < k -> l[i]? = some n -> p n = false:=by
 unfold Cd
 cases h : l.findIdx? p with
 | none =>
  left
  rw [List.findIdx?_eq_none_iff] at h
  exact ⟨rfl,fun n hn=>by simpa using h n hn⟩
 | some k =>
  right
  rw [List.findIdx?_eq_some_iff_getElem] at h
  obtain ⟨h1,h2,h3⟩:=h
  refine ⟨k,l[k],rfl,lgg h1,h2,fun i n hi hn=>?_⟩
  have:=h3 i hi
  rw [<- (lgs.1 hn).2]
  simpa using this
theorem Hu {α : Type} {p : α -> Bool} {l : List α} {k : Nat} {m : α} (hm : l[k]? = some m) (h : ∀ (i : Nat) (n : α),i < k -> l[i]? = some n -> p n = false) (he : p m = false) : ∀ (i : Nat) (n : α),i < k + 1 -> l[i]? = some n -> p n = false:=fun i n hi hn=>by
 by_cases hk : i = k
 ·subst hk
  rw [hm] at hn
  cases hn
  exact he
 .exact h i n (by omega) hn
theorem Zm (c : Cp) (id : Int) : V 204 [.agg (c.pv.cells.map .p),.ptr (.arg 0 0) 0 0] [.box [.p (.int .i64 id)]] = some (.p (.bool (decide (c.group = id))),[.box [.p (.int .i64 id)]]):=by
 refine Ae (vf:=vf204) rfl ?_
 simp -implicitDefEqProofs (disch:=omega) only [vf204,QO,Cp.pv,PV.cells,go_sem]
theorem XJ (r : Rq) (id : Int) : V 122 [r.vv,.ptr (.arg 0 0) 0 0] [.box [.p (.int .i64 id)]] = some (.p (.bool (decide (r.group = id))),[.box [.p (.int .i64 id)]]):=by
 refine Ae (vf:=vf122) rfl ?_
 simp -implicitDefEqProofs (disch:=omega) only [vf122,Ro,go_sem]
theorem XD (r : Rq) : V 225 [r.vv] [] = some (.p (.bool (!AC r)),[]):=by
 refine Ae (vf:=vf225) rfl ?_
 have i0:=Kz r
 simp -implicitDefEqProofs (disch:=omega) only [vf225,QJ,i0,go_sem]
theorem Qd (ns : List Cp) (id : Int) (hl : ns.length < 1000000) : V 146 [.p (A5 ns),.fn 204 [.ptr (.arg 0 0) 0 0]] [.box [.p (.int .i64 id)]] = some (.p (.int .i64 (Cd (fun c=>decide (c.group = id)) ns)),[.box [.p (.int .i64 id)]]):=by
 refine Ae (vf:=vf146) rfl ?_
 simp -implicitDefEqProofs (disch:=omega) only [vf146,Ra,go_sem]
 refine Am ns.length (fun k s=>(∀ (i : Nat) (n : Cp),i < k -> ns[i]? = some n -> decide (n.group = id) = false) /\ s.pe 0 = .p (A5 ns) /\ s.pe 1 = .fn 204 [.ptr (.arg 0 0) 0 0] /\ s.pe 7 = .p (.int .i64 ns.length) /\ s.pe 8 = .p (.int .i64 k) /\ s.h (.arg 0 0) = some (0,.box [.p (.int .i64 id)])) ?_ ?_
 ·exact ⟨by omega,rfl,rfl,rfl,rfl,rfl⟩
 ·rintro k s hk ⟨hall,h0,h1,h7,h8,hh⟩
  simp -implicitDefEqProofs (disch:=omega) only [h0,h1,h7,h8,hh,go_sem]
  refine Af (fun hlt=>?_) (fun hge=>?_)
  ·have hm : ns[k]? = some ns[k]:=lgg hlt
   generalize ns[k] = m at hm
   have hc:=Zm m id
   simp only [Cp.pv,PV.cells,lpc,lpn] at hc
   cases hb : decide (m.group = id) with
   | true =>
    rw [hb] at hc
    simp -implicitDefEqProofs (disch:=omega) only [h0,h1,h7,h8,hh,hm,hc,Cp.pv,go_sem]
    rw [Gl hm hall hb]
   | false =>
    rw [hb] at hc
    simp -implicitDefEqProofs (disch:=omega) only [h0,h1,h7,h8,hh,hm,hc,Cp.pv,go_sem]
    exact ⟨hlt,Hu hm hall hb,by simp only [Int.natCast_add,Int.natCast_one]⟩
  ·simp -implicitDefEqProofs (disch:=omega) only [h0,h1,h7,h8,hh,hge,go_sem]
   rw [F9]
   intro n hn
   obtain ⟨i,hi⟩:=lgm hn
   exact hall i n (by have:=(lgs.1 hi).1; omega) hi
theorem zaj (ns : List Rq) (id : Int) (hl : ns.length < 1000000) : V 121 [.p (AJ ns),.fn 122 [.ptr (.arg 0 0) 0 0]] [.box [.p (.int .i64 id)]] = some (.p (.int .i64 (Cd (fun c=>decide (c.group = id)) ns)),[.box [.p (.int .i64 id)]]):=by
 refine Ae (vf:=vf121) rfl ?_
 simp -implicitDefEqProofs (disch:=omega) only [vf121,LG,go_sem]
 refine Am ns.length (fun k s=>(∀ (i : Nat) (n : Rq),i < k -> ns[i]? = some n -> decide (n.group = id) = false) /\ s.pe 0 = .p (AJ ns) /\ s.pe 1 = .fn 122 [.ptr (.arg 0 0) 0 0] /\ s.pe 7 = .p (.int .i64 ns.length) /\ s.pe 8 = .p (.int .i64 k) /\ s.h (.arg 0 0) = some (0,.box [.p (.int .i64 id)])) ?_ ?_
 ·exact ⟨by omega,rfl,rfl,rfl,rfl,rfl⟩
 ·rintro k s hk ⟨hall,h0,h1,h7,h8,hh⟩
  simp -implicitDefEqProofs (disch:=omega) only [h0,h1,h7,h8,hh,go_sem]
  refine Af (fun hlt=>?_) (fun hge=>?_)
  ·have hm : ns[k]? = some ns[k]:=lgg hlt
   generalize ns[k] = m at hm
   have hc:=XJ m id
   cases hb : decide (m.group = id) with
   | true =>
    rw [hb] at hc
    simp -implicitDefEqProofs (disch:=omega) only [h0,h1,h7,h8,hh,hm,hc,go_sem]
    rw [Gl hm hall hb]
   | false =>
    rw [hb] at hc
    simp -implicitDefEqProofs (disch:=omega) only [h0,h1,h7,h8,hh,hm,hc,go_sem]
    exact ⟨hlt,Hu hm hall hb,by simp only [Int.natCast_add,Int.natCast_one]⟩
  ·simp -implicitDefEqProofs (disch:=omega) only [h0,h1,h7,h8,hh,hge,go_sem]
   rw [F9]
   intro n hn
   obtain ⟨i,hi⟩:=lgm hn
   exact hall i n (by have:=(lgs.1 hi).1; omega) hi
theorem zai (ns : List Rq) (hl : ns.length < 1000000) : V 121 [.p (AJ ns),.p (.fn 225)] [] = some (.p (.int .i64 (Cd (fun c=>!AC c) ns)),[]):=by
 refine Ae (vf:=vf121) rfl ?_
 simp -implicitDefEqProofs (disch:=omega) only [vf121,LG,go_sem]
 refine Am ns.length (fun k s=>(∀ (i : Nat) (n : Rq),i < k -> ns[i]? = some n -> (!AC n) = false) /\ s.pe 0 = .p (AJ ns) /\ s.pe 1 = .p (.fn 225) /\ s.pe 7 = .p (.int .i64 ns.length) /\ s.pe 8 = .p (.int .i64 k)) ?_ ?_
 ·exact ⟨by omega,rfl,rfl,rfl,rfl⟩
 ·rintro k s hk ⟨hall,h0,h1,h7,h8⟩
  simp -implicitDefEqProofs (disch:=omega) only [h0,h1,h7,h8,go_sem]
  refine Af (fun hlt=>?_) (fun hge=>?_)
  ·have hm : ns[k]? = some ns[k]:=lgg hlt
   generalize ns[k] = m at hm
   have hc:=XD m
   cases hb : !AC m with
   | true =>
    rw [hb] at hc
    simp -implicitDefEqProofs (disch:=omega) only [h0,h1,h7,h8,hm,hc,go_sem]
    rw [Gl hm hall hb]
   | false =>
    rw [hb] at hc
    simp -implicitDefEqProofs (disch:=omega) only [h0,h1,h7,h8,hm,hc,go_sem]
    exact ⟨hlt,Hu hm hall hb,by simp only [Int.natCast_add,Int.natCast_one]⟩
  ·simp -implicitDefEqProofs (disch:=omega) only [h0,h1,h7,h8,hge,go_sem]
   rw [F9]
   intro n hn
   obtain ⟨i,hi⟩:=lgm hn
   exact hall i n (by have:=(lgs.1 hi).1; omega) hi
theorem XE (m : Mdl) (r : Rq) (head : Int) (hm : Cm m = true) (hr : AC r = true) (hh : 0 <= head /\ head <= 16777216) : V 184 [m.vv,.p (AJ [r]),.p (.int .i64 head)] [] = some (.p (.int .i64 0),[]):=by
 refine Ae (vf:=vf184) rfl ?_
 have i0:=NY m
 rw [hm] at i0
 have hc : V 224 [.p (AJ [r]),.p (.fn 225)] [] = some (.p (.bool false),[]):=by
  refine Ae (vf:=vf224) rfl ?_
  have hi:=zai [r] (by simp)
  rw [F9 (fun n hn=>by rw [List.mem_singleton] at hn; subst hn; rw [hr]; rfl)] at hi
  have hd : decide ((0 : Int) <= -1) = false:=rfl
  simp -implicitDefEqProofs (disch:=omega) only [vf224,QK,hi,hd,go_sem]
 have i1:=FB head 0 16777216
 rw [show inZ head 0 16777216 = true from Cn.2 hh] at i1
 simp -implicitDefEqProofs (disch:=omega) only [vf184,QZ,i0,hc,i1,go_sem]
theorem Zl (m : Mdl) (r : Rq) (head : Int) (hm : Cm m = true) (hr : AC r = true) : V 185 [m.vv,r.vv,.p (.int .i64 head)] [] = some (.p (.int .i64 (Cw m r head)),[]):=by
 refine Ae (vf:=vf185) rfl ?_
 rw [Fi] at hm
 rw [C0] at hr
 have h1:=B1 (a:=m.rp) (b:=r.pages) (A:=1000000) (B:=4096) hm.2.1.1 hm.2.1.2 (by omega) (by omega)
 have h2:=B1 (a:=m.wp) (b:=r.pages) (A:=1000000) (B:=4096) hm.2.2.2.1.1 hm.2.2.2.1.2 (by omega) (by omega)
 have e1 : ([.p (.int .i64 m.rb),.p (.int .i64 m.wb)] : List VVal)[Int.toNat 0 * 1]? = some (.p (.int .i64 m.rb)):=rfl
 have e2 : ([.p (.int .i64 m.rb),.p (.int .i64 m.wb)] : List VVal)[Int.toNat 1 * 1]? = some (.p (.int .i64 m.wb)):=rfl
 have e3 : ([.p (.int .i64 m.rp),.p (.int .i64 m.wp)] : List VVal)[Int.toNat 0 * 1]? = some (.p (.int .i64 m.rp)):=rfl
 have e4 : ([.p (.int .i64 m.rp),.p (.int .i64 m.wp)] : List VVal)[Int.toNat 1 * 1]? = some (.p (.int .i64 m.wp)):=rfl
 unfold Cw
 cases hw : r.write with
 | false =>
  by_cases ha : r.at_ = head
  .simp -implicitDefEqProofs (disch:=omega) only [vf185,Hz,hw,ha,e1,e2,e3,e4,Int.add_zero,go_sem]
  .simp -implicitDefEqProofs (disch:=omega) only [vf185,Hz,hw,ha,e1,e2,e3,e4,go_sem]
 | true =>
  by_cases ha : r.at_ = head
  .simp -implicitDefEqProofs (disch:=omega) only [vf185,Hz,hw,ha,e1,e2,e3,e4,Int.add_zero,go_sem]
  .simp -implicitDefEqProofs (disch:=omega) only [vf185,Hz,hw,ha,e1,e2,e3,e4,go_sem]
theorem zaz (m : Mdl) (r : Rq) (head : Int) (hm : Cm m = true) (hr : AC r = true) (hh : 0 <= head /\ head <= 16777216) : V 123 [m.vv,r.vv,.p (.int .i64 head)] [] = some (.tup [.p (.int .i64 (Cw m r head)),.p (.int .i64 0)],[]):=by
 refine Ae (vf:=vf123) rfl ?_
 have i0:=XE m r head hm hr hh
 have i0 : V 184 [.agg m.cs,.p (.slice 6 [r.pv]),.p (.int .i64 head)] [] = some (.p (.int .i64 0),[]):=i0
 simp only [Rq.pv] at i0
 have i1:=Zl m r head hm hr
 simp -implicitDefEqProofs (disch:=omega) only [vf123,Rn,i0,i1,go_sem]
theorem OQ (t : Tr) (d : Dv) (hf : t.Fits) (hn : t.nodes.length < 1000000) (hs : d.Small) : V 51 [t.vv,d.vv] [] = some (.p (.bool (Hh t d)),[]):=by
 refine Ae (vf := vf51) rfl ?_
 obtain ⟨hs1, hs2, hs3, hs4, hs5, hs6⟩:=hs
 have j0 := H8 t hf hn
 have j1 := NX d.m d.speed d.margin
 have j2 := Gy d.now 0 1048576
 have j3 := Gy d.free 0 1125899906842624
 have j4 := Gy d.head 0 16777216
 have j5 := OA t d.weights hf hn hs1
 have j6 := Ox t d.depths hf hn hs3
 have j7 := Ks t d.v hf hn hs4
 obtain ⟨X, hX⟩ : ∃ X, Hh t d = X:=⟨_, rfl⟩
 rw [hX]
 unfold Hh at hX
 cases c0 : AZ t with
 | false =>
  rw [c0] at j0
  have hF : X = false:=by
   rw [← hX]
   simp [c0, ]
  simp -implicitDefEqProofs (disch:=omega) only [vf51,D1,llm,j0,hF,go_sem]
 | true =>
  rw [c0] at j0
  rw [c0, Bool.true_and] at j6
  cases c1 : DB d.m d.speed d.margin with
  | false =>
   rw [c1] at j1
   have hF : X = false:=by
    rw [← hX]
    simp [c0, c1, ]
   simp -implicitDefEqProofs (disch:=omega) only [vf51,D1,llm,j0,j1,hF,go_sem]
  | true =>
   rw [c1] at j1
   cases c2 : inZ d.now 0 1048576 with
   | false =>
    rw [c2] at j2
    have hF : X = false:=by
     rw [← hX]
     simp [c0, c1, c2, ]
    simp -implicitDefEqProofs (disch:=omega) only [vf51,D1,llm,j0,j1,j2,hF,go_sem]
   | true =>
    rw [c2] at j2
    cases c3 : inZ d.free 0 1125899906842624 with
    | false =>
     rw [c3] at j3
     have hF : X = false:=by
      rw [← hX]
      simp [c0, c1, c2, c3, ]
     simp -implicitDefEqProofs (disch:=omega) only [vf51,D1,llm,j0,j1,j2,j3,hF,go_sem]
    | true =>
     rw [c3] at j3
     cases c4 : inZ d.head 0 16777216 with
     | false =>
      rw [c4] at j4
      have hF : X = false:=by
       rw [← hX]
       simp [c0, c1, c2, c3, c4, ]
      simp -implicitDefEqProofs (disch:=omega) only [vf51,D1,llm,j0,j1,j2,j3,j4,hF,go_sem]
     | true =>
      rw [c4] at j4
      cases c5 : Gq t d.weights with
      | false =>
       rw [c5] at j5
       have hF : X = false:=by
        rw [← hX]
        simp [c0, c1, c2, c3, c4, c5, ]
       simp -implicitDefEqProofs (disch:=omega) only [vf51,D1,llm,j0,j1,j2,j3,j4,j5,hF,go_sem]
      | true =>
       rw [c5] at j5
       cases c6 : BS (Ak t.nodes) none d.depths with
       | false =>
        rw [c6] at j6
        have hF : X = false:=by
         rw [← hX]
         simp [c0, c1, c2, c3, c4, c5, c6, ]
        simp -implicitDefEqProofs (disch:=omega) only [vf51,D1,llm,j0,j1,j2,j3,j4,j5,j6,hF,go_sem]
       | true =>
        rw [c6] at j6
        cases c7 : B4 t d.v with
        | false =>
         rw [c7] at j7
         have hF : X = false:=by
          rw [← hX]
          simp [c0, c1, c2, c3, c4, c5, c6, c7, ]
         simp -implicitDefEqProofs (disch:=omega) only [vf51,D1,llm,j0,j1,j2,j3,j4,j5,j6,j7,hF,go_sem]
        | true =>
         rw [c7] at j7
         by_cases c8 : d.queue.length + d.flights.length <= 256
         ·have c8a : ¬ (256 : Int) < (d.queue.length : Int) + (d.flights.length : Int):=by omega
          have hY : X = (CG (Ak t.nodes) (BD d.now) none d.buckets && d.queue.all (fun r=>AC r && Ak t.nodes r.group) && Du (Ak t.nodes) none d.flights):=by
           rw [← hX]
           simp [c0,c1,c2,c3,c4,c5,c6,c7,c8,Bool.and_assoc]
          simp -implicitDefEqProofs (disch:=omega) only [vf51,D1,j0,j1,j2,j3,j4,j5,j6,j7,c8a,go_sem]
          obtain ⟨I,hI⟩:=lpI fun k s=>CG (Ak t.nodes) (BD d.now) none d.buckets = CG (Ak t.nodes) (BD d.now) (E7 d.buckets k) (d.buckets.drop k) /\ s.pe 2 = .ptr (.slot 2 0) 0 0 /\ s.pe 3 = .ptr (.slot 3 0) 0 0 /\ s.pe 68 = .p (A5 d.buckets) /\ s.pe 69 = .p (.int .i64 d.buckets.length) /\ s.pe 70 = .p (.int .i64 k) /\ s.h (.slot 2 0) = some (0,.box [.p (Ap t.nodes),.p (.int .i64 t.next)]) /\ s.h (.slot 3 0) = some (0,.box [.p (.int .i64 d.m.rb),.p (.int .i64 d.m.rp),.p (.int .i64 d.m.wb),.p (.int .i64 d.m.wp),.p (.int .i64 d.m.seek),.p (.int .i64 d.speed),.p (.int .i64 d.margin),.p (.int .i64 d.now),.p (.int .i64 d.free),.p (.int .i64 d.head),.p (Aj d.weights),.p (A5 d.buckets),.p (AF d.depths),.p (Aj d.v),.p (AJ d.queue),.p (A4 d.flights)])
          refine Am (d.buckets.length) I ?_ ?_
          ·refine (hI _ _).2 ?_
           and_intros
           ·exact cl3
           all_goals exact cl0
          intro k s hk hIk
          obtain ⟨hq,hH⟩:=(hI _ _).1 hIk
          clear hIk
          simp -implicitDefEqProofs (disch:=omega) only [hH,go_sem]
          refine Af (fun hlt=>?_) (fun hge=>?_)
          ·have hm : d.buckets[k]? = some d.buckets[k]:=lgg hlt
           generalize d.buckets[k] = c at hm
           rw [XM hm] at hq
           have k0 := Ky t c.group hn
           have k1 := Ij c.rp d.now
           have k2 := Ij c.wp d.now
           have k3 := Ij c.ro d.now
           have k4 := Ij c.wo d.now
           have ord : (∃ e,0 < k /\ d.buckets[k - 1]? = some e /\ (Cr (E7 d.buckets k) c.group = decide (e.group < c.group))) \/ (k = 0 /\ Cr (E7 d.buckets k) c.group = true):=by
            cases k with
            | zero => exact .inr ⟨rfl,rfl⟩
            | succ k' =>
             have hk' : k' < d.buckets.length:=by omega
             refine .inl ⟨d.buckets[k'],by omega,by simp,?_⟩
             simp [E7,lgg hk',Cr]
           rcases ord with ⟨e,hk0,he,hpo⟩ | ⟨hk0,hpo⟩
           ·have hk0' : (0 : Int) < k:=by omega
            have hk1 : (0 : Int) <= (k : Int) - 1:=by omega
            have hk2 : ((k : Int) - 1).toNat = k - 1:=by omega
            cases b0 : Ak t.nodes c.group with
            | false =>
             rw [b0] at k0
             have hF : X = false:=by rw [hY,hq]; simp [b0]
             simp -implicitDefEqProofs (disch:=omega) only [hH,hlt,hm,Cp.pv,hk0',hk1,hk2,he,k0,hF,go_sem]
            | true =>
             rw [b0] at k0
             by_cases hR' : e.group < c.group
             ·have hR : ¬ c.group <= e.group:=by omega
              cases c0 : A1 d.now c.rp with
              | false =>
               rw [c0] at k1
               have hF : X = false:=by
                rw [hY,hq]
                simp [c0,BD,b0]
               simp -implicitDefEqProofs (disch:=omega) only [hH,hlt,hm,Cp.pv,hk0',hk1,hk2,he,k0,hR,k1,hF,go_sem]
              | true =>
               rw [c0] at k1
               cases c1 : A1 d.now c.wp with
               | false =>
                rw [c1] at k2
                have hF : X = false:=by
                 rw [hY,hq]
                 simp [c0,c1,BD,b0]
                simp -implicitDefEqProofs (disch:=omega) only [hH,hlt,hm,Cp.pv,hk0',hk1,hk2,he,k0,hR,k1,k2,hF,go_sem]
               | true =>
                rw [c1] at k2
                cases c2 : A1 d.now c.ro with
                | false =>
                 rw [c2] at k3
                 have hF : X = false:=by
                  rw [hY,hq]
                  simp [c0,c1,c2,BD,b0]
                 simp -implicitDefEqProofs (disch:=omega) only [hH,hlt,hm,Cp.pv,hk0',hk1,hk2,he,k0,hR,k1,k2,k3,hF,go_sem]
                | true =>
                 rw [c2] at k3
                 cases c3 : A1 d.now c.wo with
                 | false =>
                  rw [c3] at k4
                  have hF : X = false:=by
                   rw [hY,hq]
                   simp [c0,c1,c2,c3,BD,b0]
                  simp -implicitDefEqProofs (disch:=omega) only [hH,hlt,hm,Cp.pv,hk0',hk1,hk2,he,k0,hR,k1,k2,k3,k4,hF,go_sem]
                 | true =>
                  rw [c3] at k4
                  simp -implicitDefEqProofs (disch:=omega) only [hH,hlt,hm,Cp.pv,hk0',hk1,hk2,he,k0,hR,k1,k2,k3,k4,go_sem]
                  try refine ai ?_
                  refine (hI _ _).2 ?_
                  and_intros
                  .exact by rw [hq]; simp [BD,b0,c0,c1,c2,c3,hpo,hR']
                  all_goals exact cl0
             ·have hR : c.group <= e.group:=by omega
              have hF : X = false:=by rw [hY,hq,hpo]; simp [b0,hR']
              simp -implicitDefEqProofs (disch:=omega) only [hH,hlt,hm,Cp.pv,hk0',hk1,hk2,he,k0,hR,hF,go_sem]
           ·have hk0' : ¬ (0 : Int) < k:=by omega
            cases b0 : Ak t.nodes c.group with
            | false =>
             rw [b0] at k0
             have hF : X = false:=by rw [hY,hq]; simp [b0]
             simp -implicitDefEqProofs (disch:=omega) only [hH,hlt,hm,Cp.pv,hk0',k0,hF,go_sem]
            | true =>
             rw [b0] at k0
             cases c0 : A1 d.now c.rp with
             | false =>
              rw [c0] at k1
              have hF : X = false:=by
               rw [hY,hq]
               simp [c0,BD,b0]
              simp -implicitDefEqProofs (disch:=omega) only [hH,hlt,hm,Cp.pv,hk0',k0,k1,hF,go_sem]
             | true =>
              rw [c0] at k1
              cases c1 : A1 d.now c.wp with
              | false =>
               rw [c1] at k2
               have hF : X = false:=by
                rw [hY,hq]
                simp [c0,c1,BD,b0]
               simp -implicitDefEqProofs (disch:=omega) only [hH,hlt,hm,Cp.pv,hk0',k0,k1,k2,hF,go_sem]
              | true =>
               rw [c1] at k2
               cases c2 : A1 d.now c.ro with
               | false =>
                rw [c2] at k3
                have hF : X = false:=by
                 rw [hY,hq]
                 simp [c0,c1,c2,BD,b0]
                simp -implicitDefEqProofs (disch:=omega) only [hH,hlt,hm,Cp.pv,hk0',k0,k1,k2,k3,hF,go_sem]
               | true =>
                rw [c2] at k3
                cases c3 : A1 d.now c.wo with
                | false =>
                 rw [c3] at k4
                 have hF : X = false:=by
                  rw [hY,hq]
                  simp [c0,c1,c2,c3,BD,b0]
                 simp -implicitDefEqProofs (disch:=omega) only [hH,hlt,hm,Cp.pv,hk0',k0,k1,k2,k3,k4,hF,go_sem]
                | true =>
                 rw [c3] at k4
                 simp -implicitDefEqProofs (disch:=omega) only [hH,hlt,hm,Cp.pv,hk0',k0,k1,k2,k3,k4,go_sem]
                 try refine ai ?_
                 refine (hI _ _).2 ?_
                 and_intros
                 .exact by rw [hq]; simp [BD,b0,c0,c1,c2,c3,hpo]
                 all_goals exact cl0
          ·have hT : CG (Ak t.nodes) (BD d.now) none d.buckets = true:=by
            rw [hq,List.drop_eq_nil_of_le (by omega)]; rfl
           rw [hT,bta] at hY
           simp -implicitDefEqProofs (disch:=omega) only [hH,hge,go_sem]
           obtain ⟨A,hA⟩:=lpI fun k s=>d.queue.all (fun r=>AC r && Ak t.nodes r.group) = (d.queue.drop k).all (fun r=>AC r && Ak t.nodes r.group) /\ s.pe 2 = .ptr (.slot 2 0) 0 0 /\ s.pe 3 = .ptr (.slot 3 0) 0 0 /\ s.pe 130 = .p (AJ d.queue) /\ s.pe 131 = .p (.int .i64 d.queue.length) /\ s.pe 132 = .p (.int .i64 k) /\ s.h (.slot 2 0) = some (0,.box [.p (Ap t.nodes),.p (.int .i64 t.next)]) /\ s.h (.slot 3 0) = some (0,.box [.p (.int .i64 d.m.rb),.p (.int .i64 d.m.rp),.p (.int .i64 d.m.wb),.p (.int .i64 d.m.wp),.p (.int .i64 d.m.seek),.p (.int .i64 d.speed),.p (.int .i64 d.margin),.p (.int .i64 d.now),.p (.int .i64 d.free),.p (.int .i64 d.head),.p (Aj d.weights),.p (A5 d.buckets),.p (AF d.depths),.p (Aj d.v),.p (AJ d.queue),.p (A4 d.flights)])
           refine Am (d.queue.length) A ?_ ?_
           ·refine (hA _ _).2 ?_
            and_intros
            ·exact cl3
            all_goals exact cl0
           intro k s hk hAk
           obtain ⟨hq,hH⟩:=(hA _ _).1 hAk
           clear hAk
           simp -implicitDefEqProofs (disch:=omega) only [hH,go_sem]
           refine Af (fun hlt=>?_) (fun hge=>?_)
           ·have hm : d.queue[k]? = some d.queue[k]:=lgg hlt
            have hlt2 : k < d.queue.length:=by omega
            have hd : (d.queue.drop k).all (fun r=>AC r && Ak t.nodes r.group) = ((AC d.queue[k] && Ak t.nodes d.queue[k].group) && (d.queue.drop (k + 1)).all (fun r=>AC r && Ak t.nodes r.group)):=by
             rw [ldg (by omega),List.all_cons]
            generalize d.queue[k] = c at hm hd
            rw [hd] at hq
            have k0:=Nj t c hn
            cases b0 : AC c && Ak t.nodes c.group with
            | false =>
             rw [b0] at k0 hq
             have hF : X = false:=by rw [hY,hq,bfa,bfa]
             simp -implicitDefEqProofs (disch:=omega) only [hH,hlt,hm,k0,hF,go_sem]
            | true =>
             rw [b0] at k0 hq
             simp -implicitDefEqProofs (disch:=omega) only [hH,hlt,hm,k0,go_sem]
             try refine ai ?_
             refine (hA _ _).2 ?_
             and_intros
             ·exact hq.trans (bta _)
             all_goals exact cl0
           ·have hT : d.queue.all (fun r=>AC r && Ak t.nodes r.group) = true:=by
             rw [hq,List.drop_eq_nil_of_le (by omega)]; rfl
            rw [hT,bta] at hY
            simp -implicitDefEqProofs (disch:=omega) only [hH,hge,go_sem]
            obtain ⟨B,hB⟩:=lpI fun k s=>Du (Ak t.nodes) none d.flights = Du (Ak t.nodes) (E5 d.flights k) (d.flights.drop k) /\ s.pe 2 = .ptr (.slot 2 0) 0 0 /\ s.pe 3 = .ptr (.slot 3 0) 0 0 /\ s.pe 142 = .p (A4 d.flights) /\ s.pe 143 = .p (.int .i64 d.flights.length) /\ s.pe 144 = .p (.int .i64 k) /\ s.h (.slot 2 0) = some (0,.box [.p (Ap t.nodes),.p (.int .i64 t.next)]) /\ s.h (.slot 3 0) = some (0,.box [.p (.int .i64 d.m.rb),.p (.int .i64 d.m.rp),.p (.int .i64 d.m.wb),.p (.int .i64 d.m.wp),.p (.int .i64 d.m.seek),.p (.int .i64 d.speed),.p (.int .i64 d.margin),.p (.int .i64 d.now),.p (.int .i64 d.free),.p (.int .i64 d.head),.p (Aj d.weights),.p (A5 d.buckets),.p (AF d.depths),.p (Aj d.v),.p (AJ d.queue),.p (A4 d.flights)])
            refine Am (d.flights.length) B ?_ ?_
            ·refine (hB _ _).2 ?_
             and_intros
             ·exact cl3
             all_goals exact cl0
            intro k s hk hBk
            obtain ⟨hq,hH⟩:=(hB _ _).1 hBk
            clear hBk
            simp -implicitDefEqProofs (disch:=omega) only [hH,go_sem]
            refine Af (fun hlt=>?_) (fun hge=>?_)
            ·have hm : d.flights[k]? = some d.flights[k]:=lgg hlt
             generalize d.flights[k] = c at hm
             rw [Xu hm] at hq
             have k0:=Nj t c.r hn
             have k1:=Gy c.done 0 1125899906842624
             have ord : (∃ e,0 < k /\ d.flights[k - 1]? = some e /\ (Fz (E5 d.flights k) c.done = decide (e.done <= c.done))) \/ (k = 0 /\ Fz (E5 d.flights k) c.done = true):=by
              cases k with
              | zero=>exact .inr ⟨rfl,rfl⟩
              | succ k' =>
               have hk' : k' < d.flights.length:=by omega
               refine .inl ⟨d.flights[k'],by omega,by simp,?_⟩
               simp [E5,lgg hk',Fz]
             rcases ord with ⟨e,hk0,he,hpo⟩ | ⟨hk0,hpo⟩
             ·have hk0' : (0 : Int) < k:=by omega
              have hk1 : (0 : Int) <= (k : Int) - 1:=by omega
              have hk2 : ((k : Int) - 1).toNat = k - 1:=by omega
              cases b0 : AC c.r && Ak t.nodes c.r.group with
              | false =>
               rw [b0] at k0 hq
               have hF : X = false:=by rw [hY,hq,bfa,bfa,bfa]
               simp -implicitDefEqProofs (disch:=omega) only [hH,hlt,hm,hk0',hk1,hk2,he,k0,hF,go_sem]
              | true =>
               rw [b0] at k0 hq
               cases b1 : inZ c.done 0 1125899906842624 with
               | false =>
                rw [b1] at k1 hq
                have hF : X = false:=by rw [hY,hq]; rfl
                simp -implicitDefEqProofs (disch:=omega) only [hH,hlt,hm,hk0',hk1,hk2,he,k0,k1,hF,go_sem]
               | true =>
                rw [b1,hpo] at hq
                rw [b1] at k1
                by_cases hR' : e.done <= c.done
                ·have hR : ¬ c.done < e.done:=by omega
                 rw [decide_eq_true hR'] at hq
                 simp -implicitDefEqProofs (disch:=omega) only [hH,hlt,hm,hk0',hk1,hk2,he,k0,k1,hR,go_sem]
                 try refine ai ?_
                 refine (hB _ _).2 ?_
                 and_intros
                 .exact by simpa using hq
                 all_goals exact cl0
                ·have hR : c.done < e.done:=by omega
                 rw [decide_eq_false hR'] at hq
                 have hF : X = false:=by rw [hY,hq]; rfl
                 simp -implicitDefEqProofs (disch:=omega) only [hH,hlt,hm,hk0',hk1,hk2,he,k0,k1,hR,hF,go_sem]
             ·have hk0' : ¬ (0 : Int) < k:=by omega
              cases b0 : AC c.r && Ak t.nodes c.r.group with
              | false =>
               rw [b0] at k0 hq
               have hF : X = false:=by rw [hY,hq,bfa,bfa,bfa]
               simp -implicitDefEqProofs (disch:=omega) only [hH,hlt,hm,hk0',k0,hF,go_sem]
              | true =>
               rw [b0] at k0 hq
               cases b1 : inZ c.done 0 1125899906842624 with
               | false =>
                rw [b1] at k1 hq
                have hF : X = false:=by rw [hY,hq]; rfl
                simp -implicitDefEqProofs (disch:=omega) only [hH,hlt,hm,hk0',k0,k1,hF,go_sem]
               | true =>
                rw [b1,hpo] at hq
                rw [b1] at k1
                simp -implicitDefEqProofs (disch:=omega) only [hH,hlt,hm,hk0',k0,k1,go_sem]
                try refine ai ?_
                refine (hB _ _).2 ?_
                and_intros
                .exact by simpa using hq
                all_goals exact cl0
            ·have hT : Du (Ak t.nodes) none d.flights = true:=by
              rw [hq,List.drop_eq_nil_of_le (by omega)]; rfl
             rw [hT] at hY
             simp -implicitDefEqProofs (disch:=omega) only [hH,hge,hY,go_sem]
         ·have c8a : (256 : Int) < (d.queue.length : Int) + (d.flights.length : Int):=by omega
          have hF : X = false:=by
           rw [<- hX]
           simp [c8]
          simp -implicitDefEqProofs (disch:=omega) only [vf51,D1,j0,j1,j2,j3,j4,j5,j6,j7,c8a,hF,go_sem]
theorem Iz {b : Bk} (h : Cj b = true) : AD b b.now = b:=by
 rw [Bu] at h
 obtain ⟨_,_,hc⟩:=h
 unfold AD
 rcases hc with ⟨e,_,_⟩ | ⟨e,hr,hb,hl⟩
 .rw [if_pos e]
 .rw [if_neg e,Int.sub_self,Int.mul_zero,Int.add_zero,show min b.level (b.burst * b.per) = b.level by omega]
theorem Zo (b : Bk) (n : Int) (h : Cj b = true) (hn : 0 <= n /\ n <= AN b) : V 188 [b.vv,.p (.int .i64 b.now),.p (.int .i64 n)] [] = some (.tup [(Bc b n).vv,.p (.int .i64 0)],[]):=by
 refine Ae (vf:=vf188) rfl ?_
 have hw:=((Bu.1 h).2.1)
 have i0:=Gn b b.now h (Int.le_refl _) hw.2
 rw [Iz h] at i0
 have i1:=IJ b h
 have op:=Hg b
 have hlt : ¬ AN b < n:=by omega
 have ht : AN b <= 1073741824:=by
  unfold AN
  split
  ·omega
  ·rename_i e
   rcases (Bu.1 h).2.2 with ⟨e',_⟩ | ⟨_,hr,hb,hl⟩
   ·exact absurd e' e
   ·have h1:=Int.ediv_le_ediv (show 0 < b.per by have:=(Bu.1 h).1; omega) hl.2
    rw [Int.mul_ediv_cancel _ (show b.per ≠ 0 by have:=(Bu.1 h).1; omega)] at h1
    omega
 have i2:=E2 n 0 1073741824
 rw [show inZ n 0 1073741824 = true from Cn.2 ⟨hn.1,by omega⟩] at i2
 unfold Bc
 by_cases e : b.rate = maxR
 ·rw [if_pos e]
  rw [decide_eq_true e] at op
  simp -implicitDefEqProofs (disch:=omega) only [vf188,IZ,i0,i1,i2,op,hlt,go_sem]
 ·rw [if_neg e]
  rw [decide_eq_false e] at op
  have e2 : AN b = b.level / b.per:=by unfold AN; rw [if_neg e]
  rw [if_neg (by omega)]
  rcases (Bu.1 h).2.2 with ⟨e',_⟩ | ⟨_,hr,hb,hl⟩
  ·exact absurd e' e
  ·have hp:=(Bu.1 h).1
   have hk : n * b.per <= b.level:=by
    have:=Int.mul_le_mul_of_nonneg_right (show n <= b.level / b.per by omega) (show 0 <= b.per by omega)
    have h9:=Int.ediv_mul_le b.level (show b.per ≠ 0 by omega)
    omega
   have hk0 : 0 <= n * b.per:=Int.mul_nonneg hn.1 (by omega)
   have hl1:=B1 hb.1 hb.2 (show 0 <= b.per by omega) hp.2
   simp -implicitDefEqProofs (disch:=omega) only [vf188,IZ,i0,i1,i2,op,hlt,go_sem]
abbrev Ab (t : Tr) (d : Dv) : Ob:=.box [.p (.int .i64 d.m.rb),.p (.int .i64 d.m.rp),.p (.int .i64 d.m.wb),.p (.int .i64 d.m.wp),.p (.int .i64 d.m.seek),.p (.int .i64 d.speed),.p (.int .i64 d.margin),.p (.int .i64 d.now),.p (.int .i64 d.free),.p (.int .i64 d.head),.own (.arg 1 0) 0 0 d.weights.length,.own (.arg 2 0) 0 0 d.buckets.length,.own (.arg 3 0) 0 0 d.depths.length,.p (Aj d.v),.own (.arg 4 0) 0 0 d.queue.length,.own (.arg 5 0) 0 0 d.flights.length,.p (Ap t.nodes),.p (.int .i64 t.next)]
abbrev mH (t : Tr) (d : Dv) : List Ob:=[Ab t d,.arr 2 (d.weights.map Ch.pv),.arr 21 (d.buckets.map Cp.pv),.arr 3 (d.depths.map Dp.pv),.arr 6 (d.queue.map Rq.pv),.arr 7 (d.flights.map Fl.pv)]
theorem YK (t : Tr) (d : Dv) (id : Int) (hb : d.buckets.length < 1000000) : V 159 [.ptr (.arg 0 0) 0 0,.p (.int .i64 id)] (mH t d) = some (.p (.int .i64 (Cd (fun c=>decide (c.group = id)) d.buckets)),mH t d):=by
 refine Ae (vf:=vf159) rfl ?_
 have i0:=Qd d.buckets id hb
 simp -implicitDefEqProofs (disch:=omega) only [vf159,Lv,i0,go_sem]
theorem Pq (xs : List PV) (i : Nat) (w : Bool) : V 180 [.eptr (.arg 0 0) 0 i 0,.p (.bool w)] [.arr 21 xs] = some (.tup [.eptr (.arg 0 0) 0 i (if w then 6 else 1),.eptr (.arg 0 0) 0 i (if w then 16 else 11)],[.arr 21 xs]):=by
 refine Ae (vf:=vf180) rfl ?_
 cases w with
 | false=>simp -implicitDefEqProofs (disch:=omega) only [vf180,Lu,go_sem]
 | true=>simp -implicitDefEqProofs (disch:=omega) only [vf180,Lu,go_sem]
theorem XQ (t : Tr) (d : Dv) (hq : d.queue.length < 1000000) (hf : d.flights.length < 1000000) : V 125 [.ptr (.arg 0 0) 0 0] (mH t d) = some (.fresh 1 ((actL d).map (.int .i64)),mH t d):=by
 refine Ae (vf:=vf125) rfl ?_
 simp -implicitDefEqProofs (disch:=omega) only [vf125,Rm,go_sem]
 refine Am d.queue.length (fun k s=>∃ (acc : List Int) (v : Nat),acc = (d.queue.take k).map (·.group) /\ acc.length = k /\ s.pe 0 = .ptr (.arg 0 0) 0 0 /\ s.pe 3 = .own (.slot 3 0) v 0 acc.length /\ s.pe 12 = .own (.arg 4 0) 0 0 d.queue.length /\ s.pe 13 = .p (.int .i64 d.queue.length) /\ s.pe 14 = .p (.int .i64 k) /\ s.h (.slot 3 0) = some (v,.arr 1 (acc.map (.int .i64))) /\ s.h (.arg 0 0) = some (0,Ab t d) /\ s.h (.arg 1 0) = some (0,.arr 2 (d.weights.map Ch.pv)) /\ s.h (.arg 2 0) = some (0,.arr 21 (d.buckets.map Cp.pv)) /\ s.h (.arg 3 0) = some (0,.arr 3 (d.depths.map Dp.pv)) /\ s.h (.arg 4 0) = some (0,.arr 6 (d.queue.map Rq.pv)) /\ s.h (.arg 5 0) = some (0,.arr 7 (d.flights.map Fl.pv))) ?_ ?_
 ·exact ⟨[],0,rfl,rfl,rfl,rfl,rfl,rfl,rfl,rfl,rfl,rfl,rfl,rfl,rfl,rfl⟩
 ·rintro k s hk ⟨acc,v,hacc,hlen,h0,h3,h12,h13,h14,g3,a0,a1,a2,a3,a4,a5⟩
  simp -implicitDefEqProofs (disch:=omega) only [h0,h3,h12,h13,h14,g3,a0,a1,a2,a3,a4,a5,go_sem]
  refine Af (fun hlt=>?_) (fun hge=>?_)
  ·have hm : d.queue[k]? = some d.queue[k]:=lgg hlt
   have htk : (d.queue.take (k + 1)).map (·.group) = (d.queue.take k).map (·.group) ++ [d.queue[k].group]:=by
    rw [List.take_add_one,hm,lma]; rfl
   generalize d.queue[k] = m at hm htk
   simp -implicitDefEqProofs (disch:=omega) only [h0,h3,h12,h13,h14,g3,a0,a1,a2,a3,a4,a5,hm,hlt,go_sem]
   refine ⟨acc ++ [m.group],v + 1,by rw [htk,hacc],by simp [hlen],?_⟩
   simp [h0,h3,h12,h13,h14,g3,a0,a1,a2,a3,a4,a5]
  ·simp -implicitDefEqProofs (disch:=omega) only [h0,h3,h12,h13,h14,g3,a0,a1,a2,a3,a4,a5,hge,go_sem]
   rw [ltl (by omega)] at hacc
   refine Am d.flights.length (fun k s=>∃ (acc : List Int) (v : Nat),acc = d.queue.map (·.group) ++ (d.flights.take k).map (·.r.group) /\ acc.length = d.queue.length + k /\ s.pe 0 = .ptr (.arg 0 0) 0 0 /\ s.pe 3 = .own (.slot 3 0) v 0 acc.length /\ s.pe 28 = .own (.arg 5 0) 0 0 d.flights.length /\ s.pe 29 = .p (.int .i64 d.flights.length) /\ s.pe 30 = .p (.int .i64 k) /\ s.h (.slot 3 0) = some (v,.arr 1 (acc.map (.int .i64))) /\ s.h (.arg 0 0) = some (0,Ab t d) /\ s.h (.arg 1 0) = some (0,.arr 2 (d.weights.map Ch.pv)) /\ s.h (.arg 2 0) = some (0,.arr 21 (d.buckets.map Cp.pv)) /\ s.h (.arg 3 0) = some (0,.arr 3 (d.depths.map Dp.pv)) /\ s.h (.arg 4 0) = some (0,.arr 6 (d.queue.map Rq.pv)) /\ s.h (.arg 5 0) = some (0,.arr 7 (d.flights.map Fl.pv))) ?_ ?_
   ·exact ⟨acc,v,by simpa using hacc,by rw [hacc]; simp,by simp [go_sem,h0],by simp [go_sem,h3],by simp [go_sem],by simp [go_sem],by simp [go_sem],by simp [g3],by simp [a0],by simp [a1],by simp [a2],by simp [a3],by simp [a4],by simp [a5]⟩
   ·clear hacc hlen h0 h3 h12 h13 h14 g3 a0 a1 a2 a3 a4 a5 hge hk
    rintro k s hk ⟨acc,v,hacc,hlen,h0,h3,h12,h13,h14,g3,a0,a1,a2,a3,a4,a5⟩
    simp -implicitDefEqProofs (disch:=omega) only [h0,h3,h12,h13,h14,g3,a0,a1,a2,a3,a4,a5,go_sem]
    refine Af (fun hlt=>?_) (fun hge=>?_)
    ·have hm : d.flights[k]? = some d.flights[k]:=lgg hlt
     have htk : (d.flights.take (k + 1)).map (·.r.group) = (d.flights.take k).map (·.r.group) ++ [d.flights[k].r.group]:=by
      rw [List.take_add_one,hm,lma]; rfl
     generalize d.flights[k] = m at hm htk
     simp -implicitDefEqProofs (disch:=omega) only [h0,h3,h12,h13,h14,g3,a0,a1,a2,a3,a4,a5,hm,hlt,go_sem]
     refine ⟨acc ++ [m.r.group],v + 1,by rw [htk,hacc,laa],by simp [hlen]; omega,?_⟩
     simp [h0,h3,h12,h13,h14,g3,a0,a1,a2,a3,a4,a5]
    ·rw [ltl (by omega)] at hacc
     have hA : actL d = acc:=by rw [hacc]; rfl
     rw [hA]
     simp -implicitDefEqProofs (disch:=omega) only [h0,h3,h12,h13,h14,g3,a0,a1,a2,a3,a4,a5,hge,go_sem]
def RepM (ks : List MKey) (vs : List PV) (f : Int -> Int) : Prop:=∀ id,(AW ks vs (.int id)).getD (.int .i64 0) = .int .i64 (f id)
theorem RepM.put {ks : List MKey} {vs : List PV} {f : Int -> Int} (h : RepM ks vs f) (g v : Int) : RepM (Av ks vs (.int g) (.int .i64 v)).1 (Av ks vs (.int g) (.int .i64 v)).2 (fun x=>if x = g then v else f x):=by
 intro id
 rw [F7]
 by_cases hg : id = g
 ·subst hg
  simp
 ·simp [hg]
  exact h id
theorem RepM.congr {ks : List MKey} {vs : List PV} {f g : Int -> Int} (h : RepM ks vs f) (he : ∀ x,f x = g x) : RepM ks vs g:=fun id=>by rw [<- he]; exact h id
theorem RepM.nil : RepM [] [] fun _=>0:=fun _=>rfl
def flyL (t : Tr) (fs : List Fl) : List Ch:=(t.nodes.filter fun n=>decide (0 < AG fs n.id)).map fun n=>⟨n.id,AG fs n.id⟩
theorem FY (fs : List Fl) (id : Int) : 0 <= AG fs id:=by unfold AG; omega
theorem Hp (fs : List Fl) (id : Int) : AG fs id <= fs.length:=by
 unfold AG
 have:=List.length_filter_le (fun f : Fl=>decide (f.r.group = id)) fs
 omega
theorem PX {f : Int -> Int} (h0 : ∀ x,0 <= f x) : ∀ {L : List Nd},(L.Pairwise fun a b=>a.id < b.id) -> ∀ n ∈ L,An ((L.filter fun n=>decide (0 < f n.id)).map fun n=>(⟨n.id,f n.id⟩ : Ch)) n.id = f n.id
 | [],_,n,hn=>by cases hn
 | x :: L,hp,n,hn=>by
  rw [lpw] at hp
  have ih:=PX h0 hp.2
  by_cases hx : 0 < f x.id
  ·rw [List.filter_cons_of_pos (by simpa using hx),lpc,Km]
   rcases lmk.1 hn with rfl | hn
   ·simp
   ·have:=hp.1 n hn
    simp only
    rw [if_neg (by omega)]
    exact ih n hn
  ·rw [List.filter_cons_of_neg (by simpa using hx)]
   rcases lmk.1 hn with rfl | hn
   ·have:=h0 n.id
    rw [Oi]
    ·omega
    ·intro c hc
     obtain ⟨m,hm,rfl⟩:=lmm.1 hc
     have:=hp.1 m (List.mem_filter.1 hm).1
     simp only
     omega
   .exact ih n hn
theorem Y1 {t : Tr} (h : TreeOk t) (fs : List Fl) {n : Nd} (hn : n ∈ t.nodes) : An (flyL t fs) n.id = AG fs n.id:=PX (FY fs) h.inc n hn
theorem Px {t : Tr} (h : TreeOk t) (fs : List Fl) : (flyL t fs).Pairwise fun a b=>a.group < b.group:=by
 unfold flyL
 rw [List.pairwise_map]
 exact h.inc.filter _
theorem KU {t : Tr} {fs : List Fl} {c : Ch} (hc : c ∈ flyL t fs) : ∃ n ∈ t.nodes,c.group = n.id /\ c.own = AG fs n.id:=by
 unfold flyL at hc
 obtain ⟨n,hn,rfl⟩:=lmm.1 hc
 exact ⟨n,(List.mem_filter.1 hn).1,rfl,rfl⟩
theorem KV (t : Tr) (fs : List Fl) : (flyL t fs).length <= t.nodes.length:=by
 unfold flyL
 rw [llm]
 exact List.length_filter_le _ _
theorem F8 {t : Tr} (h : TreeOk t) {n : Nd} (hn : n ∈ t.nodes) : AP t.nodes n.id = some n:=by
 obtain ⟨i,hi⟩:=lgm hn
 exact Dx h.inc hi
theorem O2 {t : Tr} (h : TreeOk t) (fs : List Fl) {g : Int} (hg : Ak t.nodes g = true) : (BM t g).map (An (flyL t fs)) = (AB t.nodes t.nodes.length g).map (AG fs) /\ BM t g = AB t.nodes t.nodes.length g:=by
 obtain ⟨n,hn,rfl⟩:=CS hg
 obtain ⟨i,hi⟩:=lgm hn
 have e : BM t n.id = AB t.nodes t.nodes.length n.id:=by
  unfold BM
  rw [if_pos (by rw [A3,if_pos ((BH t).2 h),F8 h hn]; rfl)]
 refine ⟨?_,e⟩
 rw [e]
 refine List.map_congr_left fun x hx=>?_
 obtain ⟨j,m,hm,rfl,_⟩:=(Gd h t.nodes.length i n hi (by omega) x).1 hx
 exact Y1 h fs (lmg hm)
theorem OT {t : Tr} (h : TreeOk t) {id : Int} (hid : Ak t.nodes id = true) : ∀ g ∈ ancF t.nodes t.nodes.length id,Ak t.nodes g = true:=by
 intro g hg
 obtain ⟨n,hn,rfl⟩:=CS hid
 obtain ⟨i,hi⟩:=lgm hn
 obtain ⟨j,m,_,hm,rfl⟩:=IS h i n hi g hg
 unfold Ak
 rw [F8 h (lmg hm)]
 rfl
theorem V3 {l : List Ch} (h : ∀ c ∈ l,0 <= c.own /\ c.own <= 256) (x : Int) : 0 <= An l x /\ An l x <= 256:=by
 induction l with
 | nil=>exact ⟨Int.le_refl _,by show (0 : Int) <= 256; omega⟩
 | cons c l ih =>
  rw [Km]
  simp only
  split
  .exact h c (lms ..)
  .exact ih fun d hd=>h d (lmc _ hd)
theorem KE {f : Int -> Int} (h : ∀ x,0 <= f x /\ f x <= 256) : ∀ l : List Int,0 <= Ag (l.map f) /\ Ag (l.map f) <= 256 * l.length
 | []=>by simp [Ag]
 | x :: l=>by
  have:=KE h l
  have:=h x
  simp only [lpc,Ag,llc,Int.natCast_add,Int.natCast_one]
  omega
theorem zac (l : List Dp) (id : Int) (hl : l.length < 1000000) : V 164 [.p (AF l),.p (.int .i64 id)] [] = some ((getD l id).vv,[]):=by
 refine Ae (vf:=vf164) rfl ?_
 have i0:=YO id
 simp -implicitDefEqProofs (disch:=omega) only [vf164,Q6,go_sem]
 obtain ⟨I,hI⟩:=lpI fun k s=>getD l id = getD (l.drop k) id /\ s.pe 1 = .p (.int .i64 id) /\ s.pe 4 = .ptr (.slot 4 0) 0 0 /\ s.pe 7 = .p (AF l) /\ s.pe 8 = .p (.int .i64 ↑l.length) /\ s.pe 9 = .p (.int .i64 k) /\ s.h (.slot 4 0) = some (0,Ob.box [.p (.int .i64 0),.p (.int .i64 0),.p (.int .i64 0)])
 refine Am (l.length) I ?_ ?_
 ·refine (hI _ _).2 ?_
  and_intros
  ·exact cl3
  all_goals first | exact cl0 | (simp -implicitDefEqProofs (disch:=omega) only [lma,go_sem] <;> first | (simp [Ag]; done) | (simp [Ag]; omega))
 intro k s hk hIk
 obtain ⟨hq,hH⟩:=(hI _ _).1 hIk
 clear hIk
 simp -implicitDefEqProofs (disch:=omega) only [hH,go_sem]
 refine Af (fun hlt=>?_) (fun hge=>?_)
 ·have hm : l[k]? = some l[k]:=lgg hlt
  rw [ldg hlt,getD] at hq
  generalize l[k] = c at hm hq
  by_cases hc : c.group = id
  ·rw [if_pos hc] at hq
   subst hc
   simp -implicitDefEqProofs (disch:=omega) only [hH,hlt,hm,hq,go_sem]
  ·rw [if_neg hc] at hq
   simp -implicitDefEqProofs (disch:=omega) only [hH,hlt,hm,hc,go_sem]
   try refine ai ?_
   refine (hI _ _).2 ?_
   and_intros
   .exact hq
   all_goals first | exact cl0 | (simp -implicitDefEqProofs (disch:=omega) only [hH,lma,go_sem] <;> first | (simp [Ag]; done) | (simp [Ag]; omega))
 ·have hq' : getD l id = ⟨id,0,256⟩:=by
   rw [hq,List.drop_eq_nil_of_le (by omega)]
   rfl
  simp -implicitDefEqProofs (disch:=omega) only [hH,hge,i0,hq',go_sem]
theorem Xg {t : Tr} (h : TreeOk t) (ds : List Dp) (fs : List Fl) (id : Int) (hds : BS (Ak t.nodes) none ds = true) (hdl : ds.length < 1000000) (hfl : fs.length <= 256) (hid : Ak t.nodes id = true) :
  V 177 [t.vv,.p (AF ds),.p (Aj (flyL t fs)),.p (.int .i64 id)] [] = some (.tup [.p (.bool (EI t ds fs id)),.p (.int .i64 0)],[]):=by
 refine Ae (vf:=vf177) rfl ?_
 have hlen:=h.len
 have j0:=Ox t ds h.fits (by omega) hdl
 rw [(BH t).2 h,hds,bta] at j0
 have hL1:=Px h fs
 have hL2:=fun c=>KU (t:=t) (fs:=fs) (c:=c)
 have hL3:=KV t fs
 have hL4 : ∀ c ∈ flyL t fs,0 <= c.own /\ c.own <= 256:=fun c hc=>by
  obtain ⟨n,hn,_,e⟩:=hL2 c hc
  rw [e]
  have:=FY fs n.id
  have:=Hp fs n.id
  omega
 have hAl : EI t ds fs id = (ancF t.nodes t.nodes.length id).all fun g=>decide (Ag ((BM t g).map (An (flyL t fs))) < (getD ds g).depth):=by
  unfold EI El
  rw [Bool.eq_iff_iff,List.all_eq_true,List.all_eq_true]
  refine forall_congr' fun g=>forall_congr' fun hg=>?_
  rw [(O2 h fs (OT h hid g hg)).1]
 have hKn : ∀ c ∈ flyL t fs,(AP t.nodes c.group).isSome = true:=fun c hc=>by
  obtain ⟨n,hn,e,_⟩:=hL2 c hc
  rw [e,F8 h hn]
  rfl
 rw [hAl]
 generalize flyL t fs = l at hL1 hL2 hL3 hL4 hKn
 simp -implicitDefEqProofs (disch:=omega) only [vf177,Q2,j0,go_sem]
 obtain ⟨I,hI⟩:=lpI fun k s=>∃ (ks : List MKey) (vs : List PV),RepM ks vs (An (l.take k)) /\ s.pe 1 = .p (AF ds) /\ s.pe 2 = .p (Aj l) /\ s.pe 3 = .p (.int .i64 id) /\ s.pe 4 = .ptr (.slot 4 0) 0 0 /\ s.pe 10 = .mref (.slot 26 0) 0 /\ s.pe 27 = .p (Aj l) /\ s.pe 28 = .p (.int .i64 ↑l.length) /\ s.pe 29 = .p (.int .i64 k) /\ s.h (.slot 4 0) = some (0,Ob.box [.p (Ap t.nodes),.p (.int .i64 t.next)]) /\ s.h (.slot 26 0) = some (0,Ob.map (KT.int IntKind.i64) ks vs)
 refine Am (l.length) I ?_ ?_
 ·refine (hI _ _).2 ⟨[],[],?_⟩
  and_intros
  ·exact RepM.nil
  all_goals first | exact cl0 | (simp -implicitDefEqProofs (disch:=omega) only [h1,h4,h7,h8,h9,hh4_0,lma,go_sem] <;> first | (simp [Ag]; done) | (simp [Ag]; omega))
 intro k s hk hIk
 obtain ⟨ks,vs,hrep,h1,h2,h3,h4,h10,h27,h28,h29,hh4_0,hh26_0⟩:=(hI _ _).1 hIk
 clear hIk
 simp -implicitDefEqProofs (disch:=omega) only [h1,h2,h3,h4,h10,h27,h28,h29,hh4_0,hh26_0,go_sem]
 refine Af (fun hlt=>?_) (fun hge=>?_)
 ·have hm : l[k]? = some l[k]:=lgg hlt
  have htk:=BT hm
  have hfr:=Y0 hL1 hm
  generalize l[k] = c at hm htk hfr
  have hcm:=lmg hm
  have hnew:=(hrep.put c.group c.own).congr (g:=An (l.take (k + 1))) fun x=>by
   rw [htk,Oj c x _ hfr]
  have hfi:=Ge t c.group (by omega)
  rw [hKn c hcm] at hfi
  generalize (AP t.nodes c.group).getD zeroNd = nd at hfi
  have i1:=Ln c.own 0 256
  rw [show inZ c.own 0 256 = true from Cn.2 (hL4 c hcm)] at i1
  by_cases hk0 : k = 0
  ·have hk0' : ¬ (0 : Int) < k:=by omega
   simp -implicitDefEqProofs (disch:=omega) only [h1,h2,h3,h4,h10,h27,h28,h29,hh4_0,hh26_0,hlt,hm,hfi,Nd.vv,hk0',i1,go_sem]
   try refine ai ?_
   refine (hI _ _).2 ⟨(Av ks vs (.int c.group) (.int .i64 c.own)).1,(Av ks vs (.int c.group) (.int .i64 c.own)).2,?_⟩
   and_intros
   ·exact hnew
   all_goals first | exact cl0 | (simp -implicitDefEqProofs (disch:=omega) only [h1,h2,h3,h4,h10,h27,h28,h29,hh4_0,hh26_0,lma,go_sem] <;> first | (simp [Ag]; done) | (simp [Ag]; omega))
  ·have hpk : l[k - 1]? = some l[k - 1]:=lgg (by omega)
   have hpl : l[k - 1].group < c.group:=by
    have:=List.pairwise_iff_getElem.1 hL1 (k - 1) k (by omega) hlt (by omega)
    rw [(lgs.1 hm).2] at this
    exact this
   generalize l[k - 1] = p at hpk hpl
   have hk0' : (0 : Int) < k:=by omega
   have hk1 : (0 : Int) <= (k : Int) - 1:=by omega
   have hk2 : ((k : Int) - 1).toNat = k - 1:=by omega
   have hpg : ¬ c.group <= p.group:=by omega
   simp -implicitDefEqProofs (disch:=omega) only [h1,h2,h3,h4,h10,h27,h28,h29,hh4_0,hh26_0,hlt,hm,hfi,Nd.vv,hk0',hk1,hk2,hpk,hpg,i1,go_sem]
   try refine ai ?_
   refine (hI _ _).2 ⟨(Av ks vs (.int c.group) (.int .i64 c.own)).1,(Av ks vs (.int c.group) (.int .i64 c.own)).2,?_⟩
   and_intros
   ·exact hnew
   all_goals first | exact cl0 | (simp -implicitDefEqProofs (disch:=omega) only [h1,h2,h3,h4,h10,h27,h28,h29,hh4_0,hh26_0,lma,go_sem] <;> first | (simp [Ag]; done) | (simp [Ag]; omega))
 ·rw [ltl (by omega)] at hrep
  have hfi:=Ge t id (by omega)
  have hid' : (AP t.nodes id).isSome = true:=hid
  rw [hid'] at hfi
  generalize (AP t.nodes id).getD zeroNd = nd at hfi
  have c1:=II t id (by omega)
  have hal:=D4 t.nodes t.nodes.length id
  have hA : ∀ g ∈ ancF t.nodes t.nodes.length id,True:=fun _ _=>trivial
  have hob:=V3 hL4
  generalize ancF t.nodes t.nodes.length id = A at c1 hal hA
  simp -implicitDefEqProofs (disch:=omega) only [h1,h2,h3,h4,h10,h27,h28,h29,hh4_0,hh26_0,hge,hfi,Nd.vv,c1,go_sem]
  obtain ⟨J,hJ⟩:=lpI fun j s=>∃ (v80_1 : Nat),(A.all fun g=>decide (Ag ((BM t g).map (An l)) < (getD ds g).depth)) = ((A.drop j).all fun g=>decide (Ag ((BM t g).map (An l)) < (getD ds g).depth)) /\ s.pe 1 = .p (AF ds) /\ s.pe 4 = .ptr (.slot 4 0) 0 0 /\ s.pe 10 = .mref (.slot 26 0) 0 /\ s.pe 80 = .own (.slot 80 1) v80_1 0 A.length /\ s.pe 81 = .p (.int .i64 ↑A.length) /\ s.pe 82 = .p (.int .i64 j) /\ s.h (.slot 4 0) = some (0,Ob.box [.p (Ap t.nodes),.p (.int .i64 t.next)]) /\ s.h (.slot 26 0) = some (0,Ob.map (KT.int IntKind.i64) ks vs) /\ s.h (.slot 80 1) = some (v80_1,Ob.arr 1 (List.map (.int .i64) A))
  refine Am (A.length) J ?_ ?_
  ·refine (hJ _ _).2 ⟨nv (s.h (.slot 80 1)),?_⟩
   and_intros
   ·exact cl3
   all_goals first | exact cl0 | (simp -implicitDefEqProofs (disch:=omega) only [h1,h2,h3,h4,h10,h27,h28,h29,hh4_0,hh26_0,lma,go_sem] <;> first | (simp [Ag]; done) | (simp [Ag]; omega))
  intro j s hj hJk
  obtain ⟨v80_1,hq,h1,h4,h10,h80,h81,h82,hh4_0,hh26_0,hh80_1⟩:=(hJ _ _).1 hJk
  clear hJk
  simp -implicitDefEqProofs (disch:=omega) only [h1,h4,h10,h80,h81,h82,hh4_0,hh26_0,hh80_1,go_sem]
  refine Af (fun hjl=>?_) (fun hjg=>?_)
  ·have hx : A[j]? = some A[j]:=lgg hjl
   rw [ldg hjl,List.all_cons] at hq
   generalize A[j] = g at hx hq
   have hsu:=zat g h
   have hsl:=KF h g
   have hgd:=zac ds g hdl
   have hsb:=KE hob (BM t g)
   generalize BM t g = S at hsu hsl hq hsb
   simp -implicitDefEqProofs (disch:=omega) only [h1,h4,h10,h80,h81,h82,hh4_0,hh26_0,hh80_1,hjl,hx,hsu,go_sem]
   obtain ⟨M,hM⟩:=lpI fun m s=>∃ (v88_1 : Nat),s.pe 1 = .p (AF ds) /\ s.pe 4 = .ptr (.slot 4 0) 0 0 /\ s.pe 10 = .mref (.slot 26 0) 0 /\ s.pe 18 = .p (.int .i64 g) /\ s.pe 19 = .p (.int .i64 (Ag ((S.take m).map (An l)))) /\ s.pe 80 = .own (.slot 80 1) v80_1 0 A.length /\ s.pe 81 = .p (.int .i64 ↑A.length) /\ s.pe 82 = .p (.int .i64 ↑j) /\ s.pe 88 = .own (.slot 88 1) v88_1 0 S.length /\ s.pe 89 = .p (.int .i64 ↑S.length) /\ s.pe 90 = .p (.int .i64 m) /\ s.h (.slot 4 0) = some (0,Ob.box [.p (Ap t.nodes),.p (.int .i64 t.next)]) /\ s.h (.slot 26 0) = some (0,Ob.map (KT.int IntKind.i64) ks vs) /\ s.h (.slot 80 1) = some (v80_1,Ob.arr 1 (List.map (.int .i64) A)) /\ s.h (.slot 88 1) = some (v88_1,Ob.arr 1 (List.map (.int .i64) S))
   refine Am (S.length) M ?_ ?_
   ·refine (hM _ _).2 ⟨nv (Bs [88] s.h (.slot 88 1)),?_⟩
    and_intros
    all_goals first | exact cl0 | (simp -implicitDefEqProofs (disch:=omega) only [h1,h4,h10,h80,h81,h82,hh4_0,hh26_0,hh80_1,lma,go_sem] <;> first | (simp [Ag]; done) | (simp [Ag]; omega))
   intro m s hm hMk
   obtain ⟨v88_1,h1,h4,h10,h18,h19,h80,h81,h82,h88,h89,h90,hh4_0,hh26_0,hh80_1,hh88_1⟩:=(hM _ _).1 hMk
   clear hMk
   simp -implicitDefEqProofs (disch:=omega) only [h1,h4,h10,h18,h19,h80,h81,h82,h88,h89,h90,hh4_0,hh26_0,hh80_1,hh88_1,go_sem]
   refine Af (fun hml=>?_) (fun hmg=>?_)
   ·have hy : S[m]? = some S[m]:=lgg hml
    have hst:=Jv (f:=An l) hy
    have hb1:=KE hob (S.take m)
    have hb2:=hob S[m]
    have hr:=hrep S[m]
    generalize S[m] = y at hy hst hb2 hr
    have hml' : (S.take m).length <= S.length:=by rw [llt]; omega
    generalize Ag ((S.take m).map (An l)) = X at h19 hst hb1
    simp -implicitDefEqProofs (disch:=omega) only [h1,h4,h10,h18,h19,h80,h81,h82,h88,h89,h90,hh4_0,hh26_0,hh80_1,hh88_1,hml,hy,hr,go_sem]
    try refine ai ?_
    refine (hM _ _).2 ⟨v88_1,?_⟩
    and_intros
    all_goals first | exact cl0 | (simp -implicitDefEqProofs (disch:=omega) only [h1,h4,h10,h18,h19,h80,h81,h82,h88,h89,h90,hh4_0,hh26_0,hh80_1,hh88_1,hst,lma,go_sem] <;> first | (simp [Ag]; done) | (simp [Ag]; omega))
   ·rw [ltl (by omega)] at h19
    generalize Ag (S.map (An l)) = X at h19 hq
    by_cases hc : X < (getD ds g).depth
    ·have hc' : ¬ (getD ds g).depth <= X:=by omega
     rw [decide_eq_true hc,bta] at hq
     simp -implicitDefEqProofs (disch:=omega) only [h1,h4,h10,h18,h19,h80,h81,h82,h88,h89,h90,hh4_0,hh26_0,hh80_1,hh88_1,hmg,hgd,hc',go_sem]
     try refine ai ?_
     refine (hJ _ _).2 ⟨v80_1,?_⟩
     and_intros
     .exact hq
     all_goals first | exact cl0 | (simp -implicitDefEqProofs (disch:=omega) only [h1,h4,h10,h80,h81,h82,hh4_0,hh26_0,hh80_1,lma,go_sem] <;> first | (simp [Ag]; done) | (simp [Ag]; omega))
    ·have hc' : (getD ds g).depth <= X:=by omega
     rw [decide_eq_false hc,bfa] at hq
     simp -implicitDefEqProofs (disch:=omega) only [h1,h4,h10,h18,h19,h80,h81,h82,h88,h89,h90,hh4_0,hh26_0,hh80_1,hh88_1,hmg,hgd,hc',hq,go_sem]
  ·rw [List.drop_eq_nil_of_le (by omega),List.all_nil] at hq
   simp -implicitDefEqProofs (disch:=omega) only [h1,h4,h10,h80,h81,h82,hh4_0,hh26_0,hh80_1,hjg,hq,go_sem]
theorem Xz {fs : List Fl} {k : Nat} {f : Fl} (hm : fs[k]? = some f) (x : Int) : AG (fs.take (k + 1)) x = if x = f.r.group then AG (fs.take k) f.r.group + 1 else AG (fs.take k) x:=by
 rw [BT hm]
 unfold AG
 rw [List.filter_append,lla]
 by_cases h : x = f.r.group
 ·subst h
  rw [if_pos rfl]
  simp
 ·rw [if_neg h,List.filter_cons_of_neg (by simpa using fun e=>h e.symm)]
  simp
theorem Xt {ns : List Nd} {fs : List Fl} {k : Nat} {n : Nd} (hm : ns[k]? = some n) : ((ns.take (k + 1)).filter fun n=>decide (0 < AG fs n.id)).map (fun n=>(⟨n.id,AG fs n.id⟩ : Ch)) = ((ns.take k).filter fun n=>decide (0 < AG fs n.id)).map (fun n=>(⟨n.id,AG fs n.id⟩ : Ch)) ++ if 0 < AG fs n.id then [⟨n.id,AG fs n.id⟩] else []:=by
 rw [BT hm,List.filter_append,lma]
 by_cases h : 0 < AG fs n.id
 ·rw [if_pos h,List.filter_cons_of_pos (by simpa using h)]
  rfl
 ·rw [if_neg h,List.filter_cons_of_neg (by simpa using h)]
  rfl
theorem Xs (t : Tr) (d : Dv) (hn : t.nodes.length < 1000000) (hf : d.flights.length <= 256) : V 178 [.ptr (.arg 0 0) 0 0] (mH t d) = some (.fresh 2 ((flyL t d.flights).map Ch.pv),mH t d):=by
 refine Ae (vf:=vf178) rfl ?_
 simp -implicitDefEqProofs (disch:=omega) only [vf178,Q1,go_sem]
 obtain ⟨I,hI⟩:=lpI fun k s=>∃ (ks : List MKey) (vs : List PV),RepM ks vs (AG (d.flights.take k)) /\ s.pe 0 = .ptr (Id.arg 0 0) 0 0 /\ s.pe 3 = .mref (.slot 9 0) 0 /\ s.pe 14 = VVal.own (Id.arg 5 0) 0 0 d.flights.length /\ s.pe 15 = .p (.int .i64 ↑d.flights.length) /\ s.pe 16 = .p (.int .i64 k) /\ s.h (.slot 9 0) = some (0,Ob.map (KT.int IntKind.i64) ks vs) /\ s.h (.arg 0 0) = some (0,Ab t d) /\ s.h (.arg 1 0) = some (0,.arr 2 (d.weights.map Ch.pv)) /\ s.h (.arg 2 0) = some (0,.arr 21 (d.buckets.map Cp.pv)) /\ s.h (.arg 3 0) = some (0,.arr 3 (d.depths.map Dp.pv)) /\ s.h (.arg 4 0) = some (0,.arr 6 (d.queue.map Rq.pv)) /\ s.h (.arg 5 0) = some (0,.arr 7 (d.flights.map Fl.pv))
 refine Am (d.flights.length) I ?_ ?_
 ·refine (hI _ _).2 ⟨[],[],?_⟩
  and_intros
  ·exact RepM.nil
  all_goals first | exact cl0 | (simp -implicitDefEqProofs (disch:=omega) only [lma,go_sem] <;> first | (simp [Ab]; done) | (simp [Ab]; omega))
 intro k s hk hIk
 obtain ⟨ks,vs,hrep,hH⟩:=(hI _ _).1 hIk
 clear hIk
 simp -implicitDefEqProofs (disch:=omega) only [hH,go_sem]
 refine Af (fun hlt=>?_) (fun hge=>?_)
 ·have hm : d.flights[k]? = some d.flights[k]:=lgg hlt
  have hct:=Xz hm
  generalize d.flights[k] = f at hm hct
  have hb:=Hp (d.flights.take k) f.r.group
  have hb0:=FY (d.flights.take k) f.r.group
  have htl : (d.flights.take k).length <= k:=List.length_take_le ..
  have hr:=hrep f.r.group
  have hnew:=(hrep.put f.r.group (AG (d.flights.take k) f.r.group + 1)).congr (g:=AG (d.flights.take (k + 1))) fun x=>(hct x).symm
  simp -implicitDefEqProofs (disch:=omega) only [hH,hlt,hm,hr,go_sem]
  try refine ai ?_
  refine (hI _ _).2 ⟨(Av ks vs (.int f.r.group) (.int .i64 (AG (d.flights.take k) f.r.group + 1))).1,(Av ks vs (.int f.r.group) (.int .i64 (AG (d.flights.take k) f.r.group + 1))).2,?_⟩
  and_intros
  ·exact hnew
  all_goals first | exact cl0 | (simp -implicitDefEqProofs (disch:=omega) only [hH,lma,go_sem] <;> first | (simp [Ab]; done) | (simp [Ab]; omega))
 ·rw [ltl (by omega)] at hrep
  simp -implicitDefEqProofs (disch:=omega) only [hH,hge,go_sem]
  obtain ⟨J,hJ⟩:=lpI fun j s=>∃ (acc : List Ch) (v60 : Nat),acc = (((t.nodes.take j).filter fun n=>decide (0 < AG d.flights n.id)).map fun n=>(⟨n.id,AG d.flights n.id⟩ : Ch)) /\ acc.length <= j /\ s.pe 3 = .mref (.slot 9 0) 0 /\ s.pe 6 = .own (.slot 6 0) v60 0 acc.length /\ s.pe 31 = .p (Ap t.nodes) /\ s.pe 32 = .p (.int .i64 ↑t.nodes.length) /\ s.pe 33 = .p (.int .i64 j) /\ s.h (.slot 6 0) = some (v60,Ob.arr 2 (acc.map Ch.pv)) /\ s.h (.slot 9 0) = some (0,Ob.map (KT.int IntKind.i64) ks vs) /\ s.h (.arg 0 0) = some (0,Ab t d) /\ s.h (.arg 1 0) = some (0,.arr 2 (d.weights.map Ch.pv)) /\ s.h (.arg 2 0) = some (0,.arr 21 (d.buckets.map Cp.pv)) /\ s.h (.arg 3 0) = some (0,.arr 3 (d.depths.map Dp.pv)) /\ s.h (.arg 4 0) = some (0,.arr 6 (d.queue.map Rq.pv)) /\ s.h (.arg 5 0) = some (0,.arr 7 (d.flights.map Fl.pv))
  refine Am (t.nodes.length) J ?_ ?_
  ·refine (hJ _ _).2 ⟨[],nv (s.h (.slot 6 0)),?_⟩
   and_intros
   ·exact cl3
   ·exact cl3
   all_goals first | exact cl0 | (simp -implicitDefEqProofs (disch:=omega) only [hH,lma,go_sem] <;> first | (simp [Ab]; done) | (simp [Ab]; omega))
  intro j s hj hJk
  obtain ⟨acc,v60,hacc,hal,hH⟩:=(hJ _ _).1 hJk
  clear hJk
  simp -implicitDefEqProofs (disch:=omega) only [hH,go_sem]
  refine Af (fun hjl=>?_) (fun hjg=>?_)
  ·have hx : t.nodes[j]? = some t.nodes[j]:=lgg hjl
   have hst:=Xt (fs:=d.flights) hx
   generalize t.nodes[j] = n at hx hst
   have hr:=hrep n.id
   by_cases hp : 0 < AG d.flights n.id
   ·rw [if_pos hp,<- hacc] at hst
    generalize AG d.flights n.id = c at hr hst hp
    simp -implicitDefEqProofs (disch:=omega) only [hH,hjl,hx,hr,hp,go_sem]
    try refine ai ?_
    refine (hJ _ _).2 ⟨acc ++ [⟨n.id,c⟩],v60 + 1,?_⟩
    and_intros
    .exact hst.symm
    .exact by simp; omega
    all_goals first | exact cl0 | (simp -implicitDefEqProofs (disch:=omega) only [hH,lma,go_sem] <;> first | (simp [Ab]; done) | (simp [Ab]; omega))
   ·rw [if_neg hp,<- hacc,lan] at hst
    generalize AG d.flights n.id = c at hr hst hp
    simp -implicitDefEqProofs (disch:=omega) only [hH,hjl,hx,hr,hp,go_sem]
    try refine ai ?_
    refine (hJ _ _).2 ⟨acc,v60,?_⟩
    and_intros
    .exact hst.symm
    .omega
    all_goals first | exact cl0 | (simp -implicitDefEqProofs (disch:=omega) only [hH,lma,go_sem] <;> first | (simp [Ab]; done) | (simp [Ab]; omega))
  ·rw [ltl (by omega)] at hacc
   have hA : flyL t d.flights = acc:=by rw [hacc]; rfl
   rw [hA]
   simp -implicitDefEqProofs (disch:=omega) only [hH,hjg,go_sem]
theorem Xi (t : Tr) (a : List Ch) (list : List Int) (now : Int) (hf : t.Fits) (hn : t.nodes.length < 1000000) (ha : a.length < 1000000) (hl : list.length < 1000000) : V 53 [t.vv,.p (Aj a),.p (AM list),.p (.int .i64 now)] [] = some (.tup [.p (.int .i64 (AV t a now 0 list)),.p (.bool (!decide (AV t a now 0 list = 0)))],[]):=by
 refine Ae (vf:=vf53) rfl ?_
 simp -implicitDefEqProofs (disch:=omega) only [vf53,RQ,go_sem]
 obtain ⟨I,hI⟩:=lpI fun k s=>∃ (best : Int),AV t a now 0 list = AV t a now best (list.drop k) /\ s.pe 1 = .p (Aj a) /\ s.pe 3 = .p (.int .i64 now) /\ s.pe 4 = .ptr (.slot 4 0) 0 0 /\ s.pe 10 = .p (.int .i64 best) /\ s.pe 15 = .p (AM list) /\ s.pe 16 = .p (.int .i64 ↑list.length) /\ s.pe 17 = .p (.int .i64 k) /\ s.h (.slot 4 0) = some (0,Ob.box [.p (Ap t.nodes),.p (.int .i64 t.next)])
 refine Am (list.length) I ?_ ?_
 ·refine (hI _ _).2 ⟨0,?_⟩
  and_intros
  ·exact cl3
  all_goals first | exact cl0 | (simp -implicitDefEqProofs (disch:=omega) only [lma,go_sem] <;> first | (simp [Ab]; done) | (simp [Ab]; omega))
 intro k s hk hIk
 obtain ⟨best,hN,hH⟩:=(hI _ _).1 hIk
 clear hIk
 simp -implicitDefEqProofs (disch:=omega) only [hH,go_sem]
 refine Af (fun hlt=>?_) (fun hge=>?_)
 ·have hm : list[k]? = some list[k]:=lgg hlt
  rw [ldg hlt,AV] at hN
  generalize list[k] = x at hm hN
  have d1:=zaP t a x now hf hn ha
  have d2:=IR a x ha
  have d3:=IR a best ha
  cases hmay : CF t a x now with
  | false =>
   rw [hmay] at d1
   rw [if_neg (by rw [hmay]; exact fun h=>absurd h.1 (by decide))] at hN
   simp -implicitDefEqProofs (disch:=omega) only [hH,hlt,hm,d1,go_sem]
   try refine ai ?_
   refine (hI _ _).2 ⟨best,?_⟩
   and_intros
   ·exact hN
   all_goals first | exact cl0 | (simp -implicitDefEqProofs (disch:=omega) only [hH,lma,go_sem] <;> first | (simp [Ab]; done) | (simp [Ab]; omega))
  | true =>
   rw [hmay] at d1
   by_cases hb : best = 0 \/ An a x < An a best \/ (An a x = An a best /\ x < best)
   ·rw [if_pos ⟨hmay,hb⟩] at hN
    generalize An a x = p at d2 hb
    generalize An a best = q at d3 hb
    by_cases b1 : best = 0
    ·subst b1
     simp -implicitDefEqProofs (disch:=omega) only [hH,hlt,hm,d1,d2,d3,go_sem]
     try refine ai ?_
     refine (hI _ _).2 ⟨x,?_⟩
     and_intros
     ·exact hN
     all_goals first | exact cl0 | (simp -implicitDefEqProofs (disch:=omega) only [hH,lma,go_sem] <;> first | (simp [Ab]; done) | (simp [Ab]; omega))
    ·by_cases b2 : p < q
     ·simp -implicitDefEqProofs (disch:=omega) only [hH,hlt,hm,d1,d2,d3,b1,b2,go_sem]
      try refine ai ?_
      refine (hI _ _).2 ⟨x,?_⟩
      and_intros
      .exact hN
      all_goals first | exact cl0 | (simp -implicitDefEqProofs (disch:=omega) only [hH,lma,go_sem] <;> first | (simp [Ab]; done) | (simp [Ab]; omega))
     ·have b3 : p = q:=by omega
      have b4 : x < best:=by omega
      simp -implicitDefEqProofs (disch:=omega) only [hH,hlt,hm,d1,d2,d3,b1,b2,b3,b4,Int.lt_irrefl,go_sem]
      try refine ai ?_
      refine (hI _ _).2 ⟨x,?_⟩
      and_intros
      .exact hN
      all_goals first | exact cl0 | (simp -implicitDefEqProofs (disch:=omega) only [hH,lma,go_sem] <;> first | (simp [Ab]; done) | (simp [Ab]; omega))
   ·rw [if_neg (fun h=>hb h.2)] at hN
    generalize An a x = p at d2 hb
    generalize An a best = q at d3 hb
    have b1 : ¬ best = 0:=by omega
    have b2 : ¬ p < q:=by omega
    by_cases b3 : p = q
    ·have b4 : ¬ x < best:=by omega
     simp -implicitDefEqProofs (disch:=omega) only [hH,hlt,hm,d1,d2,d3,b1,b3,b4,Int.lt_irrefl,go_sem]
     try refine ai ?_
     refine (hI _ _).2 ⟨best,?_⟩
     and_intros
     .exact hN
     all_goals first | exact cl0 | (simp -implicitDefEqProofs (disch:=omega) only [hH,lma,go_sem] <;> first | (simp [Ab]; done) | (simp [Ab]; omega))
    ·simp -implicitDefEqProofs (disch:=omega) only [hH,hlt,hm,d1,d2,d3,b1,b2,b3,go_sem]
     try refine ai ?_
     refine (hI _ _).2 ⟨best,?_⟩
     and_intros
     .exact hN
     all_goals first | exact cl0 | (simp -implicitDefEqProofs (disch:=omega) only [hH,lma,go_sem] <;> first | (simp [Ab]; done) | (simp [Ab]; omega))
 ·rw [List.drop_eq_nil_of_le (by omega),AV] at hN
  rw [hN]
  simp -implicitDefEqProofs (disch:=omega) only [hH,hge,go_sem]
theorem J8 {l : List Cp} {id : Int} (h : ∀ c ∈ l,decide (c.group = id) = false) : BV l id = none:=by
 induction l with
 | nil=>rfl
 | cons c l ih =>
  have:=h c (lms ..)
  rw [BV,if_neg (by simpa using this)]
  exact ih fun x hx=>h x (lmc _ hx)
theorem Iw {id : Int} : ∀ {l : List Cp} {k : Nat} {m : Cp},l[k]? = some m -> decide (m.group = id) = true -> (∀ (i : Nat) (n : Cp),i < k -> l[i]? = some n -> decide (n.group = id) = false) -> BV l id = some m
 | [],k,m,hm,_,_=>by simp at hm
 | c :: l,0,m,hm,hg,_=>by
  simp only [List.getElem?_cons_zero,osi] at hm
  subst hm
  rw [BV,if_pos (by simpa using hg)]
 | c :: l,k + 1,m,hm,hg,ho=>by
  have h0:=ho 0 c (by omega) rfl
  rw [BV,if_neg (by simpa using h0)]
  exact Iw (by simpa using hm) hg fun i n hi hn=>ho (i + 1) n (by omega) (by simpa using hn)
theorem W3 {t : Tr} {d : Dv} (h : DvOk t d) (r : Rq) (hs : d.Small) (hk : Ak t.nodes r.group = true) : V 119 [.ptr (.arg 0 0) 0 0,r.vv] (mH t d) = some (.p (.bool (C8 t d r)),mH t d):=by
 refine Ae (vf:=vf119) rfl ?_
 have hlen:=h.tree.len
 have hq:=h.len
 have j0:=Xs t d (by omega) (by omega)
 have j1:=Xg h.tree d.depths d.flights r.group h.dp hs.p (by omega) hk
 have c1:=II t r.group (by omega)
 have hal:=D4 t.nodes t.nodes.length r.group
 have hbk:=(CT.1 h.bk).1
 unfold C8
 cases hA : EI t d.depths d.flights r.group with
 | false =>
  rw [hA] at j1
  simp -implicitDefEqProofs (disch:=omega) only [vf119,LH,j0,j1,bfa,go_sem]
 | true =>
  rw [hA] at j1
  rw [Bool.true_and]
  generalize ancF t.nodes t.nodes.length r.group = A at c1 hal
  simp -implicitDefEqProofs (disch:=omega) only [vf119,LH,j0,j1,c1,go_sem]
  obtain ⟨I,hI⟩:=lpI fun k s=>A.all (Ct d.buckets r) = (A.drop k).all (Ct d.buckets r) /\ s.pe 0 = .ptr (Id.arg 0 0) 0 0 /\ s.pe 3 = .ptr (.slot 3 0) 0 0 /\ s.pe 37 = .own (.slot 37 1) 0 0 A.length /\ s.pe 38 = .p (.int .i64 ↑A.length) /\ s.pe 39 = .p (.int .i64 k) /\ s.h (.slot 3 0) = some (0,Ob.box [.p (.int .i64 r.task),.p (.int .i64 r.group),.p (.int .i64 r.at_),.p (.int .i64 r.pages),.p (.bool r.write),.p (.int .i64 r.time)]) /\ s.h (.slot 37 1) = some (0,Ob.arr 1 (List.map (.int .i64) A)) /\ s.h (.arg 0 0) = some (0,Ab t d) /\ s.h (.arg 1 0) = some (0,.arr 2 (d.weights.map Ch.pv)) /\ s.h (.arg 2 0) = some (0,.arr 21 (d.buckets.map Cp.pv)) /\ s.h (.arg 3 0) = some (0,.arr 3 (d.depths.map Dp.pv)) /\ s.h (.arg 4 0) = some (0,.arr 6 (d.queue.map Rq.pv)) /\ s.h (.arg 5 0) = some (0,.arr 7 (d.flights.map Fl.pv))
  refine Am (A.length) I ?_ ?_
  ·refine (hI _ _).2 ?_
   and_intros
   ·exact cl3
   all_goals first | exact cl0 | (simp -implicitDefEqProofs (disch:=omega) only [lma,go_sem] <;> first | (simp [Ab]; done) | (simp [Ab]; omega))
  intro k s hk hIk
  obtain ⟨hq,hH⟩:=(hI _ _).1 hIk
  clear hIk
  simp -implicitDefEqProofs (disch:=omega) only [hH,go_sem]
  refine Af (fun hlt=>?_) (fun hge=>?_)
  ·have hm : A[k]? = some A[k]:=lgg hlt
   rw [ldg hlt,List.all_cons] at hq
   generalize A[k] = g at hm hq
   have k0:=YK t d g hs.b
   rcases F3 (fun c : Cp=>decide (c.group = g)) d.buckets with ⟨e,hno⟩ | ⟨i,m,e,hmi,hmg,hbe⟩
   ·have hR : Ct d.buckets r g = true:=by unfold Ct; rw [J8 hno]
    rw [hR,bta] at hq
    rw [e] at k0
    have hd : decide ((0 : Int) <= -1) = false:=rfl
    simp -implicitDefEqProofs (disch:=omega) only [hH,hlt,hm,k0,hd,go_sem]
    try refine ai ?_
    refine (hI _ _).2 ?_
    and_intros
    ·exact hq
    all_goals first | exact cl0 | (simp -implicitDefEqProofs (disch:=omega) only [hH,lma,go_sem] <;> first | (simp [Ab]; done) | (simp [Ab]; omega))
   ·have hR : Ct d.buckets r g = (decide (r.pages <= AN (kpB m r.write)) && decide (1 <= AN (koB m r.write))):=by unfold Ct; rw [Iw hmi hmg hbe]
    rw [e] at k0
    have hil:=(lgs.1 hmi).1
    have hcb:=Dg.1 (hbk m (lmg hmi)).2
    have k1:=Pq (d.buckets.map Cp.pv) i r.write
    have k2 : V 181 [(kpB m r.write).vv] [] = some (.p (.int .i64 (AN (kpB m r.write))),[]):=IJ _ (by unfold kpB; split; exact (AK.1 hcb.2.1).1; exact (AK.1 hcb.1).1)
    have k3 : V 181 [(koB m r.write).vv] [] = some (.p (.int .i64 (AN (koB m r.write))),[]):=IJ _ (by unfold koB; split; exact (AK.1 hcb.2.2.2).1; exact (AK.1 hcb.2.2.1).1)
    cases hw : r.write with
    | false =>
     rw [hw] at k1 k2 k3 hR
     simp only [kpB,koB,bft,if_false] at k1 k2 k3 hR
     by_cases b1 : r.pages <= AN m.rp
     ·have b1' : ¬ AN m.rp < r.pages:=by omega
      by_cases b2 : 1 <= AN m.ro
      ·have b2' : ¬ AN m.ro < 1:=by omega
       rw [hR,decide_eq_true b1,decide_eq_true b2,bta,bta] at hq
       simp -implicitDefEqProofs (disch:=omega) only [hH,hlt,hm,k0,hil,hmi,hw,k1,Cp.pv,PV.cells,k2,k3,b1',b2',go_sem]
       try refine ai ?_
       refine (hI _ _).2 ?_
       and_intros
       .exact hq
       all_goals first | exact cl0 | (simp -implicitDefEqProofs (disch:=omega) only [hH,lma,go_sem] <;> first | (simp [Ab]; done) | (simp [Ab]; omega))
      ·have b2' : AN m.ro < 1:=by omega
       rw [hR,decide_eq_true b1,decide_eq_false b2,bta,bfa] at hq
       simp -implicitDefEqProofs (disch:=omega) only [hH,hlt,hm,k0,hil,hmi,hw,k1,Cp.pv,PV.cells,k2,k3,b1',b2',hq,go_sem]
     ·have b1' : AN m.rp < r.pages:=by omega
      rw [hR,decide_eq_false b1,bfa,bfa] at hq
      simp -implicitDefEqProofs (disch:=omega) only [hH,hlt,hm,k0,hil,hmi,hw,k1,Cp.pv,PV.cells,k2,k3,b1',hq,go_sem]
    | true =>
     rw [hw] at k1 k2 k3 hR
     simp only [kpB,koB,if_true] at k1 k2 k3 hR
     by_cases b1 : r.pages <= AN m.wp
     ·have b1' : ¬ AN m.wp < r.pages:=by omega
      by_cases b2 : 1 <= AN m.wo
      ·have b2' : ¬ AN m.wo < 1:=by omega
       rw [hR,decide_eq_true b1,decide_eq_true b2,bta,bta] at hq
       simp -implicitDefEqProofs (disch:=omega) only [hH,hlt,hm,k0,hil,hmi,hw,k1,Cp.pv,PV.cells,k2,k3,b1',b2',go_sem]
       try refine ai ?_
       refine (hI _ _).2 ?_
       and_intros
       .exact hq
       all_goals first | exact cl0 | (simp -implicitDefEqProofs (disch:=omega) only [hH,lma,go_sem] <;> first | (simp [Ab]; done) | (simp [Ab]; omega))
      ·have b2' : AN m.wo < 1:=by omega
       rw [hR,decide_eq_true b1,decide_eq_false b2,bta,bfa] at hq
       simp -implicitDefEqProofs (disch:=omega) only [hH,hlt,hm,k0,hil,hmi,hw,k1,Cp.pv,PV.cells,k2,k3,b1',b2',hq,go_sem]
     ·have b1' : AN m.wp < r.pages:=by omega
      rw [hR,decide_eq_false b1,bfa,bfa] at hq
      simp -implicitDefEqProofs (disch:=omega) only [hH,hlt,hm,k0,hil,hmi,hw,k1,Cp.pv,PV.cells,k2,k3,b1',hq,go_sem]
  ·rw [List.drop_eq_nil_of_le (by omega),List.all_nil] at hq
   simp -implicitDefEqProofs (disch:=omega) only [hH,hge,hq,go_sem]
theorem Yp {t : Tr} {d : Dv} (h : DvOk t d) (hs : d.Small) : V 54 [.ptr (.arg 0 0) 0 0] (mH t d) = some (.fresh 1 ((BL (A8 t d [] d.queue)).map (.int .i64)),mH t d):=by
 refine Ae (vf:=vf54) rfl ?_
 have hq:=h.len
 simp -implicitDefEqProofs (disch:=omega) only [vf54,RP,go_sem]
 obtain ⟨I,hI⟩:=lpI fun k s=>∃ (acc : List Int) (w : Nat) (S : List Int) (ks : List MKey) (vs : List PV),A8 t d [] d.queue = acc ++ A8 t d S (d.queue.drop k) /\ acc.length <= k /\ Rep3 ks vs (fun x=>decide (x ∈ S)) /\ s.pe 0 = .ptr (Id.arg 0 0) 0 0 /\ s.pe 3 = .mref (.slot 7 0) 0 /\ s.pe 4 = .own (.slot 4 0) w 0 acc.length /\ s.pe 12 = VVal.own (Id.arg 4 0) 0 0 d.queue.length /\ s.pe 13 = .p (.int .i64 ↑d.queue.length) /\ s.pe 14 = .p (.int .i64 k) /\ s.h (.slot 4 0) = some (w,Ob.arr 1 (acc.map (.int .i64))) /\ s.h (.slot 7 0) = some (0,Ob.map (KT.int IntKind.i64) ks vs) /\ s.h (.arg 0 0) = some (0,Ab t d) /\ s.h (.arg 1 0) = some (0,.arr 2 (d.weights.map Ch.pv)) /\ s.h (.arg 2 0) = some (0,.arr 21 (d.buckets.map Cp.pv)) /\ s.h (.arg 3 0) = some (0,.arr 3 (d.depths.map Dp.pv)) /\ s.h (.arg 4 0) = some (0,.arr 6 (d.queue.map Rq.pv)) /\ s.h (.arg 5 0) = some (0,.arr 7 (d.flights.map Fl.pv))
 refine Am (d.queue.length) I ?_ ?_
 ·refine (hI _ _).2 ⟨[],0,[],[],[],?_⟩
  and_intros
  ·exact by simp
  ·exact cl3
  ·exact fun _=>rfl
  all_goals first | exact cl0 | (simp -implicitDefEqProofs (disch:=omega) only [lma,go_sem] <;> first | (simp [Ab]; done) | (simp [Ab]; omega))
 intro k s hk hIk
 obtain ⟨acc,w,S,ks,vs,hr,hal,hrep,hH⟩:=(hI _ _).1 hIk
 clear hIk
 simp -implicitDefEqProofs (disch:=omega) only [hH,go_sem]
 refine Af (fun hlt=>?_) (fun hge=>?_)
 ·have hm : d.queue[k]? = some d.queue[k]:=lgg hlt
  rw [ldg hlt,A8] at hr
  have hrk:=(h.q d.queue[k] (lmg hm)).2
  generalize d.queue[k] = r at hm hr hrk
  have k0:=W3 h r hs hrk
  have hg:=hrep r.group
  have hnx:=(hrep.put r.group).congr (on':=fun x=>decide (x ∈ r.group :: S)) fun x=>by
   by_cases hx : x = r.group <;> simp [hx]
  by_cases hin : r.group ∈ S
  ·rw [if_pos hin,lna] at hr
   simp only [hin,decide_true,if_true] at hg
   have hg : (AW ks vs (.int r.group)).getD (.bool false) = .bool true:=by rw [hg]; rfl
   simp -implicitDefEqProofs (disch:=omega) only [hH,hlt,hm,hg,go_sem]
   try refine ai ?_
   refine (hI _ _).2 ⟨acc,w,r.group :: S,(Av ks vs (.int r.group) (.bool true)).1,(Av ks vs (.int r.group) (.bool true)).2,?_⟩
   and_intros
   ·exact hr
   ·omega
   ·exact hnx
   all_goals first | exact cl0 | (simp -implicitDefEqProofs (disch:=omega) only [hH,lma,go_sem] <;> first | (simp [Ab]; done) | (simp [Ab]; omega))
  ·rw [if_neg hin] at hr
   simp only [hin,decide_false,bft,if_false] at hg
   have hg : (AW ks vs (.int r.group)).getD (.bool false) = .bool false:=by rw [hg]; rfl
   cases hp : C8 t d r with
   | false =>
    rw [hp] at k0 hr
    simp only [bft,if_false,lna] at hr
    simp -implicitDefEqProofs (disch:=omega) only [hH,hlt,hm,hg,k0,go_sem]
    try refine ai ?_
    refine (hI _ _).2 ⟨acc,w,r.group :: S,(Av ks vs (.int r.group) (.bool true)).1,(Av ks vs (.int r.group) (.bool true)).2,?_⟩
    and_intros
    .exact hr
    .omega
    .exact hnx
    all_goals first | exact cl0 | (simp -implicitDefEqProofs (disch:=omega) only [hH,lma,go_sem] <;> first | (simp [Ab]; done) | (simp [Ab]; omega))
   | true =>
    rw [hp] at k0 hr
    simp only [if_true] at hr
    simp -implicitDefEqProofs (disch:=omega) only [hH,hlt,hm,hg,k0,go_sem]
    try refine ai ?_
    refine (hI _ _).2 ⟨acc ++ [r.group],w + 1,r.group :: S,(Av ks vs (.int r.group) (.bool true)).1,(Av ks vs (.int r.group) (.bool true)).2,?_⟩
    and_intros
    .exact by rw [hr,laa]
    .exact by simp; omega
    .exact hnx
    all_goals first | exact cl0 | (simp -implicitDefEqProofs (disch:=omega) only [hH,lma,go_sem] <;> first | (simp [Ab]; done) | (simp [Ab]; omega))
 ·rw [List.drop_eq_nil_of_le (by omega),A8,lan] at hr
  rw [hr]
  have hso:=ZI acc (by omega)
  have hml:=MF acc
  have htk : (List.map (PV.int .i64) (BL acc)).take acc.length = List.map (PV.int .i64) (BL acc):=ltl (by rw [llm]; omega)
  simp -implicitDefEqProofs (disch:=omega) only [hH,hge,hso,htk,go_sem]
abbrev GD (t : Tr) (d : Dv) (v : VVal) (q f : Nat) : Ob:=.box [.p (.int .i64 d.m.rb),.p (.int .i64 d.m.rp),.p (.int .i64 d.m.wb),.p (.int .i64 d.m.wp),.p (.int .i64 d.m.seek),.p (.int .i64 d.speed),.p (.int .i64 d.margin),.p (.int .i64 d.now),.p (.int .i64 d.free),.p (.int .i64 d.head),.own (.arg 1 0) 0 0 d.weights.length,.own (.arg 2 0) 0 0 d.buckets.length,.own (.arg 3 0) 0 0 d.depths.length,v,.own (.arg 4 0) q 0 d.queue.length,.own (.arg 5 0) f 0 d.flights.length,.p (Ap t.nodes),.p (.int .i64 t.next)]
def Fe (n : Int) (c : Cp) (j : Nat) : Cp:=⟨c.group,if 0 < j then AD c.rp n else c.rp,if 1 < j then AD c.wp n else c.wp,if 2 < j then AD c.ro n else c.ro,if 3 < j then AD c.wo n else c.wo⟩
theorem XP (n : Int) (c : Cp) : Fe n c 4 = DJ n c:=rfl
theorem XO (n : Int) (c : Cp) : Fe n c 0 = c:=rfl
theorem Lm {α : Type} {a b : List α} {x : α} {k : Nat} (h : a.length = k) : (a ++ x :: b)[k]? = some x:=by subst h; simp
theorem Lb {α : Type} {a b : List α} {x y : α} {k : Nat} (h : a.length = k) : (a ++ x :: b).set k y = a ++ y :: b:=by subst h; simp
theorem HA {α : Type} {p : α -> Bool} : ∀ {l : List α} {k : Nat},k < (l.takeWhile p).length -> ∃ f,l[k]? = some f /\ p f = true
 | [],k,h=>by simp at h
 | x :: l,k,h=>by
  by_cases hx : p x = true
  ·rw [List.takeWhile_cons_of_pos hx] at h
   cases k with
   | zero=>exact ⟨x,rfl,hx⟩
   | succ k=>exact HA (l:=l) (k:=k) (by simpa using h)
  ·rw [List.takeWhile_cons_of_neg hx] at h
   simp at h
theorem Ll {α : Type} {p : α -> Bool} : ∀ {l : List α},(l.takeWhile p).length = l.length \/ ∃ f,l[(l.takeWhile p).length]? = some f /\ p f = false
 | []=>.inl rfl
 | x :: l=>by
  by_cases hx : p x = true
  ·rw [List.takeWhile_cons_of_pos hx]
   rcases Ll (p:=p) (l:=l) with h | ⟨f,h1,h2⟩
   .exact .inl (by simp [h])
   .exact .inr ⟨f,by simpa using h1,h2⟩
  ·rw [List.takeWhile_cons_of_neg hx]
   exact .inr ⟨x,rfl,by simpa using hx⟩
theorem Gg {α : Type} {p : α -> Bool} : ∀ {l : List α},l.take (l.takeWhile p).length = l.takeWhile p /\ l.drop (l.takeWhile p).length = l.dropWhile p
 | []=>⟨rfl,rfl⟩
 | x :: l=>by
  by_cases hx : p x = true
  ·rw [List.takeWhile_cons_of_pos hx,List.dropWhile_cons_of_pos hx,llc,List.take_succ_cons,List.drop_succ_cons,Gg.1,Gg.2]
   exact ⟨rfl,rfl⟩
  ·rw [List.takeWhile_cons_of_neg hx,List.dropWhile_cons_of_neg hx]
   exact ⟨rfl,rfl⟩
theorem Wy {t : Tr} {d : Dv} (h : DvOk t d) (hs : d.Small) (hnow : d.now < 1048576) : V 52 [.ptr (.arg 0 0) 0 0] (mH t d) = some (.fresh 7 ((endedD d).map Fl.pv),[GD t (advD d) (.p (Aj d.v)) 0 1,.arr 2 (d.weights.map Ch.pv),.arr 21 ((advD d).buckets.map Cp.pv),.arr 3 (d.depths.map Dp.pv),.arr 6 (d.queue.map Rq.pv),.box [.undef,.fresh 7 ((advD d).flights.map Fl.pv)]]):=by
 refine Ae (vf:=vf52) rfl ?_
 have hq:=h.len
 have hn:=h.now
 have hbk:=(CT.1 h.bk).1
 have hbl:=hs.b
 simp -implicitDefEqProofs (disch:=omega) only [vf52,RR,go_sem]
 obtain ⟨I,hI⟩:=lpI fun k s=>∃ (M : List Cp),M = (d.buckets.take k).map (DJ (d.now + 1)) ++ d.buckets.drop k /\ M.length = d.buckets.length /\ s.pe 0 = .ptr (Id.arg 0 0) 0 0 /\ s.pe 23 = .p (.int .i64 ↑d.buckets.length) /\ s.pe 24 = .p (.int .i64 k) /\ s.h (.arg 0 0) = some (0,Ob.box [.p (.int .i64 d.m.rb),.p (.int .i64 d.m.rp),.p (.int .i64 d.m.wb),.p (.int .i64 d.m.wp),.p (.int .i64 d.m.seek),.p (.int .i64 d.speed),.p (.int .i64 d.margin),.p (.int .i64 (d.now + 1)),.p (.int .i64 d.free),.p (.int .i64 d.head),VVal.own (Id.arg 1 0) 0 0 d.weights.length,VVal.own (Id.arg 2 0) 0 0 d.buckets.length,VVal.own (Id.arg 3 0) 0 0 d.depths.length,.p (Aj d.v),VVal.own (Id.arg 4 0) 0 0 d.queue.length,VVal.own (Id.arg 5 0) 0 0 d.flights.length,.p (Ap t.nodes),.p (.int .i64 t.next)]) /\ s.h (.arg 1 0) = some (0,.arr 2 (d.weights.map Ch.pv)) /\ s.h (.arg 2 0) = some (0,.arr 21 (M.map Cp.pv)) /\ s.h (.arg 3 0) = some (0,.arr 3 (d.depths.map Dp.pv)) /\ s.h (.arg 4 0) = some (0,.arr 6 (d.queue.map Rq.pv)) /\ s.h (.arg 5 0) = some (0,.arr 7 (d.flights.map Fl.pv))
 refine Am (d.buckets.length) I ?_ ?_
 ·refine (hI _ _).2 ⟨d.buckets,?_⟩
  and_intros
  ·exact cl3
  ·exact cl3
  all_goals first | exact cl0 | (simp -implicitDefEqProofs (disch:=omega) only [lma,go_sem] <;> first | (simp [Ab,List.map_set,Cp.pv]; done) | (simp [Ab,List.map_set,Cp.pv]; omega))
 intro k s hk hIk
 obtain ⟨M,hM,hMl,hH⟩:=(hI _ _).1 hIk
 clear hIk
 simp -implicitDefEqProofs (disch:=omega) only [hH,go_sem]
 refine Af (fun hlt=>?_) (fun hge=>?_)
 ·have hm : d.buckets[k]? = some d.buckets[k]:=lgg hlt
  rw [ldg hlt] at hM
  have htk:=BT hm
  generalize d.buckets[k] = c at hm hM htk
  have hcb:=Dg.1 (hbk c (lmg hm)).2
  have hlk : ((d.buckets.take k).map (DJ (d.now + 1))).length = k:=by rw [llm,llt]; omega
  simp -implicitDefEqProofs (disch:=omega) only [hH,hlt,hMl,go_sem]
  obtain ⟨J,hJ⟩:=lpI fun j s=>∃ (M : List Cp),M = (d.buckets.take k).map (DJ (d.now + 1)) ++ Fe (d.now + 1) c j :: d.buckets.drop (k + 1) /\ M.length = d.buckets.length /\ s.pe 0 = .ptr (Id.arg 0 0) 0 0 /\ s.pe 23 = .p (.int .i64 ↑d.buckets.length) /\ s.pe 24 = .p (.int .i64 ↑k) /\ s.pe 46 = .plist [VVal.eptr (Id.arg 2 0) 0 k 1,VVal.eptr (Id.arg 2 0) 0 k 6,VVal.eptr (Id.arg 2 0) 0 k 11,VVal.eptr (Id.arg 2 0) 0 k 16] /\ s.pe 47 = .p (.int .i64 ((4 : Nat) : Int)) /\ s.pe 48 = .p (.int .i64 j) /\ s.h (.arg 0 0) = some (0,Ob.box [.p (.int .i64 d.m.rb),.p (.int .i64 d.m.rp),.p (.int .i64 d.m.wb),.p (.int .i64 d.m.wp),.p (.int .i64 d.m.seek),.p (.int .i64 d.speed),.p (.int .i64 d.margin),.p (.int .i64 (d.now + 1)),.p (.int .i64 d.free),.p (.int .i64 d.head),VVal.own (Id.arg 1 0) 0 0 d.weights.length,VVal.own (Id.arg 2 0) 0 0 d.buckets.length,VVal.own (Id.arg 3 0) 0 0 d.depths.length,.p (Aj d.v),VVal.own (Id.arg 4 0) 0 0 d.queue.length,VVal.own (Id.arg 5 0) 0 0 d.flights.length,.p (Ap t.nodes),.p (.int .i64 t.next)]) /\ s.h (.arg 1 0) = some (0,.arr 2 (d.weights.map Ch.pv)) /\ s.h (.arg 2 0) = some (0,.arr 21 (M.map Cp.pv)) /\ s.h (.arg 3 0) = some (0,.arr 3 (d.depths.map Dp.pv)) /\ s.h (.arg 4 0) = some (0,.arr 6 (d.queue.map Rq.pv)) /\ s.h (.arg 5 0) = some (0,.arr 7 (d.flights.map Fl.pv))
  refine Am (4) J ?_ ?_
  ·refine (hJ _ _).2 ⟨M,?_⟩
   and_intros
   ·exact by rw [XO]; exact hM
   ·exact hMl
   all_goals first | exact cl0 | (simp -implicitDefEqProofs (disch:=omega) only [hH,lma,go_sem] <;> first | (simp [Ab,List.map_set,Cp.pv]; done) | (simp [Ab,List.map_set,Cp.pv]; omega))
  intro j s hj hJk
  obtain ⟨M,hN,hNl,hH⟩:=(hJ _ _).1 hJk
  clear hJk
  simp -implicitDefEqProofs (disch:=omega) only [hH,go_sem]
  refine Af (fun hjl=>?_) (fun hjg=>?_)
  ·have hmid : M[k]? = some (Fe (d.now + 1) c j):=by rw [hN]; exact Lm hlk
   have hset : ∀ y,M.set k y = (d.buckets.take k).map (DJ (d.now + 1)) ++ y :: d.buckets.drop (k + 1):=fun y=>by rw [hN]; exact Lb hlk
   have hj : j = 0 \/ j = 1 \/ j = 2 \/ j = 3:=by omega
   rcases hj with hj | hj | hj | hj
   ·have hb : ([VVal.eptr (Id.arg 2 0) 0 k 1,VVal.eptr (Id.arg 2 0) 0 k 6,VVal.eptr (Id.arg 2 0) 0 k 11,VVal.eptr (Id.arg 2 0) 0 k 16] : List VVal)[j]? = some (VVal.eptr (Id.arg 2 0) 0 k 1):=by rw [hj]; rfl
    have hb2:=Gn c.rp (d.now + 1) (AK.1 hcb.1).1 (by have:=(AK.1 hcb.1).2.2; omega) (by omega)
    have e0 : Fe (d.now + 1) c j = ⟨c.group,c.rp,c.wp,c.ro,c.wo⟩:=by rw [hj]; rfl
    rw [e0] at hmid
    simp -implicitDefEqProofs (disch:=omega) only [hH,hjl,hb,hmid,Cp.pv,PV.cells,hb2,go_sem]
    try refine ai ?_
    refine (hJ _ _).2 ⟨M.set k ⟨c.group,AD c.rp (d.now + 1),c.wp,c.ro,c.wo⟩,?_⟩
    and_intros
    .exact by rw [hset,hj]; rfl
    .exact by rw [List.length_set]; exact hNl
    all_goals first | exact cl0 | (simp -implicitDefEqProofs (disch:=omega) only [hH,lma,go_sem] <;> first | (simp [Ab,List.map_set,Cp.pv]; done) | (simp [Ab,List.map_set,Cp.pv]; omega))
   ·have hb : ([VVal.eptr (Id.arg 2 0) 0 k 1,VVal.eptr (Id.arg 2 0) 0 k 6,VVal.eptr (Id.arg 2 0) 0 k 11,VVal.eptr (Id.arg 2 0) 0 k 16] : List VVal)[j]? = some (VVal.eptr (Id.arg 2 0) 0 k 6):=by rw [hj]; rfl
    have hb2:=Gn c.wp (d.now + 1) (AK.1 hcb.2.1).1 (by have:=(AK.1 hcb.2.1).2.2; omega) (by omega)
    have e0 : Fe (d.now + 1) c j = ⟨c.group,AD c.rp (d.now + 1),c.wp,c.ro,c.wo⟩:=by rw [hj]; rfl
    rw [e0] at hmid
    simp -implicitDefEqProofs (disch:=omega) only [hH,hjl,hb,hmid,Cp.pv,PV.cells,hb2,go_sem]
    try refine ai ?_
    refine (hJ _ _).2 ⟨M.set k ⟨c.group,AD c.rp (d.now + 1),AD c.wp (d.now + 1),c.ro,c.wo⟩,?_⟩
    and_intros
    .exact by rw [hset,hj]; rfl
    .exact by rw [List.length_set]; exact hNl
    all_goals first | exact cl0 | (simp -implicitDefEqProofs (disch:=omega) only [hH,lma,go_sem] <;> first | (simp [Ab,List.map_set,Cp.pv]; done) | (simp [Ab,List.map_set,Cp.pv]; omega))
   ·have hb : ([VVal.eptr (Id.arg 2 0) 0 k 1,VVal.eptr (Id.arg 2 0) 0 k 6,VVal.eptr (Id.arg 2 0) 0 k 11,VVal.eptr (Id.arg 2 0) 0 k 16] : List VVal)[j]? = some (VVal.eptr (Id.arg 2 0) 0 k 11):=by rw [hj]; rfl
    have hb2:=Gn c.ro (d.now + 1) (AK.1 hcb.2.2.1).1 (by have:=(AK.1 hcb.2.2.1).2.2; omega) (by omega)
    have e0 : Fe (d.now + 1) c j = ⟨c.group,AD c.rp (d.now + 1),AD c.wp (d.now + 1),c.ro,c.wo⟩:=by rw [hj]; rfl
    rw [e0] at hmid
    simp -implicitDefEqProofs (disch:=omega) only [hH,hjl,hb,hmid,Cp.pv,PV.cells,hb2,go_sem]
    try refine ai ?_
    refine (hJ _ _).2 ⟨M.set k ⟨c.group,AD c.rp (d.now + 1),AD c.wp (d.now + 1),AD c.ro (d.now + 1),c.wo⟩,?_⟩
    and_intros
    .exact by rw [hset,hj]; rfl
    .exact by rw [List.length_set]; exact hNl
    all_goals first | exact cl0 | (simp -implicitDefEqProofs (disch:=omega) only [hH,lma,go_sem] <;> first | (simp [Ab,List.map_set,Cp.pv]; done) | (simp [Ab,List.map_set,Cp.pv]; omega))
   ·have hb : ([VVal.eptr (Id.arg 2 0) 0 k 1,VVal.eptr (Id.arg 2 0) 0 k 6,VVal.eptr (Id.arg 2 0) 0 k 11,VVal.eptr (Id.arg 2 0) 0 k 16] : List VVal)[j]? = some (VVal.eptr (Id.arg 2 0) 0 k 16):=by rw [hj]; rfl
    have hb2:=Gn c.wo (d.now + 1) (AK.1 hcb.2.2.2).1 (by have:=(AK.1 hcb.2.2.2).2.2; omega) (by omega)
    have e0 : Fe (d.now + 1) c j = ⟨c.group,AD c.rp (d.now + 1),AD c.wp (d.now + 1),AD c.ro (d.now + 1),c.wo⟩:=by rw [hj]; rfl
    rw [e0] at hmid
    simp -implicitDefEqProofs (disch:=omega) only [hH,hjl,hb,hmid,Cp.pv,PV.cells,hb2,go_sem]
    try refine ai ?_
    refine (hJ _ _).2 ⟨M.set k ⟨c.group,AD c.rp (d.now + 1),AD c.wp (d.now + 1),AD c.ro (d.now + 1),AD c.wo (d.now + 1)⟩,?_⟩
    and_intros
    .exact by rw [hset,hj]; rfl
    .exact by rw [List.length_set]; exact hNl
    all_goals first | exact cl0 | (simp -implicitDefEqProofs (disch:=omega) only [hH,lma,go_sem] <;> first | (simp [Ab,List.map_set,Cp.pv]; done) | (simp [Ab,List.map_set,Cp.pv]; omega))
  ·rw [show j = 4 by omega,XP] at hN
   simp -implicitDefEqProofs (disch:=omega) only [hH,hjg,go_sem]
   try refine ai ?_
   refine (hI _ _).2 ⟨M,?_⟩
   and_intros
   ·exact by rw [hN,htk,lma,laa]; rfl
   ·exact hNl
   all_goals first | exact cl0 | (simp -implicitDefEqProofs (disch:=omega) only [hH,lma,go_sem] <;> first | (simp [Ab,List.map_set,Cp.pv]; done) | (simp [Ab,List.map_set,Cp.pv]; omega))
 ·rw [ltl (by omega),List.drop_eq_nil_of_le (by omega),lan] at hM
  simp -implicitDefEqProofs (disch:=omega) only [hH,hge,go_sem]
  obtain ⟨p,hp⟩ : ∃ p : Fl -> Bool,p = fun f=>decide (f.done <= d.now + 1):=⟨_,rfl⟩
  have hE : endedD d = d.flights.takeWhile p:=by rw [hp]; rfl
  have hF : (advD d).flights = d.flights.dropWhile p:=by rw [hp]; rfl
  have hNle : (d.flights.takeWhile p).length <= d.flights.length:=(List.takeWhile_sublist p).length_le
  have htd:=Gg (p:=p) (l:=d.flights)
  have hlt:=fun k=>HA (p:=p) (l:=d.flights) (k:=k)
  have hen:=Ll (p:=p) (l:=d.flights)
  generalize hN : (d.flights.takeWhile p).length = N at hNle htd hlt hen
  have r1 : (endedD d).map Fl.pv = (d.flights.take N).map Fl.pv:=by rw [hE,<- htd.1]
  have r2 : (advD d).flights.map Fl.pv = List.drop N (d.flights.map Fl.pv):=by rw [hF,<- htd.2,List.map_drop]
  have r3 : (advD d).flights.length = d.flights.length - N:=by rw [hF,<- htd.2,lld]
  have r4 : (advD d).buckets = M:=hM.symm
  have r5 : GD t (advD d) (.p (Aj d.v)) 0 1 = Ob.box [.p (.int .i64 d.m.rb),.p (.int .i64 d.m.rp),.p (.int .i64 d.m.wb),.p (.int .i64 d.m.wp),.p (.int .i64 d.m.seek),.p (.int .i64 d.speed),.p (.int .i64 d.margin),.p (.int .i64 (d.now + 1)),.p (.int .i64 d.free),.p (.int .i64 d.head),VVal.own (Id.arg 1 0) 0 0 d.weights.length,VVal.own (Id.arg 2 0) 0 0 d.buckets.length,VVal.own (Id.arg 3 0) 0 0 d.depths.length,.p (Aj d.v),VVal.own (Id.arg 4 0) 0 0 d.queue.length,VVal.own (Id.arg 5 0) 1 0 (d.flights.length - N),.p (Ap t.nodes),.p (.int .i64 t.next)]:=by
   unfold GD
   rw [r3,r4,hMl]
   rfl
  rw [r1,r2,r4,r5]
  have hcl:=PE (xs:=(d.flights.take N).map Fl.pv) (by rw [llm,llt]; omega)
  have htt : (d.flights.take N).take (min N d.flights.length) = d.flights.take N:=by rw [List.take_take,show min (min N d.flights.length) N = N by omega]
  have hde:=za2 (xs:=d.flights.map Fl.pv) (i:=0) (j:=N) (by rw [llm]; omega) (Int.le_refl _) (by omega) (by rw [llm]; omega)
  rw [llm,Int.toNat_natCast,show Int.toNat 0 = 0 from rfl,List.take_zero,lna,Nat.sub_zero] at hde
  obtain ⟨A,hA⟩:=lpI fun k s=>s.pe 0 = .ptr (Id.arg 0 0) 0 0 /\ s.pe 7 = .p (.int .i64 k) /\ s.h (.arg 0 0) = some (0,Ob.box [.p (.int .i64 d.m.rb),.p (.int .i64 d.m.rp),.p (.int .i64 d.m.wb),.p (.int .i64 d.m.wp),.p (.int .i64 d.m.seek),.p (.int .i64 d.speed),.p (.int .i64 d.margin),.p (.int .i64 (d.now + 1)),.p (.int .i64 d.free),.p (.int .i64 d.head),VVal.own (Id.arg 1 0) 0 0 d.weights.length,VVal.own (Id.arg 2 0) 0 0 d.buckets.length,VVal.own (Id.arg 3 0) 0 0 d.depths.length,.p (Aj d.v),VVal.own (Id.arg 4 0) 0 0 d.queue.length,VVal.own (Id.arg 5 0) 0 0 d.flights.length,.p (Ap t.nodes),.p (.int .i64 t.next)]) /\ s.h (.arg 1 0) = some (0,.arr 2 (d.weights.map Ch.pv)) /\ s.h (.arg 2 0) = some (0,.arr 21 (M.map Cp.pv)) /\ s.h (.arg 3 0) = some (0,.arr 3 (d.depths.map Dp.pv)) /\ s.h (.arg 4 0) = some (0,.arr 6 (d.queue.map Rq.pv)) /\ s.h (.arg 5 0) = some (0,.arr 7 (d.flights.map Fl.pv))
  refine Am (N) A ?_ ?_
  ·refine (hA _ _).2 ?_
   and_intros
   all_goals first | exact cl0 | (simp -implicitDefEqProofs (disch:=omega) only [hH,lma,go_sem] <;> first | (simp [Ab,List.map_set,Cp.pv]; done) | (simp [Ab,List.map_set,Cp.pv]; omega))
  intro k s hk hAk
  obtain hH:=(hA _ _).1 hAk
  clear hAk
  by_cases hkN : k < N
  ·obtain ⟨f,hf,hpf⟩:=hlt k hkN
   rw [hp] at hpf
   have hd : f.done <= d.now + 1:=of_decide_eq_true hpf
   have hkl:=(lgs.1 hf).1
   simp -implicitDefEqProofs (disch:=omega) only [hH,hkl,hf,hd,go_sem]
   try refine ai ?_
   refine (hA _ _).2 ?_
   and_intros
   all_goals first | exact cl0 | (simp -implicitDefEqProofs (disch:=omega) only [hH,lma,go_sem] <;> first | (simp [Ab,List.map_set,Cp.pv]; done) | (simp [Ab,List.map_set,Cp.pv]; omega))
  ·have hkE : k = N:=by omega
   subst hkE
   rcases hen with e | ⟨f,hf,hpf⟩
   ·have hkl : ¬ k < d.flights.length:=by omega
    simp -implicitDefEqProofs (disch:=omega) only [hH,hkl,hcl,hde,htt,Nat.sub_zero,<- List.map_take,go_sem]
   ·rw [hp] at hpf
    have hd : ¬ f.done <= d.now + 1:=of_decide_eq_false hpf
    have hkl:=(lgs.1 hf).1
    simp -implicitDefEqProofs (disch:=omega) only [hH,hkl,hf,hd,hcl,hde,htt,Nat.sub_zero,<- List.map_take,go_sem]
abbrev Rx (t : Tr) (d : Dv) (n : Nat) : Ob:=.box [.p (.int .i64 d.m.rb),.p (.int .i64 d.m.rp),.p (.int .i64 d.m.wb),.p (.int .i64 d.m.wp),.p (.int .i64 d.m.seek),.p (.int .i64 d.speed),.p (.int .i64 d.margin),.p (.int .i64 d.now),.p (.int .i64 d.free),.p (.int .i64 d.head),.own (.arg 1 0) 0 0 d.weights.length,.own (.arg 2 0) 0 0 d.buckets.length,.own (.arg 3 0) 0 0 d.depths.length,.own (.arg 4 0) 0 0 n,.own (.arg 5 0) 0 0 d.queue.length,.own (.arg 6 0) 0 0 d.flights.length,.p (Ap t.nodes),.p (.int .i64 t.next)]
abbrev mHS (t : Tr) (d : Dv) (v : List Ch) (M : List Cp) : List Ob:=[Rx t d v.length,.arr 2 (d.weights.map Ch.pv),.arr 21 (M.map Cp.pv),.arr 3 (d.depths.map Dp.pv),.arr 2 (v.map Ch.pv),.arr 6 (d.queue.map Rq.pv),.arr 7 (d.flights.map Fl.pv)]
theorem Xf (t : Tr) (d : Dv) (v : List Ch) (M : List Cp) (hM : M.length = d.buckets.length) (id : Int) (hb : d.buckets.length < 1000000) : V 159 [.ptr (.arg 0 0) 0 0,.p (.int .i64 id)] (mHS t d v M) = some (.p (.int .i64 (Cd (fun c=>decide (c.group = id)) M)),mHS t d v M):=by
 refine Ae (vf:=vf159) rfl ?_
 have i0:=Qd M id (by omega)
 have htk : List.take d.buckets.length (List.map Cp.pv M) = List.map Cp.pv M:=ltl (by rw [llm]; omega)
 simp -implicitDefEqProofs (disch:=omega) only [vf159,Lv,i0,htk,go_sem]
theorem Ik (b : Bk) (n : Int) (h : Cj b = true) (hn : 0 <= n /\ n <= 1073741824) : ∃ e,V 188 [b.vv,.p (.int .i64 b.now),.p (.int .i64 n)] [] = some (.tup [(Bc b n).vv,.p (.int .i64 e)],[]):=by
 by_cases hle : n <= AN b
 ·exact ⟨0,Zo b n h ⟨hn.1,hle⟩⟩
 ·refine ⟨11,Ae (vf:=vf188) rfl ?_⟩
  have hw:=((Bu.1 h).2.1)
  have i0:=Gn b b.now h (Int.le_refl _) hw.2
  rw [Iz h] at i0
  have i1:=IJ b h
  have op:=Hg b
  have hlt : AN b < n:=by omega
  have i2:=E2 n 0 1073741824
  rw [show inZ n 0 1073741824 = true from Cn.2 hn] at i2
  have e : Bc b n = b:=by
   unfold Bc
   unfold AN at hlt
   by_cases e : b.rate = maxR
   ·rw [if_pos e]
   ·rw [if_neg e] at hlt ⊢
    rw [if_pos hlt]
  rw [e]
  simp -implicitDefEqProofs (disch:=omega) only [vf188,IZ,i0,i1,i2,op,hlt,go_sem]
theorem Kf {id : Int} {f : Cp -> Cp} : ∀ {l : List Cp},(∀ c ∈ l,decide (c.group = id) = false) -> BN l id f = l
 | [],_=>rfl
 | c :: l,h=>by
  have:=h c (lms ..)
  rw [BN,if_neg (by simpa using this),Kf fun x hx=>h x (lmc _ hx)]
theorem K5 {id : Int} {f : Cp -> Cp} : ∀ {l : List Cp} {k : Nat} {m : Cp},l[k]? = some m -> decide (m.group = id) = true -> (∀ (i : Nat) (n : Cp),i < k -> l[i]? = some n -> decide (n.group = id) = false) -> BN l id f = l.set k (f m)
 | [],k,m,hm,_,_=>by simp at hm
 | c :: l,0,m,hm,hg,_=>by
  simp only [List.getElem?_cons_zero,osi] at hm
  subst hm
  rw [BN,if_pos (by simpa using hg)]
  rfl
 | c :: l,k + 1,m,hm,hg,ho=>by
  have h0:=ho 0 c (by omega) rfl
  rw [BN,if_neg (by simpa using h0),K5 (by simpa using hm) hg fun i n hi hn=>ho (i + 1) n (by omega) (by simpa using hn)]
  rfl
theorem X6 {t : Tr} {d : Dv} (h : DvOk t d) (hs : d.Small) (v : List Ch) (r : Rq) (hr : AC r = true) : V 127 [.ptr (.arg 0 0) 0 0,r.vv] (mHS t d v d.buckets) = some (.tup [],mHS t d v (EZ t d.buckets r)):=by
 refine Ae (vf:=vf127) rfl ?_
 have hlen:=h.tree.len
 have c1:=II t r.group (by omega)
 have hal:=D4 t.nodes t.nodes.length r.group
 have hsr:=C0.1 hr
 have hbl:=hs.b
 have hSp : EZ t d.buckets r = (ancF t.nodes t.nodes.length r.group).foldl (fun l g=>BN l g fun c=>Bw c r) d.buckets:=rfl
 rw [hSp]
 have hok:=fun gs=>Ia (t:=t) (r:=r) (by omega) gs d.buckets h.bk
 generalize ancF t.nodes t.nodes.length r.group = A at c1 hal
 simp -implicitDefEqProofs (disch:=omega) only [vf127,Rl,c1,go_sem]
 obtain ⟨I,hI⟩:=lpI fun k s=>∃ (M : List Cp),M = (A.take k).foldl (fun l g=>BN l g fun c=>Bw c r) d.buckets /\ M.length = d.buckets.length /\ s.pe 0 = .ptr (Id.arg 0 0) 0 0 /\ s.pe 3 = .ptr (.slot 3 0) 0 0 /\ s.pe 15 = .own (.slot 15 1) 0 0 A.length /\ s.pe 16 = .p (.int .i64 ↑A.length) /\ s.pe 17 = .p (.int .i64 k) /\ s.h (.slot 3 0) = some (0,Ob.box [.p (.int .i64 r.task),.p (.int .i64 r.group),.p (.int .i64 r.at_),.p (.int .i64 r.pages),.p (.bool r.write),.p (.int .i64 r.time)]) /\ s.h (.slot 15 1) = some (0,Ob.arr 1 (List.map (.int .i64) A)) /\ s.h (.arg 0 0) = some (0,Rx t d v.length) /\ s.h (.arg 1 0) = some (0,.arr 2 (d.weights.map Ch.pv)) /\ s.h (.arg 2 0) = some (0,.arr 21 (M.map Cp.pv)) /\ s.h (.arg 3 0) = some (0,.arr 3 (d.depths.map Dp.pv)) /\ s.h (.arg 4 0) = some (0,.arr 2 (v.map Ch.pv)) /\ s.h (.arg 5 0) = some (0,.arr 6 (d.queue.map Rq.pv)) /\ s.h (.arg 6 0) = some (0,.arr 7 (d.flights.map Fl.pv))
 refine Am (A.length) I ?_ ?_
 ·refine (hI _ _).2 ⟨d.buckets,?_⟩
  and_intros
  ·exact cl3
  ·exact cl3
  all_goals first | exact cl0 | (simp -implicitDefEqProofs (disch:=omega) only [lma,go_sem] <;> first | (simp [Ab,List.map_set,List.set_set,Cp.pv]; done) | (simp [Ab,List.map_set,List.set_set,Cp.pv]; omega))
 intro k s hk hIk
 obtain ⟨M,hM,hMl,hH⟩:=(hI _ _).1 hIk
 clear hIk
 have hbkM:=(CT.1 (hok (A.take k))).1
 rw [<- hM] at hbkM
 simp -implicitDefEqProofs (disch:=omega) only [hH,go_sem]
 refine Af (fun hlt=>?_) (fun hge=>?_)
 ·have hm : A[k]? = some A[k]:=lgg hlt
  have htk:=BT hm
  generalize A[k] = g at hm htk
  have k0:=Xf t d v M hMl g hbl
  rcases F3 (fun c : Cp=>decide (c.group = g)) M with ⟨e,hno⟩ | ⟨i,m,e,hmi,hmg,hbe⟩
  ·have hst : BN M g (fun c=>Bw c r) = M:=Kf hno
   rw [e] at k0
   have hd : decide ((0 : Int) <= -1) = false:=rfl
   simp -implicitDefEqProofs (disch:=omega) only [hH,hlt,hm,k0,hd,go_sem]
   try refine ai ?_
   refine (hI _ _).2 ⟨M,?_⟩
   and_intros
   ·exact by rw [htk,lfa,<- hM]; exact hst.symm
   ·exact hMl
   all_goals first | exact cl0 | (simp -implicitDefEqProofs (disch:=omega) only [hH,lma,go_sem] <;> first | (simp [Ab,List.map_set,List.set_set,Cp.pv]; done) | (simp [Ab,List.map_set,List.set_set,Cp.pv]; omega))
  ·have hst : BN M g (fun c=>Bw c r) = M.set i (Bw m r):=K5 hmi hmg hbe
   rw [e] at k0
   have hil:=(lgs.1 hmi).1
   have hcb:=Dg.1 (hbkM m (lmg hmi)).2
   have k1:=fun xs=>Pq xs i r.write
   have hgs : ∀ x,((M.map Cp.pv).set i x)[i]? = some x:=fun x=>List.getElem?_set_self (by rw [llm]; exact hil)
   rw [hMl] at hil
   cases hw : r.write with
   | false =>
    rw [hw] at k1
    simp only [bft,if_false] at k1
    have hsp : Bw m r = ⟨m.group,Bc m.rp r.pages,m.wp,Bc m.ro 1,m.wo⟩:=by unfold Bw; rw [hw]; rfl
    rw [hsp] at hst
    obtain ⟨e1,k2⟩:=Ik m.rp r.pages (AK.1 hcb.1).1 (by omega)
    obtain ⟨e2,k3⟩:=Ik m.ro 1 (AK.1 hcb.2.2.1).1 (by omega)
    rw [(AK.1 hcb.1).2.2] at k2
    rw [(AK.1 hcb.2.2.1).2.2] at k3
    simp -implicitDefEqProofs (disch:=omega) only [hH,hlt,hm,k0,hil,hmi,hw,k1,Cp.pv,PV.cells,k2,k3,hgs,go_sem]
    try refine ai ?_
    refine (hI _ _).2 ⟨M.set i ⟨m.group,Bc m.rp r.pages,m.wp,Bc m.ro 1,m.wo⟩,?_⟩
    and_intros
    .exact by rw [htk,lfa,<- hM]; exact hst.symm
    .exact by rw [List.length_set]; exact hMl
    all_goals first | exact cl0 | (simp -implicitDefEqProofs (disch:=omega) only [hH,lma,go_sem] <;> first | (simp [Ab,List.map_set,List.set_set,Cp.pv]; done) | (simp [Ab,List.map_set,List.set_set,Cp.pv]; omega))
   | true =>
    rw [hw] at k1
    simp only [if_true] at k1
    have hsp : Bw m r = ⟨m.group,m.rp,Bc m.wp r.pages,m.ro,Bc m.wo 1⟩:=by unfold Bw; rw [hw]; rfl
    rw [hsp] at hst
    obtain ⟨e1,k2⟩:=Ik m.wp r.pages (AK.1 hcb.2.1).1 (by omega)
    obtain ⟨e2,k3⟩:=Ik m.wo 1 (AK.1 hcb.2.2.2).1 (by omega)
    rw [(AK.1 hcb.2.1).2.2] at k2
    rw [(AK.1 hcb.2.2.2).2.2] at k3
    simp -implicitDefEqProofs (disch:=omega) only [hH,hlt,hm,k0,hil,hmi,hw,k1,Cp.pv,PV.cells,k2,k3,hgs,go_sem]
    try refine ai ?_
    refine (hI _ _).2 ⟨M.set i ⟨m.group,m.rp,Bc m.wp r.pages,m.ro,Bc m.wo 1⟩,?_⟩
    and_intros
    .exact by rw [htk,lfa,<- hM]; exact hst.symm
    .exact by rw [List.length_set]; exact hMl
    all_goals first | exact cl0 | (simp -implicitDefEqProofs (disch:=omega) only [hH,lma,go_sem] <;> first | (simp [Ab,List.map_set,List.set_set,Cp.pv]; done) | (simp [Ab,List.map_set,List.set_set,Cp.pv]; omega))
 ·rw [ltl (by omega)] at hM
  rw [<- hM]
  simp -implicitDefEqProofs (disch:=omega) only [hH,hge,go_sem]
theorem KY {t : Tr} {d : Dv} (h : DvOk t d) {r : Rq} (hr : AC r = true) : 1 <= BG d r /\ BG d r <= 4098000000:=by
 have:=Wv (Es.1 h.cfg).1 hr d.head
 unfold BG
 omega
theorem Fk {t : Tr} {d : Dv} (h : DvOk t d) : 0 <= d.now * d.speed /\ d.now * d.speed <= 1048576 * 1000000:=by
 obtain ⟨_,h1,_⟩:=Es.1 h.cfg
 exact B1 h.now.1 h.now.2 (by omega) h1.2
theorem H5 {t : Tr} {d : Dv} (h : DvOk t d) (hb : ¬ d.now * d.speed <= d.free) {r : Rq} (hr : AC r = true) : 1 <= Bh d r /\ Bh d r <= 1052674000000 /\ d.free < Bh d r:=by
 have h1:=KY h hr
 have h2:=Fk h
 obtain ⟨_,h3,_⟩:=Es.1 h.cfg
 have h4:=h.free
 have h5 : (d.now - 1) * d.speed = d.now * d.speed - d.speed:=by rw [Int.sub_mul,Int.one_mul]
 unfold Bh
 rw [h5]
 omega
theorem H6 {t : Tr} {d : Dv} (h : DvOk t d) (hb : ¬ d.now * d.speed <= d.free) {r : Rq} (hr : AC r = true) : d.now + 1 <= AY d r /\ AY d r <= 1125899906842624:=by
 obtain ⟨h1,h2,_⟩:=H5 h hb hr
 obtain ⟨_,h3,_⟩:=Es.1 h.cfg
 have h4:=h.now
 have h5 : (Bh d r + d.speed - 1) / d.speed <= Bh d r + d.speed - 1:=Int.ediv_le_self _ (by omega)
 unfold AY
 omega
theorem XH {t : Tr} {d : Dv} (h : DvOk t d) (hb : ¬ d.now * d.speed <= d.free) {g : Int} {r : Rq} (hq : A2 d.queue g = some r) {v : List Ch} (hv : AscOk (Ak t.nodes) 0 1152921504606846976 v) : DvOk t (Do t d g r v):=by
 obtain ⟨hm,hg⟩:=F4 hq
 obtain ⟨hs,hk⟩:=h.q r hm
 have hs':=C0.1 hs
 have hf:=H5 h hb hs
 have hd:=H6 h hb hs
 have hfl:=Di.1 h.fl
 have hn:=h.now
 refine ⟨h.tree,h.cfg,h.now,?_,?_,h.w,h.dp,hv,?_,Ia (t:=t) (by omega) _ _ h.bk,fun x hx=>h.q x ((O7 g d.queue).subset hx),Di.2 ⟨fun x hx=>?_,Vo _ hfl.2.1,fun q hq=>by cases hq⟩⟩
 ·show 0 <= Bh d r /\ Bh d r <= _; omega
 ·show 0 <= r.at_ + r.pages /\ r.at_ + r.pages <= _; omega
 ·have h1:=EW hq
  have h2:=h.len
  show (Bd d.queue g).length + (BR d.flights _).length <= 256
  rw [KQ]
  omega
 ·rcases KP.1 hx with rfl | hx
  .exact ⟨⟨hs,hk⟩,by simp only; omega,hd.2⟩
  .exact hfl.1 x hx
structure StepD (t : Tr) (d : Dv) (g : Int) (r : Rq) (v : List Ch) : Prop where
 busy : ¬ d.now * d.speed <= d.free
 next : g = AV t d.v (d.now * d.speed) 0 (BL (A8 t d [] d.queue))
 pos : g ≠ 0
 first : A2 d.queue g = some r
 issue : B6 t d.v g (Cq t d g) (BG d r) (d.now * d.speed) d.margin = (v,0)
def Jr (t : Tr) (d : Dv) : Prop:=d.now * d.speed <= d.free \/ AV t d.v (d.now * d.speed) 0 (BL (A8 t d [] d.queue)) = 0 \/
 A2 d.queue (AV t d.v (d.now * d.speed) 0 (BL (A8 t d [] d.queue))) = none \/
 ∃ r,A2 d.queue (AV t d.v (d.now * d.speed) 0 (BL (A8 t d [] d.queue))) = some r /\ (B6 t d.v (AV t d.v (d.now * d.speed) 0 (BL (A8 t d [] d.queue))) (Cq t d (AV t d.v (d.now * d.speed) 0 (BL (A8 t d [] d.queue)))) (BG d r) (d.now * d.speed) d.margin).2 ≠ 0
theorem J6 (t : Tr) (k : Nat) (d : Dv) : (Jr t d /\ Cu t (k + 1) d = d) \/ ∃ g r v,StepD t d g r v /\ Cu t (k + 1) d = Cu t k (Do t d g r v):=by
 unfold Jr
 rw [Cu]
 by_cases h1 : d.now * d.speed <= d.free
 ·rw [if_pos h1]; exact .inl ⟨.inl h1,rfl⟩
 rw [if_neg h1]
 simp only
 generalize hg : AV t d.v (d.now * d.speed) 0 (BL (A8 t d [] d.queue)) = g
 by_cases h2 : g = 0
 ·rw [if_pos h2]; exact .inl ⟨.inr (.inl h2),rfl⟩
 rw [if_neg h2]
 cases h3 : A2 d.queue g with
 | none=>exact .inl ⟨.inr (.inr (.inl rfl)),rfl⟩
 | some r =>
  simp only
  generalize hi : B6 t d.v g (Cq t d g) (BG d r) (d.now * d.speed) d.margin = i
  obtain ⟨v,e⟩:=i
  by_cases h4 : e = 0
  ·subst h4
   rw [if_neg (fun h=>h rfl)]
   exact .inr ⟨g,r,v,⟨h1,hg.symm,h2,h3,hi⟩,rfl⟩
  ·rw [if_pos h4]
   exact .inl ⟨.inr (.inr (.inr ⟨r,rfl,by rw [hi]; exact h4⟩)),rfl⟩
theorem Fn {t : Tr} {P : Dv -> Prop} (hs : ∀ d g r v,P d -> StepD t d g r v -> P (Do t d g r v)) : ∀ (k : Nat) (d : Dv),P d -> P (Cu t k d)
 | 0,d,h=>h
 | k + 1,d,h=>by
  rcases J6 t k d with ⟨_,e⟩ | ⟨g,r,v,st,e⟩
  .rw [e]; exact h
  .rw [e]; exact Fn hs k _ (hs d g r v h st)
theorem Hj {t : Tr} {d : Dv} {g : Int} {r : Rq} {v : List Ch} (h : DvOk t d) (st : StepD t d g r v) : DvOk t (Do t d g r v):=by
 refine XH h st.busy st.first ?_
 have:=N5 (t:=t) (a:=d.v) (id:=g) (share:=Cq t d g) (cost:=BG d r) (now:=d.now * d.speed) (margin:=d.margin) (by rw [st.issue])
 rw [st.issue] at this
 exact this
theorem YM {t : Tr} (k : Nat) {d : Dv} (h : DvOk t d) : DvOk t (Cu t k d):=Fn (P:=DvOk t) (fun _ _ _ _ h st=>Hj h st) k d h
theorem KD {t : Tr} {d : Dv} (h : DvOk t d) (hn : d.now < 1048576) : DvOk t (tickD t d):=YM _ (Hq h hn)
theorem JH (t : Tr) (d : Dv) : (tickD t d).now = d.now + 1 /\ (tickD t d).speed = d.speed /\ (tickD t d).m = d.m /\ (tickD t d).margin = d.margin /\ (tickD t d).weights = d.weights /\ (tickD t d).depths = d.depths :=
 Fn (P:=fun x=>x.now = d.now + 1 /\ x.speed = d.speed /\ x.m = d.m /\ x.margin = d.margin /\ x.weights = d.weights /\ x.depths = d.depths) (fun _ _ _ _ h _=>h) _ _ ⟨rfl,rfl,rfl,rfl,rfl,rfl⟩
theorem X7 {α : Type} (p : α -> Bool) (l : List α) : (l.takeWhile p).length + (l.dropWhile p).length = l.length:=by
 rw [<- lla,List.takeWhile_append_dropWhile]
theorem JI (t : Tr) (d : Dv) : (tickD t d).queue.length + (tickD t d).flights.length + (endedD d).length = d.queue.length + d.flights.length:=by
 have h:=Fn (t:=t) (P:=fun x=>x.queue.length + x.flights.length = (advD d).queue.length + (advD d).flights.length) (fun x g r v h st=>by
  have:=EW st.first
  show (Bd x.queue g).length + (BR x.flights _).length = _
  rw [KQ]
  omega) (d.queue.length + 1) (advD d) rfl
 have h2:=X7 (fun f : Fl=>decide (f.done <= d.now + 1)) d.flights
 have h3 : (advD d).flights = d.flights.dropWhile (fun f=>decide (f.done <= d.now + 1)):=rfl
 have h4 : (advD d).queue = d.queue:=rfl
 rw [h3,h4] at h
 show (Cu t (d.queue.length + 1) (advD d)).queue.length + (Cu t (d.queue.length + 1) (advD d)).flights.length + (d.flights.takeWhile _).length = _
 omega
theorem J5 {t : Tr} {d : Dv} {x : Int} : ∀ {q : List Rq} {seen : List Int},x ∈ A8 t d seen q ↔ x ∉ seen /\ ∃ r,A2 q x = some r /\ C8 t d r = true
 | [], seen=>by simp [A8, A2]
 | r :: q,seen=>by
  rw [A8,lmp,J5 (q:=q)]
  rw [show A2 (r :: q) x = if r.group = x then some r else A2 q x from rfl]
  by_cases hx : r.group = x
  ·subst hx
   simp only [if_true,lmk,true_or,not_true_eq_false,false_and,or_false,osi,exists_eq_left']
   by_cases hs : r.group ∈ seen
   ·simp [hs]
   ·by_cases hp : C8 t d r = true <;> simp [hs,hp]
  ·have hx' : ¬ x = r.group:=fun e=>hx e.symm
   simp only [if_neg hx,lmk,hx',false_or]
   constructor
   ·rintro (h | h)
    ·exfalso
     split at h
     ·cases h
     ·split at h
      .rw [List.mem_singleton] at h; exact hx' h
      .cases h
    .exact h
   .exact fun h=>.inr h
theorem NE (t : Tr) (d : Dv) : ∀ (q : List Rq) (seen : List Int),(A8 t d seen q).length <= q.length
 | [],seen=>lrf _
 | r :: q,seen=>by
  have:=NE t d q (r.group :: seen)
  rw [A8,lla,llc]
  split
  .simp; omega
  .split <;> simp <;> omega
theorem P3 {t : Tr} {a : List Ch} {now : Int} : ∀ (l pre : List Int) (best : Int),NInv t a now pre best -> NInv t a now (pre ++ l) (AV t a now best l)
 | [],pre,best,h=>by rw [lan]; exact h
 | x :: l,pre,best,h=>by
  rw [AV,show pre ++ x :: l = (pre ++ [x]) ++ l by simp]
  refine P3 l _ _ ?_
  by_cases hm : CF t a x now = true
  ·by_cases hb : best = 0 \/ An a x < An a best \/ (An a x = An a best /\ x < best)
   ·rw [if_pos ⟨hm,hb⟩]
    exact h.take hm (P9 hm) hb
   ·rw [if_neg (fun h=>hb h.2)]
    exact h.keep hb
  ·rw [if_neg (fun h=>hm h.1)]
   exact h.skip (by simpa using hm)
theorem KM (t : Tr) (a : List Ch) (now : Int) (l : List Int) : NInv t a now l (AV t a now 0 l):=by
 have:=P3 l [] 0 (t:=t) (a:=a) (now:=now) (Or.inl ⟨rfl,fun x hx=>by cases hx⟩)
 rwa [lna] at this
theorem YD {t : Tr} {a : List Ch} {now : Int} {l : List Int} {b c : Int} (h : NInv t a now l b) (h' : NInv t a now l c) : b = c:=by
 rcases h with ⟨h1,h2⟩ | ⟨h1,h2,h3,h4⟩ <;> rcases h' with ⟨g1,g2⟩ | ⟨g1,g2,g3,g4⟩
 ·omega
 ·rw [h2 c g2] at g3; cases g3
 ·rw [g2 b h2] at h3; cases h3
 ·have e1:=h4 c g2 g3
  have e2:=g4 b h2 h3
  omega
theorem ZZ {t : Tr} {a : List Ch} {now : Int} {l : List Int} (h : AV t a now 0 l ≠ 0) : AV t a now 0 l ∈ l /\ CF t a (AV t a now 0 l) now = true:=by
 rcases KM t a now l with ⟨h1,_⟩ | ⟨_,h2,h3,_⟩
 .exact absurd h1 h
 .exact ⟨h2,h3⟩
theorem Ov {l : List Int} {x : Int} : x ∈ BL l ↔ x ∈ l:=(List.mergeSort_perm _ _).mem_iff
theorem J3 {t : Tr} {d : Dv} (h : AV t d.v (d.now * d.speed) 0 (BL (A8 t d [] d.queue)) ≠ 0) : ∃ r,A2 d.queue (AV t d.v (d.now * d.speed) 0 (BL (A8 t d [] d.queue))) = some r /\ C8 t d r = true:=by
 have:=(J5.1 (Ov.1 (ZZ h).1)).2
 exact this
theorem J7 {g : Int} {l : List Rq} {r : Rq} (h : A2 l g = some r) : ∃ i : Nat,Cd (fun c : Rq=>decide (c.group = g)) l = i /\ l[i]? = some r /\ Bd l g = l.take i ++ l.drop (i + 1):=by
 have key : ∀ (l : List Rq),A2 l g = some r -> ∃ i : Nat,l[i]? = some r /\ r.group = g /\ (∀ (j : Nat) (n : Rq),j < i -> l[j]? = some n -> decide (n.group = g) = false) /\ Bd l g = l.take i ++ l.drop (i + 1):=by
  intro l
  induction l with
  | nil=>intro h; cases h
  | cons x l ih =>
   intro h
   unfold A2 at h
   by_cases hx : x.group = g
   ·rw [if_pos hx] at h
    cases h
    exact ⟨0,rfl,hx,by omega,by simp [Bd,hx]⟩
   ·rw [if_neg hx] at h
    obtain ⟨i,h1,h2,h3,h4⟩:=ih h
    refine ⟨i + 1,by simpa using h1,h2,fun j n hj hn=>?_,by simp [Bd,hx,h4]⟩
    cases j with
    | zero=>simp at hn; subst hn; simpa using hx
    | succ j=>exact h3 j n (by omega) (by simpa using hn)
 obtain ⟨i,h1,h2,h3,h4⟩:=key l h
 exact ⟨i,Gl h1 h3 (by simpa using h2),h1,h4⟩
theorem NA {l : List Fl} (hs : l.Pairwise fun a b=>a.done <= b.done) (x : Int) : ∀ (j : Nat) (f : Fl),(l.takeWhile fun f=>decide (f.done <= x)).length <= j -> l[j]? = some f -> x < f.done:=by
 induction l with
 | nil=>intro j f _ hf; simp at hf
 | cons a l ih =>
  rw [lpw] at hs
  intro j f hj hf
  by_cases ha : a.done <= x
  ·rw [List.takeWhile_cons_of_pos (by simpa using ha),llc] at hj
   cases j with
   | zero=>omega
   | succ j=>exact ih hs.2 j f (by omega) (by simpa using hf)
  ·cases j with
   | zero=>simp at hf; subst hf; omega
   | succ j =>
    have:=hs.1 f (lmg (by simpa using hf))
    omega
theorem O4 (f : Cp -> Cp) (id : Int) : ∀ l : List Cp,(BN l id f).length = l.length
 | []=>rfl
 | c :: l=>by
  unfold BN
  split
  .rfl
  .simp [O4 f id l]
theorem Nz (t : Tr) (l : List Cp) (r : Rq) : (EZ t l r).length = l.length:=by
 unfold EZ
 generalize ancF t.nodes t.nodes.length r.group = A
 induction A generalizing l with
 | nil=>rfl
 | cons g A ih=>rw [List.foldl_cons,ih,O4]
theorem PG {t : Tr} {d : Dv} (h : DvOk t d) (hs : d.Small) (hb : ¬ d.now * d.speed <= d.free) {g : Int} {r : Rq} (hq : A2 d.queue g = some r) {v : List Ch} {e : Int} (hi : B6 t d.v g (Cq t d g) (BG d r) (d.now * d.speed) d.margin = (v,e)) :
  V 55 [.ptr (.arg 0 0) 0 0,.p (.int .i64 g)] (mH t d) = some (if e = 0 then (.p (.bool true),[GD t (Do t d g r v) (.fresh 2 (v.map Ch.pv)) 1 1,.arr 2 (d.weights.map Ch.pv),.arr 21 ((EZ t d.buckets r).map Cp.pv),.arr 3 (d.depths.map Dp.pv),.box [.undef,.fresh 6 ((Bd d.queue g).map Rq.pv)],.box [.undef,.fresh 7 ((BR d.flights ⟨r,AY d r⟩).map Fl.pv)]]) else (.p (.bool false),mH t d)):=by
 refine Ae (vf:=vf55) rfl ?_
 have hlen:=h.tree.len
 have hql:=h.len
 obtain ⟨hs1,hs2,hs3,hs4,hs5,hs6⟩:=id hs
 obtain ⟨hmem,hgr⟩:=F4 hq
 obtain ⟨hsr,hkn⟩:=h.q r hmem
 rw [hgr] at hkn
 obtain ⟨n,hn,hid⟩:=CS hkn
 obtain ⟨ni,hni⟩:=lgm hn
 obtain ⟨hmd,hsp,hmg⟩:=Es.1 h.cfg
 have i0:=zaj d.queue g hs5
 obtain ⟨i,hix,hir,hrem⟩:=J7 hq
 rw [hix] at i0
 have hil:=(lgs.1 hir).1
 have i1:=zaz d.m r d.head hmd hsr h.head
 have i2:=XQ t d hs5 hs6
 have hact : (actL d).length < 1000000:=by
  unfold actL
  rw [lla,llm,llm]
  omega
 have i3:=Ya h.tree h.w (actL d) hact hni
 rw [hid] at i3
 have hsh : shr t (Ar d.weights) (onB t (actL d)) g = Cq t d g:=rfl
 rw [hsh] at i3
 have i4:=YP t d.v g (Cq t d g) (BG d r) (d.now * d.speed) d.margin h.tree.fits (by omega) hs4
 rw [hi] at i4
 simp only at i4
 have hco:=KY h hsr
 have hcd : max (Cw d.m r d.head) 1 = BG d r:=rfl
 have hbr:=Fk h
 generalize Cq t d g = share at i3 i4 hi
 by_cases he : e = 0
 ·rw [if_pos he]
  subst he
  have i5:=X6 h hs v r hsr
  have hM:=Nz t d.buckets r
  have i6 : V 128 [.own (.arg 0 0) 0 0 d.queue.length,.p (.int .i64 i),.p (.int .i64 ((i : Int) + 1))] [.arr 6 (d.queue.map Rq.pv)] = some (.own (.arg 0 0) 1 0 (Bd d.queue g).length,[.box [.undef,.fresh 6 ((Bd d.queue g).map Rq.pv)]]):=by
   have:=za1 (xs:=d.queue.map Rq.pv) (i:=i) (j:=(i : Int) + 1) (by rw [llm]; omega) (by omega) (by omega) (by rw [llm]; omega)
   rw [llm,Int.toNat_natCast,show ((i : Int) + 1).toNat = i + 1 by omega,show d.queue.length - (i + 1 - i) = (Bd d.queue g).length by have:=EW hq; omega] at this
   rw [this,hrem,lma,List.map_take,List.map_drop]
  have hrl:=EW hq
  have hfr:=H5 h hb hsr
  have hdn:=H6 h hb hsr
  have hsr':=C0.1 hsr
  have hnw:=h.now
  have hn1 : (d.now - 1) * d.speed = d.now * d.speed - d.speed:=by rw [Int.sub_mul,Int.one_mul]
  have hf0:=h.free
  have hfd : max d.free ((d.now - 1) * d.speed) + BG d r = Bh d r:=rfl
  have hdd : max (d.now + 1) ((Bh d r + d.speed - 1) / d.speed) = AY d r:=rfl
  have hqu : (Bh d r + d.speed - 1).tdiv d.speed = (Bh d r + d.speed - 1) / d.speed:=Int.tdiv_eq_ediv_of_nonneg (by omega)
  have hq0 : 0 <= (Bh d r + d.speed - 1) / d.speed:=Int.ediv_nonneg (by omega) (by omega)
  have hq1 : (Bh d r + d.speed - 1) / d.speed <= Bh d r + d.speed - 1:=Int.ediv_le_self _ (by omega)
  have hsp0 : ¬ d.speed = 0:=by omega
  simp -implicitDefEqProofs (disch:=omega) only [vf55,LT,i0,hil,hir,i1,i2,i3,hcd,i4,i5,i6,hfd,hqu,hsp0,hdd,go_sem]
  have hso:=(Di.1 h.fl).2.1
  have hse:=NA hso (AY d r)
  have htl:=fun k=>HA (p:=fun f : Fl=>decide (f.done <= AY d r)) (l:=d.flights) (k:=k)
  have hNl : (d.flights.takeWhile fun f=>decide (f.done <= AY d r)).length <= d.flights.length:=(List.takeWhile_sublist _).length_le
  have htd:=Gg (p:=fun f : Fl=>decide (f.done <= AY d r)) (l:=d.flights)
  have hin : BR d.flights ⟨r,AY d r⟩ = d.flights.take (d.flights.takeWhile fun f=>decide (f.done <= AY d r)).length ++ ⟨r,AY d r⟩ :: d.flights.drop (d.flights.takeWhile fun f=>decide (f.done <= AY d r)).length:=by rw [htd.1,htd.2]; rfl
  generalize hN : (d.flights.takeWhile fun f=>decide (f.done <= AY d r)).length = N at hse htl hNl hin
  have r5 : GD t (Do t d g r v) (.fresh 2 (v.map Ch.pv)) 1 1 = Ob.box [.p (.int .i64 d.m.rb),.p (.int .i64 d.m.rp),.p (.int .i64 d.m.wb),.p (.int .i64 d.m.wp),.p (.int .i64 d.m.seek),.p (.int .i64 d.speed),.p (.int .i64 d.margin),.p (.int .i64 d.now),.p (.int .i64 (Bh d r)),.p (.int .i64 (r.at_ + r.pages)),VVal.own (Id.arg 1 0) 0 0 d.weights.length,VVal.own (Id.arg 2 0) 0 0 d.buckets.length,VVal.own (Id.arg 3 0) 0 0 d.depths.length,.fresh 2 (v.map Ch.pv),VVal.own (Id.arg 4 0) 1 0 (Bd d.queue g).length,VVal.own (Id.arg 5 0) 1 0 (d.flights.length + 1),.p (Ap t.nodes),.p (.int .i64 t.next)]:=by
   unfold GD
   simp only [Do,KQ,hM]
  rw [r5,hin]
  have i7:=fun (m : Nat) (hm : m <= d.flights.length)=>zaT (xs:=d.flights.map Fl.pv) (x:=Fl.pv ⟨r,AY d r⟩) (i:=m) (by rw [llm]; omega) (by omega) (by rw [llm]; omega)
  simp only [llm,Int.toNat_natCast] at i7
  simp only [Fl.pv] at i7
  obtain ⟨A,hA⟩:=lpI fun k s=>∃ (m : Nat),m + k = d.flights.length /\ s.pe 0 = .ptr (Id.arg 0 0) 0 0 /\ s.pe 6 = .ptr (.slot 6 0) 0 0 /\ s.pe 13 = .p (.int .i64 (AY d r)) /\ s.pe 14 = .p (.int .i64 (m : Int)) /\ s.h (.arg 0 0) = some (0,Ob.box [.p (.int .i64 d.m.rb),.p (.int .i64 d.m.rp),.p (.int .i64 d.m.wb),.p (.int .i64 d.m.wp),.p (.int .i64 d.m.seek),.p (.int .i64 d.speed),.p (.int .i64 d.margin),.p (.int .i64 d.now),.p (.int .i64 (Bh d r)),.p (.int .i64 (r.at_ + r.pages)),VVal.own (Id.arg 1 0) 0 0 d.weights.length,VVal.own (Id.arg 2 0) 0 0 d.buckets.length,VVal.own (Id.arg 3 0) 0 0 d.depths.length,.own (.slot 95 1) 0 0 v.length,VVal.own (Id.arg 4 0) 1 0 (Bd d.queue g).length,VVal.own (Id.arg 5 0) 0 0 d.flights.length,.p (Ap t.nodes),.p (.int .i64 t.next)]) /\ s.h (.arg 1 0) = some (0,Ob.arr 2 (List.map Ch.pv d.weights)) /\ s.h (.arg 2 0) = some (0,Ob.arr 21 (List.map Cp.pv (EZ t d.buckets r))) /\ s.h (.arg 3 0) = some (0,Ob.arr 3 (List.map Dp.pv d.depths)) /\ s.h (.arg 4 0) = some (1,Ob.arr 6 (List.map Rq.pv (Bd d.queue g))) /\ s.h (.arg 5 0) = some (0,Ob.arr 7 (List.map Fl.pv d.flights)) /\ s.h (.slot 6 0) = some (0,Ob.box [.p (.int .i64 r.task),.p (.int .i64 r.group),.p (.int .i64 r.at_),.p (.int .i64 r.pages),.p (.bool r.write),.p (.int .i64 r.time)]) /\ s.h (.slot 95 1) = some (0,Ob.arr 2 (List.map Ch.pv v))
  refine Am ((d.flights.length - N)) A ?_ ?_
  ·refine (hA _ _).2 ⟨d.flights.length,?_⟩
   and_intros
   ·exact cl3
   all_goals first | exact cl0 | (simp -implicitDefEqProofs (disch:=omega) only [lma,go_sem] <;> first | (simp [Ab]; done) | (simp [Ab]; omega))
  intro k s hk hAk
  obtain ⟨m,hmk,hH⟩:=(hA _ _).1 hAk
  clear hAk
  by_cases hkN : k < d.flights.length - N
  ·have hfm : d.flights[m - 1]? = some d.flights[m - 1]:=lgg (by omega)
   have hd:=hse (m - 1) _ (by omega) hfm
   generalize d.flights[m - 1] = f at hfm hd
   have hm0 : (0 : Int) < m:=by omega
   have hm1 : (0 : Int) <= (m : Int) - 1:=by omega
   have hm2 : ((m : Int) - 1).toNat = m - 1:=by omega
   have hm3 : m - 1 < d.flights.length:=by omega
   simp -implicitDefEqProofs (disch:=omega) only [hH,hm0,hm1,hm2,hm3,hfm,hd,go_sem]
   try refine ai ?_
   refine (hA _ _).2 ⟨m - 1,?_⟩
   and_intros
   ·omega
   all_goals first | exact cl0 | (simp -implicitDefEqProofs (disch:=omega) only [hH,lma,go_sem] <;> first | (simp [Ab]; done) | (simp [Ab]; omega))
  ·have hmN : m = N:=by omega
   subst hmN
   by_cases hm00 : m = 0
   ·have hm0 : ¬ (0 : Int) < m:=by omega
    simp -implicitDefEqProofs (disch:=omega) only [hH,hm0,i7,lma,lpc,List.map_take,List.map_drop,go_sem]
   ·obtain ⟨f,hfm,hpf⟩:=htl (m - 1) (by omega)
    have hd : ¬ AY d r < f.done:=by have:=of_decide_eq_true hpf; omega
    have hm0 : (0 : Int) < m:=by omega
    have hm1 : (0 : Int) <= (m : Int) - 1:=by omega
    have hm2 : ((m : Int) - 1).toNat = m - 1:=by omega
    have hm3 : m - 1 < d.flights.length:=by omega
    simp -implicitDefEqProofs (disch:=omega) only [hH,hm0,hm1,hm2,hm3,hfm,hd,i7,lma,lpc,List.map_take,List.map_drop,go_sem]
 ·rw [if_neg he]
  simp -implicitDefEqProofs (disch:=omega) only [vf55,LT,i0,hil,hir,i1,i2,i3,hcd,i4,he,go_sem]
abbrev dvF (d : Dv) (v : VVal) : VVal:=.agg [.p (.int .i64 d.m.rb),.p (.int .i64 d.m.rp),.p (.int .i64 d.m.wb),.p (.int .i64 d.m.wp),.p (.int .i64 d.m.seek),.p (.int .i64 d.speed),.p (.int .i64 d.margin),.p (.int .i64 d.now),.p (.int .i64 d.free),.p (.int .i64 d.head),.fresh 2 (d.weights.map Ch.pv),.fresh 21 (d.buckets.map Cp.pv),.fresh 3 (d.depths.map Dp.pv),v,.fresh 6 (d.queue.map Rq.pv),.fresh 7 (d.flights.map Fl.pv)]
abbrev Em (m : Mdl) (speed margin : Int) : Dv:=⟨m,speed,margin,0,0,0,[],[],[],[],[],[]⟩
theorem zay (m : Mdl) (speed margin : Int) (h : DB m speed margin = true) : V 28 [FL m speed margin] [] = some (.tup [dvF (Em m speed margin) (.fresh 2 []),.p (.int .i64 0)],[]):=by
 refine Ae (vf:=vf28) rfl ?_
 have i0:=NX m speed margin
 rw [h] at i0
 simp -implicitDefEqProofs (disch:=omega) only [vf28,R3,i0,go_sem]
 rfl
theorem PY (t : Tr) (d : Dv) (hs : d.Small) : V 50 [t.vv,d.vv] [] = some (.boxed [.p (.int .i64 d.m.rb),.p (.int .i64 d.m.rp),.p (.int .i64 d.m.wb),.p (.int .i64 d.m.wp),.p (.int .i64 d.m.seek),.p (.int .i64 d.speed),.p (.int .i64 d.margin),.p (.int .i64 d.now),.p (.int .i64 d.free),.p (.int .i64 d.head),.fresh 2 (d.weights.map Ch.pv),.fresh 21 (d.buckets.map Cp.pv),.fresh 3 (d.depths.map Dp.pv),.p (Aj d.v),.fresh 6 (d.queue.map Rq.pv),.fresh 7 (d.flights.map Fl.pv),.p (Ap t.nodes),.p (.int .i64 t.next)],[]):=by
 refine Ae (vf:=vf50) rfl ?_
 obtain ⟨hs1,hs2,hs3,hs4,hs5,hs6⟩:=hs
 have c1:=Zd (xs:=d.weights.map Ch.pv) (by simpa using hs1)
 have c2:=Zg (xs:=d.buckets.map Cp.pv) (by simpa using hs2)
 have c3:=Zf (xs:=d.depths.map Dp.pv) (by simpa using hs3)
 have c4:=Zh (xs:=d.v.map Ch.pv) (by simpa using hs4)
 have c5:=Ze (xs:=d.queue.map Rq.pv) (by simpa using hs5)
 have c6:=PE (xs:=d.flights.map Fl.pv) (by simpa using hs6)
 simp -implicitDefEqProofs (disch:=omega) only [vf50,RT,c1,c2,c3,c4,c5,c6,go_sem]
theorem Zj (t : Tr) (d : Dv) (r : Rq) (h : DvOk t d) (hs : d.Small) (hr : AC { r with time:=0 } = true) (hk : Ak t.nodes r.group = true) : V 49 [t.vv,d.vv,r.vv] [] = some (.p (.int .i64 0),[]):=by
 refine Ae (vf:=vf49) rfl ?_
 have hlen:=h.tree.len
 have i0:=OQ t d h.tree.fits (by omega) hs
 rw [dvOk_iff.2 h] at i0
 have i1:=Kz { r with time:=0 }
 rw [hr] at i1
 have i2:=Ky t r.group (by omega)
 rw [hk] at i2
 simp -implicitDefEqProofs (disch:=omega) only [vf49,RU,i0,i1,i2,go_sem]
abbrev BX (d : Dv) (r : Rq) : Dv:={ d with queue:=d.queue ++ [{ r with time:=d.now }] }
theorem H9 (t : Tr) (d : Dv) (r : Rq) (h : DvOk t d) (hs : d.Small) (hr : AC { r with time:=0 } = true) (hk : Ak t.nodes r.group = true) (hl : d.queue.length + d.flights.length < 256) : V 17 [t.vv,d.vv,r.vv] [] = some (.tup [dvF (BX d r) (.p (Aj d.v)),.p (.int .i64 0)],[]):=by
 refine Ae (vf:=vf17) rfl ?_
 have i0:=Zj t d r h hs hr hk
 have i1:=PY t d hs
 have hn : ¬ (d.queue.length : Int) + d.flights.length = 256:=by omega
 simp -implicitDefEqProofs (disch:=omega) only [vf17,Sd,llm,i0,i1,hn,go_sem]
 simp only [dvF,BX,lma,lpc,lpn,Rq.pv]
theorem Lg {t : Tr} (h : TreeOk t) {lo hi : Int} {l : List Ch} (hl : AscOk (Ak t.nodes) lo hi l) : l.length < 1000000:=by
 have:=N0 hl
 have:=h.len
 omega
theorem Qb {t : Tr} {l : List Int} (hp : l.Pairwise fun a b=>a < b) (hk : ∀ x ∈ l,Ak t.nodes x = true) : l.length <= t.nodes.length:=by
 have:=HE l (t.nodes.map (·.id)) (hp.imp fun h e=>by omega) fun x hx=>by
  obtain ⟨n,hn,rfl⟩:=CS (hk x hx)
  exact List.mem_map_of_mem hn
 simpa using this
theorem Ix {kn : Int -> Bool} : ∀ {l : List Dp} {p : Option Int},BS kn p l = true -> (∀ c ∈ l,kn c.group = true) /\ l.Pairwise (fun a b=>a.group < b.group) /\ ∀ q,p = some q -> ∀ c ∈ l,q < c.group
 | [],p,_=>⟨by simp,List.Pairwise.nil,by simp⟩
 | c :: l,p,h=>by
  simp only [BS,bat,JZ] at h
  obtain ⟨⟨⟨h1,h2⟩,_⟩,h4⟩:=h
  obtain ⟨e1,e2,e3⟩:=Ix h4
  refine ⟨fun x hx=>?_,lpw.2 ⟨fun b hb=>e3 _ rfl b hb,e2⟩,fun q hq x hx=>?_⟩
  ·rcases lmk.1 hx with rfl | hx
   .exact h1
   .exact e1 x hx
  ·rcases lmk.1 hx with rfl | hx
   .exact h2 q hq
   .exact Int.lt_trans (h2 q hq) (e3 _ rfl x hx)
theorem Dz {t : Tr} {d : Dv} (h : DvOk t d) : d.Small:=by
 have hq:=h.len
 have ht:=h.tree.len
 obtain ⟨b1,b2,_⟩:=CT.1 h.bk
 obtain ⟨d1,d2,_⟩:=Ix h.dp
 have e1:=Qb (t:=t) (l:=d.buckets.map (·.group)) (List.pairwise_map.2 b2) (fun x hx=>by obtain ⟨c,hc,rfl⟩:=lmm.1 hx; exact (b1 c hc).1)
 have e2:=Qb (t:=t) (l:=d.depths.map (·.group)) (List.pairwise_map.2 d2) (fun x hx=>by obtain ⟨c,hc,rfl⟩:=lmm.1 hx; exact d1 c hc)
 rw [llm] at e1 e2
 exact ⟨Lg h.tree h.w,by omega,by omega,Lg h.tree h.v,by omega,by omega⟩
theorem K3 {t : Tr} {d : Dv} (h : DvOk t d) (hs : d.Small) (hnow : d.now < 1048576) : V 19 [t.vv,d.vv] [] = some (.tup [dvF (tickD t d) (.p (Aj (tickD t d).v)),.fresh 7 ((endedD d).map Fl.pv),.p (.int .i64 0)],[]):=by
 refine Ae (vf:=vf19) rfl ?_
 have hlen:=h.tree.len
 have i0:=OQ t d h.tree.fits (by omega) hs
 rw [dvOk_iff.2 h] at i0
 have i1:=PY t d hs
 have i2:=Wy h hs hnow
 have hne : ¬ d.now = 1048576:=by omega
 have ha:=Hq h hnow
 have hbr:=Fk ha
 simp -implicitDefEqProofs (disch:=omega) only [vf19,Sb,i0,i1,i2,hne,go_sem]
 obtain ⟨I,hI⟩:=lpI fun k s=>∃ (x : Dv) (q1 : Nat) (f1 : Nat),DvOk t x /\ tickD t d = Cu t (d.queue.length + 1 - k) x /\ x.queue.length + k = d.queue.length /\ s.pe 2 = .ptr (.slot 2 0) 0 0 /\ s.pe 4 = .ptr (.slot 4 0) 0 0 /\ s.pe 7 = .ptr (.slot 23 1) 0 0 /\ s.pe 8 = .own (.slot 25 1) 0 0 (endedD d).length /\ s.pe 9 = .p (.int .i64 (x.now * x.speed)) /\ s.h (.slot 2 0) = some (0,Ob.box [.p (Ap t.nodes),.p (.int .i64 t.next)]) /\ s.h (.slot 4 0) = some (0,Ob.box [.p (.int .i64 0),.p (.int .i64 0),.p (.int .i64 0),.p (.int .i64 0),.p (.int .i64 0),.p (.int .i64 0),.p (.int .i64 0),.p (.int .i64 0),.p (.int .i64 0),.p (.int .i64 0),.own (.slot 4 11) 0 0 0,.own (.slot 4 12) 0 0 0,.own (.slot 4 13) 0 0 0,.own (.slot 4 14) 0 0 0,.own (.slot 4 15) 0 0 0,.own (.slot 4 16) 0 0 0]) /\ s.h (.slot 4 11) = some (0,Ob.arr 2 []) /\ s.h (.slot 4 12) = some (0,Ob.arr 21 []) /\ s.h (.slot 4 13) = some (0,Ob.arr 3 []) /\ s.h (.slot 4 14) = some (0,Ob.arr 2 []) /\ s.h (.slot 4 15) = some (0,Ob.arr 6 []) /\ s.h (.slot 4 16) = some (0,Ob.arr 7 []) /\ s.h (.slot 23 12) = some (0,Ob.arr 2 (List.map Ch.pv x.weights)) /\ s.h (.slot 23 13) = some (0,Ob.arr 21 (List.map Cp.pv x.buckets)) /\ s.h (.slot 23 14) = some (0,Ob.arr 3 (List.map Dp.pv x.depths)) /\ s.h (.slot 23 16) = some (q1,Ob.arr 6 (List.map Rq.pv x.queue)) /\ s.h (.slot 23 17) = some (f1,Ob.arr 7 (List.map Fl.pv x.flights)) /\ s.h (.slot 25 1) = some (0,Ob.arr 7 (List.map Fl.pv (endedD d))) /\ ∃ X,s.h (.slot 23 1) = some (0,Ob.box [.p (.int .i64 x.m.rb),.p (.int .i64 x.m.rp),.p (.int .i64 x.m.wb),.p (.int .i64 x.m.wp),.p (.int .i64 x.m.seek),.p (.int .i64 x.speed),.p (.int .i64 x.margin),.p (.int .i64 x.now),.p (.int .i64 x.free),.p (.int .i64 x.head),.own (.slot 23 12) 0 0 x.weights.length,.own (.slot 23 13) 0 0 x.buckets.length,.own (.slot 23 14) 0 0 x.depths.length,X,.own (.slot 23 16) q1 0 x.queue.length,.own (.slot 23 17) f1 0 x.flights.length,.p (Ap t.nodes),.p (.int .i64 t.next)]) /\ fz0 [53,63] s.h X = .p (Aj x.v)
 refine Am ((d.queue.length + 1)) I ?_ ?_
 ·refine (hI _ _).2 ⟨advD d,0,1,?_⟩
  and_intros
  ·exact ha
  ·rfl
  ·rfl
  all_goals first | exact cl0 | (simp -implicitDefEqProofs (disch:=omega) only [lma,go_sem] <;> first | (simp [Ab]; done) | (simp [Ab]; omega)) | (simp -implicitDefEqProofs (disch:=omega) only [lma,go_sem] <;> (refine ⟨_,rfl,?_⟩; first | rfl | (simp -implicitDefEqProofs (disch:=omega) only [lma,go_sem]; done) | (simp -implicitDefEqProofs (disch:=omega) only [lma,go_sem]; rfl)))
 intro k s hk hIk
 obtain ⟨x,q1,f1,hx,hT,hql,h2,h4,h7,h8,h9,hh2_0,hh4_0,hh4_11,hh4_12,hh4_13,hh4_14,hh4_15,hh4_16,hh23_12,hh23_13,hh23_14,hh23_16,hh23_17,hh25_1,hX⟩:=(hI _ _).1 hIk
 clear hIk
 obtain ⟨X,hh23,hX⟩:=hX
 have hxs : x.Small:=Dz hx
 have hbx:=Fk hx
 have hql2:=hx.len
 obtain ⟨fu,hfu⟩ : ∃ fu,d.queue.length + 1 - k = fu + 1:=⟨d.queue.length - k,by omega⟩
 rw [hfu] at hT
 have i3:=Yp hx hxs
 have hrl:=NE t x x.queue []
 have hml:=MF (A8 t x [] x.queue)
 have i4:=Xi t x.v (BL (A8 t x [] x.queue)) (x.now * x.speed) hx.tree.fits (by omega) hxs.v (by omega)
 rcases J6 t fu x with ⟨hend,hS⟩ | ⟨g,r,v,hst,hS⟩
 ·rw [hS] at hT
  rw [hT]
  unfold Jr at hend
  generalize hg : AV t x.v (x.now * x.speed) 0 (BL (A8 t x [] x.queue)) = g at i4 hend
  by_cases hb : x.now * x.speed <= x.free
  ·have hb' : ¬ x.free < x.now * x.speed:=by omega
   simp -implicitDefEqProofs (disch:=omega) only [h2,h4,h7,h8,h9,hh2_0,hh4_0,hh4_11,hh4_12,hh4_13,hh4_14,hh4_15,hh4_16,hh23_12,hh23_13,hh23_14,hh23_16,hh23_17,hh25_1,hX,hh23,hb',go_sem]
  ·have hb' : x.free < x.now * x.speed:=by omega
   by_cases hg0 : g = 0
   ·simp -implicitDefEqProofs (disch:=omega) only [h2,h4,h7,h8,h9,hh2_0,hh4_0,hh4_11,hh4_12,hh4_13,hh4_14,hh4_15,hh4_16,hh23_12,hh23_13,hh23_14,hh23_16,hh23_17,hh25_1,hX,hh23,hb',i3,i4,hg0,go_sem]
   ·obtain ⟨r,hr,he⟩ : ∃ r,A2 x.queue g = some r /\ (B6 t x.v g (Cq t x g) (BG x r) (x.now * x.speed) x.margin).2 ≠ 0:=by
     rcases hend with e | e | e | e
     ·exact absurd e hb
     ·exact absurd e hg0
     ·obtain ⟨r,h1,_⟩:=J3 (t:=t) (d:=x) (by rw [hg]; exact hg0)
      rw [hg,e] at h1
      cases h1
     .exact e
    generalize hi : B6 t x.v g (Cq t x g) (BG x r) (x.now * x.speed) x.margin = ve at he
    obtain ⟨v,e⟩:=ve
    have i5:=PG hx hxs hb hr hi
    rw [if_neg he] at i5
    simp -implicitDefEqProofs (disch:=omega) only [h2,h4,h7,h8,h9,hh2_0,hh4_0,hh4_11,hh4_12,hh4_13,hh4_14,hh4_15,hh4_16,hh23_12,hh23_13,hh23_14,hh23_16,hh23_17,hh25_1,hX,hh23,hb',i3,i4,hg0,i5,go_sem]
 ·rw [hS] at hT
  have hb:=hst.busy
  have hg:=hst.next
  have hg0:=hst.pos
  have i5:=PG hx hxs hb hst.first hst.issue
  rw [if_pos rfl] at i5
  have hb' : x.free < x.now * x.speed:=by omega
  rw [<- hg] at i4
  have hok:=Hj hx hst
  have hrq:=EW hst.first
  simp -implicitDefEqProofs (disch:=omega) only [h2,h4,h7,h8,h9,hh2_0,hh4_0,hh4_11,hh4_12,hh4_13,hh4_14,hh4_15,hh4_16,hh23_12,hh23_13,hh23_14,hh23_16,hh23_17,hh25_1,hX,hh23,hb',i3,i4,hg0,i5,go_sem]
  try refine ai ?_
  refine (hI _ _).2 ⟨Do t x g r v,q1 + 1,f1 + 1,?_⟩
  and_intros
  .exact hok
  .exact by rw [hT,show d.queue.length + 1 - (k + 1) = fu by omega]
  .exact by show (Bd x.queue g).length + (k + 1) = _; omega
  all_goals first | exact cl0 | (simp -implicitDefEqProofs (disch:=omega) only [h2,h4,h7,h8,h9,hh2_0,hh4_0,hh4_11,hh4_12,hh4_13,hh4_14,hh4_15,hh4_16,hh23_12,hh23_13,hh23_14,hh23_16,hh23_17,hh25_1,hX,lma,go_sem] <;> first | (simp [Ab]; done) | (simp [Ab]; omega)) | (simp -implicitDefEqProofs (disch:=omega) only [h2,h4,h7,h8,h9,hh2_0,hh4_0,hh4_11,hh4_12,hh4_13,hh4_14,hh4_15,hh4_16,hh23_12,hh23_13,hh23_14,hh23_16,hh23_17,hh25_1,hX,lma,go_sem] <;> (refine ⟨_,rfl,?_⟩; first | rfl | (simp -implicitDefEqProofs (disch:=omega) only [h2,h4,h7,h8,h9,hh2_0,hh4_0,hh4_11,hh4_12,hh4_13,hh4_14,hh4_15,hh4_16,hh23_12,hh23_13,hh23_14,hh23_16,hh23_17,hh25_1,hX,lma,go_sem]; done) | (simp -implicitDefEqProofs (disch:=omega) only [h2,h4,h7,h8,h9,hh2_0,hh4_0,hh4_11,hh4_12,hh4_13,hh4_14,hh4_15,hh4_16,hh23_12,hh23_13,hh23_14,hh23_16,hh23_17,hh25_1,hX,lma,go_sem]; rfl)))
structure Sg where
 weight : Int
 rp : Int
 wp : Int
 ro : Int
 wo : Int
 target : Int
abbrev Sg.vv (s : Sg) (dev : Int) : VVal:=.agg [.p (.int .i64 dev),.p (.int .i64 s.weight),.p (.int .i64 s.rp),.p (.int .i64 s.wp),.p (.int .i64 s.ro),.p (.int .i64 s.wo),.p (.int .i64 s.target)]
def C9 (n : Int) : Prop:=(1 <= n /\ n <= 1073741824) \/ n = maxR
structure SgOk (s : Sg) : Prop where
 w : 1 <= s.weight /\ s.weight <= 10000
 rp : C9 s.rp
 wp : C9 s.wp
 ro : C9 s.ro
 wo : C9 s.wo
 t : 0 <= s.target /\ s.target <= 1048576
def Ca (rate least now : Int) : Bk:=if rate = maxR then ⟨maxR,100,0,0,now⟩ else ⟨rate,100,max rate least,max rate least * 100,now⟩
theorem La {rate least now : Int} (h : C9 rate) (hl : 0 <= least /\ least <= 4096) (hn : 0 <= now /\ now <= 1048576) : A1 now (Ca rate least now) = true:=by
 have hmx : maxR = 4611686018427387904:=rfl
 rw [AK,Bu]
 unfold Ca
 rcases h with h | h
 ·have hne : ¬ rate = maxR:=by omega
  rw [if_neg hne]
  exact ⟨⟨by simp,hn,.inr ⟨hne,by simp only; omega,by simp only; omega,by simp only; omega⟩⟩,rfl,rfl⟩
 ·rw [if_pos h]
  exact ⟨⟨by simp,hn,.inl ⟨rfl,rfl,rfl⟩⟩,rfl,rfl⟩
theorem Il (n : Int) (h : C9 n) : V 155 [.p (.int .i64 n),.p (.int .i64 1),.p (.int .i64 1073741824)] [] = some (.p (.bool true),[]):=by
 refine Ae (vf:=vf155) rfl ?_
 have hmx : maxR = 4611686018427387904:=rfl
 rcases h with ⟨h1,h2⟩ | h
 ·simp -implicitDefEqProofs (disch:=omega) only [vf155,Lw,h1,h2,go_sem]
 ·have h1 : 1 <= n:=by omega
  have h2 : ¬ n <= 1073741824:=by omega
  have h' : decide (n = 4611686018427387904) = true:=decide_eq_true h
  simp -implicitDefEqProofs (disch:=omega) only [vf155,Lw,h1,h2,h',go_sem]
theorem XC (u : Sg) (h : SgOk u) : V 85 [.p (.slice 7 [.agg [.int .i64 0,.int .i64 u.weight,.int .i64 u.rp,.int .i64 u.wp,.int .i64 u.ro,.int .i64 u.wo,.int .i64 u.target]])] [] = some (.p (.bool true),[]):=by
 refine Ae (vf:=vf85) rfl ?_
 have a1:=Il u.rp h.rp
 have a2:=Il u.wp h.wp
 have a3:=Il u.ro h.ro
 have a4:=Il u.wo h.wo
 have b1 : ¬ u.weight < 1:=by have:=h.w; omega
 have b2 : ¬ 10000 < u.weight:=by have:=h.w; omega
 have b3 : ¬ u.target < 0:=by have:=h.t; omega
 have b4 : ¬ 1048576 < u.target:=by have:=h.t; omega
 simp -implicitDefEqProofs (disch:=omega) only [vf85,RG,go_sem]
 obtain ⟨I,hI⟩:=lpI fun k s=>s.pe 0 = .p (PV.slice 7 [PV.agg [PV.int IntKind.i64 0,PV.int IntKind.i64 u.weight,PV.int IntKind.i64 u.rp,PV.int IntKind.i64 u.wp,PV.int IntKind.i64 u.ro,PV.int IntKind.i64 u.wo,PV.int IntKind.i64 u.target]]) /\ s.pe 3 = .p (.int .i64 k)
 refine Am (1) I ?_ ?_
 ·refine (hI _ _).2 ⟨?_,?_⟩
  all_goals first | exact cl0 | (simp -implicitDefEqProofs (disch:=omega) only [lma,go_sem] <;> first | (simp [Ab]; done) | (simp [Ab]; omega))
 intro k s hk hIk
 obtain hH:=(hI _ _).1 hIk
 clear hIk
 simp -implicitDefEqProofs (disch:=omega) only [hH,go_sem]
 refine Af (fun hlt=>?_) (fun hge=>?_)
 ·have hk : k = 0:=by omega
  have hg : ∀ x : PV,([x] : List PV)[k]? = some x:=fun x=>by rw [hk]; rfl
  have hk0 : ¬ (0 : Int) < k:=by omega
  have hd : decide ((0 : Int) < 0) = false:=rfl
  have hd8 : decide ((8 : Int) <= 0) = false:=rfl
  have hlt' : k < 1:=by omega
  simp -implicitDefEqProofs (disch:=omega) only [hH,hlt,hlt',hg,hk0,hd,hd8,a1,a2,a3,a4,b1,b2,b3,b4,go_sem]
  try refine ai ?_
  refine (hI _ _).2 ⟨?_,?_⟩
  all_goals first | exact cl0 | (simp -implicitDefEqProofs (disch:=omega) only [hH,lma,go_sem] <;> first | (simp [Ab]; done) | (simp [Ab]; omega))
 ·have hd1 : decide (((1 : Nat) : Int) <= 8) = true:=rfl
  simp -implicitDefEqProofs (disch:=omega) only [hH,hge,hd1,go_sem]
theorem GW (b : Bk) (h : Cj b = true) : V 153 [b.vv] [] = some (.p (.bool true),[]):=by
 refine Ae (vf:=vf153) rfl ?_
 rw [Bu] at h
 obtain ⟨hp,hw,hc⟩:=h
 have p1 : ¬ b.per < 1:=by omega
 have p2 : ¬ 1048576 < b.per:=by omega
 have p3 : ¬ b.now < 0:=by omega
 have p4 : ¬ 1048576 < b.now:=by omega
 rcases hc with ⟨e,hb,hl⟩ | ⟨e,hr,hb,hl⟩
 ·have e' : decide (b.rate = 4611686018427387904) = true:=decide_eq_true e
  have b' : decide (b.burst = 0) = true:=decide_eq_true hb
  have l' : decide (b.level = 0) = true:=decide_eq_true hl
  simp -implicitDefEqProofs (disch:=omega) only [vf153,Lx,p1,p2,p3,p4,e',b',l',go_sem]
 ·have e' : ¬ b.rate = 4611686018427387904:=e
  have m:=B1 hb.1 hb.2 (show 0 <= b.per by omega) hp.2
  obtain ⟨r1,r2⟩:=hr
  obtain ⟨b1,b2⟩:=hb
  obtain ⟨l1,l2⟩:=hl
  simp -implicitDefEqProofs (disch:=omega) only [vf153,Lx,p1,p2,p3,p4,e',r1,r2,b1,b2,l1,l2,go_sem]
theorem Z2 {rate least now : Int} (h : C9 rate) (hl : 0 <= least /\ least <= 4096) (hn : 0 <= now /\ now <= 1048576) : Cj (Ca rate least now) = true:=(AK.1 (La h hl hn)).1
theorem Pa (rate least now : Int) (h : C9 rate) (hl : 0 <= least /\ least <= 4096) (hn : 0 <= now /\ now <= 1048576) : V 191 [.p (.int .i64 rate),.p (.int .i64 100),.p (.int .i64 (if rate = maxR then 0 else max rate least)),.p (.int .i64 now)] [] = some (.tup [(Ca rate least now).vv,.p (.int .i64 0)],[]):=by
 refine Ae (vf:=vf191) rfl ?_
 have hmx : maxR = 4611686018427387904:=rfl
 have bv:=GW (Ca rate least now) (Z2 h hl hn)
 have d1 : decide ((100 : Int) < 1) = false:=rfl
 have d2 : decide ((1048576 : Int) < 100) = false:=rfl
 have d3 : decide ((0 : Int) < 0) = false:=rfl
 have d4 : decide ((1073741824 : Int) < 0) = false:=rfl
 rcases h with h | h
 ·have hne : ¬ rate = maxR:=by omega
  have hne' : ¬ rate = 4611686018427387904:=hne
  have hN : Ca rate least now = ⟨rate,100,max rate least,max rate least * 100,now⟩:=by unfold Ca; rw [if_neg hne]
  rw [hN] at bv ⊢
  rw [if_neg hne]
  have hb : 0 <= max rate least /\ max rate least <= 1073741824:=by omega
  generalize max rate least = b at bv hb
  have b1 : ¬ b < 0:=by omega
  have b2 : ¬ 1073741824 < b:=by omega
  simp -implicitDefEqProofs (disch:=omega) only [vf191,Ls,hne',d1,d2,b1,b2,bv,go_sem]
 ·have hN : Ca rate least now = ⟨rate,100,0,0,now⟩:=by unfold Ca; rw [if_pos h,h]
  rw [hN] at bv ⊢
  rw [if_pos h]
  have h' : decide (rate = 4611686018427387904) = true:=decide_eq_true h
  simp -implicitDefEqProofs (disch:=omega) only [vf191,Ls,h',d1,d2,d3,d4,bv,Int.zero_mul,go_sem]
theorem KH (b : Bk) (now : Int) (h : Cj b = true) (h1 : b.now <= now) (h2 : now <= 1048576) : V 136 [b.vv,.p (.int .i64 now)] [] = some (.tup [(AD b now).vv,.p (.int .i64 0)],[]):=by
 refine Ae (vf:=vf136) rfl ?_
 have hv:=GW b h
 rw [Bu] at h
 obtain ⟨hp,hw,hc⟩:=h
 have n1 : ¬ now < 0:=by omega
 have n2 : ¬ 1048576 < now:=by omega
 have hlt : ¬ now < b.now:=by omega
 unfold AD
 rcases hc with ⟨e,hb,hl⟩ | ⟨e,hr,hb,hl⟩
 ·rw [if_pos e]
  have e' : decide (b.rate = 4611686018427387904) = true:=decide_eq_true e
  simp -implicitDefEqProofs (disch:=omega) only [vf136,LC,hv,n1,n2,hlt,e',go_sem]
 ·rw [if_neg e,Int.min_comm]
  have e' : ¬ b.rate = 4611686018427387904:=e
  have m1:=B1 hr.1 hr.2 (show 0 <= now - b.now by omega) (show now - b.now <= 1048576 by omega)
  have m2:=B1 hb.1 hb.2 (show 0 <= b.per by omega) hp.2
  simp -implicitDefEqProofs (disch:=omega) only [vf136,LC,hv,n1,n2,hlt,e',go_sem]
theorem O9 (b : Bk) (h : Cj b = true) : V 229 [b.vv] [] = some (.p (.int .i64 (AN b)),[]):=by
 refine Ae (vf:=vf229) rfl ?_
 have hv:=GW b h
 rw [Bu] at h
 obtain ⟨hp,hw,hc⟩:=h
 unfold AN
 rcases hc with ⟨e,hb,hl⟩ | ⟨e,hr,hb,hl⟩
 ·rw [if_pos e]
  have e' : decide (b.rate = 4611686018427387904) = true:=decide_eq_true e
  simp -implicitDefEqProofs (disch:=omega) only [vf229,Lp,hv,e',go_sem]
 ·rw [if_neg e]
  have e' : ¬ b.rate = 4611686018427387904:=e
  have m2:=B1 hb.1 hb.2 (show 0 <= b.per by omega) hp.2
  have hp0 : ¬ b.per = 0:=by omega
  have hq : b.level.tdiv b.per = b.level / b.per:=Int.tdiv_eq_ediv_of_nonneg hl.1
  have hq0 : 0 <= b.level / b.per:=Int.ediv_nonneg hl.1 (by omega)
  have hq1 : b.level / b.per <= b.level:=Int.ediv_le_self _ hl.1
  simp -implicitDefEqProofs (disch:=omega) only [vf229,Lp,hv,e',hp0,hq,go_sem]
theorem Nv {b : Bk} (h : Cj b = true) : 0 <= AN b /\ AN b <= 1073741824:=by
 unfold AN
 split
 ·omega
 ·rename_i e
  rcases (Bu.1 h).2.2 with ⟨e',_⟩ | ⟨_,hr,hb,hl⟩
  ·exact absurd e' e
  ·have hp:=(Bu.1 h).1
   have h1:=Int.ediv_le_ediv (show 0 < b.per by omega) hl.2
   rw [Int.mul_ediv_cancel _ (show b.per ≠ 0 by omega)] at h1
   have h2 : 0 <= b.level / b.per:=Int.ediv_nonneg hl.1 (by omega)
   omega
def Db (b : Bk) (n : Int) : Int:=if b.rate = maxR then 0 else if b.level / b.per < n then 11 else 0
theorem Ic (b : Bk) (n : Int) (h : Cj b = true) (hn : 0 <= n /\ n <= 4096) : V 232 [b.vv,.p (.int .i64 b.now),.p (.int .i64 n)] [] = some (.tup [(Bc b n).vv,.p (.int .i64 (Db b n))],[]):=by
 refine Ae (vf:=vf232) rfl ?_
 have hw:=((Bu.1 h).2.1)
 have i0:=KH b b.now h (Int.le_refl _) hw.2
 rw [Iz h] at i0
 have i1:=O9 b h
 have n1 : ¬ n < 0:=by omega
 have n2 : ¬ 1073741824 < n:=by omega
 unfold Bc Db
 by_cases e : b.rate = maxR
 ·rw [if_pos e,if_pos e]
  have e' : decide (b.rate = 4611686018427387904) = true:=decide_eq_true e
  simp -implicitDefEqProofs (disch:=omega) only [vf232,IW,i0,i1,n1,n2,e',go_sem]
 ·rw [if_neg e,if_neg e]
  have e' : ¬ b.rate = 4611686018427387904:=e
  have e2 : AN b = b.level / b.per:=by unfold AN; rw [if_neg e]
  rw [e2] at i1
  rcases (Bu.1 h).2.2 with ⟨e',_⟩ | ⟨_,hr,hb,hl⟩
  ·exact absurd e' e
  ·have hp:=(Bu.1 h).1
   by_cases hlt : b.level / b.per < n
   ·rw [if_pos hlt,if_pos hlt]
    simp -implicitDefEqProofs (disch:=omega) only [vf232,IW,i0,i1,n1,n2,e',hlt,go_sem]
   ·rw [if_neg hlt,if_neg hlt]
    have hk : n * b.per <= b.level:=by
     have:=Int.mul_le_mul_of_nonneg_right (show n <= b.level / b.per by omega) (show 0 <= b.per by omega)
     have h9:=Int.ediv_mul_le b.level (show b.per ≠ 0 by omega)
     omega
    have hk0 : 0 <= n * b.per:=Int.mul_nonneg hn.1 (by omega)
    have hl1:=B1 hb.1 hb.2 (show 0 <= b.per by omega) hp.2
    simp -implicitDefEqProofs (disch:=omega) only [vf232,IW,i0,i1,n1,n2,e',hlt,go_sem]
def FK (b : Bk) (rate least : Int) : Bk:=if rate = maxR then Ca rate least b.now else { Ca rate least b.now with level:=(if b.rate = maxR then 0 else min (AN b) (max rate least)) * 100 }
theorem Vc (b : Bk) (rate least : Int) (hb : Cj b = true) (h : C9 rate) (hl : 0 <= least /\ least <= 4096) : V 193 [b.vv,.p (.int .i64 rate),.p (.int .i64 100),.p (.int .i64 (if rate = maxR then 0 else max rate least)),.p (.int .i64 b.now)] [] = some (.tup [(FK b rate least).vv,.p (.int .i64 0)],[]):=by
 refine Ae (vf:=vf193) rfl ?_
 have hmx : maxR = 4611686018427387904:=rfl
 have hw:=((Bu.1 hb).2.1)
 have i0:=KH b b.now hb (Int.le_refl _) hw.2
 rw [Iz hb] at i0
 have i1:=O9 b hb
 have i2:=Pa rate least b.now h hl hw
 have tr:=Nv hb
 unfold FK
 rcases h with h | h
 ·have hne : ¬ rate = maxR:=by omega
  have hne' : ¬ rate = 4611686018427387904:=hne
  have hN : Ca rate least b.now = ⟨rate,100,max rate least,max rate least * 100,b.now⟩:=by unfold Ca; rw [if_neg hne]
  rw [if_neg hne]
  rw [hN] at i2 ⊢
  rw [if_neg hne] at i2 ⊢
  have hb : 0 <= max rate least /\ max rate least <= 1073741824:=by omega
  generalize max rate least = bu at i2 hb
  by_cases e : b.rate = maxR
  ·rw [if_pos e]
   have e' : decide (b.rate = 4611686018427387904) = true:=decide_eq_true e
   simp -implicitDefEqProofs (disch:=omega) only [vf193,IY,i0,i2,hne',e',Int.zero_mul,go_sem]
  ·rw [if_neg e]
   have e' : ¬ b.rate = 4611686018427387904:=e
   simp -implicitDefEqProofs (disch:=omega) only [vf193,IY,i0,i1,i2,hne',e',go_sem]
 ·rw [if_pos h] at i2 ⊢
  have h' : decide (rate = 4611686018427387904) = true:=decide_eq_true h
  rw [if_pos h]
  generalize Ca rate least b.now = z at i2
  simp -implicitDefEqProofs (disch:=omega) only [vf193,IY,i0,i2,h',go_sem]
theorem zaA {b : Bk} {now rate least : Int} (hb : A1 now b = true) (h : C9 rate) (hl : 0 <= least /\ least <= 4096) : A1 now (FK b rate least) = true:=by
 have hmx : maxR = 4611686018427387904:=rfl
 obtain ⟨h1,h2,h3⟩:=AK.1 hb
 have hw:=(Bu.1 h1).2.1
 have hn:=La h hl hw
 rw [h3] at hn
 unfold FK
 rw [h3]
 rcases h with h | h
 ·have hne : ¬ rate = maxR:=by omega
  have tr:=Nv h1
  rw [if_neg hne]
  have hN : Ca rate least now = ⟨rate,100,max rate least,max rate least * 100,now⟩:=by unfold Ca; rw [if_neg hne]
  rw [hN,AK,Bu]
  refine ⟨⟨by simp,by simp only; omega,.inr ⟨hne,by simp only; omega,by simp only; omega,?_⟩⟩,rfl,rfl⟩
  simp only
  split <;> omega
 ·rw [if_pos h]
  exact hn
theorem JX (L : List Int) (a : Nat) {t : Tr} (h : TreeOk t) (hL : L.length < 4611686018427387904) : ∃ (r : Rq) (b : Nat),V 18 [.ptr (.arg 0 0) 0 0,t.vv] [AL L a] = some (r.vv,[AL L b]) /\ AC { r with time:=0 } = true /\ Ak t.nodes r.group = true:=by
 have hlen:=h.len
 have c1:=CM L a 6 hL (by omega)
 have x1:=Ck L a 6
 have y1:=Cl L a (n:=6) (by omega)
 generalize Ah L a 6 = a1 at c1
 have c2:=CM L a1 t.nodes.length hL (by omega)
 have x2:=Ck L a1 t.nodes.length
 have y2:=Cl L a1 (n:=t.nodes.length) (by omega)
 generalize Ah L a1 t.nodes.length = a2 at c2
 have c3:=CL L a2 [0,4,8,100,104,5000] hL (by decide) (by decide)
 have x3:=CI L a2 (xs:=[0,4,8,100,104,5000]) (by decide)
 generalize Ah L a2 ([0,4,8,100,104,5000] : List Int).length = a3 at c3
 have c4:=CL L a3 [1,4,4,30,4096] hL (by decide) (by decide)
 have x4:=CI L a3 (xs:=[1,4,4,30,4096]) (by decide)
 generalize Ah L a3 ([1,4,4,30,4096] : List Int).length = a4 at c4
 have c5:=IK L a4 3 hL (by omega) (by omega)
 generalize Ah L a4 3 = a5 at c5
 have c6:=CM L a5 4 hL (by omega)
 have x6:=Ck L a5 4
 have y6:=Cl L a5 (n:=4) (by omega)
 generalize Ah L a5 4 = a6 at c6
 generalize AA L a 6 = v1 at c1 x1 y1
 generalize AA L a1 t.nodes.length = v2 at c2 x2 y2
 generalize B7 L a2 [0,4,8,100,104,5000] = v3 at c3 x3
 generalize B7 L a3 [1,4,4,30,4096] = v4 at c4 x4
 generalize decide (AA L a4 3 = 3 - 1) = v5 at c5
 generalize AA L a5 4 = v6 at c6 x6 y6
 obtain ⟨i,rfl⟩ : ∃ i : Nat,v2 = i:=⟨v2.toNat,by omega⟩
 have hil : i < t.nodes.length:=by omega
 have hm : t.nodes[i]? = some t.nodes[i]:=lgg hil
 generalize t.nodes[i] = n at hm
 have hkn : Ak t.nodes n.id = true:=by unfold Ak; rw [F8 h (lmg hm)]; rfl
 have hpos:=h.pos n (lmg hm)
 have hmx:=h.lt_next n (lmg hm)
 obtain ⟨_,_,_,hnx⟩:=h.next
 simp only [AM,lpc,lpn] at c3 c4
 refine ⟨⟨v1,n.id,v3,v4,v5,v6⟩,a6,Ae (vf:=vf18) rfl ?_,?_,hkn⟩
 ·simp -implicitDefEqProofs (disch:=omega) only [vf18,Sc,c1,c2,c3,c4,c5,c6,hil,hm,go_sem]
 ·rw [C0]
  simp only [lmk,List.not_mem_nil,or_false] at x3 x4
  simp only
  omega
theorem YI (L : List Int) (a : Nat) (hL : L.length < 4611686018427387904) : ∃ (m : Mdl) (b : Nat),V 48 [.ptr (.arg 0 0) 0 0] [AL L a] = some (m.vv,[AL L b]) /\ Cm m = true:=by
 have c1:=CL L a [0,10,100] hL (by decide) (by decide)
 have x1:=CI L a (xs:=[0,10,100]) (by decide)
 generalize Ah L a ([0,10,100] : List Int).length = a1 at c1
 have c2:=CL L a1 [0,1,10,1000000] hL (by decide) (by decide)
 have x2:=CI L a1 (xs:=[0,1,10,1000000]) (by decide)
 generalize Ah L a1 ([0,1,10,1000000] : List Int).length = a2 at c2
 have c3:=CL L a2 [0,20,50] hL (by decide) (by decide)
 have x3:=CI L a2 (xs:=[0,20,50]) (by decide)
 generalize Ah L a2 ([0,20,50] : List Int).length = a3 at c3
 have c4:=CL L a3 [0,2,15] hL (by decide) (by decide)
 have x4:=CI L a3 (xs:=[0,2,15]) (by decide)
 generalize Ah L a3 ([0,2,15] : List Int).length = a4 at c4
 have c5:=CL L a4 [0,5,40] hL (by decide) (by decide)
 have x5:=CI L a4 (xs:=[0,5,40]) (by decide)
 generalize Ah L a4 ([0,5,40] : List Int).length = a5 at c5
 generalize B7 L a [0,10,100] = v1 at c1 x1
 generalize B7 L a1 [0,1,10,1000000] = v2 at c2 x2
 generalize B7 L a2 [0,20,50] = v3 at c3 x3
 generalize B7 L a3 [0,2,15] = v4 at c4 x4
 generalize B7 L a4 [0,5,40] = v5 at c5 x5
 simp only [AM,lpc,lpn] at c1 c2 c3 c4 c5
 simp only [lmk,List.not_mem_nil,or_false] at x1 x2 x3 x4 x5
 refine ⟨⟨v1,v2,v3,v4,v5⟩,a5,Ae (vf:=vf48) rfl ?_,?_⟩
 ·simp -implicitDefEqProofs (disch:=omega) only [vf48,RV,c1,c2,c3,c4,c5,go_sem]
 ·rw [Fi]
  simp only
  omega
theorem Zc (L : List Int) (a : Nat) (hL : L.length < 4611686018427387904) : ∃ (m : Mdl) (speed margin : Int) (b : Nat),V 15 [.ptr (.arg 0 0) 0 0] [AL L a] = some (FL m speed margin,[AL L b]) /\ DB m speed margin = true:=by
 obtain ⟨m,a1,c1,hm⟩:=YI L a hL
 have c2:=CL L a1 [1,10,100,1000] hL (by decide) (by decide)
 have x2:=CI L a1 (xs:=[1,10,100,1000]) (by decide)
 generalize Ah L a1 ([1,10,100,1000] : List Int).length = a2 at c2
 have c3:=CL L a2 [0,10,1000] hL (by decide) (by decide)
 have x3:=CI L a2 (xs:=[0,10,1000]) (by decide)
 generalize Ah L a2 ([0,10,1000] : List Int).length = a3 at c3
 generalize B7 L a1 [1,10,100,1000] = v2 at c2 x2
 generalize B7 L a2 [0,10,1000] = v3 at c3 x3
 simp only [AM,lpc,lpn] at c2 c3
 simp only [lmk,List.not_mem_nil,or_false] at x2 x3
 refine ⟨m,v2,v3,a3,Ae (vf:=vf15) rfl ?_,Es.2 ⟨hm,by omega,by omega⟩⟩
 simp -implicitDefEqProofs (disch:=omega) only [vf15,Se,c1,c2,c3,go_sem]
theorem WZ (m : Mdl) (speed margin : Int) (h : DB m speed margin = true) : V 14 [FL m speed margin] [] = some (.tup [dvF (Em m speed margin) (.fresh 2 []),.p (.int .i64 0)],[]):=by
 refine Ae (vf:=vf14) rfl ?_
 have i0 : V 47 [FL m speed margin] [] = some (.p (.bool true),[]):=by
  refine Ae (vf:=vf47) rfl ?_
  obtain ⟨hm,hs,hg⟩:=Es.1 h
  have i1 : V 101 [m.vv] [] = some (.p (.bool true),[]):=by
   refine Ae (vf:=vf101) rfl ?_
   rw [Fi] at hm
   have hl : ∀ (k : Nat) (x : Int),([m.rb,m.rp,m.wb,m.wp,m.seek] : List Int)[k]? = some x -> 0 <= x /\ x <= 1000000:=fun k x hx=>by
    have:=lmg hx
    simp only [lmk,List.not_mem_nil,or_false] at this
    omega
   obtain ⟨l,hll⟩ : ∃ l : List Int,l = [m.rb,m.rp,m.wb,m.wp,m.seek]:=⟨_,rfl⟩
   have h5 : l.length = 5:=by rw [hll]; rfl
   rw [<- hll] at hl
   simp -implicitDefEqProofs (disch:=omega) only [vf101,LN,go_sem]
   obtain ⟨I,hI⟩:=lpI fun k s=>s.pe 3 = .own (.slot 15 0) 0 0 5 /\ s.pe 4 = .p (.int .i64 k) /\ s.h (.slot 15 0) = some (0,Ob.arr 1 [PV.int IntKind.i64 m.rb,PV.int IntKind.i64 m.rp,PV.int IntKind.i64 m.wb,PV.int IntKind.i64 m.wp,PV.int IntKind.i64 m.seek])
   refine Am (5) I ?_ ?_
   ·refine (hI _ _).2 ⟨?_,?_,?_⟩
    all_goals first | exact cl0 | (simp -implicitDefEqProofs (disch:=omega) only [lma,go_sem] <;> first | (simp [Ab]; done) | (simp [Ab]; omega))
   intro k s hk hIk
   obtain hH:=(hI _ _).1 hIk
   clear hIk
   simp -implicitDefEqProofs (disch:=omega) only [hH,go_sem]
   refine Af (fun hlt=>?_) (fun hge=>?_)
   ·have hm : l[k]? = some l[k]:=lgg (by omega)
    have hx:=hl k _ hm
    generalize l[k] = x at hm hx
    have hgx : ([PV.int IntKind.i64 m.rb,PV.int IntKind.i64 m.rp,PV.int IntKind.i64 m.wb,PV.int IntKind.i64 m.wp,PV.int IntKind.i64 m.seek] : List PV)[k]? = some (.int .i64 x):=by
     rw [show ([PV.int IntKind.i64 m.rb,PV.int IntKind.i64 m.rp,PV.int IntKind.i64 m.wb,PV.int IntKind.i64 m.wp,PV.int IntKind.i64 m.seek] : List PV) = l.map (PV.int .i64) by rw [hll]; rfl,List.getElem?_map,hm]
     rfl
    have b1 : ¬ x < 0:=by omega
    have b2 : ¬ 1000000 < x:=by omega
    simp -implicitDefEqProofs (disch:=omega) only [hH,hlt,hgx,b1,b2,go_sem]
    try refine ai ?_
    refine (hI _ _).2 ⟨?_,?_,?_⟩
    all_goals first | exact cl0 | (simp -implicitDefEqProofs (disch:=omega) only [hH,lma,go_sem] <;> first | (simp [Ab]; done) | (simp [Ab]; omega))
   .simp -implicitDefEqProofs (disch:=omega) only [hH,hge,go_sem]
  have e1 : 1 <= speed:=hs.1
  have e2 : speed <= 1000000:=hs.2
  have e3 : 0 <= margin:=hg.1
  have e4 : margin <= 1073741824:=hg.2
  simp -implicitDefEqProofs (disch:=omega) only [vf47,LU,i1,e1,e2,e3,e4,go_sem]
 simp -implicitDefEqProofs (disch:=omega) only [vf14,Sf,i0,go_sem]
 rfl
theorem Kh (r : Rq) (h : AC r = true) : V 194 [r.vv] [] = some (.p (.bool true),[]):=by
 refine Ae (vf:=vf194) rfl ?_
 obtain ⟨⟨a1,a2⟩,⟨b1,b2⟩,⟨c1,c2⟩,⟨d1,d2⟩,e1,f1,f2⟩:=C0.1 h
 have e2 : r.at_ <= 16777216 - r.pages:=by omega
 simp -implicitDefEqProofs (disch:=omega) only [vf194,QV,a1,a2,b1,b2,c1,d1,d2,e2,f1,f2,go_sem]
theorem PT (m : Mdl) (hm : Cm m = true) : V 101 [m.vv] [] = some (.p (.bool true),[]):=by
 refine Ae (vf:=vf101) rfl ?_
 rw [Fi] at hm
 have hl : ∀ (k : Nat) (x : Int),([m.rb,m.rp,m.wb,m.wp,m.seek] : List Int)[k]? = some x -> 0 <= x /\ x <= 1000000:=fun k x hx=>by
  have:=lmg hx
  simp only [lmk,List.not_mem_nil,or_false] at this
  omega
 obtain ⟨l,hll⟩ : ∃ l : List Int,l = [m.rb,m.rp,m.wb,m.wp,m.seek]:=⟨_,rfl⟩
 have h5 : l.length = 5:=by rw [hll]; rfl
 rw [<- hll] at hl
 simp -implicitDefEqProofs (disch:=omega) only [vf101,LN,go_sem]
 obtain ⟨I,hI⟩:=lpI fun k s=>s.pe 3 = .own (.slot 15 0) 0 0 5 /\ s.pe 4 = .p (.int .i64 k) /\ s.h (.slot 15 0) = some (0,Ob.arr 1 [PV.int IntKind.i64 m.rb,PV.int IntKind.i64 m.rp,PV.int IntKind.i64 m.wb,PV.int IntKind.i64 m.wp,PV.int IntKind.i64 m.seek])
 refine Am (5) I ?_ ?_
 ·refine (hI _ _).2 ⟨?_,?_,?_⟩
  all_goals first | exact cl0 | (simp -implicitDefEqProofs (disch:=omega) only [lma,go_sem] <;> first | (simp [Ab]; done) | (simp [Ab]; omega))
 intro k s hk hIk
 obtain hH:=(hI _ _).1 hIk
 clear hIk
 simp -implicitDefEqProofs (disch:=omega) only [hH,go_sem]
 refine Af (fun hlt=>?_) (fun hge=>?_)
 ·have hm : l[k]? = some l[k]:=lgg (by omega)
  have hx:=hl k _ hm
  generalize l[k] = x at hm hx
  have hgx : ([PV.int IntKind.i64 m.rb,PV.int IntKind.i64 m.rp,PV.int IntKind.i64 m.wb,PV.int IntKind.i64 m.wp,PV.int IntKind.i64 m.seek] : List PV)[k]? = some (.int .i64 x):=by
   rw [show ([PV.int IntKind.i64 m.rb,PV.int IntKind.i64 m.rp,PV.int IntKind.i64 m.wb,PV.int IntKind.i64 m.wp,PV.int IntKind.i64 m.seek] : List PV) = l.map (PV.int .i64) by rw [hll]; rfl,List.getElem?_map,hm]
   rfl
  have b1 : ¬ x < 0:=by omega
  have b2 : ¬ 1000000 < x:=by omega
  simp -implicitDefEqProofs (disch:=omega) only [hH,hlt,hgx,b1,b2,go_sem]
  try refine ai ?_
  refine (hI _ _).2 ⟨?_,?_,?_⟩
  all_goals first | exact cl0 | (simp -implicitDefEqProofs (disch:=omega) only [hH,lma,go_sem] <;> first | (simp [Ab]; done) | (simp [Ab]; omega))
 .simp -implicitDefEqProofs (disch:=omega) only [hH,hge,go_sem]
theorem WV (m : Mdl) (r : Rq) (head : Int) (hm : Cm m = true) (hr : AC r = true) : V 272 [m.vv,r.vv,.p (.int .i64 head)] [] = some (.p (.int .i64 (Cw m r head)),[]):=by
 refine Ae (vf:=vf272) rfl ?_
 rw [Fi] at hm
 rw [C0] at hr
 have h1:=B1 (a:=m.rp) (b:=r.pages) (A:=1000000) (B:=4096) hm.2.1.1 hm.2.1.2 (by omega) (by omega)
 have h2:=B1 (a:=m.wp) (b:=r.pages) (A:=1000000) (B:=4096) hm.2.2.2.1.1 hm.2.2.2.1.2 (by omega) (by omega)
 unfold Cw
 cases hw : r.write with
 | false =>
  by_cases ha : r.at_ = head
  .simp -implicitDefEqProofs (disch:=omega) only [vf272,Hx,hw,ha,Int.add_zero,go_sem]
  .simp -implicitDefEqProofs (disch:=omega) only [vf272,Hx,hw,ha,go_sem]
 | true =>
  by_cases ha : r.at_ = head
  .simp -implicitDefEqProofs (disch:=omega) only [vf272,Hx,hw,ha,Int.add_zero,go_sem]
  .simp -implicitDefEqProofs (disch:=omega) only [vf272,Hx,hw,ha,go_sem]
theorem ZT (l : List Rq) (h : ∀ r ∈ l,AC r = true) (hl : l.length < 1000000) : V 271 [.p (AJ l)] [] = some (.p (.bool true),[]):=by
 refine Ae (vf:=vf271) rfl ?_
 simp -implicitDefEqProofs (disch:=omega) only [vf271,QA,go_sem]
 obtain ⟨I,hI⟩:=lpI fun k s=>s.pe 0 = .p (AJ l) /\ s.pe 3 = .p (.int .i64 k)
 refine Am (l.length) I ?_ ?_
 ·refine (hI _ _).2 ⟨?_,?_⟩
  all_goals first | exact cl0 | (simp -implicitDefEqProofs (disch:=omega) only [h3,h4,hh15_0,lma,go_sem] <;> first | (simp [Ab]; done) | (simp [Ab]; omega))
 intro k s hk hIk
 obtain ⟨h0,h3⟩:=(hI _ _).1 hIk
 clear hIk
 simp -implicitDefEqProofs (disch:=omega) only [h0,h3,go_sem]
 refine Af (fun hlt=>?_) (fun hge=>?_)
 ·have hm : l[k]? = some l[k]:=lgg hlt
  have i0:=Kh l[k] (h _ (lgk hlt))
  generalize l[k] = r at hm i0
  simp -implicitDefEqProofs (disch:=omega) only [h0,h3,hlt,hm,i0,go_sem]
  try refine ai ?_
  refine (hI _ _).2 ⟨?_,?_⟩
  all_goals first | exact cl0 | (simp -implicitDefEqProofs (disch:=omega) only [h0,h3,lma,go_sem] <;> first | (simp [Ab]; done) | (simp [Ab]; omega))
 .simp -implicitDefEqProofs (disch:=omega) only [h0,h3,hge,go_sem]
theorem VA {m : Mdl} {r : Rq} (head : Int) (hm : Cm m = true) (hr : AC r = true) : 0 <= Cw m r head /\ Cw m r head <= 9000000000:=by
 have hm':=Fi.1 hm
 have hs:=C0.1 hr
 have h1:=B1 (a:=m.rp) (b:=r.pages) (A:=1000000) (B:=4096) hm'.2.1.1 hm'.2.1.2 (by omega) (by omega)
 have h2:=B1 (a:=m.wp) (b:=r.pages) (A:=1000000) (B:=4096) hm'.2.2.2.1.1 hm'.2.2.2.1.2 (by omega) (by omega)
 unfold Cw
 split <;> split <;> omega
theorem WP (m : Mdl) (r : Rq) (head : Int) (hm : Cm m = true) (hr : AC r = true) (hh : 0 <= head /\ head <= 16777216) (l : List Rq) (hlr : l = [r]) : V 230 [m.vv,.p (AJ l),.p (.int .i64 head)] [] = some (.tup [.p (.int .i64 (Cw m r head)),.p (.int .i64 (r.at_ + r.pages)),.p (.int .i64 0)],[]):=by
 refine Ae (vf:=vf230) rfl ?_
 have i0:=PT m hm
 have hlen : l.length = 1:=by rw [hlr]; rfl
 have i1:=ZT l (by rw [hlr]; intro x hx; rw [List.mem_singleton] at hx; rw [hx]; exact hr) (by omega)
 have i2:=WV m r head hm hr
 have n1 : ¬ head < 0:=by omega
 have n2 : ¬ 16777216 < head:=by omega
 have n3 : ¬ (256 : Int) < l.length:=by omega
 have hs:=C0.1 hr
 have hcr:=VA head hm hr
 simp -implicitDefEqProofs (disch:=omega) only [vf230,QH,i0,i1,n1,n2,n3,go_sem]
 obtain ⟨I,hI⟩:=lpI fun k s=>s.pe 1 = .p (AJ l) /\ s.pe 2 = .p (.int .i64 (if k = 0 then head else r.at_ + r.pages)) /\ s.pe 3 = .ptr (.slot 3 0) 0 0 /\ s.pe 9 = .p (.int .i64 (if k = 0 then 0 else Cw m r head)) /\ s.pe 10 = .p (.int .i64 k) /\ s.h (.slot 3 0) = some (0,Ob.box [.p (.int .i64 m.rb),.p (.int .i64 m.rp),.p (.int .i64 m.wb),.p (.int .i64 m.wp),.p (.int .i64 m.seek)])
 refine Am (l.length) I ?_ ?_
 ·refine (hI _ _).2 ?_
  and_intros
  all_goals first | exact cl0 | (simp -implicitDefEqProofs (disch:=omega) only [h0,h3,lma,go_sem] <;> first | (simp [Ab]; done) | (simp [Ab]; omega))
 intro k s hk hIk
 obtain ⟨h1,h2,h3,h9,hH⟩:=(hI _ _).1 hIk
 clear hIk
 simp -implicitDefEqProofs (disch:=omega) only [h1,h2,h3,h9,hH,go_sem]
 refine Af (fun hlt=>?_) (fun hge=>?_)
 ·have hk : k = 0:=by omega
  have hg : l[k]? = some r:=by rw [hk,hlr]; rfl
  rw [if_pos hk] at h2 h9
  simp -implicitDefEqProofs (disch:=omega) only [h1,h2,h3,h9,hH,hlt,hg,i2,go_sem]
  try refine ai ?_
  refine (hI _ _).2 ?_
  and_intros
  all_goals first | exact cl0 | (simp -implicitDefEqProofs (disch:=omega) only [h1,h2,h3,h9,hH,lma,go_sem] <;> first | (simp [Ab]; done) | (simp [Ab]; omega))
 ·have hk : ¬ k = 0:=by omega
  rw [if_neg hk] at h2 h9
  simp -implicitDefEqProofs (disch:=omega) only [h1,h2,h3,h9,hH,hge,go_sem]
theorem Yr (m : Mdl) (r : Rq) (head : Int) (hm : Cm m = true) (hr : AC r = true) (hh : 0 <= head /\ head <= 16777216) : V 196 [m.vv,r.vv,.p (.int .i64 head)] [] = some (.tup [.p (.int .i64 (Cw m r head)),.p (.int .i64 0)],[]):=by
 refine Ae (vf:=vf196) rfl ?_
 have i0:=WP m r head hm hr hh [r] rfl
 have i0 : V 230 [.agg m.cs,.p (.slice 6 [r.pv]),.p (.int .i64 head)] [] = some (.tup [.p (.int .i64 (Cw m r head)),.p (.int .i64 (r.at_ + r.pages)),.p (.int .i64 0)],[]):=i0
 simp only [Rq.pv] at i0
 simp -implicitDefEqProofs (disch:=omega) only [vf196,QT,i0,go_sem]
theorem Hk {α : Type} {R : α -> α -> Prop} {l : List α} (h : l.Pairwise R) {k : Nat} {c : α} (hm : l[k]? = some c) (hk : (0 : Int) < k) : ∃ e,l[((k : Int) - 1).toNat]? = some e /\ R e c:=by
 obtain ⟨hl,he⟩:=lgs.1 hm
 have hp:=List.pairwise_iff_getElem.1 h (k - 1) k (by omega) hl (by omega)
 refine ⟨l[k - 1]'(by omega),?_,he ▸ hp⟩
 rw [show ((k : Int) - 1).toNat = k - 1 by omega]
 exact lgg (by omega)
theorem Eu {t : Tr} {id : Int} (ht : TreeOk t) (hk : Ak t.nodes id = true) : V 83 [t.vv,.p (.int .i64 id)] [] = some (.p (.bool true),[]):=by
 have h:=DR t id (by have:=ht.len; omega)
 rw [EA ((BH t).2 ht),show (AP t.nodes id).isSome = true from hk] at h
 exact h
theorem Kl {t : Tr} (ht : TreeOk t) : V 82 [t.vv] [] = some (.p (.bool true),[]):=by
 have h:=G4 t (by have:=ht.len; omega)
 rw [(BH t).2 ht] at h
 exact h
theorem PS {t : Tr} {l : List Ch} (ht : TreeOk t) (h : AscOk (Ak t.nodes) 1 10000 l) (hl : l.length < 1000000) : V 151 [t.vv,.p (Aj l)] [] = some (.p (.bool true),[]):=by
 refine Ae (vf:=vf151) rfl ?_
 have hc:=Kl ht
 simp -implicitDefEqProofs (disch:=omega) only [vf151,Q9,hc,go_sem]
 obtain ⟨I,hI⟩:=lpI fun k s=>s.pe 1 = .p (Aj l) /\ s.pe 2 = .ptr (.slot 2 0) 0 0 /\ s.pe 5 = .p (.int .i64 k) /\ s.h (.slot 2 0) = some (0,Ob.box [.p (Ap t.nodes),.p (.int .i64 t.next)])
 refine Am (l.length) I ?_ ?_
 ·refine (hI _ _).2 ?_
  and_intros
  all_goals first | exact cl0 | (simp -implicitDefEqProofs (disch:=omega) only [lma,go_sem] <;> first | (simp [Ab]; done) | (simp [Ab]; omega))
 intro k s hk hIk
 obtain hH:=(hI _ _).1 hIk
 clear hIk
 simp -implicitDefEqProofs (disch:=omega) only [hH,go_sem]
 refine Af (fun hlt=>?_) (fun hge=>?_)
 ·have hm : l[k]? = some l[k]:=lgg hlt
  generalize l[k] = c at hm
  have hmem:=lmg hm
  have hfi:=Eu ht (h.known c hmem)
  have hr:=h.range c hmem
  have b1 : ¬ c.own < 1:=by omega
  have b2 : ¬ 10000 < c.own:=by omega
  by_cases hk0 : (0 : Int) < k
  ·obtain ⟨e,he,hlt'⟩:=Hk h.inc hm hk0
   have hk1 : (0 : Int) <= (k : Int) - 1:=by omega
   have hle : ¬ c.group <= e.group:=by omega
   simp -implicitDefEqProofs (disch:=omega) only [hH,hlt,hm,hfi,hk0,hk1,he,hle,b1,b2,go_sem]
   try refine ai ?_
   refine (hI _ _).2 ?_
   and_intros
   all_goals first | exact cl0 | (simp -implicitDefEqProofs (disch:=omega) only [hH,lma,go_sem] <;> first | (simp [Ab]; done) | (simp [Ab]; omega))
  ·simp -implicitDefEqProofs (disch:=omega) only [hH,hlt,hm,hfi,hk0,b1,b2,go_sem]
   try refine ai ?_
   refine (hI _ _).2 ?_
   and_intros
   all_goals first | exact cl0 | (simp -implicitDefEqProofs (disch:=omega) only [hH,lma,go_sem] <;> first | (simp [Ab]; done) | (simp [Ab]; omega))
 .simp -implicitDefEqProofs (disch:=omega) only [hH,hge,go_sem]
theorem K0 {kn : Int -> Bool} : ∀ {l : List Dp} {p : Option Int},BS kn p l = true -> ∀ c ∈ l,(0 <= c.target /\ c.target <= 1048576) /\ 1 <= c.depth /\ c.depth <= 256
 | [],_,_=>by simp
 | c :: l,p,h=>by
  simp only [BS,bat,Cn] at h
  intro x hx
  rcases lmk.1 hx with rfl | hx
  .exact h.1.2
  .exact K0 h.2 x hx
theorem PR {t : Tr} {l : List Dp} (ht : TreeOk t) (h : BS (Ak t.nodes) none l = true) (hl : l.length < 1000000) : V 152 [t.vv,.p (AF l)] [] = some (.p (.bool true),[]):=by
 refine Ae (vf:=vf152) rfl ?_
 have hc:=Kl ht
 obtain ⟨g1,g2,_⟩:=Ix h
 have g3:=K0 h
 simp -implicitDefEqProofs (disch:=omega) only [vf152,Q8,hc,go_sem]
 obtain ⟨I,hI⟩:=lpI fun k s=>s.pe 1 = .p (AF l) /\ s.pe 2 = .ptr (.slot 2 0) 0 0 /\ s.pe 5 = .p (.int .i64 k) /\ s.h (.slot 2 0) = some (0,Ob.box [.p (Ap t.nodes),.p (.int .i64 t.next)])
 refine Am (l.length) I ?_ ?_
 ·refine (hI _ _).2 ?_
  and_intros
  all_goals first | exact cl0 | (simp -implicitDefEqProofs (disch:=omega) only [hH,lma,go_sem] <;> first | (simp [Ab]; done) | (simp [Ab]; omega))
 intro k s hk hIk
 obtain hH:=(hI _ _).1 hIk
 clear hIk
 simp -implicitDefEqProofs (disch:=omega) only [hH,go_sem]
 refine Af (fun hlt=>?_) (fun hge=>?_)
 ·have hm : l[k]? = some l[k]:=lgg hlt
  generalize l[k] = c at hm
  have hmem:=lmg hm
  have hfi:=Eu ht (g1 c hmem)
  have hr:=g3 c hmem
  have b1 : ¬ c.target < 0:=by omega
  have b2 : ¬ 1048576 < c.target:=by omega
  have b3 : ¬ c.depth < 1:=by omega
  have b4 : ¬ 256 < c.depth:=by omega
  by_cases hk0 : (0 : Int) < k
  ·obtain ⟨e,he,hlt'⟩:=Hk g2 hm hk0
   have hk1 : (0 : Int) <= (k : Int) - 1:=by omega
   have hle : ¬ c.group <= e.group:=by omega
   simp -implicitDefEqProofs (disch:=omega) only [hH,hlt,hm,hfi,hk0,hk1,he,hle,b1,b2,b3,b4,go_sem]
   try refine ai ?_
   refine (hI _ _).2 ?_
   and_intros
   all_goals first | exact cl0 | (simp -implicitDefEqProofs (disch:=omega) only [hH,lma,go_sem] <;> first | (simp [Ab]; done) | (simp [Ab]; omega))
  ·simp -implicitDefEqProofs (disch:=omega) only [hH,hlt,hm,hfi,hk0,b1,b2,b3,b4,go_sem]
   try refine ai ?_
   refine (hI _ _).2 ?_
   and_intros
   all_goals first | exact cl0 | (simp -implicitDefEqProofs (disch:=omega) only [hH,lma,go_sem] <;> first | (simp [Ab]; done) | (simp [Ab]; omega))
 .simp -implicitDefEqProofs (disch:=omega) only [hH,hge,go_sem]
abbrev Bk.pv (b : Bk) : PV:=.agg b.cs
abbrev FM (l : List Bk) : PV:=.slice 5 (l.map Bk.pv)
abbrev Cp.vv (c : Cp) : VVal:=.agg [.p (.int .i64 c.group),.p (.int .i64 c.rp.rate),.p (.int .i64 c.rp.per),.p (.int .i64 c.rp.burst),.p (.int .i64 c.rp.level),.p (.int .i64 c.rp.now),.p (.int .i64 c.wp.rate),.p (.int .i64 c.wp.per),.p (.int .i64 c.wp.burst),.p (.int .i64 c.wp.level),.p (.int .i64 c.wp.now),.p (.int .i64 c.ro.rate),.p (.int .i64 c.ro.per),.p (.int .i64 c.ro.burst),.p (.int .i64 c.ro.level),.p (.int .i64 c.ro.now),.p (.int .i64 c.wo.rate),.p (.int .i64 c.wo.per),.p (.int .i64 c.wo.burst),.p (.int .i64 c.wo.level),.p (.int .i64 c.wo.now)]
theorem IG (c : Cp) : V 135 [c.vv] [] = some (.fresh 5 (([c.rp,c.wp,c.ro,c.wo] : List Bk).map Bk.pv),[]):=by
 refine Ae (vf:=vf135) rfl ?_
 simp -implicitDefEqProofs (disch:=omega) only [vf135,Rh,go_sem]
theorem Io (id : Int) (a b c d : Bk) : V 137 [.p (.int .i64 id),.p (FM [a,b,c,d])] [] = some ((Cp.mk id a b c d).vv,[]):=by
 refine Ae (vf:=vf137) rfl ?_
 have e0 : (Int.toNat 0) = 0:=rfl
 have e1 : (Int.toNat 1) = 1:=rfl
 have e2 : (Int.toNat 2) = 2:=rfl
 have e3 : (Int.toNat 3) = 3:=rfl
 simp -implicitDefEqProofs (disch:=omega) only [vf137,Rg,e0,e1,e2,e3,go_sem]
theorem M6 {t : Tr} {r : Rq} (ht : TreeOk t) (h : AC r = true) (hk : Ak t.nodes r.group = true) : V 154 [t.vv,r.vv] [] = some (.p (.bool true),[]):=by
 refine Ae (vf:=vf154) rfl ?_
 have i0:=Kh r h
 have i1:=Eu ht hk
 simp -implicitDefEqProofs (disch:=omega) only [vf154,Q7,i0,i1,go_sem]
theorem ZS (m : Mdl) (speed margin : Int) (h : DB m speed margin = true) : V 47 [FL m speed margin] [] = some (.p (.bool true),[]):=by
 refine Ae (vf:=vf47) rfl ?_
 obtain ⟨hm,⟨e1,e2⟩,e3,e4⟩:=Es.1 h
 have i1:=PT m hm
 simp -implicitDefEqProofs (disch:=omega) only [vf47,LU,i1,e1,e2,e3,e4,go_sem]
theorem L5 {c : Cp} {now : Int} (h : BD now c = true) {k : Nat} (hk : k < 4) : ∃ b,([c.rp,c.wp,c.ro,c.wo] : List Bk)[k]? = some b /\ A1 now b = true:=by
 obtain ⟨h1,h2,h3,h4⟩:=Dg.1 h
 rcases k with _ | _ | _ | _ | k
 .exact ⟨_,rfl,h1⟩
 .exact ⟨_,rfl,h2⟩
 .exact ⟨_,rfl,h3⟩
 .exact ⟨_,rfl,h4⟩
 .omega
theorem IB {t : Tr} {x : Dv} (h : DvOk t x) (hs : x.Small) : V 84 [t.vv,x.vv] [] = some (.p (.bool true),[]):=by
 refine Ae (vf:=vf84) rfl ?_
 have hc:=Kl h.tree
 have cf:=ZS x.m x.speed x.margin h.cfg
 have cw:=PS h.tree h.w hs.w
 have cd:=PR h.tree h.dp hs.p
 have cv:=JY t x.v (by have:=h.tree.len; omega) hs.v
 rw [show B4 t x.v = true by unfold B4; rw [(BH t).2 h.tree,(EU _ _ _ _).2 h.v]; rfl] at cv
 have n1 : ¬ x.now < 0:=by have:=h.now; omega
 have n2 : ¬ 1048576 < x.now:=by have:=h.now; omega
 have n3 : ¬ x.free < 0:=by have:=h.free; omega
 have n4 : ¬ 1125899906842624 < x.free:=by have:=h.free; omega
 have n5 : ¬ x.head < 0:=by have:=h.head; omega
 have n6 : ¬ 16777216 < x.head:=by have:=h.head; omega
 have hl:=h.len
 have n7 : ¬ (256 : Int) < (x.queue.length : Int) + (x.flights.length : Int):=by omega
 have hql : x.queue.length < 1000000:=by omega
 have hfl : x.flights.length < 1000000:=by omega
 obtain ⟨b1,b2,_⟩:=CT.1 h.bk
 obtain ⟨f1,f2,_⟩:=Di.1 h.fl
 have hbl:=hs.b
 simp -implicitDefEqProofs (disch:=omega) only [vf84,RH,hc,cf,cw,cd,cv,n1,n2,n3,n4,n5,n6,n7,go_sem]
 obtain ⟨I,hI⟩:=lpI fun k s=>s.pe 2 = .ptr (.slot 2 0) 0 0 /\ s.pe 3 = .ptr (.slot 3 0) 0 0 /\ s.pe 5 = .p (.int .i64 k) /\ s.h (.slot 2 0) = some (0,Ob.box [.p (Ap t.nodes),.p (.int .i64 t.next)]) /\ s.h (.slot 3 0) = some (0,Ob.box [.p (.int .i64 x.m.rb),.p (.int .i64 x.m.rp),.p (.int .i64 x.m.wb),.p (.int .i64 x.m.wp),.p (.int .i64 x.m.seek),.p (.int .i64 x.speed),.p (.int .i64 x.margin),.p (.int .i64 x.now),.p (.int .i64 x.free),.p (.int .i64 x.head),.p (Aj x.weights),.p (A5 x.buckets),.p (AF x.depths),.p (Aj x.v),.p (AJ x.queue),.p (A4 x.flights)])
 refine Am (x.buckets.length) I ?_ ?_
 ·refine (hI _ _).2 ?_
  and_intros
  all_goals first | exact cl0 | (simp -implicitDefEqProofs (disch:=omega) only [lma,go_sem] <;> first | (simp [Ab]; done) | (simp [Ab]; omega))
 intro k s hk hIk
 obtain hH:=(hI _ _).1 hIk
 clear hIk
 simp -implicitDefEqProofs (disch:=omega) only [hH,go_sem]
 refine Af (fun hlt=>?_) (fun hge=>?_)
 ·have hm : x.buckets[k]? = some x.buckets[k]:=lgg hlt
  generalize x.buckets[k] = c at hm
  have hmem:=lmg hm
  obtain ⟨hkn,hcb⟩:=b1 c hmem
  have hfi:=Eu h.tree hkn
  have i4:=IG c
  have m4:=fun (j : Nat) (hj : j < 4)=>L5 hcb hj
  generalize hcl : ([c.rp,c.wp,c.ro,c.wo] : List Bk) = B at i4 m4
  have hB : B.length = 4:=by rw [<- hcl]; rfl
  by_cases hk0 : (0 : Int) < k
  ·obtain ⟨e,he,hlt'⟩:=Hk b2 hm hk0
   have hk1 : (0 : Int) <= (k : Int) - 1:=by omega
   have hle : ¬ c.group <= e.group:=by omega
   simp -implicitDefEqProofs (disch:=omega) only [hH,hlt,hm,Cp.pv,hfi,hk0,hk1,he,hle,i4,go_sem]
   obtain ⟨J,hJ⟩:=lpI fun j s=>∃ (v116_1 : Nat),s.pe 7 = .own (.slot 116 1) v116_1 0 B.length /\ s.pe 8 = .p (.int .i64 j) /\ s.h (.slot 116 1) = some (v116_1,Ob.arr 5 (List.map Bk.pv B)) /\ s.pe 2 = .ptr (.slot 2 0) 0 0 /\ s.pe 3 = .ptr (.slot 3 0) 0 0 /\ s.pe 5 = .p (.int .i64 k) /\ s.h (.slot 2 0) = some (0,Ob.box [.p (Ap t.nodes),.p (.int .i64 t.next)]) /\ s.h (.slot 3 0) = some (0,Ob.box [.p (.int .i64 x.m.rb),.p (.int .i64 x.m.rp),.p (.int .i64 x.m.wb),.p (.int .i64 x.m.wp),.p (.int .i64 x.m.seek),.p (.int .i64 x.speed),.p (.int .i64 x.margin),.p (.int .i64 x.now),.p (.int .i64 x.free),.p (.int .i64 x.head),.p (Aj x.weights),.p (A5 x.buckets),.p (AF x.depths),.p (Aj x.v),.p (AJ x.queue),.p (A4 x.flights)])
   refine Am (B.length) J ?_ ?_
   ·refine (hJ _ _).2 ⟨nv (Bs [116] s.h (.slot 116 1)),?_⟩
    and_intros
    all_goals first | exact cl0 | (simp -implicitDefEqProofs (disch:=omega) only [hH,lma,go_sem] <;> first | (simp [Ab]; done) | (simp [Ab]; omega))
   intro j s hj hJk
   obtain ⟨v116_1,hH⟩:=(hJ _ _).1 hJk
   clear hJk
   simp -implicitDefEqProofs (disch:=omega) only [hH,go_sem]
   refine Af (fun hj=>?_) (fun hje=>?_)
   ·obtain ⟨b,hbm,hbs⟩:=m4 j (by omega)
    obtain ⟨s1,s2,s3⟩:=AK.1 hbs
    have i5:=GW b s1
    have s2' : decide (b.per = 100) = true:=decide_eq_true s2
    have s3' : decide (b.now = x.now) = true:=decide_eq_true s3
    simp -implicitDefEqProofs (disch:=omega) only [hH,hj,hbm,i5,s2',s3',go_sem]
    try refine ai ?_
    refine (hJ _ _).2 ⟨v116_1,?_⟩
    and_intros
    all_goals first | exact cl0 | (simp -implicitDefEqProofs (disch:=omega) only [hH,lma,go_sem] <;> first | (simp [Ab]; done) | (simp [Ab]; omega))
   ·simp -implicitDefEqProofs (disch:=omega) only [hH,hje,go_sem]
    try refine ai ?_
    refine (hI _ _).2 ?_
    and_intros
    all_goals first | exact cl0 | (simp -implicitDefEqProofs (disch:=omega) only [hH,lma,go_sem] <;> first | (simp [Ab]; done) | (simp [Ab]; omega))
  ·simp -implicitDefEqProofs (disch:=omega) only [hH,hlt,hm,Cp.pv,hfi,hk0,i4,go_sem]
   obtain ⟨J,hJ⟩:=lpI fun j s=>∃ (v116_1 : Nat),s.pe 7 = .own (.slot 116 1) v116_1 0 B.length /\ s.pe 8 = .p (.int .i64 j) /\ s.h (.slot 116 1) = some (v116_1,Ob.arr 5 (List.map Bk.pv B)) /\ s.pe 2 = .ptr (.slot 2 0) 0 0 /\ s.pe 3 = .ptr (.slot 3 0) 0 0 /\ s.pe 5 = .p (.int .i64 k) /\ s.h (.slot 2 0) = some (0,Ob.box [.p (Ap t.nodes),.p (.int .i64 t.next)]) /\ s.h (.slot 3 0) = some (0,Ob.box [.p (.int .i64 x.m.rb),.p (.int .i64 x.m.rp),.p (.int .i64 x.m.wb),.p (.int .i64 x.m.wp),.p (.int .i64 x.m.seek),.p (.int .i64 x.speed),.p (.int .i64 x.margin),.p (.int .i64 x.now),.p (.int .i64 x.free),.p (.int .i64 x.head),.p (Aj x.weights),.p (A5 x.buckets),.p (AF x.depths),.p (Aj x.v),.p (AJ x.queue),.p (A4 x.flights)])
   refine Am (B.length) J ?_ ?_
   ·refine (hJ _ _).2 ⟨nv (Bs [116] s.h (.slot 116 1)),?_⟩
    and_intros
    all_goals first | exact cl0 | (simp -implicitDefEqProofs (disch:=omega) only [hH,lma,go_sem] <;> first | (simp [Ab]; done) | (simp [Ab]; omega))
   intro j s hj hJk
   obtain ⟨v116_1,hH⟩:=(hJ _ _).1 hJk
   clear hJk
   simp -implicitDefEqProofs (disch:=omega) only [hH,go_sem]
   refine Af (fun hj=>?_) (fun hje=>?_)
   ·obtain ⟨b,hbm,hbs⟩:=m4 j (by omega)
    obtain ⟨s1,s2,s3⟩:=AK.1 hbs
    have i5:=GW b s1
    have s2' : decide (b.per = 100) = true:=decide_eq_true s2
    have s3' : decide (b.now = x.now) = true:=decide_eq_true s3
    simp -implicitDefEqProofs (disch:=omega) only [hH,hj,hbm,i5,s2',s3',go_sem]
    try refine ai ?_
    refine (hJ _ _).2 ⟨v116_1,?_⟩
    and_intros
    all_goals first | exact cl0 | (simp -implicitDefEqProofs (disch:=omega) only [hH,lma,go_sem] <;> first | (simp [Ab]; done) | (simp [Ab]; omega))
   ·simp -implicitDefEqProofs (disch:=omega) only [hH,hje,go_sem]
    try refine ai ?_
    refine (hI _ _).2 ?_
    and_intros
    all_goals first | exact cl0 | (simp -implicitDefEqProofs (disch:=omega) only [hH,lma,go_sem] <;> first | (simp [Ab]; done) | (simp [Ab]; omega))
 ·simp -implicitDefEqProofs (disch:=omega) only [hH,hge,go_sem]
  obtain ⟨M,hM⟩:=lpI fun m s=>s.pe 2 = .ptr (.slot 2 0) 0 0 /\ s.pe 3 = .ptr (.slot 3 0) 0 0 /\ s.pe 9 = .p (.int .i64 m) /\ s.h (.slot 2 0) = some (0,Ob.box [.p (Ap t.nodes),.p (.int .i64 t.next)]) /\ s.h (.slot 3 0) = some (0,Ob.box [.p (.int .i64 x.m.rb),.p (.int .i64 x.m.rp),.p (.int .i64 x.m.wb),.p (.int .i64 x.m.wp),.p (.int .i64 x.m.seek),.p (.int .i64 x.speed),.p (.int .i64 x.margin),.p (.int .i64 x.now),.p (.int .i64 x.free),.p (.int .i64 x.head),.p (Aj x.weights),.p (A5 x.buckets),.p (AF x.depths),.p (Aj x.v),.p (AJ x.queue),.p (A4 x.flights)])
  refine Am (x.queue.length) M ?_ ?_
  ·refine (hM _ _).2 ?_
   and_intros
   all_goals first | exact cl0 | (simp -implicitDefEqProofs (disch:=omega) only [hH,lma,go_sem] <;> first | (simp [Ab]; done) | (simp [Ab]; omega))
  intro m s hm hMk
  obtain hH:=(hM _ _).1 hMk
  clear hMk
  simp -implicitDefEqProofs (disch:=omega) only [hH,go_sem]
  refine Af (fun hq=>?_) (fun hqe=>?_)
  ·have hm : x.queue[m]? = some x.queue[m]:=lgg hq
   have hx:=h.q x.queue[m] (lgk hq)
   generalize x.queue[m] = r at hm hx
   have i6:=M6 h.tree hx.1 hx.2
   simp -implicitDefEqProofs (disch:=omega) only [hH,hq,hm,i6,go_sem]
   try refine ai ?_
   refine (hM _ _).2 ?_
   and_intros
   all_goals first | exact cl0 | (simp -implicitDefEqProofs (disch:=omega) only [hH,lma,go_sem] <;> first | (simp [Ab]; done) | (simp [Ab]; omega))
  ·simp -implicitDefEqProofs (disch:=omega) only [hH,hqe,go_sem]
   obtain ⟨N,hN⟩:=lpI fun n s=>s.pe 2 = .ptr (.slot 2 0) 0 0 /\ s.pe 3 = .ptr (.slot 3 0) 0 0 /\ s.pe 10 = .p (.int .i64 n) /\ s.h (.slot 2 0) = some (0,Ob.box [.p (Ap t.nodes),.p (.int .i64 t.next)]) /\ s.h (.slot 3 0) = some (0,Ob.box [.p (.int .i64 x.m.rb),.p (.int .i64 x.m.rp),.p (.int .i64 x.m.wb),.p (.int .i64 x.m.wp),.p (.int .i64 x.m.seek),.p (.int .i64 x.speed),.p (.int .i64 x.margin),.p (.int .i64 x.now),.p (.int .i64 x.free),.p (.int .i64 x.head),.p (Aj x.weights),.p (A5 x.buckets),.p (AF x.depths),.p (Aj x.v),.p (AJ x.queue),.p (A4 x.flights)])
   refine Am (x.flights.length) N ?_ ?_
   ·refine (hN _ _).2 ?_
    and_intros
    all_goals first | exact cl0 | (simp -implicitDefEqProofs (disch:=omega) only [hH,lma,go_sem] <;> first | (simp [Ab]; done) | (simp [Ab]; omega))
   intro n s hn hNk
   obtain hH:=(hN _ _).1 hNk
   clear hNk
   simp -implicitDefEqProofs (disch:=omega) only [hH,go_sem]
   refine Af (fun hf=>?_) (fun hfe=>?_)
   ·have hm : x.flights[n]? = some x.flights[n]:=lgg hf
    have hx:=f1 x.flights[n] (lgk hf)
    generalize x.flights[n] = f at hm hx
    have i6:=M6 h.tree hx.1.1 hx.1.2
    have d1 : ¬ f.done < 0:=by omega
    have d2 : ¬ 1125899906842624 < f.done:=by omega
    by_cases hn0 : (0 : Int) < n
    ·obtain ⟨e,he,hle⟩:=Hk f2 hm hn0
     have hn1 : (0 : Int) <= (n : Int) - 1:=by omega
     have hle' : ¬ f.done < e.done:=by omega
     simp -implicitDefEqProofs (disch:=omega) only [hH,hf,hm,Fl.pv,i6,d1,d2,hn0,hn1,he,hle',go_sem]
     try refine ai ?_
     refine (hN _ _).2 ?_
     and_intros
     all_goals first | exact cl0 | (simp -implicitDefEqProofs (disch:=omega) only [hH,lma,go_sem] <;> first | (simp [Ab]; done) | (simp [Ab]; omega))
    ·simp -implicitDefEqProofs (disch:=omega) only [hH,hf,hm,Fl.pv,i6,d1,d2,hn0,go_sem]
     try refine ai ?_
     refine (hN _ _).2 ?_
     and_intros
     all_goals first | exact cl0 | (simp -implicitDefEqProofs (disch:=omega) only [hH,lma,go_sem] <;> first | (simp [Ab]; done) | (simp [Ab]; omega))
   .simp -implicitDefEqProofs (disch:=omega) only [hH,hfe,go_sem]
abbrev Dv.fv (d : Dv) : VVal:=.agg [.p (.int .i64 d.m.rb),.p (.int .i64 d.m.rp),.p (.int .i64 d.m.wb),.p (.int .i64 d.m.wp),.p (.int .i64 d.m.seek),.p (.int .i64 d.speed),.p (.int .i64 d.margin),.p (.int .i64 d.now),.p (.int .i64 d.free),.p (.int .i64 d.head),.fresh 2 (d.weights.map Ch.pv),.fresh 21 (d.buckets.map Cp.pv),.fresh 3 (d.depths.map Dp.pv),.fresh 2 (d.v.map Ch.pv),.fresh 6 (d.queue.map Rq.pv),.fresh 7 (d.flights.map Fl.pv)]
theorem H0 (x : Dv) (hs : x.Small) (hl : x.queue.length < 1000000) (hf : x.flights.length < 1000000) : V 69 [x.vv] [] = some (x.fv,[]):=by
 refine Ae (vf:=vf69) rfl ?_
 have h1:=hs.w
 have h2:=hs.b
 have h3:=hs.p
 have h4:=hs.v
 simp -implicitDefEqProofs (disch:=omega) only [vf69,RK,go_sem]
theorem JM (x : Dv) (id : Int) (hs : x.Small) : V 192 [x.vv,.p (.int .i64 id)] [] = some (.p (.int .i64 (Cd (fun c=>decide (c.group = id)) x.buckets)),[]):=by
 refine Ae (vf:=vf192) rfl ?_
 have hbl:=hs.b
 simp -implicitDefEqProofs (disch:=omega) only [vf192,QW,go_sem]
 obtain ⟨I,hI⟩:=lpI fun k s=>(∀ (i : Nat) (n : Cp),i < k -> x.buckets[i]? = some n -> decide (n.group = id) = false) /\ s.pe 1 = .p (.int .i64 id) /\ s.pe 2 = .ptr (.slot 2 0) 0 0 /\ s.pe 5 = .p (.int .i64 k) /\ s.h (.slot 2 0) = some (0,Ob.box [.p (.int .i64 x.m.rb),.p (.int .i64 x.m.rp),.p (.int .i64 x.m.wb),.p (.int .i64 x.m.wp),.p (.int .i64 x.m.seek),.p (.int .i64 x.speed),.p (.int .i64 x.margin),.p (.int .i64 x.now),.p (.int .i64 x.free),.p (.int .i64 x.head),.p (Aj x.weights),.p (A5 x.buckets),.p (AF x.depths),.p (Aj x.v),.p (AJ x.queue),.p (A4 x.flights)])
 refine Am (x.buckets.length) I ?_ ?_
 ·refine (hI _ _).2 ?_
  and_intros
  ·omega
  all_goals first | exact cl0 | (simp -implicitDefEqProofs (disch:=omega) only [lma,go_sem] <;> first | (simp [Ab]; done) | (simp [Ab]; omega))
 intro k s hk hIk
 obtain ⟨hall,hH⟩:=(hI _ _).1 hIk
 clear hIk
 simp -implicitDefEqProofs (disch:=omega) only [hH,go_sem]
 refine Af (fun hlt=>?_) (fun hge=>?_)
 ·have hm : x.buckets[k]? = some x.buckets[k]:=lgg hlt
  generalize x.buckets[k] = m at hm
  cases hb : decide (m.group = id) with
  | true =>
   have hi:=Gl hm hall hb
   simp -implicitDefEqProofs (disch:=omega) only [hH,hlt,hm,hb,Cp.pv,PV.cells,hi,go_sem]
  | false =>
   have ha:=Hu hm hall hb
   simp -implicitDefEqProofs (disch:=omega) only [hH,hlt,hm,hb,Cp.pv,PV.cells,go_sem]
   try refine ai ?_
   refine (hI _ _).2 ?_
   and_intros
   .exact ha
   all_goals first | exact cl0 | (simp -implicitDefEqProofs (disch:=omega) only [hH,lma,go_sem] <;> first | (simp [Ab]; done) | (simp [Ab]; omega))
 ·have hn : Cd (fun c : Cp=>decide (c.group = id)) x.buckets = -1:=F9 fun n hn=>by
   obtain ⟨i,hi⟩:=lgm hn
   exact hall i n (by have:=(lgs.1 hi).1; omega) hi
  simp -implicitDefEqProofs (disch:=omega) only [hH,hge,hn,go_sem]
theorem Of (x : Dv) (id : Int) (hs : x.Small) : V 195 [x.vv,.p (.int .i64 id)] [] = some (.p (.int .i64 (Cd (fun c=>decide (c.group = id)) x.queue)),[]):=by
 refine Ae (vf:=vf195) rfl ?_
 have hbl:=hs.q
 simp -implicitDefEqProofs (disch:=omega) only [vf195,QU,go_sem]
 obtain ⟨I,hI⟩:=lpI fun k s=>(∀ (i : Nat) (n : Rq),i < k -> x.queue[i]? = some n -> decide (n.group = id) = false) /\ s.pe 1 = .p (.int .i64 id) /\ s.pe 2 = .ptr (.slot 2 0) 0 0 /\ s.pe 5 = .p (.int .i64 k) /\ s.h (.slot 2 0) = some (0,Ob.box [.p (.int .i64 x.m.rb),.p (.int .i64 x.m.rp),.p (.int .i64 x.m.wb),.p (.int .i64 x.m.wp),.p (.int .i64 x.m.seek),.p (.int .i64 x.speed),.p (.int .i64 x.margin),.p (.int .i64 x.now),.p (.int .i64 x.free),.p (.int .i64 x.head),.p (Aj x.weights),.p (A5 x.buckets),.p (AF x.depths),.p (Aj x.v),.p (AJ x.queue),.p (A4 x.flights)])
 refine Am (x.queue.length) I ?_ ?_
 ·refine (hI _ _).2 ?_
  and_intros
  ·omega
  all_goals first | exact cl0 | (simp -implicitDefEqProofs (disch:=omega) only [hH,lma,go_sem] <;> first | (simp [Ab]; done) | (simp [Ab]; omega))
 intro k s hk hIk
 obtain ⟨hall,hH⟩:=(hI _ _).1 hIk
 clear hIk
 simp -implicitDefEqProofs (disch:=omega) only [hH,go_sem]
 refine Af (fun hlt=>?_) (fun hge=>?_)
 ·have hm : x.queue[k]? = some x.queue[k]:=lgg hlt
  generalize x.queue[k] = m at hm
  cases hb : decide (m.group = id) with
  | true =>
   have hi:=Gl hm hall hb
   simp -implicitDefEqProofs (disch:=omega) only [hH,hlt,hm,hb,hi,go_sem]
  | false =>
   have ha:=Hu hm hall hb
   simp -implicitDefEqProofs (disch:=omega) only [hH,hlt,hm,hb,go_sem]
   try refine ai ?_
   refine (hI _ _).2 ?_
   and_intros
   .exact ha
   all_goals first | exact cl0 | (simp -implicitDefEqProofs (disch:=omega) only [hH,lma,go_sem] <;> first | (simp [Ab]; done) | (simp [Ab]; omega))
 ·have hn : Cd (fun c : Rq=>decide (c.group = id)) x.queue = -1:=F9 fun n hn=>by
   obtain ⟨i,hi⟩:=lgm hn
   exact hall i n (by have:=(lgs.1 hi).1; omega) hi
  simp -implicitDefEqProofs (disch:=omega) only [hH,hge,hn,go_sem]
def EE (c : Cp) (r : Rq) : Bool:=decide (Db (kpB c r.write) r.pages = 0 /\ Db (koB c r.write) 1 = 0)
theorem Oe (c : Cp) (r : Rq) {now : Int} (hc : BD now c = true) (hr : AC r = true) : V 200 [c.vv,r.vv,.p (.int .i64 now)] [] = some (.tup [(Bw c r).vv,.p (.bool (EE c r))],[]):=by
 refine Ae (vf:=vf200) rfl ?_
 obtain ⟨h1,h2,h3,h4⟩:=Dg.1 hc
 have i0:=IG c
 have hp:=(C0.1 hr).2.2.2.1
 have e02 : Int.toNat (0 + 2) = 2:=rfl
 have e12 : Int.toNat (1 + 2) = 3:=rfl
 have e0 : Int.toNat 0 = 0:=rfl
 have e1 : Int.toNat 1 = 1:=rfl
 have e2 : Int.toNat 2 = 2:=rfl
 have e3 : Int.toNat 3 = 3:=rfl
 cases hw : r.write with
 | false =>
  have t1:=Ic c.rp r.pages (AK.1 h1).1 (by omega)
  have t2:=Ic c.ro 1 (AK.1 h3).1 (by omega)
  rw [(AK.1 h1).2.2] at t1
  rw [(AK.1 h3).2.2] at t2
  have i1:=Io c.group (Bc c.rp r.pages) c.wp (Bc c.ro 1) c.wo
  have hS : Bw c r = ⟨c.group,Bc c.rp r.pages,c.wp,Bc c.ro 1,c.wo⟩:=by unfold Bw; rw [hw]; rfl
  have hT : EE c r = decide (Db c.rp r.pages = 0 /\ Db c.ro 1 = 0):=by unfold EE; rw [hw]; rfl
  simp only [FM,Bk.pv,Bk.cs,lpc,lpn] at i1
  rw [hS,hT]
  generalize Db c.rp r.pages = q1 at t1
  generalize Db c.ro 1 = q2 at t2
  by_cases hq : q1 = 0
  ·have hq' : decide (q1 = 0) = true:=decide_eq_true hq
   rw [show decide (q1 = 0 /\ q2 = 0) = decide (q2 = 0) by simp [hq]]
   simp -implicitDefEqProofs (disch:=omega) only [vf200,Hy,i0,hw,t1,t2,i1,e0,e1,e2,e3,e02,e12,hq',List.set_cons_zero,List.set_cons_succ,go_sem]
  ·have hq' : decide (q1 = 0) = false:=decide_eq_false hq
   rw [show decide (q1 = 0 /\ q2 = 0) = false by simp [hq]]
   simp -implicitDefEqProofs (disch:=omega) only [vf200,Hy,i0,hw,t1,t2,i1,e0,e1,e2,e3,e02,e12,hq',List.set_cons_zero,List.set_cons_succ,go_sem]
 | true =>
  have t1:=Ic c.wp r.pages (AK.1 h2).1 (by omega)
  have t2:=Ic c.wo 1 (AK.1 h4).1 (by omega)
  rw [(AK.1 h2).2.2] at t1
  rw [(AK.1 h4).2.2] at t2
  have i1:=Io c.group c.rp (Bc c.wp r.pages) c.ro (Bc c.wo 1)
  have hS : Bw c r = ⟨c.group,c.rp,Bc c.wp r.pages,c.ro,Bc c.wo 1⟩:=by unfold Bw; rw [hw]; rfl
  have hT : EE c r = decide (Db c.wp r.pages = 0 /\ Db c.wo 1 = 0):=by unfold EE; rw [hw]; rfl
  simp only [FM,Bk.pv,Bk.cs,lpc,lpn] at i1
  rw [hS,hT]
  generalize Db c.wp r.pages = q1 at t1
  generalize Db c.wo 1 = q2 at t2
  by_cases hq : q1 = 0
  ·have hq' : decide (q1 = 0) = true:=decide_eq_true hq
   rw [show decide (q1 = 0 /\ q2 = 0) = decide (q2 = 0) by simp [hq]]
   simp -implicitDefEqProofs (disch:=omega) only [vf200,Hy,i0,hw,t1,t2,i1,e0,e1,e2,e3,e02,e12,hq',List.set_cons_zero,List.set_cons_succ,go_sem]
  ·have hq' : decide (q1 = 0) = false:=decide_eq_false hq
   rw [show decide (q1 = 0 /\ q2 = 0) = false by simp [hq]]
   simp -implicitDefEqProofs (disch:=omega) only [vf200,Hy,i0,hw,t1,t2,i1,e0,e1,e2,e3,e02,e12,hq',List.set_cons_zero,List.set_cons_succ,go_sem]
def insGo {α : Type} (g : α -> Int) (x : α) : Bool -> List α -> List α
 | d,[]=>if d then [] else [x]
 | d,c :: l=>(if !d && decide (g x <= g c) then [x] else []) ++ (if g c = g x then [] else [c]) ++ insGo g x (d || decide (g x <= g c)) l
theorem If {α : Type} {g : α -> Int} {x : α} : ∀ {l : List α} {d : Bool} {c : α},c ∈ insGo g x d l -> (d = false /\ c = x) \/ c ∈ l
 | [],d,c,h=>by
  cases d
  ·exact .inl ⟨rfl,by simpa [insGo] using h⟩
  ·simp [insGo] at h
 | y :: l,d,c,h=>by
  rw [insGo,laa,lmp,lmp] at h
  rcases h with h | h | h
  ·cases d
   ·split at h
    .exact .inl ⟨rfl,by simpa using h⟩
    .simp at h
   ·simp at h
  ·split at h
   ·simp at h
   ·exact .inr (by simp at h; simp [h])
  ·rcases If h with ⟨h1,h2⟩ | h1
   ·simp only [Bool.or_eq_false_iff] at h1
    exact .inl ⟨h1.1,h2⟩
   .exact .inr (lmc _ h1)
theorem insGo_sub {α : Type} {g : α -> Int} {x : α} : ∀ {l : List α},List.Sublist (insGo g x true l) l
 | []=>by simp [insGo]
 | c :: l=>by
  have ih:=insGo_sub (g:=g) (x:=x) (l:=l)
  by_cases h : g c = g x
  ·have e : insGo g x true (c :: l) = insGo g x true l:=by simp [insGo,h]
   rw [e]
   exact ih.trans (List.sublist_cons_self _ _)
  ·have e : insGo g x true (c :: l) = c :: insGo g x true l:=by simp [insGo,h]
   rw [e]
   exact ih.cons_cons c
theorem Kp {α : Type} {g : α -> Int} {x : α} : ∀ {l : List α} {d : Bool},(l.Pairwise fun a b=>g a < g b) -> (insGo g x d l).Pairwise fun a b=>g a < g b
 | l,true,h=>h.sublist insGo_sub
 | [],false,_=>by simp [insGo]
 | y :: l,false,h=>by
  obtain ⟨h1,h2⟩:=lpw.1 h
  by_cases hge : g x <= g y
  ·have hr : ∀ c ∈ insGo g x true l,g y < g c:=fun c hc=>h1 c (insGo_sub.subset hc)
   have ht:=h2.sublist (insGo_sub (g:=g) (x:=x))
   by_cases hy : g y = g x
   ·have e : insGo g x false (y :: l) = x :: insGo g x true l:=by simp [insGo,hge,hy]
    rw [e]
    exact lpw.2 ⟨fun c hc=>by have:=hr c hc; omega,ht⟩
   ·have e : insGo g x false (y :: l) = x :: y :: insGo g x true l:=by simp [insGo,hge,hy]
    rw [e]
    refine lpw.2 ⟨fun c hc=>?_,lpw.2 ⟨hr,ht⟩⟩
    rcases lmk.1 hc with rfl | hc
    .omega
    .have:=hr c hc; omega
  ·have hne : ¬ g y = g x:=by omega
   have e : insGo g x false (y :: l) = y :: insGo g x false l:=by simp [insGo,hge,hne]
   rw [e]
   refine lpw.2 ⟨fun c hc=>?_,Kp h2⟩
   rcases If hc with ⟨_,rfl⟩ | hc
   .omega
   .exact h1 c hc
theorem WN (l : List Ch) (id n : Int) (hl : l.length < 1000000) : V 131 [.p (Aj l),.p (.int .i64 id),.p (.int .i64 n)] [] = some (.fresh 2 ((withGo id n (decide (n = 100)) l).map Ch.pv),[]):=by
 refine Ae (vf:=vf131) rfl ?_
 simp -implicitDefEqProofs (disch:=omega) only [vf131,Rk,go_sem]
 obtain ⟨I,hI⟩:=lpI fun k s=>∃ (acc : List Ch) (d : Bool) (w : Nat),withGo id n (decide (n = 100)) l = acc ++ withGo id n d (l.drop k) /\ acc.length <= 2 * k /\ s.pe 0 = .p (Aj l) /\ s.pe 1 = .p (.int .i64 id) /\ s.pe 2 = .p (.int .i64 n) /\ s.pe 7 = .own (.slot 7 0) w 0 acc.length /\ s.pe 8 = .p (.bool d) /\ s.pe 9 = .p (.int .i64 k) /\ s.h (.slot 7 0) = some (w,Ob.arr 2 (acc.map Ch.pv))
 refine Am (l.length) I ?_ ?_
 ·refine (hI _ _).2 ⟨[],(decide (n = 100)),0,?_⟩
  and_intros
  ·rfl
  ·exact cl3
  all_goals first | exact cl0 | (simp -implicitDefEqProofs (disch:=omega) only [lma,go_sem] <;> first | (simp [Ab]; done) | (simp [Ab]; omega))
 intro k s hk hIk
 obtain ⟨acc,d,w,hw,hal,hH⟩:=(hI _ _).1 hIk
 clear hIk
 simp -implicitDefEqProofs (disch:=omega) only [hH,go_sem]
 refine Af (fun hlt=>?_) (fun hge=>?_)
 ·have hm : l[k]? = some l[k]:=lgg hlt
  have hd : l.drop k = l[k] :: l.drop (k + 1):=ldg hlt
  generalize l[k] = c at hm hd
  rw [hd,withGo] at hw
  cases d with
  | true =>
   by_cases he : c.group = id
   ·simp only [he,Bool.not_true,bfa,bft,if_false,if_true,lna,lan,Bool.true_or] at hw
    simp -implicitDefEqProofs (disch:=omega) only [hH,hlt,hm,he,go_sem]
    try refine ai ?_
    refine (hI _ _).2 ⟨acc,true,w,?_⟩
    and_intros
    ·exact hw
    ·omega
    all_goals first | exact cl0 | (simp -implicitDefEqProofs (disch:=omega) only [hH,lma,go_sem] <;> first | (simp [Ab]; done) | (simp [Ab]; omega))
   ·simp only [he,Bool.not_true,bfa,bft,if_false,lna,Bool.true_or,<- laa] at hw
    simp -implicitDefEqProofs (disch:=omega) only [hH,hlt,hm,he,go_sem]
    try refine ai ?_
    refine (hI _ _).2 ⟨acc ++ [c],true,w + 1,?_⟩
    and_intros
    ·exact hw
    ·exact by simp; omega
    all_goals first | exact cl0 | (simp -implicitDefEqProofs (disch:=omega) only [hH,lma,go_sem] <;> first | (simp [Ab]; done) | (simp [Ab]; omega))
  | false =>
   by_cases hge : id <= c.group
   ·by_cases he : c.group = id
    ·simp only [he,Int.le_refl,decide_true,bnf,bas,if_true,lan,Bool.or_true,<- laa] at hw
     simp -implicitDefEqProofs (disch:=omega) only [hH,hlt,hm,hge,he,Int.le_refl,decide_true,go_sem]
     try refine ai ?_
     refine (hI _ _).2 ⟨acc ++ [⟨id,n⟩],true,w + 1,?_⟩
     and_intros
     .exact hw
     .exact by simp; omega
     all_goals first | exact cl0 | (simp -implicitDefEqProofs (disch:=omega) only [hH,lma,go_sem] <;> first | (simp [Ab]; done) | (simp [Ab]; omega))
    ·simp only [he,hge,decide_true,bnf,bas,if_true,if_false,Bool.or_true,<- laa] at hw
     simp -implicitDefEqProofs (disch:=omega) only [hH,hlt,hm,hge,he,go_sem]
     try refine ai ?_
     refine (hI _ _).2 ⟨acc ++ [⟨id,n⟩] ++ [c],true,w + 1 + 1,?_⟩
     and_intros
     .exact hw
     .exact by simp; omega
     all_goals first | exact cl0 | (simp -implicitDefEqProofs (disch:=omega) only [hH,lma,go_sem] <;> first | (simp [Ab]; done) | (simp [Ab]; omega))
   ·have he : ¬ c.group = id:=by omega
    simp only [he,hge,decide_false,bnf,Bool.and_false,bft,if_false,lna,Bool.or_false,<- laa] at hw
    simp -implicitDefEqProofs (disch:=omega) only [hH,hlt,hm,hge,he,go_sem]
    try refine ai ?_
    refine (hI _ _).2 ⟨acc ++ [c],false,w + 1,?_⟩
    and_intros
    .exact hw
    .exact by simp; omega
    all_goals first | exact cl0 | (simp -implicitDefEqProofs (disch:=omega) only [hH,lma,go_sem] <;> first | (simp [Ab]; done) | (simp [Ab]; omega))
 ·rw [ldl (by omega),withGo] at hw
  cases d with
  | true =>
   simp only [if_true,lan] at hw
   simp -implicitDefEqProofs (disch:=omega) only [hH,hge,go_sem]
   rw [hw]
  | false =>
   simp only [bft,if_false] at hw
   simp -implicitDefEqProofs (disch:=omega) only [hH,hge,go_sem]
   rw [hw]
   simp [Ch.pv]
theorem ZO (l : List Dp) (x : Dp) (hl : l.length < 1000000) : V 133 [.p (AF l),.agg [.p (.int .i64 x.group),.p (.int .i64 x.target),.p (.int .i64 x.depth)]] [] = some (.fresh 3 ((insGo Dp.group x (decide (x.target = 0) && decide (x.depth = 256)) l).map Dp.pv),[]):=by
 refine Ae (vf:=vf133) rfl ?_
 cases hT : decide (x.target = 0) with
 | true =>
  rw [bta]
  simp -implicitDefEqProofs (disch:=omega) only [vf133,LD,hT,go_sem]
  obtain ⟨I,hI⟩:=lpI fun k s=>∃ (acc : List Dp) (d : Bool) (w : Nat),insGo Dp.group x (decide (x.depth = 256)) l = acc ++ insGo Dp.group x d (l.drop k) /\ acc.length <= 2 * k /\ s.pe 0 = .p (AF l) /\ s.pe 3 = .ptr (.slot 3 0) 0 0 /\ s.h (.slot 3 0) = some (0,Ob.box [.p (.int .i64 x.group),.p (.int .i64 x.target),.p (.int .i64 x.depth)]) /\ s.pe 5 = .own (.slot 5 0) w 0 acc.length /\ s.pe 6 = .p (.bool d) /\ s.pe 7 = .p (.int .i64 k) /\ s.h (.slot 5 0) = some (w,Ob.arr 3 (acc.map Dp.pv))
  refine Am (l.length) I ?_ ?_
  ·refine (hI _ _).2 ⟨[],(decide (x.depth = 256)),0,?_⟩
   and_intros
   ·rfl
   ·exact cl3
   all_goals first | exact cl0 | (simp -implicitDefEqProofs (disch:=omega) only [h0,h1,h2,h7,h8,h9,hh7_0,lma,go_sem] <;> first | (simp [Ab]; done) | (simp [Ab]; omega))
  intro k s hk hIk
  obtain ⟨acc,d,w,hw,hal,h0,h3,hh3_0,h5,h6,h7,hh5_0⟩:=(hI _ _).1 hIk
  clear hIk
  simp -implicitDefEqProofs (disch:=omega) only [h0,h3,hh3_0,h5,h6,h7,hh5_0,go_sem]
  refine Af (fun hlt=>?_) (fun hge=>?_)
  ·have hm : l[k]? = some l[k]:=lgg hlt
   have hd : l.drop k = l[k] :: l.drop (k + 1):=ldg hlt
   generalize l[k] = c at hm hd
   rw [hd,insGo] at hw
   cases d with
   | true =>
    by_cases he : c.group = x.group
    ·simp only [he,Bool.not_true,bfa,bft,if_false,if_true,lna,lan,Bool.true_or] at hw
     simp -implicitDefEqProofs (disch:=omega) only [h0,h3,hh3_0,h5,h6,h7,hh5_0,hlt,hm,he,Dp.pv,go_sem]
     try refine ai ?_
     refine (hI _ _).2 ⟨acc,true,w,?_⟩
     and_intros
     ·exact hw
     ·omega
     all_goals first | exact cl0 | (simp -implicitDefEqProofs (disch:=omega) only [h0,h3,hh3_0,h5,h6,h7,hh5_0,lma,go_sem] <;> first | (simp [Ab]; done) | (simp [Ab]; omega))
    ·simp only [he,Bool.not_true,bfa,bft,if_false,lna,Bool.true_or,<- laa] at hw
     simp -implicitDefEqProofs (disch:=omega) only [h0,h3,hh3_0,h5,h6,h7,hh5_0,hlt,hm,he,Dp.pv,go_sem]
     try refine ai ?_
     refine (hI _ _).2 ⟨acc ++ [c],true,w + 1,?_⟩
     and_intros
     ·exact hw
     ·exact by simp; omega
     all_goals first | exact cl0 | (simp -implicitDefEqProofs (disch:=omega) only [h0,h3,hh3_0,h5,h6,h7,hh5_0,lma,go_sem] <;> first | (simp [Ab]; done) | (simp [Ab]; omega))
   | false =>
    by_cases hge : x.group <= c.group
    ·by_cases he : c.group = x.group
     ·simp only [he,Int.le_refl,decide_true,bnf,bas,if_true,lan,Bool.or_true,<- laa] at hw
      simp -implicitDefEqProofs (disch:=omega) only [h0,h3,hh3_0,h5,h6,h7,hh5_0,hlt,hm,hge,he,Int.le_refl,decide_true,Dp.pv,go_sem]
      try refine ai ?_
      refine (hI _ _).2 ⟨acc ++ [x],true,w + 1,?_⟩
      and_intros
      .exact hw
      .exact by simp; omega
      all_goals first | exact cl0 | (simp -implicitDefEqProofs (disch:=omega) only [h0,h3,hh3_0,h5,h6,h7,hh5_0,lma,go_sem] <;> first | (simp [Ab]; done) | (simp [Ab]; omega))
     ·simp only [he,hge,decide_true,bnf,bas,if_true,if_false,Bool.or_true,<- laa] at hw
      simp -implicitDefEqProofs (disch:=omega) only [h0,h3,hh3_0,h5,h6,h7,hh5_0,hlt,hm,hge,he,Dp.pv,go_sem]
      try refine ai ?_
      refine (hI _ _).2 ⟨acc ++ [x] ++ [c],true,w + 1 + 1,?_⟩
      and_intros
      .exact hw
      .exact by simp; omega
      all_goals first | exact cl0 | (simp -implicitDefEqProofs (disch:=omega) only [h0,h3,hh3_0,h5,h6,h7,hh5_0,lma,go_sem] <;> first | (simp [Ab]; done) | (simp [Ab]; omega))
    ·have he : ¬ c.group = x.group:=by omega
     simp only [he,hge,decide_false,bnf,Bool.and_false,bft,if_false,lna,Bool.or_false,<- laa] at hw
     simp -implicitDefEqProofs (disch:=omega) only [h0,h3,hh3_0,h5,h6,h7,hh5_0,hlt,hm,hge,he,Dp.pv,go_sem]
     try refine ai ?_
     refine (hI _ _).2 ⟨acc ++ [c],false,w + 1,?_⟩
     and_intros
     ·exact hw
     ·exact by simp; omega
     all_goals first | exact cl0 | (simp -implicitDefEqProofs (disch:=omega) only [h0,h3,hh3_0,h5,h6,h7,hh5_0,lma,go_sem] <;> first | (simp [Ab]; done) | (simp [Ab]; omega))
  ·rw [ldl (by omega),insGo] at hw
   cases d with
   | true =>
    simp only [if_true,lan] at hw
    simp -implicitDefEqProofs (disch:=omega) only [h0,h3,hh3_0,h5,h6,h7,hh5_0,hge,go_sem]
    rw [hw]
   | false =>
    simp only [bft,if_false] at hw
    simp -implicitDefEqProofs (disch:=omega) only [h0,h3,hh3_0,h5,h6,h7,hh5_0,hge,go_sem]
    rw [hw]
    simp [Dp.pv]
 | false =>
  rw [bfa]
  simp -implicitDefEqProofs (disch:=omega) only [vf133,LD,hT,go_sem]
  obtain ⟨I,hI⟩:=lpI fun k s=>∃ (acc : List Dp) (d : Bool) (w : Nat),insGo Dp.group x false l = acc ++ insGo Dp.group x d (l.drop k) /\ acc.length <= 2 * k /\ s.pe 0 = .p (AF l) /\ s.pe 3 = .ptr (.slot 3 0) 0 0 /\ s.h (.slot 3 0) = some (0,Ob.box [.p (.int .i64 x.group),.p (.int .i64 x.target),.p (.int .i64 x.depth)]) /\ s.pe 5 = .own (.slot 5 0) w 0 acc.length /\ s.pe 6 = .p (.bool d) /\ s.pe 7 = .p (.int .i64 k) /\ s.h (.slot 5 0) = some (w,Ob.arr 3 (acc.map Dp.pv))
  refine Am (l.length) I ?_ ?_
  ·refine (hI _ _).2 ⟨[],false,0,?_⟩
   and_intros
   ·rfl
   ·exact cl3
   all_goals first | exact cl0 | (simp -implicitDefEqProofs (disch:=omega) only [h0,h3,hh3_0,h5,h6,h7,hh5_0,lma,go_sem] <;> first | (simp [Ab]; done) | (simp [Ab]; omega))
  intro k s hk hIk
  obtain ⟨acc,d,w,hw,hal,h0,h3,hh3_0,h5,h6,h7,hh5_0⟩:=(hI _ _).1 hIk
  clear hIk
  simp -implicitDefEqProofs (disch:=omega) only [h0,h3,hh3_0,h5,h6,h7,hh5_0,go_sem]
  refine Af (fun hlt=>?_) (fun hge=>?_)
  ·have hm : l[k]? = some l[k]:=lgg hlt
   have hd : l.drop k = l[k] :: l.drop (k + 1):=ldg hlt
   generalize l[k] = c at hm hd
   rw [hd,insGo] at hw
   cases d with
   | true =>
    by_cases he : c.group = x.group
    ·simp only [he,Bool.not_true,bfa,bft,if_false,if_true,lna,lan,Bool.true_or] at hw
     simp -implicitDefEqProofs (disch:=omega) only [h0,h3,hh3_0,h5,h6,h7,hh5_0,hlt,hm,he,Dp.pv,go_sem]
     try refine ai ?_
     refine (hI _ _).2 ⟨acc,true,w,?_⟩
     and_intros
     ·exact hw
     ·omega
     all_goals first | exact cl0 | (simp -implicitDefEqProofs (disch:=omega) only [h0,h3,hh3_0,h5,h6,h7,hh5_0,lma,go_sem] <;> first | (simp [Ab]; done) | (simp [Ab]; omega))
    ·simp only [he,Bool.not_true,bfa,bft,if_false,lna,Bool.true_or,<- laa] at hw
     simp -implicitDefEqProofs (disch:=omega) only [h0,h3,hh3_0,h5,h6,h7,hh5_0,hlt,hm,he,Dp.pv,go_sem]
     try refine ai ?_
     refine (hI _ _).2 ⟨acc ++ [c],true,w + 1,?_⟩
     and_intros
     ·exact hw
     ·exact by simp; omega
     all_goals first | exact cl0 | (simp -implicitDefEqProofs (disch:=omega) only [h0,h3,hh3_0,h5,h6,h7,hh5_0,lma,go_sem] <;> first | (simp [Ab]; done) | (simp [Ab]; omega))
   | false =>
    by_cases hge : x.group <= c.group
    ·by_cases he : c.group = x.group
     ·simp only [he,Int.le_refl,decide_true,bnf,bas,if_true,lan,Bool.or_true,<- laa] at hw
      simp -implicitDefEqProofs (disch:=omega) only [h0,h3,hh3_0,h5,h6,h7,hh5_0,hlt,hm,hge,he,Int.le_refl,decide_true,Dp.pv,go_sem]
      try refine ai ?_
      refine (hI _ _).2 ⟨acc ++ [x],true,w + 1,?_⟩
      and_intros
      .exact hw
      .exact by simp; omega
      all_goals first | exact cl0 | (simp -implicitDefEqProofs (disch:=omega) only [h0,h3,hh3_0,h5,h6,h7,hh5_0,lma,go_sem] <;> first | (simp [Ab]; done) | (simp [Ab]; omega))
     ·simp only [he,hge,decide_true,bnf,bas,if_true,if_false,Bool.or_true,<- laa] at hw
      simp -implicitDefEqProofs (disch:=omega) only [h0,h3,hh3_0,h5,h6,h7,hh5_0,hlt,hm,hge,he,Dp.pv,go_sem]
      try refine ai ?_
      refine (hI _ _).2 ⟨acc ++ [x] ++ [c],true,w + 1 + 1,?_⟩
      and_intros
      .exact hw
      .exact by simp; omega
      all_goals first | exact cl0 | (simp -implicitDefEqProofs (disch:=omega) only [h0,h3,hh3_0,h5,h6,h7,hh5_0,lma,go_sem] <;> first | (simp [Ab]; done) | (simp [Ab]; omega))
    ·have he : ¬ c.group = x.group:=by omega
     simp only [he,hge,decide_false,bnf,Bool.and_false,bft,if_false,lna,Bool.or_false,<- laa] at hw
     simp -implicitDefEqProofs (disch:=omega) only [h0,h3,hh3_0,h5,h6,h7,hh5_0,hlt,hm,hge,he,Dp.pv,go_sem]
     try refine ai ?_
     refine (hI _ _).2 ⟨acc ++ [c],false,w + 1,?_⟩
     and_intros
     .exact hw
     .exact by simp; omega
     all_goals first | exact cl0 | (simp -implicitDefEqProofs (disch:=omega) only [h0,h3,hh3_0,h5,h6,h7,hh5_0,lma,go_sem] <;> first | (simp [Ab]; done) | (simp [Ab]; omega))
  ·rw [ldl (by omega),insGo] at hw
   cases d with
   | true =>
    simp only [if_true,lan] at hw
    simp -implicitDefEqProofs (disch:=omega) only [h0,h3,hh3_0,h5,h6,h7,hh5_0,hge,go_sem]
    rw [hw]
   | false =>
    simp only [bft,if_false] at hw
    simp -implicitDefEqProofs (disch:=omega) only [h0,h3,hh3_0,h5,h6,h7,hh5_0,hge,go_sem]
    rw [hw]
    simp [Dp.pv]
theorem GX {t : Tr} (ht : TreeOk t) {g : Int} (hk : Ak t.nodes g = true) : V 62 [t.vv,.p (.int .i64 g)] [] = some (.fresh 1 ((ancF t.nodes t.nodes.length g).map (.int .i64)),[]):=by
 obtain ⟨nd,hnd,hid⟩:=CS hk
 obtain ⟨ni,hni⟩:=lgm hnd
 have c1:=PQ t g (by have:=ht.len; omega)
 have e : Dw t g = ancF t.nodes t.nodes.length g:=by rw [<- hid]; exact Zq ht hni
 rw [e] at c1
 exact c1
theorem O8 {t : Tr} (ht : TreeOk t) (act : List Int) (id : Int) (ha : ∀ a ∈ act,Ak t.nodes a = true) (hl : act.length < 1000000) : V 273 [t.vv,.p (AM act),.p (.int .i64 id)] [] = some (.p (.bool (onB t act id)),[]):=by
 refine Ae (vf:=vf273) rfl ?_
 simp -implicitDefEqProofs (disch:=omega) only [vf273,Qz,go_sem]
 obtain ⟨I,hI⟩:=lpI fun k s=>onB t act id = onB t (act.drop k) id /\ s.pe 1 = .p (AM act) /\ s.pe 2 = .p (.int .i64 id) /\ s.pe 3 = .ptr (.slot 3 0) 0 0 /\ s.pe 7 = .p (.int .i64 k) /\ s.h (.slot 3 0) = some (0,Ob.box [.p (Ap t.nodes),.p (.int .i64 t.next)])
 refine Am (act.length) I ?_ ?_
 ·refine (hI _ _).2 ?_
  and_intros
  ·rfl
  all_goals first | exact cl0 | (simp -implicitDefEqProofs (disch:=omega) only [lma,go_sem] <;> first | (simp [Ab]; done) | (simp [Ab]; omega))
 intro k s hk hIk
 obtain ⟨hq,hH⟩:=(hI _ _).1 hIk
 clear hIk
 simp -implicitDefEqProofs (disch:=omega) only [hH,go_sem]
 refine Af (fun hlt=>?_) (fun hge=>?_)
 ·have hm : act[k]? = some act[k]:=lgg hlt
  have hd : act.drop k = act[k] :: act.drop (k + 1):=ldg hlt
  have hk:=ha act[k] (lgk hlt)
  generalize act[k] = a at hm hd hk
  have c1:=GX ht hk
  have hal:=D4 t.nodes t.nodes.length a
  have c2:=Qe (ancF t.nodes t.nodes.length a) id (by have:=ht.len; omega)
  rw [hd] at hq
  have hq' : onB t act id = (decide (id ∈ ancF t.nodes t.nodes.length a) || onB t (act.drop (k + 1)) id):=hq
  generalize ancF t.nodes t.nodes.length a = A at c1 c2 hq' hal
  cases hb : decide (id ∈ A) with
  | true =>
   rw [hb] at c2 hq'
   rw [Bool.true_or] at hq'
   simp -implicitDefEqProofs (disch:=omega) only [hH,hlt,hm,c1,c2,hq',go_sem]
  | false =>
   rw [hb] at c2 hq'
   rw [Bool.false_or] at hq'
   simp -implicitDefEqProofs (disch:=omega) only [hH,hlt,hm,c1,c2,go_sem]
   try refine ai ?_
   refine (hI _ _).2 ?_
   and_intros
   .exact hq'
   all_goals first | exact cl0 | (simp -implicitDefEqProofs (disch:=omega) only [hH,lma,go_sem] <;> first | (simp [Ab]; done) | (simp [Ab]; omega))
 ·rw [ldl (by omega)] at hq
  have hq' : onB t act id = false:=hq
  simp -implicitDefEqProofs (disch:=omega) only [hH,hge,hq',go_sem]
theorem MX (p : Int -> Bool) (w : Int -> Int) : ∀ l : List Int,Ag ((l.filter p).map w) = Ag (l.map fun x=>if p x = true then w x else 0)
 | []=>rfl
 | x :: l=>by
  have ih:=MX p w l
  cases hp : p x with
  | true=>rw [List.filter_cons_of_pos (by rw [hp])]; simp only [lpc,Ag,ih,hp,if_true]
  | false=>rw [List.filter_cons_of_neg (by rw [hp]; simp)]; simp only [lpc,Ag,ih,hp,bft,if_false,Int.zero_add]
theorem Jz {f : Int -> Int} {C : Int} (hf : ∀ x,0 <= f x /\ f x <= C) : ∀ l : List Int,0 <= Ag (l.map f) /\ Ag (l.map f) <= C * l.length
 | []=>by simp [Ag]
 | x :: l=>by
  have ih:=Jz hf l
  have:=hf x
  simp only [lpc,Ag,llc,Int.natCast_add,Int.natCast_one,Int.mul_add,Int.mul_one]
  omega
theorem WQ {t : Tr} (ht : TreeOk t) {l : List Ch} (hw : Ma l) (hll : l.length < 1000000) {act : List Int} (ha : ∀ a ∈ act,Ak t.nodes a = true) (hl : act.length < 1000000) : ∀ (i : Nat) (n : Nd),t.nodes[i]? = some n -> V 231 [t.vv,.p (Aj l),.p (AM act),.p (.int .i64 n.id)] [] = some (.p (.int .i64 (shr t (Ar l) (onB t act) n.id)),[]):=by
 intro i
 induction i using Nat.strongRecOn with
 | _ i ih =>
 intro n hn
 have hlen:=ht.len
 have hsr:=fun (j : Nat) (m : Nd) (hm : t.nodes[j]? = some m)=>WM ht (fun x=>(Et hw x).1) (Qo ht act) j m hm
 refine Ae (vf:=vf231) rfl ?_
 rcases ht.nodeAt hn with ⟨h0,h1,_⟩ | ⟨h0,h1,jp,p,hj,hp,hpe⟩
 ·rw [h1,In t ht]
  have d1 : decide ((1 : Int) = 1) = true:=rfl
  simp -implicitDefEqProofs (disch:=omega) only [vf231,IX,d1,go_sem]
 ·have hne : ¬ n.id = 1:=by omega
  have c1:=O8 ht act n.id ha hl
  rw [Im ht _ _ hn (by omega)]
  cases hon : onB t act n.id with
  | false =>
   rw [hon] at c1
   rw [if_neg (by simp)]
   simp -implicitDefEqProofs (disch:=omega) only [vf231,IX,hne,c1,go_sem]
  | true =>
   rw [hon] at c1
   rw [if_pos rfl]
   have c2:=O6 t n.id (by omega)
   rw [EA ((BH t).2 ht),Dx ht.inc hn] at c2
   simp only [Option.getD_some,Option.isSome_some] at c2
   have c3:=KG t n.parent (by omega)
   rw [NM (by rw [EA ((BH t).2 ht),<- hpe,Dx ht.inc hp]; rfl)] at c3
   have hkl:=Ko t.nodes n.parent
   have c4:=ih jp hj p hp
   rw [hpe] at c4
   have hr:=hsr jp p hp
   rw [hpe] at hr
   have hge:=PN (fun x=>(Et hw x).1) hn hon
   have hwn:=Et hw n.id
   have hS : DI t (Ar l) (onB t act) n.parent = Ag ((kidsN t.nodes n.parent).map fun x=>if onB t act x = true then Ar l x else 0):=MX _ _ _
   rw [hS] at hge ⊢
   have hf : ∀ x,0 <= (if onB t act x = true then Ar l x else 0) /\ (if onB t act x = true then Ar l x else 0) <= 10000:=fun x=>by
    have:=Et hw x
    split <;> omega
   have hK:=Jz hf (kidsN t.nodes n.parent)
   have hon2 : ∀ x,V 273 [t.vv,.p (AM act),.p (.int .i64 x)] [] = some (.p (.bool (onB t act x)),[]):=fun x=>O8 ht act x ha hl
   generalize kidsN t.nodes n.parent = K at c3 hkl hge hK ⊢
   generalize shr t (Ar l) (onB t act) n.parent = sh at c4 hr ⊢
   have c5:=Qm l n.id hll
   simp -implicitDefEqProofs (disch:=omega) only [vf231,IX,hne,c1,c2,c3,go_sem]
   obtain ⟨J,hJ⟩:=lpI fun j s=>s.pe 1 = .p (Aj l) /\ s.pe 2 = .p (AM act) /\ s.pe 3 = .p (.int .i64 n.id) /\ s.pe 4 = .ptr (.slot 4 0) 0 0 /\ s.pe 9 = .ptr (.slot 9 0) 0 0 /\ s.pe 11 = .p (.int .i64 (Ag ((K.take j).map fun x=>if onB t act x = true then Ar l x else 0))) /\ s.pe 12 = .own (.slot 30 1) 0 0 K.length /\ s.pe 13 = .p (.int .i64 j) /\ s.h (.slot 4 0) = some (0,Ob.box [.p (Ap t.nodes),.p (.int .i64 t.next)]) /\ s.h (.slot 9 0) = some (0,Ob.box [.p (.int .i64 n.id),.p (.int .i64 n.parent),.p (PV.str n.name),.p (.int .i64 n.control),.p (.int .i64 n.kind),.p (.int .i64 n.owner)]) /\ s.h (.slot 30 1) = some (0,Ob.arr 1 (List.map (.int .i64) K))
   refine Am (K.length) J ?_ ?_
   ·refine (hJ _ _).2 ?_
    and_intros
    all_goals first | exact cl0 | (simp -implicitDefEqProofs (disch:=omega) only [lma,go_sem] <;> first | (simp [Ab]; done) | (simp [Ab]; omega))
   intro j s hj hJk
   obtain ⟨h1,h2,h3,h4,h9,h11,hH⟩:=(hJ _ _).1 hJk
   clear hJk
   simp -implicitDefEqProofs (disch:=omega) only [h1,h2,h3,h4,h9,h11,hH,go_sem]
   refine Af (fun hlt=>?_) (fun hge'=>?_)
   ·have hm : K[j]? = some K[j]:=lgg hlt
    have hs:=Jv (f:=fun x=>if onB t act x = true then Ar l x else 0) hm
    have hKt:=Jz hf (K.take j)
    have hKl : (K.take j).length <= 64:=by rw [llt]; omega
    have b1:=hon2 K[j]
    have b2:=Qm l K[j] hll
    have b3:=Et hw K[j]
    generalize K[j] = x at hm hs b1 b2 b3
    generalize Ag ((K.take j).map fun x=>if onB t act x = true then Ar l x else 0) = S at h11 hs hKt
    cases ho : onB t act x with
    | true =>
     rw [ho] at b1
     simp only [ho,if_true] at hs
     simp -implicitDefEqProofs (disch:=omega) only [h1,h2,h3,h4,h9,h11,hH,hlt,hm,b1,b2,go_sem]
     try refine ai ?_
     refine (hJ _ _).2 ?_
     and_intros
     all_goals first | exact cl0 | (simp -implicitDefEqProofs (disch:=omega) only [h1,h2,h3,h4,h9,h11,hH,hs,lma,go_sem] <;> first | (simp [Ab]; done) | (simp [Ab]; omega))
    | false =>
     rw [ho] at b1
     simp only [ho,bft,if_false,Int.add_zero] at hs
     simp -implicitDefEqProofs (disch:=omega) only [h1,h2,h3,h4,h9,h11,hH,hlt,hm,b1,b2,go_sem]
     try refine ai ?_
     refine (hJ _ _).2 ?_
     and_intros
     all_goals first | exact cl0 | (simp -implicitDefEqProofs (disch:=omega) only [h1,h2,h3,h4,h9,h11,hH,hs,lma,go_sem] <;> first | (simp [Ab]; done) | (simp [Ab]; omega))
   ·rw [ltl (by omega)] at h11
    generalize Ag (K.map fun x=>if onB t act x = true then Ar l x else 0) = S at h11 hge hK ⊢
    have hm1:=B1 (a:=sh) (b:=Ar l n.id) (A:=1073741824) (B:=10000) hr.1 hr.2.1 (by omega) (by omega)
    have hq : (sh * Ar l n.id).tdiv S = sh * Ar l n.id / S:=Int.tdiv_eq_ediv_of_nonneg hm1.1
    have hq0 : 0 <= sh * Ar l n.id / S:=Int.ediv_nonneg hm1.1 (by omega)
    have hq1 : sh * Ar l n.id / S <= sh * Ar l n.id:=Int.ediv_le_self _ hm1.1
    have hS0 : ¬ S = 0:=by omega
    generalize Ar l n.id = w at c5 hm1 hq hq0 hq1 ⊢
    simp -implicitDefEqProofs (disch:=omega) only [h1,h2,h3,h4,h9,h11,hH,hge',c4,c5,hq,hS0,go_sem]
theorem WX {t : Tr} (ht : TreeOk t) {l : List Ch} (hw : AscOk (Ak t.nodes) 1 10000 l) (hll : l.length < 1000000) {act : List Int} (ha : ∀ a ∈ act,Ak t.nodes a = true) (hl : act.length < 1000000) {i : Nat} {n : Nd} (hn : t.nodes[i]? = some n) : V 197 [t.vv,.p (Aj l),.p (AM act),.p (.int .i64 n.id)] [] = some (.tup [.p (.int .i64 (shr t (Ar l) (onB t act) n.id)),.p (.int .i64 0)],[]):=by
 refine Ae (vf:=vf197) rfl ?_
 have c1:=PS ht hw hll
 have hk : Ak t.nodes n.id = true:=by unfold Ak; rw [Dx ht.inc hn]; rfl
 have c2:=Eu ht hk
 have c3:=WQ ht (fun c hc=>hw.range c hc) hll ha hl i n hn
 simp -implicitDefEqProofs (disch:=omega) only [vf197,QS,c1,c2,c3,go_sem]
theorem ZV (x : Dv) (hs : x.Small) : V 198 [x.vv] [] = some (.fresh 1 ((actL x).map (.int .i64)),[]):=by
 refine Ae (vf:=vf198) rfl ?_
 have hq:=hs.q
 have hf:=hs.f
 simp -implicitDefEqProofs (disch:=omega) only [vf198,QR,go_sem]
 obtain ⟨I,hI⟩:=lpI fun k s=>∃ (acc : List Int) (w : Nat),acc = (x.queue.take k).map (·.group) /\ acc.length = k /\ s.pe 1 = .ptr (.slot 1 0) 0 0 /\ s.pe 3 = .own (.slot 3 0) w 0 acc.length /\ s.pe 4 = .p (.int .i64 k) /\ s.h (.slot 1 0) = some (0,Ob.box [.p (.int .i64 x.m.rb),.p (.int .i64 x.m.rp),.p (.int .i64 x.m.wb),.p (.int .i64 x.m.wp),.p (.int .i64 x.m.seek),.p (.int .i64 x.speed),.p (.int .i64 x.margin),.p (.int .i64 x.now),.p (.int .i64 x.free),.p (.int .i64 x.head),.p (Aj x.weights),.p (A5 x.buckets),.p (AF x.depths),.p (Aj x.v),.p (AJ x.queue),.p (A4 x.flights)]) /\ s.h (.slot 3 0) = some (w,Ob.arr 1 (acc.map (.int .i64)))
 refine Am (x.queue.length) I ?_ ?_
 ·refine (hI _ _).2 ⟨[],0,?_⟩
  and_intros
  ·rfl
  ·rfl
  all_goals first | exact cl0 | (simp -implicitDefEqProofs (disch:=omega) only [lma,go_sem] <;> first | (simp [Ab]; done) | (simp [Ab]; omega))
 intro k s hk hIk
 obtain ⟨acc,w,ha,hal,hH⟩:=(hI _ _).1 hIk
 clear hIk
 simp -implicitDefEqProofs (disch:=omega) only [hH,go_sem]
 refine Af (fun hlt=>?_) (fun hge=>?_)
 ·have hm : x.queue[k]? = some x.queue[k]:=lgg hlt
  have htk:=BT hm
  generalize x.queue[k] = r at hm htk
  simp -implicitDefEqProofs (disch:=omega) only [hH,hlt,hm,go_sem]
  try refine ai ?_
  refine (hI _ _).2 ⟨acc ++ [r.group],w + 1,?_⟩
  and_intros
  ·exact by rw [ha,htk,lma]; rfl
  ·exact by rw [lla,hal]; rfl
  all_goals first | exact cl0 | (simp -implicitDefEqProofs (disch:=omega) only [hH,lma,go_sem] <;> first | (simp [Ab]; done) | (simp [Ab]; omega))
 ·rw [ltl (by omega)] at ha
  simp -implicitDefEqProofs (disch:=omega) only [hH,hge,go_sem]
  obtain ⟨J,hJ⟩:=lpI fun j s=>∃ (ac2 : List Int) (w2 : Nat),ac2 = acc ++ (x.flights.take j).map (·.r.group) /\ ac2.length = x.queue.length + j /\ s.pe 1 = .ptr (.slot 1 0) 0 0 /\ s.pe 3 = .own (.slot 3 0) w2 0 ac2.length /\ s.pe 5 = .p (.int .i64 j) /\ s.h (.slot 1 0) = some (0,Ob.box [.p (.int .i64 x.m.rb),.p (.int .i64 x.m.rp),.p (.int .i64 x.m.wb),.p (.int .i64 x.m.wp),.p (.int .i64 x.m.seek),.p (.int .i64 x.speed),.p (.int .i64 x.margin),.p (.int .i64 x.now),.p (.int .i64 x.free),.p (.int .i64 x.head),.p (Aj x.weights),.p (A5 x.buckets),.p (AF x.depths),.p (Aj x.v),.p (AJ x.queue),.p (A4 x.flights)]) /\ s.h (.slot 3 0) = some (w2,Ob.arr 1 (ac2.map (.int .i64)))
  refine Am (x.flights.length) J ?_ ?_
  ·refine (hJ _ _).2 ⟨acc,w,?_⟩
   and_intros
   .exact by simp
   .omega
   all_goals first | exact cl0 | (simp -implicitDefEqProofs (disch:=omega) only [hH,lma,go_sem] <;> first | (simp [Ab]; done) | (simp [Ab]; omega))
  intro j s hj hJk
  obtain ⟨ac2,w2,hb,hbl,hH⟩:=(hJ _ _).1 hJk
  clear hJk
  simp -implicitDefEqProofs (disch:=omega) only [hH,go_sem]
  refine Af (fun hlt=>?_) (fun hge'=>?_)
  ·have hm : x.flights[j]? = some x.flights[j]:=lgg hlt
   have htk:=BT hm
   generalize x.flights[j] = r at hm htk
   simp -implicitDefEqProofs (disch:=omega) only [hH,hlt,hm,Fl.pv,go_sem]
   try refine ai ?_
   refine (hJ _ _).2 ⟨ac2 ++ [r.r.group],w2 + 1,?_⟩
   and_intros
   .exact by rw [hb,htk,lma,laa]; rfl
   .exact by rw [lla,hbl]; rfl
   all_goals first | exact cl0 | (simp -implicitDefEqProofs (disch:=omega) only [hH,lma,go_sem] <;> first | (simp [Ab]; done) | (simp [Ab]; omega))
  ·rw [ltl (by omega),ha] at hb
   have hA : actL x = ac2:=hb.symm
   rw [hA]
   simp -implicitDefEqProofs (disch:=omega) only [hH,hge',go_sem]
end Go.V
