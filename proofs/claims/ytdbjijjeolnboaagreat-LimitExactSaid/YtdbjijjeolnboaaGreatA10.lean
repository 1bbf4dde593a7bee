import Derived.Test.YtdbjijjeolnboaaGreatA9
import Derived.Test.YtdbjijjeolnboaaGreatA3
set_option linter.unusedSectionVars false
set_option linter.unusedSimpArgs false
set_option linter.unusedVariables false
set_option maxHeartbeats 32000000
open Nat renaming le_refl → lrf
open List renaming getElem?_eq_getElem → lgg, map_cons → lpc, nil_append → lna, mem_map → lmm, map_append → lma, take_of_length_le → ltl, length_cons → llc, length_append → lla, mem_cons → lmk, getElem_mem → lgk, length_take → llt, length_drop → lld, pairwise_cons → lpw
open Option renaming some.injEq → osi
namespace Go.V
def Kw (a x : Sh) : Sh:=⟨a.group,a.file + x.file,a.anon + x.anon,a.low + x.low⟩
def CM : List Sh -> Sh -> List Sh
 | [],x=>[x]
 | a :: l,x=>if a.group < x.group then a :: CM l x else if a.group = x.group then Kw a x :: l else x :: a :: l
def CL (out low : Bool) (g n : Int) : Sh:=⟨g,if out then 0 else n,if out then n else 0,if low then n else 0⟩
theorem WS {l : List Sh} {x : Sh} (h : ∀ a ∈ l,x.group < a.group) : CM l x = x :: l:=by
 cases l with
 | nil=>rfl
 | cons a l =>
  have:=h a (by simp)
  rw [CM,if_neg (by omega),if_neg (by omega)]
theorem QQ : ∀ {l : List Sh} {x a : Sh} {k : Nat},(∀ (j : Nat) (b : Sh),j < k -> l[j]? = some b -> b.group < x.group) -> l[k]? = some a -> a.group = x.group -> CM l x = l.set k (Kw a x)
 | [],_,_,_,_,h,_=>by simp at h
 | b :: l,x,a,0,_,h,hg=>by
  simp only [List.getElem?_cons_zero,osi] at h
  subst h
  rw [CM,if_neg (by omega),if_pos hg]
  rfl
 | b :: l,x,a,k + 1,hj,h,hg=>by
  have h0:=hj 0 b (by omega) rfl
  rw [CM,if_pos h0,QQ (k:=k) (fun j c hjk hc=>hj (j + 1) c (by omega) (by simpa using hc)) (by simpa using h) hg]
  rfl
theorem LX : ∀ {l : List Sh} {x : Sh} {k : Nat},(∀ (j : Nat) (b : Sh),j < k -> l[j]? = some b -> b.group < x.group) -> k <= l.length -> (∀ a,l[k]? = some a -> x.group < a.group) -> CM l x = l.take k ++ x :: l.drop k
 | [],_,k,_,hk,_=>by
  obtain rfl : k = 0:=by simpa using hk
  rfl
 | b :: l,x,0,_,_,h=>by
  have:=h b rfl
  rw [CM,if_neg (by omega),if_neg (by omega)]
  rfl
 | b :: l,x,k + 1,hj,hk,h=>by
  have h0:=hj 0 b (by omega) rfl
  rw [CM,if_pos h0,LX (k:=k) (fun j c hjk hc=>hj (j + 1) c (by omega) (by simpa using hc)) (by simpa using hk) fun a ha=>h a (by simpa using ha)]
  rfl
theorem PQ (f : Int -> Sh) (e : Pr) (eff : List Pr) : outL f (e :: eff) = (if (f e.group).group = 0 then [] else [f e.group]) ++ outL f eff:=by
 unfold outL
 rw [lpc]
 by_cases h : (f e.group).group = 0 <;> simp [h]
theorem QL {f : Int -> Sh} (hf : ∀ x,f x = zeroSh \/ (f x).group = x) {eff : List Pr} {k : Sh} (hk : k ∈ outL f eff) : ∃ e ∈ eff,k = f e.group /\ k.group = e.group:=by
 unfold outL at hk
 obtain ⟨h1,h2⟩:=List.mem_filter.1 hk
 obtain ⟨e,he,rfl⟩:=lmm.1 h1
 refine ⟨e,he,rfl,?_⟩
 rcases hf e.group with h | h
 ·rw [h] at h2
  simp [zeroSh] at h2
 .exact h
theorem WJ {f g : Int -> Sh} : ∀ {eff : List Pr},(∀ e ∈ eff,f e.group = g e.group) -> outL f eff = outL g eff:=by
 intro eff h
 unfold outL
 rw [List.map_congr_left h]
theorem QR {f : Int -> Sh} (hf : ∀ x,f x = zeroSh \/ (f x).group = x) {g : Int} (out low : Bool) (n : Int) : ∀ {eff : List Pr},(eff.Pairwise fun a b=>a.group < b.group) -> (∀ e ∈ eff,e.group ≠ 0) -> g ∈ eff.map (·.group) -> CM (outL f eff) (CL out low g n) = outL (fun x=>if x = g then Bj out low g (f g) n else f x) eff
 | [],_,_,hg=>by simp at hg
 | e :: eff,hi,hz,hg=>by
  obtain ⟨h1,h2⟩:=lpw.1 hi
  rw [PQ,PQ]
  have he0:=hz e (by simp)
  by_cases heg : e.group = g
  ·have hrest : outL (fun x=>if x = g then Bj out low g (f g) n else f x) eff = outL f eff:=WJ fun e' he'=>by
    have:=h1 e' he'
    rw [if_neg (by omega)]
   rw [hrest,heg]
   simp only [if_true]
   rw [if_neg (show ¬ (Bj out low g (f g) n).group = 0 by show ¬ g = 0; omega)]
   rcases hf g with h | h
   ·rw [h,if_pos (by rfl),lna,WS fun a ha=>by
     obtain ⟨e',he',_,hk⟩:=QL hf ha
     have:=h1 e' he'
     show g < a.group
     omega]
    cases out <;> cases low <;> simp [CL,Bj]
   ·rw [if_neg (by omega),List.singleton_append,CM,if_neg (by rw [h]; show ¬ g < g; omega),if_pos (by rw [h]; rfl)]
    simp only [List.singleton_append]
    congr 1
    unfold Kw Bj CL
    rw [h]
    cases out <;> cases low <;> simp
  ·have hg' : g ∈ eff.map (·.group):=by
    rw [lpc,lmk] at hg
    rcases hg with h | h
    ·exact absurd h.symm heg
    ·exact h
   have hlt : e.group < g:=by
    obtain ⟨e',he',rfl⟩:=lmm.1 hg'
    exact h1 e' he'
   have ih:=QR hf (g:=g) out low n h2 (fun e' he'=>hz e' (by simp [he'])) hg'
   rw [if_neg heg]
   by_cases h0 : (f e.group).group = 0
   ·rw [if_pos h0,lna,lna,ih]
   ·rw [if_neg h0,List.singleton_append,List.singleton_append,CM,if_pos,ih]
    rcases hf e.group with h | h
    ·rw [h] at h0
     exact absurd rfl h0
    ·rw [h]
     exact hlt
def DD : List Sh -> Sh -> Nat
 | [],_=>1
 | a :: l,x=>if a.group < x.group then DD l x else if a.group = x.group then 0 else 1
def Nt (r : Nat) (l : List Sh) : Ob:=if r = 0 then .arr 4 (l.map Sh.pv) else .box [.undef,.fresh 4 (l.map Sh.pv)]
theorem RQ : ∀ (l : List Sh) (x : Sh),DD l x = 0 \/ DD l x = 1
 | [],_=>.inr rfl
 | a :: l,x=>by
  unfold DD
  split
  ·exact RQ l x
  ·split
   .exact .inl rfl
   .exact .inr rfl
theorem QP : ∀ {l : List Sh} {x a : Sh} {k : Nat},(∀ (j : Nat) (b : Sh),j < k -> l[j]? = some b -> b.group < x.group) -> l[k]? = some a -> a.group = x.group -> DD l x = 0
 | [],_,_,_,_,h,_=>by simp at h
 | b :: l,x,a,0,_,h,hg=>by
  simp only [List.getElem?_cons_zero,osi] at h
  subst h
  rw [DD,if_neg (by omega),if_pos hg]
 | b :: l,x,a,k + 1,hj,h,hg=>by
  have h0:=hj 0 b (by omega) rfl
  rw [DD,if_pos h0,QP (k:=k) (fun j c hjk hc=>hj (j + 1) c (by omega) (by simpa using hc)) (by simpa using h) hg]
theorem LW : ∀ {l : List Sh} {x : Sh} {k : Nat},(∀ (j : Nat) (b : Sh),j < k -> l[j]? = some b -> b.group < x.group) -> k <= l.length -> (∀ a,l[k]? = some a -> x.group < a.group) -> DD l x = 1
 | [],_,k,_,hk,_=>rfl
 | b :: l,x,0,_,_,h=>by
  have:=h b rfl
  rw [DD,if_neg (by omega),if_neg (by omega)]
 | b :: l,x,k + 1,hj,hk,h=>by
  have h0:=hj 0 b (by omega) rfl
  rw [DD,if_pos h0,LW (k:=k) (fun j c hjk hc=>hj (j + 1) c (by omega) (by simpa using hc)) (by simpa using hk) fun a ha=>h a (by simpa using ha)]
def inS (n : Int) : Prop:=0 <= n /\ n <= 1073741824
theorem ZX (l : List Sh) (x : Sh) (hl : l.length < 1000000) (hb : ∀ a ∈ l,inS (a.file + x.file) /\ inS (a.anon + x.anon) /\ inS (a.low + x.low)) : V 95 [.own (.arg 0 0) 0 0 l.length,x.vv] [.arr 4 (l.map Sh.pv)] = some (.own (.arg 0 0) (DD l x) 0 (CM l x).length,[Nt (DD l x) (CM l x)]):=by
 refine Ag (vf:=vf95) rfl ?_
 simp -implicitDefEqProofs (disch:=omega) only [vf95,TM,go_sem]
 obtain ⟨I,hI⟩:=lpI fun k s=>(∀ (j : Nat) (b : Sh),j < k -> l[j]? = some b -> b.group < x.group) /\ s.pe 0 = .own (.arg 0 0) 0 0 l.length /\ s.pe 3 = .ptr (.slot 3 0) 0 0 /\ s.pe 5 = .p (.int .i64 k) /\ s.h (.arg 0 0) = some (0,Ob.arr 4 (l.map Sh.pv)) /\ s.h (.slot 3 0) = some (0,Ob.box [.p (.int .i64 x.group),.p (.int .i64 x.file),.p (.int .i64 x.anon),.p (.int .i64 x.low)])
 refine Al (l.length) I ?_ ?_
 ·refine (hI _ _).2 ?_
  and_intros
  ·exact fun j b hj=>by omega
  all_goals exact cl0
 intro k s hk hIk
 obtain ⟨hlo,hH⟩:=(hI _ _).1 hIk
 clear hIk
 have hins : (∀ a,l[k]? = some a -> x.group < a.group) -> (l.take k ++ x :: l.drop k).length = l.length + 1:=fun _=>by
  rw [lla,llc,llt,lld]
  omega
 by_cases hlt : k < l.length
 ·have hlt' : (k : Int) < (l.length : Int):=by omega
  have hm : l[k]? = some l[k]:=lgg hlt
  obtain ⟨⟨b1,b2⟩,⟨b3,b4⟩,b5,b6⟩:=hb _ (lgk hlt)
  generalize l[k] = a at hm b1 b2 b3 b4 b5 b6
  by_cases hg : a.group < x.group
  ·have hlo2 : ∀ (j : Nat) (b : Sh),j < k + 1 -> l[j]? = some b -> b.group < x.group:=fun j b hj hb'=>by
    rcases Nat.lt_or_ge j k with h | h
    ·exact hlo j b h hb'
    ·obtain rfl : j = k:=by omega
     rw [hm] at hb'
     cases hb'
     exact hg
   simp -implicitDefEqProofs (disch:=omega) only [hH,hlt,hlt',hm,hg,Sh.pv,go_sem]
   try refine ai ?_
   refine (hI _ _).2 ?_
   and_intros
   ·exact hlo2
   all_goals exact cl0
  ·by_cases he : a.group = x.group
   ·rw [QP hlo hm he,QQ hlo hm he]
    have hset : ∀ (q : Sh) (ys : List Sh),(List.map Sh.pv ys).set k (.agg [.int .i64 q.group,.int .i64 q.file,.int .i64 q.anon,.int .i64 q.low]) = List.map Sh.pv (ys.set k q):=fun q ys=>by rw [List.map_set]; rfl
    have hget : ∀ q : Sh,(List.map Sh.pv (l.set k q))[k]? = some (.agg [.int .i64 q.group,.int .i64 q.file,.int .i64 q.anon,.int .i64 q.low]):=fun q=>by
     rw [List.getElem?_map,List.getElem?_set_self (by omega)]
     rfl
    have hgd : (List.map Sh.pv l)[k]? = some (.agg [.int .i64 a.group,.int .i64 a.file,.int .i64 a.anon,.int .i64 a.low]):=by rw [List.getElem?_map,hm]; rfl
    have s1:=hset ⟨a.group,a.file + x.file,a.anon,a.low⟩ l
    have q1:=hget ⟨a.group,a.file + x.file,a.anon,a.low⟩
    have s2:=hset ⟨a.group,a.file + x.file,a.anon + x.anon,a.low⟩ (l.set k ⟨a.group,a.file + x.file,a.anon,a.low⟩)
    have q2:=hget ⟨a.group,a.file + x.file,a.anon + x.anon,a.low⟩
    have s3:=hset ⟨a.group,a.file + x.file,a.anon + x.anon,a.low + x.low⟩ (l.set k ⟨a.group,a.file + x.file,a.anon + x.anon,a.low⟩)
    simp only [List.set_set] at s1 q1 s2 q2 s3
    have hY : l.set k (Kw a x) = l.set k ⟨a.group,a.file + x.file,a.anon + x.anon,a.low + x.low⟩:=rfl
    rw [hY]
    have hYl : (l.set k ⟨a.group,a.file + x.file,a.anon + x.anon,a.low + x.low⟩).length = l.length:=List.length_set
    generalize l.set k ⟨a.group,a.file + x.file,a.anon,a.low⟩ = Y1 at *
    generalize l.set k ⟨a.group,a.file + x.file,a.anon + x.anon,a.low⟩ = Y2 at *
    generalize l.set k ⟨a.group,a.file + x.file,a.anon + x.anon,a.low + x.low⟩ = Y3 at *
    have hge : ¬ x.group < x.group:=by omega
    rw [he] at hgd s1 q1 s2 q2 s3
    simp -implicitDefEqProofs (disch:=omega) only [hH,hlt,hlt',hgd,hge,s1,q1,s2,q2,s3,go_sem]
    rw [hYl]
    rfl
   ·have hgt : ∀ b,l[k]? = some b -> x.group < b.group:=fun b hb'=>by
     rw [hm] at hb'
     cases hb'
     omega
    have hge : ¬ x.group < x.group:=by omega
    rw [LW hlo (by omega) hgt,LX hlo (by omega) hgt]
    simp -implicitDefEqProofs (disch:=omega) only [hH,hlt,hlt',hm,hg,he,Sh.pv,go_sem]
    refine Prod.ext (congrArg (VVal.own (Id.arg 0 0) 1 0) (by first | (simp; done) | (simp; omega))) (congrArg (fun q=>[Ob.box [VVal.undef,VVal.fresh 4 q]]) ?_)
    have e1 : List.take (l.length - k) (List.drop k (List.map Sh.pv l)) = List.map Sh.pv (l.drop k):=by
     rw [<- List.map_drop]
     exact ltl (by simp)
    rw [e1,lma,lpc,List.map_take,Nat.sub_zero]
    congr 1
    exact ltl (by first | (simp; done) | (simp; omega))
 ·have hlt' : ¬ (k : Int) < (l.length : Int):=by omega
  obtain rfl : k = l.length:=by omega
  have hgt : ∀ b,l[l.length]? = some b -> x.group < b.group:=fun b hb'=>by
   rw [List.getElem?_eq_none (lrf _)] at hb'
   cases hb'
  rw [LW hlo (lrf _) hgt,LX hlo (lrf _) hgt]
  simp -implicitDefEqProofs (disch:=omega) only [hH,hlt',go_sem]
  refine Prod.ext (congrArg (VVal.own (Id.arg 0 0) 1 0) (by first | (simp; done) | (simp; omega))) (congrArg (fun q=>[Ob.box [VVal.undef,VVal.fresh 4 q]]) ?_)
  have e1 : List.take (l.length - l.length) (List.drop l.length (List.map Sh.pv l)) = List.map Sh.pv (l.drop l.length):=by
   rw [<- List.map_drop]
   exact ltl (by simp)
  rw [e1,lma,lpc,List.map_take,Nat.sub_zero]
  congr 1
  exact ltl (by first | (simp; done) | (simp; omega))
end Go.V
