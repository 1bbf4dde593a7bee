import Derived.Test.YtdbjijjeolnboaaGreatA2
set_option linter.unusedSectionVars false
set_option linter.unusedSimpArgs false
set_option linter.unusedVariables false
set_option maxHeartbeats 32000000
open Nat renaming reduceAdd → rA, le_refl → lrf
open List renaming getElem?_eq_getElem → lgg, getElem?_eq_some_iff → lgs, mem_of_getElem? → lmg, drop_eq_getElem_cons → ldg, mem_cons_of_mem → lmc, map_cons → lpc, drop_of_length_le → ldl, nil_append → lna, append_assoc → laa, append_nil → lan, mem_map → lmm, mem_cons_self → lms, map_append → lma, take_of_length_le → ltl, getElem?_of_mem → lgm, length_cons → llc, length_append → lla, flatMap_cons → lfc, mem_cons → lmk, map_nil → lpn, length_nil → lln, mem_append → lmp, length_map → llm, getElem_mem → lgk, pairwise_cons → lpw, cons_append → lca, foldl_append → lfa, filter_cons → lfl
open Option renaming some.injEq → osi
open Bool renaming and_eq_true → bat, false_and → bfa, false_eq_true → bft, true_and → bta, not_false → bnf, and_self → bas, or_eq_true → bot, and_true → bau
namespace Go.V
def BE (k y : Int) (w : List Int) : List Int:=w.map fun x=>k * x / y
def bumpD : Int -> List Int -> List Int -> List Int
 | left,o :: os,w :: ws=>if 0 < left /\ o < w then (o + 1) :: bumpD (left - 1) os ws else o :: bumpD left os ws
 | _,os,_=>os
def splitP (k : Int) (w : List Int) : List Int:=if Ab w = 0 then w.map (fun _=>0) else bumpD (k - Ab (BE k (Ab w) w)) (BE k (Ab w) w) w
theorem K2 : ∀ (left : Int) (o w : List Int),(bumpD left o w).length = o.length
 | left,o :: os,w :: ws=>by
  have h1:=K2 (left - 1) os ws
  have h2:=K2 left os ws
  unfold bumpD
  split <;> simp [h1,h2]
 | _,[],_=>by unfold bumpD; rfl
 | _,_ :: _,[]=>by unfold bumpD; rfl
theorem KU (k : Int) (w : List Int) : (splitP k w).length = w.length:=by
 unfold splitP
 split
 .simp
 .simp [K2,BE]
theorem HY (l : List Int) (i : Nat) (v : Int) : (List.map (PV.int .i64) l).set i (.int .i64 v) = List.map (PV.int .i64) (l.set i v):=List.map_set.symm
theorem HZ {l : List Int} {i : Nat} {v : Int} (h : l[i]? = some v) : (List.map (PV.int .i64) l)[i]? = some (.int .i64 v):=by rw [List.getElem?_map,h]; rfl
theorem Jv : ∀ (w : List Int),List.replicate w.length (PV.int .i64 0) = List.map (PV.int .i64) (w.map fun _=>0)
 | []=>rfl
 | x :: w=>by
  have:=Jv w
  simp only [llc,List.replicate_succ,lpc,this]
theorem F6 {l : List Int} {i : Nat} {v : Int} (h : i < l.length) : (l.set i v).take (i + 1) = l.take i ++ [v]:=by
 rw [List.take_succ_eq_append_getElem (by simpa using h),List.take_set_of_le (lrf _)]
 simp
theorem Qm (l : List Int) (x : Int) : Ab (l ++ [x]) = Ab l + x:=by
 rw [Ds]
 simp [Ab]
theorem ZL (K : Int) (w : List Int) (hk0 : 0 <= K) (hk1 : K <= 16777216) (hl : w.length < 1000) (hw : ∀ x ∈ w,0 <= x /\ x <= 16777216) : V 124 [.p (.int .i64 K),.p (AT w)] [] = some (.fresh 1 ((splitP K w).map (.int .i64)),[]):=by
 refine Ag (vf:=vf124) rfl ?_
 simp -implicitDefEqProofs (disch:=omega) only [vf124,Ts,go_sem]
 obtain ⟨I,hI⟩:=lpI fun k s=>∃ (y : Int),y = Ab (w.take k) /\ 0 <= y /\ y <= 16777216 * k /\ s.pe 0 = .p (.int .i64 K) /\ s.pe 1 = .p (AT w) /\ s.pe 5 = .p (.int .i64 y) /\ s.pe 14 = .p (AT w) /\ s.pe 15 = .p (.int .i64 ↑w.length) /\ s.pe 16 = .p (.int .i64 k)
 refine Al (w.length) I ?_ ?_
 ·refine (hI _ _).2 ⟨0,?_⟩
  and_intros
  ·exact by simp [Ab]
  ·exact cl3
  ·exact cl3
  all_goals exact cl0
 intro k s hk hIk
 obtain ⟨y,hy,hy0,hy1,hH⟩:=(hI _ _).1 hIk
 clear hIk
 simp -implicitDefEqProofs (disch:=omega) only [hH,go_sem]
 refine Ah (fun hlt=>?_) (fun hge=>?_)
 ·have hm : w[k]? = some w[k]:=lgg hlt
  have htk:=GY (f:=fun x=>x) hm
  rw [List.map_id',List.map_id'] at htk
  have hb:=hw _ (lmg hm)
  generalize w[k] = x at hm htk hb
  have hb0:=hb.1
  have hb1:=hb.2
  simp -implicitDefEqProofs (disch:=omega) only [hH,hlt,hm,go_sem]
  try refine ai ?_
  refine (hI _ _).2 ⟨y + x,?_⟩
  and_intros
  ·exact by rw [htk,hy]
  ·omega
  ·omega
  all_goals exact cl0
 ·rw [List.take_of_length_le (by omega)] at hy
  unfold splitP
  rw [← hy]
  by_cases hyz : y = 0
  ·rw [if_pos hyz]
   simp -implicitDefEqProofs (disch:=omega) only [hH,hge,hyz,go_sem]
   rw [ltl (by simp)]
   congr 2
   exact Jv w
  ·rw [if_neg hyz]
   simp -implicitDefEqProofs (disch:=omega) only [hH,hge,hyz,Jv,go_sem]
   obtain ⟨J,hJ⟩:=lpI fun j s=>∃ (v26_0 : Nat) (arr : List Int) (left : Int),arr.length = w.length /\ arr.take j = BE K y (w.take j) /\ left = K - Ab (arr.take j) /\ -(281474976710656 * j : Int) <= left /\ left <= 16777216 /\ s.pe 0 = .p (.int .i64 K) /\ s.pe 1 = .p (AT w) /\ s.pe 5 = .p (.int .i64 y) /\ s.pe 8 = .own (.slot 26 0) v26_0 0 w.length /\ s.pe 9 = .p (.int .i64 left) /\ s.pe 31 = .p (AT w) /\ s.pe 32 = .p (.int .i64 ↑w.length) /\ s.pe 33 = .p (.int .i64 j) /\ s.h (.slot 26 0) = some (v26_0,Ob.arr 1 (arr.map (.int .i64)))
   refine Al (w.length) J ?_ ?_
   ·refine (hJ _ _).2 ⟨nv (s.h (.slot 26 0)),w.map fun _=>0,K,?_⟩
    and_intros
    ·exact by simp
    ·rfl
    ·exact by simp [Ab]
    ·exact cl3
    ·exact cl3
    all_goals exact cl0
   intro j s hj hJk
   obtain ⟨v26_0,arr,left,harl,hpre,hlf,hl0,hl1,hH⟩:=(hJ _ _).1 hJk
   clear hJk
   simp -implicitDefEqProofs (disch:=omega) only [hH,go_sem]
   refine Ah (fun hlt=>?_) (fun hge=>?_)
   ·have hm : w[j]? = some w[j]:=lgg hlt
    have htk:=Bf hm
    have hb:=hw _ (lmg hm)
    generalize w[j] = x at hm htk hb
    have hb0:=hb.1
    have hb1:=hb.2
    have hm0 : 0 <= K * x:=Int.mul_nonneg hk0 hb0
    have hm1 : K * x <= 281474976710656:=by
     have:=Int.mul_le_mul hk1 hb1 hb0 (by omega)
     omega
    have hq : (K * x).tdiv y = K * x / y:=Int.tdiv_eq_ediv_of_nonneg hm0
    have hq0 : 0 <= K * x / y:=Int.ediv_nonneg hm0 hy0
    have hq1 : K * x / y <= K * x:=Int.ediv_le_self _ hm0
    have hbd : BE K y (w.take (j + 1)) = BE K y (w.take j) ++ [K * x / y]:=by rw [htk]; simp [BE]
    generalize K * x / y = q at hq hq0 hq1 hbd
    obtain ⟨p,hp⟩ : ∃ p,K * x = p:=⟨_,rfl⟩
    rw [hp] at hm0 hm1 hq hq1
    have hset:=HY arr j q
    have hget : (List.map (PV.int .i64) (arr.set j q))[j]? = some (.int .i64 q):=HZ (by rw [List.getElem?_set_self (by omega)])
    have hga : arr[j]? = some arr[j]:=lgg (by omega)
    generalize arr[j] = z at hga
    simp -implicitDefEqProofs (disch:=omega) only [hH,hlt,hm,hp,hq,hset,hget,hga,List.headD_cons,go_sem]
    try refine ai ?_
    refine (hJ _ _).2 ⟨v26_0,arr.set j q,left - q,?_⟩
    and_intros
    ·exact by rw [List.length_set,harl]
    ·exact by rw [F6 (by omega),hpre,hbd]
    ·exact by rw [F6 (by omega),Qm,hlf]; omega
    ·omega
    ·omega
    all_goals exact cl0
   ·have hjw : j = w.length:=by omega
    subst hjw
    rw [List.take_length] at hpre
    rw [ltl (by omega)] at hpre hlf
    rw [<- hpre,<- hlf]
    have hl0' : -(281474976710656000 : Int) <= left:=by omega
    clear hl0
    have hnn : ∀ o ∈ arr,0 <= o:=by
     rw [hpre]
     intro o ho
     obtain ⟨x,hx,rfl⟩:=lmm.1 ho
     exact Int.ediv_nonneg (Int.mul_nonneg hk0 (hw x hx).1) hy0
    simp -implicitDefEqProofs (disch:=omega) only [hH,hge,go_sem]
    obtain ⟨M,hM⟩:=lpI fun m s=>∃ (a2 : List Int) (lf : Int),a2.length = w.length /\ a2.take m ++ bumpD lf (arr.drop m) (w.drop m) = bumpD left arr w /\ a2.drop m = arr.drop m /\ -(281474976710656000 : Int) - m <= lf /\ lf <= 16777216 /\ s.pe 8 = .own (.slot 26 0) v26_0 0 w.length /\ s.pe 9 = .p (.int .i64 lf) /\ s.pe 53 = .p (AT w) /\ s.pe 54 = .p (.int .i64 ↑w.length) /\ s.pe 55 = .p (.int .i64 m) /\ s.h (.slot 26 0) = some (v26_0,Ob.arr 1 (a2.map (.int .i64)))
    refine Al (w.length) M ?_ ?_
    ·refine (hM _ _).2 ⟨arr,left,?_⟩
     and_intros
     ·exact cl3
     ·exact by simp
     ·rfl
     ·exact cl3
     ·exact cl3
     all_goals exact cl0
    intro m s hm hMk
    obtain ⟨a2,lf,hal,hbp,hdd,hm0,hm1,hH⟩:=(hM _ _).1 hMk
    clear hMk
    simp -implicitDefEqProofs (disch:=omega) only [hH,go_sem]
    refine Ah (fun hlt=>?_) (fun hge=>?_)
    ·have hm : w[m]? = some w[m]:=lgg hlt
     have hga : arr[m]? = some arr[m]:=lgg (by omega)
     have hdw : w.drop m = w[m] :: w.drop (m + 1):=ldg hlt
     have hda : arr.drop m = arr[m] :: arr.drop (m + 1):=ldg (by omega)
     have hb:=hw _ (lmg hm)
     generalize w[m] = x at hm hdw hb
     generalize arr[m] = o at hga hda
     have hb1:=hb.2
     have hga2 : a2[m]? = some o:=by
      have : (a2.drop m)[0]? = (arr.drop m)[0]?:=by rw [hdd]
      rw [List.getElem?_drop,List.getElem?_drop] at this
      simpa [hga] using this
     have htk2:=Bf hga2
     have hdd' : a2.drop (m + 1) = arr.drop (m + 1):=by
      have:=congrArg (List.drop 1) hdd
      simpa [List.drop_drop,Nat.add_comm] using this
     rw [hdw,hda,bumpD] at hbp
     by_cases hlf0 : 0 < lf
     ·by_cases hox : o < x
      ·rw [if_pos ⟨hlf0,hox⟩] at hbp
       have ho0:=hnn o (lmg hga)
       have hset:=HY a2 m (o + 1)
       simp -implicitDefEqProofs (disch:=omega) only [hH,hlt,hm,hga2,hlf0,hox,hset,List.headD_cons,go_sem]
       try refine ai ?_
       refine (hM _ _).2 ⟨a2.set m (o + 1),lf - 1,?_⟩
       and_intros
       .exact by rw [List.length_set,hal]
       .exact by rw [F6 (by omega),laa]; exact hbp
       .exact by rw [List.drop_set_of_lt (by omega),hdd']
       .omega
       .omega
       all_goals exact cl0
      ·rw [if_neg (fun h=>hox h.2)] at hbp
       simp -implicitDefEqProofs (disch:=omega) only [hH,hlt,hm,hga2,hlf0,hox,go_sem]
       try refine ai ?_
       refine (hM _ _).2 ⟨a2,lf,?_⟩
       and_intros
       .exact hal
       .exact by rw [htk2,laa]; exact hbp
       .exact hdd'
       .omega
       .omega
       all_goals exact cl0
     ·rw [if_neg (fun h=>hlf0 h.1)] at hbp
      simp -implicitDefEqProofs (disch:=omega) only [hH,hlt,hm,hlf0,go_sem]
      try refine ai ?_
      refine (hM _ _).2 ⟨a2,lf,?_⟩
      and_intros
      .exact hal
      .exact by rw [htk2,laa]; exact hbp
      .exact hdd'
      .omega
      .omega
      all_goals exact cl0
    ·rw [ldl (by omega),ldl (by omega),ltl (by omega)] at hbp
     have hbn : bumpD lf [] [] = []:=by unfold bumpD; rfl
     rw [hbn,lan] at hbp
     simp -implicitDefEqProofs (disch:=omega) only [hH,hge,go_sem]
     rw [ltl (by rw [llm]; omega),hbp]
theorem Lx (x : Pt) (g : Int) : D8 x g = true ↔ x.group = g /\ PtOk x:=by
 simp only [D8,Ap,bat,decide_eq_true_eq]
 constructor
 ·rintro ⟨⟨⟨⟨h1,h2⟩,h3⟩,h4⟩,h5⟩
  exact ⟨h1,h2.1,h2.2,h3.1,h3.2,h4.1,h4.2,h5.1,h5.2⟩
 ·rintro ⟨h1,h⟩
  exact ⟨⟨⟨⟨h1,h.u0,h.u1⟩,h.p0,h.p1⟩,h.o0,h.o1⟩,h.r0,h.r1⟩
theorem OX : ∀ (l : List Pt) (g : List Int),A0 l g = true ↔ l.map (·.group) = g /\ ∀ x ∈ l,PtOk x
 | [],[]=>by simp [A0]
 | x :: l,y :: g=>by
  simp only [A0,bat,Lx,OX l g,lpc,List.cons.injEq,lmk,forall_eq_or_imp]
  constructor
  .rintro ⟨⟨a,b⟩,c,d⟩; exact ⟨⟨a,c⟩,b,d⟩
  .rintro ⟨⟨a,c⟩,b,d⟩; exact ⟨⟨a,b⟩,c,d⟩
 | [],_ :: _=>by simp [A0]
 | _ :: _,[]=>by simp [A0]
structure PartsOk (t : Tr) (l : List Pt) (root : Int) : Prop where
 tree : TreeOk t
 top : InN t.nodes root
 groups : l.map (·.group) = msort (subT t root)
 ok : ∀ x ∈ l,PtOk x
theorem DM {t : Tr} (h : TreeOk t) {i : Nat} {n : Nd} (hn : t.nodes[i]? = some n) : subT t n.id = subF t.nodes t.nodes.length n.id:=by
 rw [subT,if_pos]
 rw [Cl ((A5 t).2 h),BZ h.inc hn]
 rfl
theorem J0 {t : Tr} (h : TreeOk t) {root : Int} : subT t root ≠ [] ↔ InN t.nodes root:=by
 constructor
 ·intro hne
  unfold subT at hne
  by_cases hf : (A6 t root).isSome = true
  ·rw [Cl ((A5 t).2 h)] at hf
   obtain ⟨n,hn,he⟩:=Cu hf
   obtain ⟨i,hi⟩:=lgm hn
   exact ⟨i,n,hi,he⟩
  ·rw [if_neg hf] at hne
   exact absurd rfl hne
 ·rintro ⟨i,n,hn,rfl⟩
  rw [DM h hn]
  exact Rx h ⟨i,n,hn,rfl⟩
theorem Jj (t : Tr) (l : List Pt) (root : Int) : CK t l root = true ↔ PartsOk t l root:=by
 simp only [CK,bat,A5,OX,Bool.not_eq_true',List.isEmpty_eq_false_iff]
 constructor
 ·rintro ⟨h,h2,h3,h4⟩
  exact ⟨h,(J0 h).1 h2,h3,h4⟩
 ·rintro ⟨h1,h2,h3,h4⟩
  exact ⟨h1,(J0 h1).2 h2,h3,h4⟩
theorem D2 (l : List Int) : (msort l).Perm l:=List.mergeSort_perm _ _
theorem Jq {t : Tr} (h : TreeOk t) (root : Int) : (subT t root).Nodup:=by
 by_cases hr : InN t.nodes root
 ·obtain ⟨i,n,hn,rfl⟩:=hr
  rw [DM h hn]
  exact He h _ i n hn (by omega)
 ·have : subT t root = []:=by
   cases hs : subT t root with
   | nil=>rfl
   | cons a b=>exact absurd ((J0 h).1 (by rw [hs]; simp)) hr
  rw [this]
  exact List.nodup_nil
theorem PartsOk.nodup {t : Tr} {l : List Pt} {root : Int} (h : PartsOk t l root) : (l.map (·.group)).Nodup:=by
 rw [h.groups]
 exact (D2 _).nodup_iff.2 (Jq h.tree root)
theorem PartsOk.length {t : Tr} {l : List Pt} {root : Int} (h : PartsOk t l root) : l.length <= 64:=by
 have h1:=congrArg List.length h.groups
 have h2:=CZ h.tree root
 have h3:=h.tree.len
 rw [llm,F9] at h1
 omega
abbrev capR (t : Tr) (l : List Pt) (g : Int) : Int:=BP t.nodes l t.nodes.length g
theorem SD {t : Tr} (h : TreeOk t) {l : List Pt} (hp : ∀ x ∈ l,PtOk x) {g : Int} (hg : InN t.nodes g) : V 123 [t.vv,.p (Ej l),.p (.int .i64 g)] [] = some (.p (.int .i64 (capR t l g)),[]):=by
 obtain ⟨i,n,hn,rfl⟩:=hg
 exact zao h hp _ i n hn (by omega)
theorem Ll {B : Int} : ∀ (left : Int) (o w : List Int),(∀ z ∈ o,0 <= z /\ z <= B) -> (∀ x ∈ w,x <= B) -> ∀ z ∈ bumpD left o w,0 <= z /\ z <= B
 | left,o :: os,w :: ws,ho,hw,z,hz=>by
  have h1:=Ll (B:=B) (left - 1) os ws (fun z hz=>ho z (by simp [hz])) (fun z hz=>hw z (by simp [hz]))
  have h2:=Ll (B:=B) left os ws (fun z hz=>ho z (by simp [hz])) (fun z hz=>hw z (by simp [hz]))
  have h3:=ho o (by simp)
  have h4:=hw w (by simp)
  unfold bumpD at hz
  split at hz
  ·rename_i hc
   rcases lmk.1 hz with rfl | hz
   .omega
   .exact h1 z hz
  ·rcases lmk.1 hz with rfl | hz
   .exact h3
   .exact h2 z hz
 | left,[],w,ho,_,z,hz=>by unfold bumpD at hz; exact ho z hz
 | left,o :: os,[],ho,_,z,hz=>by unfold bumpD at hz; exact ho z hz
theorem Jd {x : Int} : ∀ (l : List Int),(∀ y ∈ l,0 <= y) -> x ∈ l -> x <= Ab l
 | [],_,h=>by simp at h
 | y :: l,h,hx=>by
  have h1:=ER l (fun z hz=>h z (by simp [hz]))
  have h2:=h y (by simp)
  simp only [Ab]
  rcases lmk.1 hx with rfl | hx
  ·omega
  ·have:=Jd l (fun z hz=>h z (by simp [hz])) hx
   omega
theorem Oj {K : Int} {w : List Int} (h0 : 0 <= K) (h1 : K <= 16777216) (hw : ∀ x ∈ w,0 <= x /\ x <= 16777216) : ∀ z ∈ splitP K w,0 <= z /\ z <= 16777216:=by
 unfold splitP
 split
 ·intro z hz
  obtain ⟨_,_,rfl⟩:=lmm.1 hz
  omega
 ·rename_i hy
  have hs:=ER w (fun x hx=>(hw x hx).1)
  refine Ll _ _ _ (fun z hz=>?_) (fun x hx=>(hw x hx).2)
  obtain ⟨x,hx,rfl⟩:=lmm.1 hz
  have hxy:=Jd w (fun x hx=>(hw x hx).1) hx
  refine ⟨Int.ediv_nonneg (Int.mul_nonneg h0 (hw x hx).1) hs,?_⟩
  have : K * x / Ab w <= K:=Int.ediv_le_of_le_mul (by omega) (Int.mul_le_mul_of_nonneg_left hxy h0)
  omega
def takeN (ns : List Nd) (l : List Pt) (cap : Int -> Int) : Nat -> Int -> Int -> List (Int × Int)
 | 0,_,_=>[]
 | k + 1,g,K=>(if 0 < (splitP K ((partOf l g).own :: (kidsN ns g).map cap)).headD 0 then [(g,(splitP K ((partOf l g).own :: (kidsN ns g).map cap)).headD 0)] else []) ++ ((kidsN ns g).zip (splitP K ((partOf l g).own :: (kidsN ns g).map cap)).tail).flatMap fun p=>if 0 < p.2 then takeN ns l cap k p.1 p.2 else []
theorem K6 {f : Int -> Int -> List (Int × Int)} {g : Int -> List Int} (h : ∀ a b,(f a b).length <= (g a).length) : ∀ (xs ys : List Int),((xs.zip ys).flatMap fun p=>if 0 < p.2 then f p.1 p.2 else []).length <= (xs.flatMap g).length
 | [],_=>by simp
 | _ :: _,[]=>by simp
 | x :: xs,y :: ys=>by
  have h1:=K6 h xs ys
  have h2:=h x y
  rw [List.zip_cons_cons,lfc,lfc,lla,lla]
  show (if 0 < y then f x y else []).length + _ <= _
  split
  ·omega
  ·simp only [lln]
   omega
theorem Jw : ∀ (m : Nat) (xs ys : List Int),(xs.zip ys).take m = (xs.take m).zip (ys.take m)
 | 0,_,_=>by simp
 | _ + 1,[],_=>by simp
 | _ + 1,_ :: _,[]=>by simp
 | m + 1,x :: xs,y :: ys=>by simp [Jw m xs ys]
theorem Rc {f : Int -> List Int} {ks : List Int} {m : Nat} {c : Int} (h : ks[m]? = some c) : ((ks.take m).flatMap f).length + (f c).length <= (ks.flatMap f).length:=by
 have h1 : ks = ks.take (m + 1) ++ ks.drop (m + 1):=(List.take_append_drop _ _).symm
 have h2 : (ks.flatMap f).length = ((ks.take (m + 1)).flatMap f).length + ((ks.drop (m + 1)).flatMap f).length:=by
  rw [<- lla,<- List.flatMap_append,<- h1]
 rw [h2,Bf h,List.flatMap_append,lla,List.flatMap_singleton]
 omega
theorem KX (ns : List Nd) (l : List Pt) (cap : Int -> Int) : ∀ (k : Nat) (g K : Int),(takeN ns l cap k g K).length <= (subF ns k g).length
 | 0,_,_=>by simp [takeN]
 | k + 1,g,K=>by
  have h1:=K6 (f:=takeN ns l cap k) (g:=subF ns k) (KX ns l cap k) (kidsN ns g) (splitP K ((partOf l g).own :: (kidsN ns g).map cap)).tail
  rw [takeN,subF,lla,llc]
  split
  ·simp only [List.length_singleton]
   omega
  ·simp only [lln]
   omega
abbrev tkP (p : Int × Int) : PV:=.agg [.int .i64 p.1,.int .i64 p.2]
abbrev DX : List VVal:=[.ptr (.arg 0 0) 0 0,.ptr (.arg 1 0) 0 0,.ptr (.arg 2 0) 0 0,.ptr (.arg 3 0) 0 0]
abbrev HR (t : Tr) (l : List Pt) (out : List (Int × Int)) : List Ob:=[.box [.p (Au t.nodes),.p (.int .i64 t.next)],.box [.p (Ej l)],.box [.own (.arg 4 0) 0 0 out.length],.box [.fn 122 DX],.arr 2 (out.map tkP)]
def HR' (t : Tr) (l : List Pt) (out more : List (Int × Int)) : List Ob:=if more = [] then HR t l out else [.box [.p (Au t.nodes),.p (.int .i64 t.next)],.box [.p (Ej l)],.box [.own (.arg 4 0) 1 0 (out ++ more).length],.box [.fn 122 DX],.box [.undef,.fresh 2 ((out ++ more).map tkP)]]
theorem ZF {t : Tr} (h : TreeOk t) {l : List Pt} (hp : ∀ x ∈ l,PtOk x) : ∀ (k i : Nat) (n : Nd) (K : Int) (out : List (Int × Int)),t.nodes[i]? = some n -> t.nodes.length <= i + k -> 0 <= K -> K <= 16777216 -> out.length + (subF t.nodes k n.id).length <= 1000 ->
  V 122 ([.p (.int .i64 n.id),.p (.int .i64 K)] ++ DX) (HR t l out) = some (.tup [],HR' t l out (takeN t.nodes l (capR t l) k n.id K)):=by
 intro k
 induction k with
 | zero => intro i n K out hn hk; have:=(lgs.1 hn).1; omega
 | succ k ih =>
  intro i n K out hn hk hK0 hK1 hol
  have hlen:=h.len
  refine Ag (vf:=vf122) rfl ?_
  have hkd:=Ik t n.id (by omega)
  have hkl:=Fr t.nodes n.id
  have hkm : ∀ c ∈ kidsN t.nodes n.id,V 123 [t.vv,.p (Ej l),.p (.int .i64 c)] [] = some (.p (.int .i64 (capR t l c)),[]):=by
   intro c hc
   obtain ⟨j,m,hj,hp',rfl⟩:=BR.1 hc
   exact SD h hp ⟨j,m,hj,rfl⟩
  have hcb : ∀ c,0 <= capR t l c /\ capR t l c <= 16777216:=fun c=>El hp _ c
  have hsl : (subF t.nodes (k + 1) n.id).length = 1 + ((kidsN t.nodes n.id).flatMap (subF t.nodes k)).length:=by rw [subF,llc]; omega
  rw [hsl] at hol
  have hrec : ∀ c ∈ kidsN t.nodes n.id,∀ (K' : Int) (out' : List (Int × Int)),0 <= K' -> K' <= 16777216 -> out'.length + (subF t.nodes k c).length <= 1000 -> V 122 ([.p (.int .i64 c),.p (.int .i64 K')] ++ DX) (HR t l out') = some (.tup [],HR' t l out' (takeN t.nodes l (capR t l) k c K')):=by
   intro c hc K' out' h0 h1 h2
   obtain ⟨j,m,hj,hp',rfl⟩:=BR.1 hc
   have hij:=h.kid hn hj hp'
   exact ih j m K' out' hj (by omega) h0 h1 h2
  rw [takeN]
  have hx:=Eo hp n.id
  have hget:=LA n.id l
  have hgd:=P7 n.id l
  generalize partOf l n.id = x at hgd hx
  generalize kidsN t.nodes n.id = ks at hkd hkl hkm hrec hol
  simp -implicitDefEqProofs (disch:=omega) only [vf122,Tu,hkd,hget,hgd,HR,DX,lca,lna,go_sem]
  obtain ⟨J,hJ⟩:=lpI fun j s=>∃ (w : List Int) (ww : Nat),w = x.own :: (ks.take j).map (capR t l) /\ w.length = j + 1 /\ s.pe 0 = .p (.int .i64 n.id) /\ s.pe 1 = .p (.int .i64 K) /\ s.pe 2 = .ptr (Id.arg 0 0) 0 0 /\ s.pe 3 = .ptr (Id.arg 1 0) 0 0 /\ s.pe 4 = .ptr (Id.arg 2 0) 0 0 /\ s.pe 5 = .ptr (Id.arg 3 0) 0 0 /\ s.pe 8 = .own (.slot 17 1) 0 0 ks.length /\ s.pe 9 = .own (.slot 22 0) ww 0 w.length /\ s.pe 23 = .own (.slot 17 1) 0 0 ks.length /\ s.pe 24 = .p (.int .i64 ↑ks.length) /\ s.pe 25 = .p (.int .i64 j) /\ s.h (.arg 0 0) = some (0,Ob.box [.p (Au t.nodes),.p (.int .i64 t.next)]) /\ s.h (.arg 1 0) = some (0,Ob.box [.p (Ej l)]) /\ s.h (.arg 2 0) = some (0,Ob.box [VVal.own (Id.arg 4 0) 0 0 out.length]) /\ s.h (.arg 3 0) = some (0,Ob.box [VVal.fn 122 [.ptr (Id.arg 0 0) 0 0,.ptr (Id.arg 1 0) 0 0,.ptr (Id.arg 2 0) 0 0,.ptr (Id.arg 3 0) 0 0]]) /\ s.h (.arg 4 0) = some (0,Ob.arr 2 (List.map tkP out)) /\ s.h (.slot 17 1) = some (0,Ob.arr 1 (List.map (.int .i64) ks)) /\ s.h (.slot 22 0) = some (ww,Ob.arr 1 (w.map (.int .i64)))
  refine Al (ks.length) J ?_ ?_
  ·refine (hJ _ _).2 ⟨[x.own],0,?_⟩
   and_intros
   ·exact by simp
   ·rfl
   all_goals exact cl0
  intro j s hj hJk
  obtain ⟨w,ww,hw,hwl,h0,h1,h2,hH⟩:=(hJ _ _).1 hJk
  clear hJk
  simp -implicitDefEqProofs (disch:=omega) only [hH,go_sem]
  refine Ah (fun hlt=>?_) (fun hge=>?_)
  ·have hm : ks[j]? = some ks[j]:=lgg hlt
   have htk:=Bf hm
   generalize ks[j] = c at hm htk
   have hc:=hkm c (lmg hm)
   simp -implicitDefEqProofs (disch:=omega) only [h2,hH,hlt,hm,hc,go_sem]
   try refine ai ?_
   refine (hJ _ _).2 ⟨w ++ [capR t l c],ww + 1,?_⟩
   and_intros
   ·exact by rw [hw,htk]; simp
   ·exact by simp [hwl]
   all_goals exact cl0
  ·have hjl : j = ks.length:=by omega
   subst hjl
   rw [List.take_length] at hw
   have hwb : ∀ x ∈ w,0 <= x /\ x <= 16777216:=by
    rw [hw]
    intro y hy
    rcases lmk.1 hy with rfl | hy
    ·exact ⟨hx.o0,hx.o1⟩
    ·obtain ⟨c,_,rfl⟩:=lmm.1 hy
     exact hcb c
   rw [← hw]
   have hsp:=ZL K w hK0 hK1 (by omega) hwb
   have hgl:=KU K w
   have hgb:=Oj hK0 hK1 hwb
   generalize splitP K w = got at hsp hgl hgb
   rcases got with - | ⟨g0,gs⟩
   ·simp only [lln] at hgl
    omega
   have hgs : gs.length = ks.length:=by
    rw [llc] at hgl
    omega
   have hg00:=(hgb g0 (by simp)).1
   have hg01:=(hgb g0 (by simp)).2
   have hgb' : ∀ z ∈ gs,0 <= z /\ z <= 16777216:=fun z hz=>hgb z (by simp [hz])
   rw [List.headD_cons,List.tail_cons]
   obtain ⟨F,hFd⟩ : ∃ F : Int × Int -> List (Int × Int),F = fun p=>if 0 < p.2 then takeN t.nodes l (capR t l) k p.1 p.2 else []:=⟨_,rfl⟩
   have hF0 : ∀ a b,0 < b -> F (a,b) = takeN t.nodes l (capR t l) k a b:=fun a b hb=>by rw [hFd]; exact if_pos hb
   have hF1 : ∀ a b,¬ 0 < b -> F (a,b) = []:=fun a b hb=>by rw [hFd]; exact if_neg hb
   have hFl : ∀ (xs ys : List Int),((xs.zip ys).flatMap F).length <= (xs.flatMap (subF t.nodes k)).length:=by
    rw [hFd]
    exact K6 (f:=takeN t.nodes l (capR t l) k) (g:=subF t.nodes k) (KX t.nodes l (capR t l) k)
   rw [← hFd]
   clear hFd
   by_cases hpos : 0 < g0
   ·rw [if_pos hpos]
    obtain ⟨res,hres⟩ : ∃ res,[(n.id,g0)] ++ (ks.zip gs).flatMap F = res:=⟨_,rfl⟩
    rw [hres]
    simp -implicitDefEqProofs (disch:=omega) only [h0,h1,hH,hge,hsp,hpos,Int.toNat_zero,List.getElem?_cons_zero,go_sem]
    obtain ⟨M,hM⟩:=lpI fun m s=>∃ (v39_1 : Nat) (acc : List (Int × Int)) (v : Nat) (cur : List (Int × Int)),cur = out ++ acc /\ acc = [(n.id,g0)] ++ ((ks.zip gs).take m).flatMap F /\ (v = 0 ↔ acc = []) /\ s.pe 5 = .ptr (Id.arg 3 0) 0 0 /\ s.pe 12 = .own (.slot 39 1) v39_1 0 (gs.length + 1) /\ s.pe 52 = .own (.slot 17 1) 0 0 ks.length /\ s.pe 53 = .p (.int .i64 ↑ks.length) /\ s.pe 54 = .p (.int .i64 m) /\ s.h (.arg 0 0) = some (0,Ob.box [.p (Au t.nodes),.p (.int .i64 t.next)]) /\ s.h (.arg 1 0) = some (0,Ob.box [.p (Ej l)]) /\ s.h (.arg 2 0) = some (0,Ob.box [VVal.own (Id.arg 4 0) v 0 cur.length]) /\ s.h (.arg 3 0) = some (0,Ob.box [VVal.fn 122 [.ptr (Id.arg 0 0) 0 0,.ptr (Id.arg 1 0) 0 0,.ptr (Id.arg 2 0) 0 0,.ptr (Id.arg 3 0) 0 0]]) /\ s.h (.arg 4 0) = some (v,Ob.arr 2 (List.map tkP cur)) /\ s.h (.slot 17 1) = some (0,Ob.arr 1 (List.map (.int .i64) ks)) /\ s.h (.slot 39 1) = some (v39_1,Ob.arr 1 (PV.int IntKind.i64 g0 :: List.map (.int .i64) gs))
    refine Al (ks.length) M ?_ ?_
    ·refine (hM _ _).2 ⟨nv (s.h (.slot 39 1)),[(n.id,g0)],1,out ++ [(n.id,g0)],?_⟩
     and_intros
     ·exact by simp
     ·exact by simp
     ·exact by simp
     all_goals exact cl0
    intro m s hm hMk
    obtain ⟨v39_1,acc,v,cur,hcur,hacc,hav,hH⟩:=(hM _ _).1 hMk
    clear hMk
    subst hcur
    simp -implicitDefEqProofs (disch:=omega) only [hH,go_sem]
    refine Ah (fun hlt=>?_) (fun hge=>?_)
    ·have hm : ks[m]? = some ks[m]:=lgg hlt
     have hgm : gs[m]? = some gs[m]:=lgg (by omega)
     have hzm : (ks.zip gs)[m]? = some (ks[m],gs[m]):=by rw [List.getElem?_zip_eq_some]; exact ⟨hm,hgm⟩
     have htz:=Bf hzm
     generalize ks[m] = c at hm htz hzm
     generalize gs[m] = gk at hgm htz hzm
     have hgk:=hgb' gk (lmg hgm)
     have hidx : (PV.int IntKind.i64 g0 :: List.map (PV.int .i64) gs)[(↑m + 1 : Int).toNat]? = some (.int .i64 gk):=by
      rw [show (↑m + 1 : Int).toNat = m + 1 by omega,List.getElem?_cons_succ]
      exact HZ hgm
     by_cases hk0 : 0 < gk
     ·have hlen' : (out ++ acc).length + (subF t.nodes k c).length <= 1000:=by
       have e1:=congrArg List.length hacc
       have e2:=hFl (ks.take m) (gs.take m)
       have e3:=Rc (f:=subF t.nodes k) hm
       rw [<- Jw] at e2
       rw [lla] at e1 ⊢
       simp only [List.length_singleton] at e1
       omega
      have hr:=hrec c (lmg hm) gk (out ++ acc) hgk.1 hgk.2 hlen'
      have hF : F (c,gk) = takeN t.nodes l (capR t l) k c gk:=hF0 _ _ hk0
      generalize takeN t.nodes l (capR t l) k c gk = more at hr hF
      unfold HR' at hr
      by_cases hmore : more = []
      ·rw [if_pos hmore] at hr
       simp only [HR,DX,lca,lna,lla] at hr
       have hacc' : acc = [(n.id,g0)] ++ ((ks.zip gs).take (m + 1)).flatMap F:=by
        rw [htz,List.flatMap_append,List.flatMap_singleton,hF,hmore,lan]
        exact hacc
       simp -implicitDefEqProofs (disch:=omega) only [hH,hlt,hm,hidx,hk0,hr,go_sem]
       try refine ai ?_
       refine (hM _ _).2 ⟨v39_1,acc,v,out ++ acc,?_⟩
       and_intros
       ·rfl
       ·exact hacc'
       ·exact hav
       all_goals exact cl0
      ·rw [if_neg hmore] at hr
       simp only [HR,DX,lca,lna,lla] at hr
       have hacc' : acc ++ more = [(n.id,g0)] ++ ((ks.zip gs).take (m + 1)).flatMap F:=by
        rw [htz,List.flatMap_append,List.flatMap_singleton,hF,<- laa,<- hacc]
       have hass : out ++ acc ++ more = out ++ (acc ++ more):=laa _ _ _
       rw [hass] at hr
       simp -implicitDefEqProofs (disch:=omega) only [hH,hlt,hm,hidx,hk0,hr,go_sem]
       try refine ai ?_
       refine (hM _ _).2 ⟨v39_1,acc ++ more,v + 1,out ++ (acc ++ more),?_⟩
       and_intros
       ·rfl
       ·exact hacc'
       ·exact by simp [hmore]
       all_goals exact cl0
     ·have hF : F (c,gk) = []:=hF1 _ _ hk0
      have hacc' : acc = [(n.id,g0)] ++ ((ks.zip gs).take (m + 1)).flatMap F:=by
       rw [htz,List.flatMap_append,List.flatMap_singleton,hF,lan]
       exact hacc
      simp -implicitDefEqProofs (disch:=omega) only [hH,hlt,hm,hidx,hk0,go_sem]
      try refine ai ?_
      refine (hM _ _).2 ⟨v39_1,acc,v,out ++ acc,?_⟩
      and_intros
      ·rfl
      ·exact hacc'
      ·exact hav
      all_goals exact cl0
    ·rw [ltl (by rw [List.length_zip]; omega)] at hacc
     rw [hres] at hacc
     subst hacc
     by_cases hvz : v = 0
     ·have hn:=hav.1 hvz
      subst hvz
      subst hn
      simp -implicitDefEqProofs (disch:=omega) only [hH,hge,go_sem]
      rw [HR',if_pos rfl]
     ·have hn : ¬ acc = []:=fun h=>hvz (hav.2 h)
      simp -implicitDefEqProofs (disch:=omega) only [hH,hge,hvz,go_sem]
      rw [HR',if_neg hn,lla]
   ·rw [if_neg hpos]
    obtain ⟨res,hres⟩ : ∃ res,[] ++ (ks.zip gs).flatMap F = res:=⟨_,rfl⟩
    rw [hres]
    simp -implicitDefEqProofs (disch:=omega) only [h1,hH,hge,hsp,hpos,Int.toNat_zero,List.getElem?_cons_zero,go_sem]
    obtain ⟨M,hM⟩:=lpI fun m s=>∃ (v39_1 : Nat) (acc : List (Int × Int)) (v : Nat) (cur : List (Int × Int)),cur = out ++ acc /\ acc = [] ++ ((ks.zip gs).take m).flatMap F /\ (v = 0 ↔ acc = []) /\ s.pe 5 = .ptr (Id.arg 3 0) 0 0 /\ s.pe 12 = .own (.slot 39 1) v39_1 0 (gs.length + 1) /\ s.pe 52 = .own (.slot 17 1) 0 0 ks.length /\ s.pe 53 = .p (.int .i64 ↑ks.length) /\ s.pe 54 = .p (.int .i64 m) /\ s.h (.arg 0 0) = some (0,Ob.box [.p (Au t.nodes),.p (.int .i64 t.next)]) /\ s.h (.arg 1 0) = some (0,Ob.box [.p (Ej l)]) /\ s.h (.arg 2 0) = some (0,Ob.box [VVal.own (Id.arg 4 0) v 0 cur.length]) /\ s.h (.arg 3 0) = some (0,Ob.box [VVal.fn 122 [.ptr (Id.arg 0 0) 0 0,.ptr (Id.arg 1 0) 0 0,.ptr (Id.arg 2 0) 0 0,.ptr (Id.arg 3 0) 0 0]]) /\ s.h (.arg 4 0) = some (v,Ob.arr 2 (List.map tkP cur)) /\ s.h (.slot 17 1) = some (0,Ob.arr 1 (List.map (.int .i64) ks)) /\ s.h (.slot 39 1) = some (v39_1,Ob.arr 1 (PV.int IntKind.i64 g0 :: List.map (.int .i64) gs))
    refine Al (ks.length) M ?_ ?_
    ·refine (hM _ _).2 ⟨nv (s.h (.slot 39 1)),[],0,out,?_⟩
     and_intros
     ·exact by simp
     ·exact by simp
     ·exact by simp
     all_goals exact cl0
    intro m s hm hMk
    obtain ⟨v39_1,acc,v,cur,hcur,hacc,hav,hH⟩:=(hM _ _).1 hMk
    clear hMk
    subst hcur
    simp -implicitDefEqProofs (disch:=omega) only [hH,go_sem]
    refine Ah (fun hlt=>?_) (fun hge=>?_)
    ·have hm : ks[m]? = some ks[m]:=lgg hlt
     have hgm : gs[m]? = some gs[m]:=lgg (by omega)
     have hzm : (ks.zip gs)[m]? = some (ks[m],gs[m]):=by rw [List.getElem?_zip_eq_some]; exact ⟨hm,hgm⟩
     have htz:=Bf hzm
     generalize ks[m] = c at hm htz hzm
     generalize gs[m] = gk at hgm htz hzm
     have hgk:=hgb' gk (lmg hgm)
     have hidx : (PV.int IntKind.i64 g0 :: List.map (PV.int .i64) gs)[(↑m + 1 : Int).toNat]? = some (.int .i64 gk):=by
      rw [show (↑m + 1 : Int).toNat = m + 1 by omega,List.getElem?_cons_succ]
      exact HZ hgm
     by_cases hk0 : 0 < gk
     ·have hlen' : (out ++ acc).length + (subF t.nodes k c).length <= 1000:=by
       have e1:=congrArg List.length hacc
       have e2:=hFl (ks.take m) (gs.take m)
       have e3:=Rc (f:=subF t.nodes k) hm
       rw [<- Jw] at e2
       rw [lla] at e1 ⊢
       simp only [lln] at e1
       omega
      have hr:=hrec c (lmg hm) gk (out ++ acc) hgk.1 hgk.2 hlen'
      have hF : F (c,gk) = takeN t.nodes l (capR t l) k c gk:=hF0 _ _ hk0
      generalize takeN t.nodes l (capR t l) k c gk = more at hr hF
      unfold HR' at hr
      by_cases hmore : more = []
      ·rw [if_pos hmore] at hr
       simp only [HR,DX,lca,lna,lla] at hr
       have hacc' : acc = [] ++ ((ks.zip gs).take (m + 1)).flatMap F:=by
        rw [htz,List.flatMap_append,List.flatMap_singleton,hF,hmore,lan]
        exact hacc
       simp -implicitDefEqProofs (disch:=omega) only [hH,hlt,hm,hidx,hk0,hr,go_sem]
       try refine ai ?_
       refine (hM _ _).2 ⟨v39_1,acc,v,out ++ acc,?_⟩
       and_intros
       ·rfl
       ·exact hacc'
       ·exact hav
       all_goals exact cl0
      ·rw [if_neg hmore] at hr
       simp only [HR,DX,lca,lna,lla] at hr
       have hacc' : acc ++ more = [] ++ ((ks.zip gs).take (m + 1)).flatMap F:=by
        rw [htz,List.flatMap_append,List.flatMap_singleton,hF,<- laa,<- hacc]
       have hass : out ++ acc ++ more = out ++ (acc ++ more):=laa _ _ _
       rw [hass] at hr
       simp -implicitDefEqProofs (disch:=omega) only [hH,hlt,hm,hidx,hk0,hr,go_sem]
       try refine ai ?_
       refine (hM _ _).2 ⟨v39_1,acc ++ more,v + 1,out ++ (acc ++ more),?_⟩
       and_intros
       .rfl
       .exact hacc'
       .exact by simp [hmore]
       all_goals exact cl0
     ·have hF : F (c,gk) = []:=hF1 _ _ hk0
      have hacc' : acc = [] ++ ((ks.zip gs).take (m + 1)).flatMap F:=by
       rw [htz,List.flatMap_append,List.flatMap_singleton,hF,lan]
       exact hacc
      simp -implicitDefEqProofs (disch:=omega) only [hH,hlt,hm,hidx,hk0,go_sem]
      try refine ai ?_
      refine (hM _ _).2 ⟨v39_1,acc,v,out ++ acc,?_⟩
      and_intros
      .rfl
      .exact hacc'
      .exact hav
      all_goals exact cl0
    ·rw [ltl (by rw [List.length_zip]; omega)] at hacc
     rw [hres] at hacc
     subst hacc
     by_cases hvz : v = 0
     ·have hn:=hav.1 hvz
      subst hvz
      subst hn
      simp -implicitDefEqProofs (disch:=omega) only [hH,hge,go_sem]
      rw [HR',if_pos rfl]
     ·have hn : ¬ acc = []:=fun h=>hvz (hav.2 h)
      simp -implicitDefEqProofs (disch:=omega) only [hH,hge,hvz,go_sem]
      rw [HR',if_neg hn,lla]
theorem Sf {f : Int -> Int -> List (Int × Int)} {g : Int -> List Int} (h : ∀ a b,List.Sublist ((f a b).map Prod.fst) (g a)) : ∀ (xs ys : List Int),List.Sublist (((xs.zip ys).flatMap fun p=>if 0 < p.2 then f p.1 p.2 else []).map Prod.fst) (xs.flatMap g)
 | [],_=>by simp
 | _ :: _,[]=>by simp
 | x :: xs,y :: ys=>by
  have h1:=Sf h xs ys
  rw [List.zip_cons_cons,lfc,lfc,lma]
  refine List.Sublist.append ?_ h1
  show List.Sublist ((if 0 < y then f x y else []).map Prod.fst) (g x)
  split
  .exact h x y
  .simp
theorem LK (ns : List Nd) (l : List Pt) (cap : Int -> Int) : ∀ (k : Nat) (g K : Int),List.Sublist ((takeN ns l cap k g K).map Prod.fst) (subF ns k g)
 | 0,_,_=>by simp [takeN]
 | k + 1,g,K=>by
  have h1:=Sf (f:=takeN ns l cap k) (g:=subF ns k) (LK ns l cap k) (kidsN ns g) (splitP K ((partOf l g).own :: (kidsN ns g).map cap)).tail
  rw [takeN,subF,lma]
  split
  .exact List.Sublist.cons_cons _ h1
  .exact List.Sublist.cons _ h1
def tsort (ps : List (Int × Int)) : List (Int × Int):=ps.mergeSort fun x y=>decide (x.1 <= y.1)
theorem O1 : ∀ (l : List (Int × Int)),Af Iw (l.map tkP) = some l
 | []=>rfl
 | x :: l=>by
  rw [lpc]
  show ob (some (x.1,x.2)) (fun y=>ob (Af Iw (List.map tkP l)) fun ys=>some (y :: ys)) = _
  rw [O1 l,Ai,Ai]
theorem ZN (l : List (Int × Int)) (hl : l.length < 1000000) (hb : ∀ p ∈ l,0 <= p.1 /\ p.1 < 4611686018427387904) (hn : (l.map Prod.fst).Nodup) : V 125 [.own (.arg 0 0) 0 0 l.length,.p (.fn 126)] [.arr 2 (l.map tkP)] = some (.tup [],[.arr 2 ((tsort l).map tkP)]):=by
 refine V_x ?_
 have h1 : l.length = (l.map tkP).length:=by simp
 have h2 : l.length < 4611686018427387904:=by omega
 have hne : ¬ 125 = 118:=by decide
 simp only [XS,if_neg hne,if_pos,XP,gd,if_pos h1,if_pos h2,O1,Ai,if_pos hb,if_pos hn,tsort]
abbrev takeR (t : Tr) (l : List Pt) (g K : Int) : List (Int × Int):=takeN t.nodes l (capR t l) t.nodes.length g K
def Cy (t : Tr) (l : List Pt) (root n : Int) : List (Int × Int) × Int:=if CK t l root = true then (if Ap n = true then (tsort (takeR t l root (min n (capR t l root))),0) else ([],3)) else ([],1)
theorem Rr {t : Tr} (h : TreeOk t) {l : List Pt} {g : Int} (hg : InN t.nodes g) (K : Int) : (takeR t l g K).length <= 64 /\ (∀ p ∈ takeR t l g K,0 <= p.1 /\ p.1 < 4611686018427387904) /\ ((takeR t l g K).map Prod.fst).Nodup:=by
 obtain ⟨i,n,hn,rfl⟩:=hg
 have hs:=LK t.nodes l (capR t l) t.nodes.length n.id K
 have hl : (takeR t l n.id K).length <= _:=KX t.nodes l (capR t l) t.nodes.length n.id K
 have hl2:=I7 h hn (k:=t.nodes.length) (by omega)
 have hlen:=h.len
 refine ⟨by omega,fun p hp=>?_,hs.nodup (He h _ i n hn (by omega))⟩
 have h1:=hs.subset (lmm.2 ⟨p,hp,rfl⟩)
 obtain ⟨j,m,hm,he,_⟩:=(DQ h _ i n hn (by omega) _).1 h1
 have hmm:=lmg hm
 have h2:=h.lt_next m hmm
 obtain ⟨_,_,_,h3⟩:=h.next
 have h4:=h.pos m hmm
 omega
theorem ZV (t : Tr) (l : List Pt) (root n : Int) (hf : t.Fits) (hn : t.nodes.length < 1000000) (hl : l.length < 1000000) : V 72 [t.vv,.p (B4 l),.p (.int .i64 root),.p (.int .i64 n)] [] = some (.tup [.fresh 2 ((Cy t l root n).1.map tkP),.p (.int .i64 (Cy t l root n).2)],[]):=by
 refine Ag (vf:=vf72) rfl ?_
 have hv:=V5 t l root hf hn hl
 have hpg:=JL n
 unfold Cy
 by_cases h : CK t l root = true
 ·have hP:=(Jj t l root).1 h
  have hm:=YO l hl hP.nodup
  have hc:=SD hP.tree hP.ok hP.top
  rw [h] at hv
  rw [if_pos h]
  by_cases hpn : Ap n = true
  ·rw [if_pos hpn]
   rw [hpn] at hpg
   have hnb : 0 <= n /\ n <= 16777216:=by simpa [Ap] using hpn
   have hcb : 0 <= capR t l root /\ capR t l root <= 16777216:=El (ns:=t.nodes) hP.ok t.nodes.length root
   have htk : V 122 ([.p (.int .i64 root),.p (.int .i64 (min n (capR t l root)))] ++ DX) (HR t l []) = some (.tup [],HR' t l [] (takeR t l root (min n (capR t l root)))):=by
    obtain ⟨i,r,hr,he⟩:=hP.top
    subst he
    have hl2:=I7 hP.tree hr (k:=t.nodes.length) (by omega)
    have hlen:=hP.tree.len
    exact ZF hP.tree hP.ok _ i r _ [] hr (by omega) (by omega) (by omega) (by simp only [lln]; omega)
   obtain ⟨hr1,hr2,hr3⟩:=Rr (l:=l) hP.tree hP.top (min n (capR t l root))
   generalize takeR t l root (min n (capR t l root)) = res at htk hr1 hr2 hr3
   have hso:=ZN res (by omega) hr2 hr3
   unfold HR' at htk
   by_cases hre : res = []
   ·rw [if_pos hre] at htk
    simp only [HR,DX,lca,lna,lln,lpn] at htk
    subst hre
    simp only [lln,lpn] at hso
    simp -implicitDefEqProofs (disch:=omega) only [vf72,II,hv,hpg,hm,hc,htk,hso,go_sem]
    simp [tsort]
   ·rw [if_neg hre] at htk
    simp only [HR,DX,lca,lna,lln,lpn] at htk
    simp -implicitDefEqProofs (disch:=omega) only [vf72,II,hv,hpg,hm,hc,htk,hso,go_sem]
    rw [ltl (by simp [tsort])]
  ·have hpn' : Ap n = false:=by simpa using hpn
   rw [if_neg hpn]
   rw [hpn'] at hpg
   simp -implicitDefEqProofs (disch:=omega) only [vf72,II,hv,hpg,go_sem]
 ·have h' : CK t l root = false:=by simpa using h
  rw [h'] at hv
  rw [if_neg h]
  simp -implicitDefEqProofs (disch:=omega) only [vf72,II,hv,go_sem]
def Dk (t : Tr) (l : List (Int × Int)) (id : Int) : Int:=Ab (l.map fun p=>if id ∈ ancR t p.1 then p.2 else 0)
theorem Ho (t : Tr) (id : Int) : (ancR t id).length <= t.nodes.length:=by
 unfold ancR
 split
 ·unfold up
  have:=Jk t.nodes.reverse id
  simpa using this
 .simp
def F3 (x : Pt) (s : Int) : Int:=min (min (max 0 (x.usage - x.protect)) x.room) (x.own + s)
theorem JH (ns : List Nd) (l : List Pt) (k : Nat) (g : Int) : BP ns l (k + 1) g = F3 (partOf l g) (Ab ((kidsN ns g).map (BP ns l k))):=rfl
theorem RX : ∀ (a b : List Int),(a.Pairwise fun x y=>x < y) -> (b.Pairwise fun x y=>x < y) -> (∀ x,x ∈ a ↔ x ∈ b) -> a = b
 | [],[],_,_,_=>rfl
 | [],y :: b,_,_,h=>by have:=(h y).2 (lms ..); simp at this
 | x :: a,[],_,_,h=>by have:=(h x).1 (lms ..); simp at this
 | x :: a,y :: b,ha,hb,h=>by
  obtain ⟨ha1,ha2⟩:=lpw.1 ha
  obtain ⟨hb1,hb2⟩:=lpw.1 hb
  have hxy : x = y:=by
   rcases lmk.1 ((h x).1 (lms ..)) with h1 | h1
   ·exact h1
   ·rcases lmk.1 ((h y).2 (lms ..)) with h2 | h2
    ·exact h2.symm
    ·have:=hb1 x h1
     have:=ha1 y h2
     omega
  subst hxy
  refine congrArg (x :: ·) (RX a b ha2 hb2 fun z=>?_)
  constructor
  ·intro hz
   rcases lmk.1 ((h z).1 (lmc _ hz)) with h1 | h1
   ·subst h1
    have:=ha1 z hz
    omega
   ·exact h1
  ·intro hz
   rcases lmk.1 ((h z).2 (lmc _ hz)) with h1 | h1
   ·subst h1
    have:=hb1 z hz
    omega
   .exact h1
theorem LY {S : List Int} (h : S.Nodup) : (msort S).Pairwise fun a b=>a < b:=by
 have h1 : (msort S).Pairwise fun a b=>decide (a <= b) = true:=List.pairwise_mergeSort (fun a b c h1 h2=>by simp only [decide_eq_true_eq] at *; omega) (fun a b=>by simp only [bot,decide_eq_true_eq]; omega) S
 have h2 : (msort S).Nodup:=(D2 S).nodup_iff.2 h
 refine (h1.and h2).imp ?_
 rintro a b ⟨h1,h2⟩
 simp only [decide_eq_true_eq] at h1
 omega
theorem OP {S : List Int} (h : S.Nodup) : CH S = msort S :=
 RX _ _ (Qp S) (LY h) fun x=>by rw [YQ,(D2 S).mem_iff]
theorem zak {l : List Int} (h : l.Pairwise fun a b=>a <= b) : msort l = l:=List.mergeSort_of_pairwise (h.imp fun h=>decide_eq_true h)
theorem Zt {l : List (Int × Int)} (h : l.Pairwise fun a b=>a.1 <= b.1) : tsort l = l:=List.mergeSort_of_pairwise (h.imp fun h=>decide_eq_true h)
theorem PartsOk.set {t : Tr} {p : List Pt} {root : Int} (h : PartsOk t p root) {j : Nat} {x x' : Pt} (hj : p[j]? = some x) (hx : PtOk x') (hg : x'.group = x.group) : PartsOk t (p.set j x') root:=by
 refine ⟨h.tree,h.top,?_,fun y hy=>?_⟩
 ·rw [<- h.groups,List.map_set]
  apply List.ext_getElem?
  intro i
  rw [List.getElem?_set]
  split
  ·rename_i e
   subst e
   rw [llm,List.getElem?_map,hj]
   simp [hg,(lgs.1 hj).1]
  .rfl
 ·rcases List.mem_or_eq_of_mem_set hy with h1 | h1
  .exact h.ok y h1
  .rw [h1]; exact hx
def Dr : List Int -> List Int -> Int
 | o :: os,w :: ws=>(if o < w then 1 else 0) + Dr os ws
 | _,_=>0
theorem Jg : ∀ (o w : List Int),0 <= Dr o w
 | o :: os,w :: ws=>by
  have:=Jg os ws
  unfold Dr
  split <;> omega
 | [],_=>by unfold Dr; omega
 | _ :: _,[]=>by unfold Dr; omega
theorem Mg : ∀ (left : Int) (o w : List Int),0 <= left -> left <= Dr o w -> Ab (bumpD left o w) = Ab o + left
 | left,o :: os,w :: ws,h0,h1=>by
  have hc:=Jg os ws
  unfold Dr at h1
  unfold bumpD
  by_cases h : 0 < left /\ o < w
  ·rw [if_pos h]
   rw [if_pos h.2] at h1
   have:=Mg (left - 1) os ws (by omega) (by omega)
   simp only [Ab,this]
   omega
  ·rw [if_neg h]
   have : left <= Dr os ws:=by
    by_cases h2 : o < w
    ·omega
    ·rw [if_neg h2] at h1
     omega
   have:=Mg left os ws h0 this
   simp only [Ab,this]
   omega
 | left,[],w,h0,h1=>by
  unfold Dr at h1
  unfold bumpD
  omega
 | left,o :: os,[],h0,h1=>by
  unfold Dr at h1
  unfold bumpD
  omega
theorem MM : ∀ (left : Int) (o w : List Int) (i : Nat) (a b : Int),o[i]? = some a -> w[i]? = some b -> ∃ z,(bumpD left o w)[i]? = some z /\ (z = a \/ (z = a + 1 /\ a < b))
 | left,o :: os,w :: ws,0,a,b,ha,hb=>by
  simp only [List.getElem?_cons_zero,osi] at ha hb
  subst ha
  subst hb
  unfold bumpD
  by_cases h : 0 < left /\ o < w
  ·rw [if_pos h]
   exact ⟨o + 1,rfl,Or.inr ⟨rfl,h.2⟩⟩
  ·rw [if_neg h]
   exact ⟨o,rfl,Or.inl rfl⟩
 | left,o :: os,w :: ws,i + 1,a,b,ha,hb=>by
  simp only [List.getElem?_cons_succ] at ha hb
  have h1:=MM (left - 1) os ws i a b ha hb
  have h2:=MM left os ws i a b ha hb
  unfold bumpD
  split
  .simpa using h1
  .simpa using h2
 | _,[],_,_,_,_,ha,_=>by simp at ha
 | _,_ :: _,[],_,_,_,_,hb=>by simp at hb
theorem Sa (K y : Int) : ∀ (w : List Int),Ab (BE K y w) * y + Ab (w.map fun x=>K * x % y) = K * Ab w
 | []=>by simp [BE,Ab]
 | x :: w=>by
  have ih:=Sa K y w
  have h:=Int.mul_ediv_add_emod (K * x) y
  have hc : y * (K * x / y) = K * x / y * y:=Int.mul_comm _ _
  simp only [BE,lpc,Ab,Int.add_mul,Int.mul_add] at ih ⊢
  omega
theorem MV {K y : Int} (hK : 0 <= K) (hy : K < y) : ∀ (w : List Int),(∀ x ∈ w,0 <= x) -> 0 <= Ab (w.map fun x=>K * x % y) /\ Ab (w.map fun x=>K * x % y) <= (y - 1) * Dr (BE K y w) w
 | [],_=>by simp [Ab,BE,Dr]
 | x :: w,hw=>by
  have ih:=MV hK hy w (fun z hz=>hw z (by simp [hz]))
  have hx:=hw x (by simp)
  have h0:=Int.emod_nonneg (K * x) (show y ≠ 0 by omega)
  have h1:=Int.emod_lt_of_pos (K * x) (show 0 < y by omega)
  simp only [lpc,Ab,BE,Dr] at ih ⊢
  refine ⟨by omega,?_⟩
  by_cases hx0 : x = 0
  ·subst hx0
   rw [Int.mul_zero,Int.zero_emod,Int.zero_ediv,if_neg (by omega),Int.zero_add,Int.zero_add]
   exact ih.2
  ·have hlt : K * x / y < x:=by
    refine Int.ediv_lt_of_lt_mul (by omega) ?_
    rw [Int.mul_comm K x]
    exact Int.mul_lt_mul_of_pos_left hy (by omega)
   rw [if_pos hlt,Int.mul_add,Int.mul_one]
   omega
theorem Rm {y : Int} (hy : 0 < y) (w : List Int) : BE y y w = w:=by
 unfold BE
 conv=>rhs; rw [<- List.map_id w]
 exact List.map_congr_left fun x _=>Int.mul_ediv_cancel_left x (by omega)
theorem H1 : ∀ (w : List Int),Ab (w.map fun _=>0) = 0
 | []=>rfl
 | x :: w=>by
  have:=H1 w
  simp only [lpc,Ab,this]
  omega
theorem Ys {K : Int} {w : List Int} (hw : ∀ x ∈ w,0 <= x) (h0 : 0 <= K) (h1 : K <= Ab w) : Ab (splitP K w) = K:=by
 unfold splitP
 by_cases hz : Ab w = 0
 ·rw [if_pos hz,H1]
  omega
 ·rw [if_neg hz]
  have hy : 0 < Ab w:=by
   have:=ER w hw
   omega
  have hb:=Sa K (Ab w) w
  rw [Mg]
  ·omega
  ·by_cases hK : K < Ab w
   ·have hm:=(MV h0 hK w hw).1
    have : Ab (BE K (Ab w) w) * Ab w <= K * Ab w:=by omega
    have:=Int.le_of_mul_le_mul_right this hy
    omega
   ·have : K = Ab w:=by omega
    subst this
    rw [Rm hy]
    omega
  ·by_cases hK : K < Ab w
   ·have hm:=(MV h0 hK w hw).2
    have hc:=Jg (BE K (Ab w) w) w
    generalize Dr (BE K (Ab w) w) w = c at hm hc
    generalize Ab (BE K (Ab w) w) = b at hb
    generalize Ab (w.map fun x=>K * x % Ab w) = m at hb hm
    generalize Ab w = y at hb hm hy
    refine Int.not_lt.1 fun hlt=>?_
    have h2 : y * (c + 1) <= y * (K - b):=Int.mul_le_mul_of_nonneg_left (by omega) (by omega)
    rw [Int.mul_add,Int.mul_one,Int.mul_sub,Int.mul_comm y b,Int.mul_comm y K] at h2
    rw [Int.sub_mul,Int.one_mul] at hm
    omega
   ·have : K = Ab w:=by omega
    subst this
    rw [Rm hy]
    have:=Jg w w
    omega
theorem ZM {K : Int} {w : List Int} (hw : ∀ x ∈ w,0 <= x) (h0 : 0 <= K) (h1 : K <= Ab w) {i : Nat} {x : Int} (hi : w[i]? = some x) : ∃ z,(splitP K w)[i]? = some z /\ 0 <= z /\ z <= x /\ (0 < Ab w -> z * Ab w <= K * x + Ab w /\ K * x - Ab w + 1 <= z * Ab w):=by
 have hx:=hw x (lmg hi)
 unfold splitP
 by_cases hz : Ab w = 0
 ·rw [if_pos hz]
  refine ⟨0,by rw [List.getElem?_map,hi]; rfl,by omega,hx,fun h=>by omega⟩
 ·rw [if_neg hz]
  have hy : 0 < Ab w:=by
   have:=ER w hw
   omega
  obtain ⟨z,hz1,hz2⟩:=MM (K - Ab (BE K (Ab w) w)) (BE K (Ab w) w) w i (K * x / Ab w) x (by rw [BE,List.getElem?_map,hi]; rfl) hi
  refine ⟨z,hz1,?_⟩
  generalize Ab w = y at hy h1 hz2
  have hKx : 0 <= K * x:=Int.mul_nonneg h0 hx
  have hq0 : 0 <= K * x / y:=Int.ediv_nonneg hKx (by omega)
  have hqx : K * x / y <= x:=by
   refine Int.ediv_le_of_le_mul hy ?_
   rw [Int.mul_comm K x]
   exact Int.mul_le_mul_of_nonneg_left h1 hx
  have hd:=Int.mul_ediv_add_emod (K * x) y
  have hm0:=Int.emod_nonneg (K * x) (show y ≠ 0 by omega)
  have hm1:=Int.emod_lt_of_pos (K * x) hy
  rw [Int.mul_comm] at hd
  generalize K * x / y = q at hz2 hq0 hqx hd
  generalize K * x % y = m at hd hm0 hm1
  rcases hz2 with rfl | ⟨rfl,hlt⟩
  ·refine ⟨hq0,hqx,fun _=>⟨by omega,by omega⟩⟩
  ·refine ⟨by omega,by omega,fun _=>?_⟩
   rw [Int.add_mul,Int.one_mul]
   omega
theorem zbf {t : Tr} (h : TreeOk t) : ∀ (i : Nat) (n : Nd),t.nodes[i]? = some n -> ∀ m,i < m -> m <= t.nodes.length -> upR ((t.nodes.take m).reverse) n.id = ancF t.nodes t.nodes.length n.id:=by
 intro i
 induction i using Nat.strongRecOn with
 | _ i ih =>
  intro n hn m
  induction m with
  | zero=>intro hi; omega
  | succ m ihm =>
   intro hi hm
   have hx : t.nodes[m]? = some t.nodes[m]:=lgg (by omega)
   have htk : t.nodes.take (m + 1) = t.nodes.take m ++ [t.nodes[m]]:=by rw [List.take_add_one,hx]; rfl
   generalize t.nodes[m] = x at hx htk
   rw [htk,List.reverse_append]
   simp only [List.reverse_cons,List.reverse_nil,lna,lca,upR]
   by_cases he : x.id = n.id
   ·obtain ⟨rfl,rfl⟩:=h.idx hx hn he
    rw [if_pos rfl,Ro h hn]
    congr 1
    rcases h.nodeAt hn with ⟨h0,_⟩ | ⟨h0,_,j,p,hj,hp,hpe⟩
    ·subst h0
     simp [upR]
    ·rw [if_neg (by omega),<- hpe]
     exact ih j hj p hp m hj (by omega)
   ·rw [if_neg he]
    have : i ≠ m:=by
     rintro rfl
     rw [hx] at hn
     cases hn
     exact he rfl
    exact ihm (by omega) (by omega)
theorem E1 {t : Tr} (h : TreeOk t) {i : Nat} {n : Nd} (hn : t.nodes[i]? = some n) : ancR t n.id = ancF t.nodes t.nodes.length n.id:=by
 rw [ancR,show A6 t n.id = Ao t.nodes n.id by simp [A6,(A5 t).2 h],BZ h.inc hn]
 simp only [Option.isSome_some,if_true]
 unfold up
 have:=zbf h i n hn t.nodes.length (lgs.1 hn).1 (lrf _)
 rwa [List.take_length] at this
theorem JI {t : Tr} (h : TreeOk t) : ∀ (j : Nat) (m : Nd),t.nodes[j]? = some m -> (1 : Int) ∈ ancF t.nodes t.nodes.length m.id:=by
 intro j
 induction j using Nat.strongRecOn with
 | _ j ih =>
  intro m hm
  rcases h.nodeAt hm with ⟨_,h1,_⟩ | ⟨_,_,i,p,hi,hp,hpe⟩
  .rw [<- h1]; exact JX h hm
  .exact (Cm h hm _).2 (Or.inr ⟨by omega,by rw [<- hpe]; exact ih i hi p hp⟩)
theorem Zh {t : Tr} (h : TreeOk t) (l : List Pt) : ∀ (k k' i : Nat) (n : Nd),t.nodes[i]? = some n -> t.nodes.length <= i + k -> t.nodes.length <= i + k' -> BP t.nodes l k n.id = BP t.nodes l k' n.id:=by
 intro k
 induction k with
 | zero=>intro k' i n hn hk; have:=(lgs.1 hn).1; omega
 | succ k ih =>
  intro k' i n hn hk hk'
  cases k' with
  | zero=>have:=(lgs.1 hn).1; omega
  | succ k' =>
   rw [JH,JH]
   congr 1
   refine Ls fun c hc=>?_
   obtain ⟨j,m,hj,hp,rfl⟩:=BR.1 hc
   have hij:=h.kid hn hj hp
   exact ih k' j m hj (by omega) (by omega)
theorem Zj {t : Tr} (h : TreeOk t) : ∀ (i : Nat) (n : Nd),t.nodes[i]? = some n -> ∀ (j : Nat) (m : Nd),t.nodes[j]? = some m -> m.id ∈ ancF t.nodes t.nodes.length n.id -> ∀ c ∈ ancF t.nodes t.nodes.length m.id,c ∈ ancF t.nodes t.nodes.length n.id:=by
 intro i
 induction i using Nat.strongRecOn with
 | _ i ih =>
  intro n hn j m hm ha c hc
  rcases (Cm h hn m.id).1 ha with he | ⟨hi,ha⟩
  ·rw [he] at hc
   exact hc
  ·refine (Cm h hn c).2 (Or.inr ⟨hi,?_⟩)
   rcases h.nodeAt hn with ⟨h0,_⟩ | ⟨_,_,j',p,hj',hp,he⟩
   ·exact absurd h0 hi
   ·rw [<- he] at ha ⊢
    exact ih j' hj' p hp j m hm ha c hc
abbrev subA (t : Tr) (id : Int) : List Int:=subF t.nodes t.nodes.length id
theorem D3 {t : Tr} (h : TreeOk t) {g x : Int} (hg : InN t.nodes g) (hx : x ∈ subA t g) : InN t.nodes x:=by
 obtain ⟨i,n,hn,rfl⟩:=hg
 obtain ⟨j,m,hj,he,_⟩:=(DQ h _ i n hn (by omega) x).1 hx
 exact ⟨j,m,hj,he⟩
theorem Jy {t : Tr} (h : TreeOk t) {g : Int} (hg : InN t.nodes g) : g ∈ subA t g:=by
 rw [subA,H6 h hg]
 simp
theorem Ry {t : Tr} (h : TreeOk t) {g c x : Int} (hg : InN t.nodes g) (hc : c ∈ subA t g) (hx : x ∈ subA t c) : x ∈ subA t g:=by
 obtain ⟨i,n,hn,rfl⟩:=hg
 obtain ⟨j,m,hj,rfl,ha⟩:=(DQ h _ i n hn (by omega) c).1 hc
 obtain ⟨j',m',hj',rfl,ha'⟩:=(DQ h _ j m hj (by omega) x).1 hx
 exact (DQ h _ i n hn (by omega) _).2 ⟨j',m',hj',rfl,Zj h j' m' hj' j m hj ha' _ ha⟩
theorem FA {t : Tr} (h : TreeOk t) {g x : Int} (hg : InN t.nodes g) (hx : InN t.nodes x) : g ∈ ancR t x ↔ x ∈ subA t g:=by
 obtain ⟨i,n,hn,rfl⟩:=hg
 obtain ⟨j,m,hj,rfl⟩:=hx
 rw [E1 h hj,DQ h _ i n hn (by omega)]
 constructor
 ·exact fun ha=>⟨j,m,hj,rfl,ha⟩
 ·rintro ⟨j',m',hj',he,ha⟩
  rw [<- he]
  exact ha
theorem Iy {t : Tr} {g c : Int} (hc : c ∈ kidsN t.nodes g) : InN t.nodes c:=by
 obtain ⟨j,m,hj,_,rfl⟩:=BR.1 hc
 exact ⟨j,m,hj,rfl⟩
theorem LN {t : Tr} (h : TreeOk t) {g : Int} (hg : InN t.nodes g) : subA t g = g :: (kidsN t.nodes g).flatMap (subA t):=H6 h hg
theorem Lu {t : Tr} (h : TreeOk t) {g : Int} (hg : InN t.nodes g) : (subA t g).Nodup:=by
 obtain ⟨i,n,hn,rfl⟩:=hg
 exact He h _ i n hn (by omega)
theorem JG {t : Tr} (h : TreeOk t) (l : List Pt) {g : Int} (hg : InN t.nodes g) : capR t l g = F3 (partOf l g) (Ab ((kidsN t.nodes g).map (capR t l))):=by
 obtain ⟨i,n,hn,rfl⟩:=hg
 have hl:=(lgs.1 hn).1
 rw [capR,Zh h l t.nodes.length (t.nodes.length + 1) i n hn (by omega) (by omega),JH]
def Ar (S : List Int) (l : List (Int × Int)) : Int:=Ab (l.map fun p=>if p.1 ∈ S then p.2 else 0)
theorem HQ (S : List Int) (a b : List (Int × Int)) : Ar S (a ++ b) = Ar S a + Ar S b:=by
 rw [Ar,lma,Ds]
 rfl
theorem DK {S : List Int} : ∀ {l : List (Int × Int)},(∀ q ∈ l,q.1 ∉ S) -> Ar S l = 0
 | [],_=>rfl
 | q :: l,h=>by
  have ih:=DK (l:=l) fun q hq=>h q (by simp [hq])
  have h1:=h q (by simp)
  rw [Ar] at ih ⊢
  rw [lpc,if_neg h1,Ab,ih]
  rfl
theorem Hf {S : List Int} : ∀ {l : List (Int × Int)},(∀ q ∈ l,q.1 ∈ S) -> Ar S l = Ab (l.map Prod.snd)
 | [],_=>rfl
 | q :: l,h=>by
  have ih:=Hf (l:=l) fun q hq=>h q (by simp [hq])
  have h1:=h q (by simp)
  rw [Ar] at ih ⊢
  rw [lpc,if_pos h1,Ab,ih,lpc,Ab]
theorem Yr {a b : List Int} (h : a.Perm b) : Ab a = Ab b:=by
 induction h with
 | nil=>rfl
 | cons x _ ih=>simp only [Ab,ih]
 | swap x y l=>simp only [Ab]; omega
 | trans _ _ ih1 ih2=>rw [ih1,ih2]
theorem Jm {S : List Int} {a b : List (Int × Int)} (h : a.Perm b) : Ar S a = Ar S b:=Yr (h.map _)
theorem KZ {S : List Int} {l : List (Int × Int)} (h : ∀ q ∈ l,0 <= q.2) : 0 <= Ar S l:=by
 refine Cs _ fun q hq=>?_
 have:=h q hq
 split <;> omega
theorem Px {x : Int} {S : List Int} (hx : x ∉ S) : ∀ (l : List (Int × Int)),Ar (x :: S) l = Ar [x] l + Ar S l
 | []=>rfl
 | q :: l=>by
  have ih:=Px hx l
  simp only [Ar,lpc,Ab,lmk,List.not_mem_nil,or_false] at ih ⊢
  by_cases h1 : q.1 = x
  ·simp only [h1,true_or,if_true,if_neg hx] at ih ⊢
   omega
  ·simp only [h1,false_or,if_false] at ih ⊢
   omega
theorem Lq {F : Int × Int -> List (Int × Int)} {G : Int -> List Int} (hF : ∀ p,∀ q ∈ F p,q.1 ∈ G p.1) : ∀ (ks gs : List Int),∀ q ∈ (ks.zip gs).flatMap F,q.1 ∈ ks.flatMap G:=by
 intro ks gs q hq
 obtain ⟨p,hp,hq⟩:=List.mem_flatMap.1 hq
 exact List.mem_flatMap.2 ⟨p.1,(List.of_mem_zip hp).1,hF p q hq⟩
theorem Qj {S : List Int} {F : Int × Int -> List (Int × Int)} {G : Int -> List Int} (hF : ∀ p,∀ q ∈ F p,q.1 ∈ G p.1) : ∀ (ks gs : List Int) (j : Nat) (c gk : Int),(ks.flatMap G).Nodup -> ks[j]? = some c -> gs[j]? = some gk -> (∀ x ∈ S,x ∈ G c) -> Ar S ((ks.zip gs).flatMap F) = Ar S (F (c,gk))
 | [],_,_,_,_,_,h,_,_=>by simp at h
 | _ :: _,[],_,_,_,_,_,h,_=>by simp at h
 | k0 :: ks,g0 :: gs,0,c,gk,hn,hk,hg,hS=>by
  simp only [List.getElem?_cons_zero,osi] at hk hg
  subst hk
  subst hg
  rw [lfc] at hn
  obtain ⟨_,_,h3⟩:=List.nodup_append.1 hn
  rw [List.zip_cons_cons,lfc,HQ,DK (l:=(ks.zip gs).flatMap F),Int.add_zero]
  intro q hq hqS
  exact h3 q.1 (hS _ hqS) q.1 (Lq hF ks gs q hq) rfl
 | k0 :: ks,g0 :: gs,j + 1,c,gk,hn,hk,hg,hS=>by
  simp only [List.getElem?_cons_succ] at hk hg
  rw [lfc] at hn
  obtain ⟨_,h2,h3⟩:=List.nodup_append.1 hn
  rw [List.zip_cons_cons,lfc,HQ,DK (l:=F (k0,g0)),Int.zero_add]
  ·exact Qj hF ks gs j c gk h2 hk hg hS
  ·intro q hq hqS
   exact h3 q.1 (hF _ q hq) q.1 (List.mem_flatMap.2 ⟨c,lmg hk,hS _ hqS⟩) rfl
theorem Se {F : Int × Int -> List (Int × Int)} : ∀ (ks gs : List Int),gs.length = ks.length -> (∀ (j : Nat) (c gk : Int),ks[j]? = some c -> gs[j]? = some gk -> Ab ((F (c,gk)).map Prod.snd) = gk) -> Ab (((ks.zip gs).flatMap F).map Prod.snd) = Ab gs
 | [],[],_,_=>rfl
 | [],_ :: _,h,_=>by simp at h
 | _ :: _,[],h,_=>by simp at h
 | k :: ks,g :: gs,hl,h=>by
  have ih:=Se (F:=F) ks gs (by simpa using hl) fun j c gk hc hg=>h (j + 1) c gk (by simpa using hc) (by simpa using hg)
  have h0:=h 0 k g rfl rfl
  rw [List.zip_cons_cons,lfc,lma,Ds,ih,h0]
  rfl
structure TakeOk (t : Tr) (l : List Pt) (k : Nat) (g K : Int) : Prop where
 all : Ab ((takeN t.nodes l (capR t l) k g K).map Prod.snd) = K
 own : ∀ q ∈ takeN t.nodes l (capR t l) k g K,0 < q.2 /\ q.2 <= (partOf l q.1).own
 sub : ∀ c ∈ subF t.nodes k g,Ar (subA t c) (takeN t.nodes l (capR t l) k g K) <= capR t l c
theorem X9 {t : Tr} (h : TreeOk t) {l : List Pt} {g : Int} (hg : InN t.nodes g) : capR t l g <= Ab ((partOf l g).own :: (kidsN t.nodes g).map (capR t l)):=by
 rw [JG h l hg,F3,Ab]
 omega
theorem Vv {t : Tr} {l : List Pt} (hp : ∀ x ∈ l,PtOk x) (g : Int) (ks : List Int) : ∀ x ∈ (partOf l g).own :: ks.map (capR t l),0 <= x:=by
 intro x hx
 rcases lmk.1 hx with rfl | hx
 ·exact (Eo hp g).o0
 ·obtain ⟨c,_,rfl⟩:=lmm.1 hx
  exact (El (ns:=t.nodes) hp t.nodes.length c).1
theorem IZ (ns : List Nd) (l : List Pt) (cap : Int -> Int) (k : Nat) (g K : Int) : ∀ q ∈ takeN ns l cap k g K,q.1 ∈ subF ns k g:=fun _ hq=>(LK ns l cap k g K).subset (lmm.2 ⟨_,hq,rfl⟩)
theorem Ym {t : Tr} (h : TreeOk t) {l : List Pt} (hp : ∀ x ∈ l,PtOk x) : ∀ (k i : Nat) (n : Nd) (K : Int),t.nodes[i]? = some n -> t.nodes.length <= i + k -> 0 <= K -> K <= capR t l n.id ->
  TakeOk t l k n.id K /\ ∀ (m k' : Nat) (c : Int),k = k' + 1 -> (kidsN t.nodes n.id)[m]? = some c -> ∃ z,(splitP K ((partOf l n.id).own :: (kidsN t.nodes n.id).map (capR t l)))[m + 1]? = some z /\ Ar (subA t c) (takeN t.nodes l (capR t l) k n.id K) = z:=by
 intro k
 induction k with
 | zero=>intro i n K hn hk; have:=(lgs.1 hn).1; omega
 | succ k ih =>
  intro i n K hn hk h0 h1
  have hin : InN t.nodes n.id:=⟨i,n,hn,rfl⟩
  have hnn:=Vv (t:=t) hp n.id (kidsN t.nodes n.id)
  have hle:=Int.le_trans h1 (X9 h (l:=l) hin)
  have hsum:=Ys hnn h0 hle
  have hat:=fun (j : Nat) (x : Int) hj=>ZM hnn h0 hle (i:=j) (x:=x) hj
  have hsl:=KU K ((partOf l n.id).own :: (kidsN t.nodes n.id).map (capR t l))
  have hnd:=Lu h hin
  rw [LN h hin,List.nodup_cons] at hnd
  have hkf : ∀ c ∈ kidsN t.nodes n.id,subF t.nodes k c = subA t c:=by
   intro c hc
   obtain ⟨j,m,hj,hpar,rfl⟩:=BR.1 hc
   have hij:=h.kid hn hj hpar
   exact LM h k t.nodes.length j m hj (by omega) (by omega)
  have hfl : (kidsN t.nodes n.id).flatMap (subF t.nodes k) = (kidsN t.nodes n.id).flatMap (subA t):=IR hkf
  have hrec : ∀ c ∈ kidsN t.nodes n.id,∀ K',0 <= K' -> K' <= capR t l c -> TakeOk t l k c K':=by
   intro c hc K' h0' h1'
   obtain ⟨j,m,hj,hpar,rfl⟩:=BR.1 hc
   have hij:=h.kid hn hj hpar
   exact (ih j m K' hj (by omega) h0' h1').1
  generalize hsp : splitP K ((partOf l n.id).own :: (kidsN t.nodes n.id).map (capR t l)) = sp at hsum hat hsl
  rcases sp with - | ⟨g0,gs⟩
  ·simp at hsl
  have hgl : gs.length = (kidsN t.nodes n.id).length:=by simpa using hsl
  have hg0 : 0 <= g0 /\ g0 <= (partOf l n.id).own:=by
   obtain ⟨z,hz,a,b,_⟩:=hat 0 _ rfl
   have : g0 = z:=by simpa using hz
   subst this
   exact ⟨a,b⟩
  have hgs : ∀ (j : Nat) (c gk : Int),(kidsN t.nodes n.id)[j]? = some c -> gs[j]? = some gk -> 0 <= gk /\ gk <= capR t l c:=by
   intro j c gk hc hg
   obtain ⟨z,hz,a,b,_⟩:=hat (j + 1) (capR t l c) (by rw [List.getElem?_cons_succ,List.getElem?_map,hc]; rfl)
   rw [List.getElem?_cons_succ,hg] at hz
   simp only [osi] at hz
   subst hz
   exact ⟨a,b⟩
  have htk : takeN t.nodes l (capR t l) (k + 1) n.id K = (if 0 < g0 then [(n.id,g0)] else []) ++ ((kidsN t.nodes n.id).zip gs).flatMap fun p=>if 0 < p.2 then takeN t.nodes l (capR t l) k p.1 p.2 else []:=by
   rw [takeN,hsp]
   rfl
  obtain ⟨F,hF⟩ : ∃ F : Int × Int -> List (Int × Int),F = fun p=>if 0 < p.2 then takeN t.nodes l (capR t l) k p.1 p.2 else []:=⟨_,rfl⟩
  rw [<- hF] at htk
  have hFp : ∀ a b,0 < b -> F (a,b) = takeN t.nodes l (capR t l) k a b:=fun a b hb=>by rw [hF]; exact if_pos hb
  have hFn : ∀ a b,¬ 0 < b -> F (a,b) = []:=fun a b hb=>by rw [hF]; exact if_neg hb
  have hFg : ∀ p,∀ q ∈ F p,q.1 ∈ subF t.nodes k p.1:=by
   intro p q hq
   by_cases hb : 0 < p.2
   ·rw [hFp _ _ hb] at hq
    exact IZ _ _ _ _ _ _ q hq
   ·rw [hFn _ _ hb] at hq
    simp at hq
  have hFs : ∀ (j : Nat) (c gk : Int),(kidsN t.nodes n.id)[j]? = some c -> gs[j]? = some gk -> Ab ((F (c,gk)).map Prod.snd) = gk:=by
   intro j c gk hc hg
   have hb:=hgs j c gk hc hg
   by_cases hpos : 0 < gk
   ·rw [hFp _ _ hpos]
    exact (hrec c (lmg hc) gk hb.1 hb.2).all
   ·rw [hFn _ _ hpos]
    simp only [lpn,Ab]
    omega
  have hgrp : ∀ q ∈ ((kidsN t.nodes n.id).zip gs).flatMap F,q.1 ∈ (kidsN t.nodes n.id).flatMap (subA t):=fun q hq=>hfl ▸ Lq hFg _ _ q hq
  have hz:=Se (F:=F) _ _ hgl hFs
  have hhead : ∀ S : List Int,n.id ∉ S -> Ar S (if 0 < g0 then [(n.id,g0)] else []) = 0:=fun S hS=>DK fun q hq=>by
   split at hq
   ·have : q = (n.id,g0):=by simpa using hq
    rw [this]
    exact hS
   ·simp at hq
  have hone : ∀ (j : Nat) (c gk : Int),(kidsN t.nodes n.id)[j]? = some c -> gs[j]? = some gk -> ∀ S : List Int,(∀ x ∈ S,x ∈ subA t c) -> Ar S (takeN t.nodes l (capR t l) (k + 1) n.id K) = Ar S (F (c,gk)):=by
   intro j c gk hc hg S hS
   have hcm:=lmg hc
   rw [htk,HQ,hhead S (fun hx=>hnd.1 (List.mem_flatMap.2 ⟨c,hcm,hS _ hx⟩)),Int.zero_add]
   exact Qj hFg _ _ j c gk (hfl ▸ hnd.2) hc hg (fun x hx=>by rw [hkf c hcm]; exact hS x hx)
  have hall : Ab ((takeN t.nodes l (capR t l) (k + 1) n.id K).map Prod.snd) = K:=by
   rw [htk,lma,Ds,hz]
   simp only [Ab] at hsum
   split
   ·simp only [lpc,lpn,Ab]
    omega
   ·simp only [lpn,Ab]
    omega
  refine ⟨⟨hall,fun q hq=>?_,fun c hc=>?_⟩,fun m k' c _ hc=>?_⟩
  ·rw [htk] at hq
   rcases lmp.1 hq with hq | hq
   ·split at hq
    ·have : q = (n.id,g0):=by simpa using hq
     subst this
     exact ⟨by assumption,hg0.2⟩
    ·simp at hq
   ·obtain ⟨p,hpz,hq⟩:=List.mem_flatMap.1 hq
    by_cases hb : 0 < p.2
    ·rw [hFp _ _ hb] at hq
     obtain ⟨j,hj⟩:=lgm hpz
     have hzz : (kidsN t.nodes n.id)[j]? = some p.1 /\ gs[j]? = some p.2:=by
      rw [List.getElem?_zip_eq_some] at hj
      exact hj
     have hb2:=hgs j _ _ hzz.1 hzz.2
     exact (hrec p.1 (lmg hzz.1) p.2 hb2.1 hb2.2).own q hq
    ·rw [hFn _ _ hb] at hq
     simp at hq
  ·rw [subF,lmk] at hc
   rcases hc with rfl | hc
   ·rw [Hf (fun q hq=>?_),hall]
    ·exact h1
    ·rw [LN h hin]
     have:=IZ _ _ _ _ _ _ q hq
     rw [subF,hfl] at this
     exact this
   ·obtain ⟨d,hd,hc⟩:=List.mem_flatMap.1 hc
    obtain ⟨j,hj⟩:=lgm hd
    have hjl:=(lgs.1 hj).1
    have hg : gs[j]? = some gs[j]:=lgg (by omega)
    generalize gs[j] = gk at hg
    have hb:=hgs j d gk hj hg
    rw [hone j d gk hj hg _ (fun x hx=>Ry h (Iy hd) (by rw [<- hkf d hd]; exact hc) hx)]
    by_cases hpos : 0 < gk
    ·rw [hFp _ _ hpos]
     exact (hrec d hd gk hb.1 hb.2).sub c hc
    ·rw [hFn _ _ hpos]
     exact (El (ns:=t.nodes) hp t.nodes.length c).1
  ·have hjl:=(lgs.1 hc).1
   have hg : gs[m]? = some gs[m]:=lgg (by omega)
   generalize gs[m] = gk at hg
   refine ⟨gk,by rw [List.getElem?_cons_succ,hg],?_⟩
   have hb:=hgs m c gk hc hg
   have hcm:=lmg hc
   rw [hone m c gk hc hg _ (fun x hx=>hx)]
   refine (Hf fun q hq=>?_).trans (hFs m c gk hc hg)
   have:=hFg (c,gk) q hq
   rw [hkf c hcm] at this
   exact this
theorem ZB (l : List (Int × Int)) : (l.map tkP).all PV.flat = true:=by
 rw [List.all_eq_true]
 intro x hx
 obtain ⟨n,_,rfl⟩:=lmm.1 hx
 rfl
attribute [go_sem] ZB
structure RoundOk (t : Tr) (l : List Pt) (root K : Int) (a : List (Int × Int)) : Prop where
 groups : ∀ q ∈ a,q.1 ∈ subA t root
 pos : ∀ q ∈ a,0 < q.2 /\ q.2 <= (partOf l q.1).own
 inc : a.Pairwise fun x y=>x.1 < y.1
 len : a.length <= 64
 on : ∀ c,InN t.nodes c -> Dk t a c = Ar (subA t c) a
 top : Dk t a root = K
 sub : ∀ c ∈ subA t root,Dk t a c <= capR t l c
 kid : ∀ (m : Nat) (c : Int),(kidsN t.nodes root)[m]? = some c -> ∃ z,(splitP K ((partOf l root).own :: (kidsN t.nodes root).map (capR t l)))[m + 1]? = some z /\ Dk t a c = z
theorem ZE {t : Tr} (h : TreeOk t) {c : Int} (hc : InN t.nodes c) : ∀ {a : List (Int × Int)},(∀ q ∈ a,InN t.nodes q.1) -> Dk t a c = Ar (subA t c) a:=by
 intro a ha
 refine Ls fun q hq=>?_
 have:=FA h hc (ha q hq)
 by_cases hh : c ∈ ancR t q.1
 .rw [if_pos hh,if_pos (this.1 hh)]
 .rw [if_neg hh,if_neg (fun x=>hh (this.2 x))]
theorem Lr (l : List (Int × Int)) : (tsort l).Perm l:=List.mergeSort_perm _ _
theorem Yk {l : List (Int × Int)} (h : (l.map Prod.fst).Nodup) : (tsort l).Pairwise fun x y=>x.1 < y.1:=by
 have h1 : (tsort l).Pairwise fun a b=>decide (a.1 <= b.1) = true:=List.pairwise_mergeSort (fun a b c h1 h2=>by simp only [decide_eq_true_eq] at *; omega) (fun a b=>by simp only [bot,decide_eq_true_eq]; omega) l
 have h2 : ((tsort l).map Prod.fst).Nodup:=((Lr l).map _).nodup_iff.2 h
 have h3 : (tsort l).Pairwise fun a b=>a.1 ≠ b.1:=by
  rw [List.Nodup,List.pairwise_map] at h2
  exact h2
 refine (h1.and h3).imp ?_
 rintro a b ⟨h1,h2⟩
 simp only [decide_eq_true_eq] at h1
 omega
theorem RH {t : Tr} {l : List Pt} {root n : Int} (hP : PartsOk t l root) (h0 : 0 <= n) (h1 : n <= 16777216) : ∃ a,Cy t l root n = (a,0) /\ RoundOk t l root (min n (capR t l root)) a:=by
 have hT:=hP.tree
 have hcb : 0 <= capR t l root /\ capR t l root <= 16777216:=El (ns:=t.nodes) hP.ok t.nodes.length root
 refine ⟨tsort (takeR t l root (min n (capR t l root))),by rw [Cy,if_pos ((Jj t l root).2 hP),if_pos (by simp [Ap,h0,h1])],?_⟩
 obtain ⟨hr1,hr2,hr3⟩:=Rr (l:=l) hT hP.top (min n (capR t l root))
 obtain ⟨i,m,hm,he⟩:=hP.top
 have hin:=hP.top
 have hml:=(lgs.1 hm).1
 have hmain:=Ym hT hP.ok t.nodes.length i m (min n (capR t l root)) hm (by omega) (by have:=hcb.1; omega) (by rw [he]; omega)
 rw [he] at hmain
 obtain ⟨hM,hK⟩:=hmain
 have hg : ∀ q ∈ takeR t l root (min n (capR t l root)),q.1 ∈ subA t root:=IZ _ _ _ _ _ _
 have hp:=Lr (takeR t l root (min n (capR t l root)))
 have hg' : ∀ q ∈ tsort (takeR t l root (min n (capR t l root))),q.1 ∈ subA t root:=fun q hq=>hg q (hp.mem_iff.1 hq)
 have hon : ∀ c,InN t.nodes c -> Dk t (tsort (takeR t l root (min n (capR t l root)))) c = Ar (subA t c) (tsort (takeR t l root (min n (capR t l root)))):=fun c hc=>ZE hT hc fun q hq=>D3 hT hin (hg' q hq)
 refine ⟨hg',fun q hq=>hM.own q (hp.mem_iff.1 hq),Yk hr3,by rw [hp.length_eq]; exact hr1,hon,?_,fun c hc=>?_,fun j c hj=>?_⟩
 ·rw [hon root hin,Jm hp,Hf hg]
  exact hM.all
 ·rw [hon c (D3 hT hin hc),Jm hp]
  exact hM.sub c hc
 ·have hl : t.nodes.length = (t.nodes.length - 1) + 1:=by omega
  obtain ⟨z,hz1,hz2⟩:=hK j (t.nodes.length - 1) c hl hj
  exact ⟨z,hz1,by rw [hon c (Iy (lmg hj)),Jm hp]; exact hz2⟩
theorem M8 {t : Tr} (h : TreeOk t) {l : List Pt} {g : Int} (hg : InN t.nodes g) : capR t l g <= (partOf l g).room /\ capR t l g <= max 0 ((partOf l g).usage - (partOf l g).protect):=by
 rw [JG h l hg,F3]
 omega
theorem zbQ {t : Tr} (h : TreeOk t) {g c : Int} (hg : InN t.nodes g) (hc : c ∈ kidsN t.nodes g) : c ∈ subA t g:=by
 rw [LN h hg]
 exact lmc _ (List.mem_flatMap.2 ⟨c,hc,Jy h (Iy hc)⟩)
theorem MX {t : Tr} (h : TreeOk t) {g : Int} (hg : InN t.nodes g) : kids t g = kidsN t.nodes g:=by
 obtain ⟨i,n,hn,rfl⟩:=hg
 refine PY ?_
 rw [Cl ((A5 t).2 h),BZ h.inc hn]
 rfl
theorem LL {g : Int} : ∀ {a : List (Int × Int)},(a.Pairwise fun x y=>x.1 < y.1) -> Ar [g] a = 0 \/ ∃ q ∈ a,q.1 = g /\ Ar [g] a = q.2
 | [],_=>Or.inl rfl
 | p :: a,h=>by
  obtain ⟨h1,h2⟩:=lpw.1 h
  have hs : Ar [g] (p :: a) = (if p.1 ∈ [g] then p.2 else 0) + Ar [g] a:=rfl
  by_cases hp : p.1 = g
  ·have hz : Ar [g] a = 0:=DK fun q hq=>by
    have:=h1 q hq
    simp only [List.mem_singleton]
    omega
   rw [hs,hz,if_pos (by simp [hp])]
   exact Or.inr ⟨p,by simp,hp,by omega⟩
  ·rw [hs,if_neg (by simpa using hp),Int.zero_add]
   rcases LL (g:=g) h2 with h3 | ⟨q,hq,h3,h4⟩
   .exact Or.inl h3
   .exact Or.inr ⟨q,by simp [hq],h3,h4⟩
theorem QI {t : Tr} {l : List Pt} {root K : Int} {a : List (Int × Int)} (hl : ∀ x ∈ l,PtOk x) (h : RoundOk t l root K a) (g : Int) : 0 <= Ar [g] a /\ Ar [g] a <= (partOf l g).own:=by
 have h0:=(Eo hl g).o0
 rcases LL (g:=g) h.inc with h1 | ⟨q,hq,h1,h2⟩
 ·omega
 ·have:=h.pos q hq
  rw [h1] at this
  omega
theorem Xl {S : List Int} {a : List (Int × Int)} (h : ∀ q ∈ a,0 <= q.2) (j : Nat) : Ar S (a.take j) <= Ar S a:=by
 refine Og a j fun q hq=>?_
 have:=h q hq
 split <;> omega
theorem zaD {t : Tr} {l : List Pt} {root : Int} (h : PartsOk t l root) {g : Int} (hg : g ∈ subA t root) : ∃ x ∈ l,x.group = g:=by
 obtain ⟨i,n,hn,he⟩:=h.top
 have hsr : subT t root = subA t root:=by rw [<- he]; exact DM h.tree hn
 have : g ∈ l.map (·.group):=by
  rw [h.groups,(D2 _).mem_iff,hsr]
  exact hg
 obtain ⟨y,hy,he⟩:=lmm.1 this
 exact ⟨y,hy,he⟩
theorem IY {t : Tr} {l : List Pt} {root K : Int} {a : List (Int × Int)} (h : RoundOk t l root K a) (g : Int) : 0 <= Dk t a g:=Cs _ fun q hq=>by
 have:=(h.pos q hq).1
 split <;> omega
theorem Rw (f g : Int -> Int) : ∀ (ks : List Int),Ab (ks.map fun c=>f c - g c) = Ab (ks.map f) - Ab (ks.map g)
 | []=>rfl
 | c :: ks=>by
  have:=Rw f g ks
  simp only [lpc,Ab,this]
  omega
def Ei (l : List Hg) (g : Int) : Int:=(Ac l g).file + (Ac l g).anon
def CA (l : List Hg) (g : Int) : Int:=(Ac l g).swap
def An (l : List Hg) : List Ch:=(l.filter fun h=>decide (h.file + h.anon ≠ 0)).map fun h=>⟨h.group,h.file + h.anon⟩
theorem JF (h : Hg) (l : List Hg) : An (h :: l) = (if h.file + h.anon = 0 then [] else [⟨h.group,h.file + h.anon⟩]) ++ An l:=by
 unfold An
 by_cases hn : h.file + h.anon = 0
 ·rw [List.filter_cons_of_neg (by simpa using hn),if_pos hn]
  rfl
 ·rw [List.filter_cons_of_pos (by simpa using hn),if_neg hn]
  rfl
theorem Fx : ∀ {l : List Hg},(l.Pairwise fun a b=>a.group < b.group) -> ∀ g,Aq (An l) g = Ei l g
 | [],_,g=>rfl
 | h :: l,hi,g=>by
  obtain ⟨h0,h1⟩:=lpw.1 hi
  have ih:=Fx h1 g
  have hz : h.group = g -> Aq (An l) g = 0:=fun e=>LU fun c hc=>by
   obtain ⟨x,hx,rfl⟩:=lmm.1 hc
   have:=h0 x (List.mem_filter.1 hx).1
   show x.group ≠ g
   omega
  have hm : Ei (h :: l) g = if h.group = g then h.file + h.anon else Ei l g:=by
   unfold Ei
   rw [show Ac (h :: l) g = if h.group = g then h else Ac l g from rfl]
   split <;> rfl
  rw [JF,hm]
  by_cases hg : h.group = g
  ·rw [if_pos hg]
   by_cases hn : h.file + h.anon = 0
   .rw [if_pos hn,lna,hz hg,hn]
   .rw [if_neg hn,List.singleton_append,Aq,if_pos hg]
  ·rw [if_neg hg]
   by_cases hn : h.file + h.anon = 0
   .rw [if_pos hn,lna,ih]
   .rw [if_neg hn,List.singleton_append,Aq,if_neg hg,ih]
theorem MI : ∀ (l : List Hg),Ab ((An l).map (·.own)) = Ab (l.map fun h=>h.file + h.anon)
 | []=>rfl
 | h :: l=>by
  have ih:=MI l
  rw [JF,lma,Ds,ih,lpc,Ab]
  by_cases hn : h.file + h.anon = 0
  ·rw [if_pos hn]
   simp only [lpn,Ab]
   omega
  ·rw [if_neg hn]
   simp only [lpc,lpn,Ab]
   omega
theorem Dw {ns : List Nd} {z : Int} {l : List Hg} (h : HgOk ns z l) : ChOk ns (An l):=by
 refine ⟨fun c hc=>?_,?_,fun c hc=>?_,by rw [MI]; exact h.mem⟩
 ·obtain ⟨x,hx,rfl⟩:=lmm.1 hc
  exact h.known x (List.mem_filter.1 hx).1
 ·unfold An
  rw [List.pairwise_map]
  exact h.inc.sublist List.filter_sublist
 ·obtain ⟨x,hx,rfl⟩:=lmm.1 hc
  obtain ⟨h1,h2⟩:=List.mem_filter.1 hx
  have:=(h.file x h1).1
  have:=(h.anon x h1).1
  simp only [decide_eq_true_eq] at h2
  show 1 <= x.file + x.anon
  omega
theorem MJ (l : List Hg) : (An l).length <= l.length:=by
 unfold An
 rw [llm]
 exact List.length_filter_le _ _
structure Sh where
 group : Int
 file : Int
 anon : Int
 low : Int
 deriving DecidableEq
def Sh.pv (h : Sh) : PV:=.agg [.int .i64 h.group,.int .i64 h.file,.int .i64 h.anon,.int .i64 h.low]
abbrev Sh.vv (h : Sh) : VVal:=.agg [.p (.int .i64 h.group),.p (.int .i64 h.file),.p (.int .i64 h.anon),.p (.int .i64 h.low)]
abbrev GU (l : List Sh) : PV:=.slice 4 (l.map Sh.pv)
attribute [go_sem] Sh.pv
theorem ZO (l : List Sh) : (l.map Sh.pv).all PV.flat = true:=by
 rw [List.all_eq_true]
 intro x hx
 obtain ⟨n,_,rfl⟩:=lmm.1 hx
 rfl
attribute [go_sem] ZO
abbrev zeroSh : Sh:=⟨0,0,0,0⟩
def AQ (out : Bool) (h : Hg) (n : Int) : Hg:=if out then ⟨h.group,h.file,h.anon - n,h.swap + n⟩ else ⟨h.group,h.file - n,h.anon,h.swap⟩
def Bj (out low : Bool) (id : Int) (k : Sh) (n : Int) : Sh:=⟨id,if out then k.file else k.file + n,if out then k.anon + n else k.anon,if low then k.low + n else k.low⟩
def Eu (out low : Bool) (s : List Hg × (Int -> Sh)) (q : Int × Int) : List Hg × (Int -> Sh):=(putS s.1 (AQ out (Ac s.1 q.1) q.2),fun x=>if x = q.1 then Bj out low q.1 (s.2 q.1) q.2 else s.2 x)
def C0 (out low : Bool) (s : List Hg × (Int -> Sh)) (a : List (Int × Int)) : List Hg × (Int -> Sh):=a.foldl (Eu out low) s
theorem I6 (x : Int) (q : Int × Int) (a : List (Int × Int)) : Ar [x] (q :: a) = (if q.1 = x then q.2 else 0) + Ar [x] a:=by
 simp [Ar,Ab]
theorem OJ (out : Bool) (h : Hg) (n : Int) : (AQ out h n).group = h.group:=by
 unfold AQ
 split <;> rfl
theorem Yp (out : Bool) (h : Hg) (m n : Int) : AQ out (AQ out h m) n = AQ out h (m + n):=by
 unfold AQ
 cases out <;> simp <;> omega
theorem Xj (out : Bool) (h : Hg) : AQ out h 0 = h:=by
 unfold AQ
 cases out <;> simp
theorem OL (out low : Bool) (x : Int) : ∀ (a : List (Int × Int)) (s : List Hg × (Int -> Sh)),Ac (C0 out low s a).1 x = AQ out (Ac s.1 x) (Ar [x] a)
 | [],s=>by
  show Ac s.1 x = AQ out (Ac s.1 x) 0
  rw [Xj]
 | q :: a,s=>by
  have ih:=OL out low x a (Eu out low s q)
  show Ac (C0 out low (Eu out low s q) a).1 x = _
  rw [ih,I6]
  show AQ out (Ac (putS s.1 (AQ out (Ac s.1 q.1) q.2)) x) _ = _
  rw [JK,OJ,Dd]
  by_cases hx : q.1 = x
  ·subst hx
   rw [if_pos rfl,if_pos rfl,Yp]
  .rw [if_neg (fun e=>hx e.symm),if_neg hx,Int.zero_add]
theorem KY (out low : Bool) (x : Int) : ∀ (a : List (Int × Int)) (s : List Hg × (Int -> Sh)),(C0 out low s a).2 x = if x ∈ a.map Prod.fst then Bj out low x (s.2 x) (Ar [x] a) else s.2 x
 | [],s=>by
  show s.2 x = _
  simp
 | q :: a,s=>by
  have ih:=KY out low x a (Eu out low s q)
  show (C0 out low (Eu out low s q) a).2 x = _
  rw [ih,I6]
  simp only [lpc,lmk]
  show (if x ∈ a.map Prod.fst then Bj out low x (if x = q.1 then Bj out low q.1 (s.2 q.1) q.2 else s.2 x) (Ar [x] a) else (if x = q.1 then Bj out low q.1 (s.2 q.1) q.2 else s.2 x)) = _
  by_cases hx : x = q.1
  ·subst hx
   rw [if_pos rfl,if_pos (Or.inl rfl),if_pos rfl]
   by_cases hm : q.1 ∈ a.map Prod.fst
   ·rw [if_pos hm]
    unfold Bj
    cases out <;> cases low <;> simp <;> omega
   ·have hz : Ar [q.1] a = 0:=DK fun r hr hrq=>hm (by
     have : r.1 = q.1:=by simpa using hrq
     rw [<- this]
     exact lmm.2 ⟨r,hr,rfl⟩)
    rw [if_neg hm,hz,Int.add_zero]
  ·have hx' : ¬ q.1 = x:=fun e=>hx e.symm
   rw [if_neg hx,if_neg hx',Int.zero_add]
   by_cases hm : x ∈ a.map Prod.fst
   .rw [if_pos hm,if_pos (Or.inr hm)]
   .rw [if_neg hm,if_neg (fun h=>h.elim hx hm)]
theorem Pv {ns : List Nd} {z : Int} (hzb : z <= 16777216) (out low : Bool) : ∀ (a : List (Int × Int)) (s : List Hg × (Int -> Sh)),HgOk ns z s.1 -> (∀ q ∈ a,0 < q.2 /\ (Ao ns q.1).isSome = true) -> (∀ x,Ar [x] a <= if out then (Ac s.1 x).anon else (Ac s.1 x).file) -> (out = true -> Ab (s.1.map (·.swap)) + Ab (a.map Prod.snd) <= z) ->
  HgOk ns z (C0 out low s a).1 /\ Ab ((C0 out low s a).1.map fun h=>h.file + h.anon) = Ab (s.1.map fun h=>h.file + h.anon) - Ab (a.map Prod.snd) /\ Ab ((C0 out low s a).1.map (·.swap)) = Ab (s.1.map (·.swap)) + if out then Ab (a.map Prod.snd) else 0
 | [], s, h, _, _, _=>by
  refine ⟨h,?_,?_⟩
  ·show Ab (s.1.map _) = _ - 0
   omega
  ·show Ab (s.1.map _) = _ + (if out then 0 else 0)
   cases out <;> simp
 | q :: a,s,h,hq,hs,hz=>by
  obtain ⟨hq0,hqk⟩:=hq q (by simp)
  have hn : ∀ x,0 <= Ar [x] a:=fun x=>KZ fun r hr=>by have:=(hq r (by simp [hr])).1; omega
  have hsa : 0 <= Ab (a.map Prod.snd):=Cs _ fun r hr=>by have:=(hq r (by simp [hr])).1; omega
  obtain ⟨g1,g2,g3⟩:=h.get q.1
  have hsq:=hs q.1
  rw [I6,if_pos rfl] at hsq
  have hnq:=hn q.1
  simp only [lpc,Ab] at hz ⊢
  have hgg : (AQ out (Ac s.1 q.1) q.2).group = q.1:=by rw [OJ,Dd]
  have hsw:=h.out
  have hsn : (Ac s.1 q.1).swap <= Ab (s.1.map (·.swap)):=by
   rcases MG (l:=s.1) (id:=q.1) with he | he
   ·rw [he]
    exact Cs _ fun x hx=>(h.swap x hx).1
   ·have h1 : ∀ y ∈ s.1.map (·.swap),0 <= y:=fun y hy=>by
     obtain ⟨x,hx,rfl⟩:=lmm.1 hy
     exact (h.swap x hx).1
    exact Jd _ h1 (lmm.2 ⟨_,he,rfl⟩)
  have hmm:=h.mem
  unfold Ax at g1 g2 g3
  have h1 : HgOk ns z (putS s.1 (AQ out (Ac s.1 q.1) q.2)) /\ Ab ((putS s.1 (AQ out (Ac s.1 q.1) q.2)).map fun h=>h.file + h.anon) = Ab (s.1.map fun h=>h.file + h.anon) - q.2 /\ Ab ((putS s.1 (AQ out (Ac s.1 q.1) q.2)).map (·.swap)) = Ab (s.1.map (·.swap)) + if out then q.2 else 0:=by
   have e1:=JJ (f:=fun h=>h.file + h.anon) (fun _=>rfl) h.inc (AQ out (Ac s.1 q.1) q.2)
   have e2:=JJ (f:=fun h=>h.swap) (fun _=>rfl) h.inc (AQ out (Ac s.1 q.1) q.2)
   rw [hgg] at e1 e2
   refine ⟨?_,?_,?_⟩
   ·refine h.put (by rw [hgg]; exact hqk) ?_ ?_ ?_ ?_ ?_
    ·cases out <;> simp [AQ,Ax] at hsq ⊢ <;> omega
    ·cases out <;> simp [AQ,Ax] at hsq ⊢ <;> omega
    ·cases out
     ·simp [AQ,Ax]
      omega
     ·have:=hz rfl
      simp [AQ,Ax] at hsq ⊢
      omega
    ·rw [hgg]
     cases out <;> simp [AQ] <;> omega
    ·rw [hgg]
     cases out
     ·simp [AQ]
      omega
     ·have:=hz rfl
      simp [AQ]
      omega
   ·rw [e1]
    cases out <;> simp [AQ] <;> omega
   ·rw [e2]
    cases out <;> simp [AQ] <;> omega
  obtain ⟨h1,h2,h3⟩:=h1
  have ih:=Pv hzb out low a (Eu out low s q) h1 (fun r hr=>hq r (by simp [hr])) (fun x=>by
   have hsx:=hs x
   rw [I6] at hsx
   show Ar [x] a <= if out then (Ac (putS s.1 (AQ out (Ac s.1 q.1) q.2)) x).anon else (Ac (putS s.1 (AQ out (Ac s.1 q.1) q.2)) x).file
   rw [JK,hgg]
   by_cases hx : x = q.1
   ·subst hx
    rw [if_pos rfl] at hsx ⊢
    cases out <;> simp [AQ] at hsx ⊢ <;> omega
   ·rw [if_neg (fun e=>hx e.symm)] at hsx
    rw [if_neg hx]
    omega) (fun ho=>by
   have:=hz ho
   show Ab ((putS s.1 (AQ out (Ac s.1 q.1) q.2)).map (·.swap)) + _ <= z
   rw [h3,if_pos ho]
   omega)
  obtain ⟨i1,i2,i3⟩:=ih
  refine ⟨i1,?_,?_⟩
  ·show Ab ((C0 out low (Eu out low s q) a).1.map _) = _
   rw [i2]
   show Ab ((putS s.1 (AQ out (Ac s.1 q.1) q.2)).map _) - _ = _
   rw [h2]
   omega
  ·show Ab ((C0 out low (Eu out low s q) a).1.map _) = _
   rw [i3]
   show Ab ((putS s.1 (AQ out (Ac s.1 q.1) q.2)).map _) + _ = _
   rw [h3]
   cases out <;> simp <;> omega
theorem Fo (n : Int) : V 66 [.p (.int .i64 n)] [] = some (.p (.bool (Ap n)),[]):=by
 refine Ag (vf:=vf66) rfl ?_
 by_cases h0 : 0 <= n
 ·by_cases h1 : n <= 16777216
  .simp -implicitDefEqProofs only [vf66,KB,h0,h1,Ap,decide_true,bas,go_sem]
  .simp -implicitDefEqProofs only [vf66,KB,h0,h1,Ap,decide_true,decide_false,Bool.and_false,go_sem]
 .simp -implicitDefEqProofs only [vf66,KB,h0,Ap,decide_false,bfa,go_sem]
theorem Gy (sw : Stk) (id : Int) (hl : sw.hs.length < 1000000) : V 36 [sw.vv,.p (.int .i64 id)] [] = some ((Ac sw.hs id).vv,[]):=by
 refine Ag (vf:=vf36) rfl ?_
 simp -implicitDefEqProofs only [vf36,Uf,go_sem]
 obtain ⟨I,hI⟩:=lpI fun k s=>Ac sw.hs id = Ac (sw.hs.drop k) id /\ s.pe 1 = .p (.int .i64 id) /\ s.pe 4 = .ptr (.slot 4 0) 0 0 /\ s.pe 8 = .p (Bc sw.hs) /\ s.pe 9 = .p (.int .i64 ↑sw.hs.length) /\ s.pe 10 = .p (.int .i64 k) /\ s.h (.slot 4 0) = some (0,Ob.box [.p (.int .i64 0),.p (.int .i64 0),.p (.int .i64 0),.p (.int .i64 0)])
 refine Al (sw.hs.length) I ?_ ?_
 ·refine (hI _ _).2 ?_
  and_intros
  ·rfl
  all_goals exact cl0
 intro k s hk hIk
 obtain ⟨ho,hH⟩:=(hI _ _).1 hIk
 clear hIk
 simp -implicitDefEqProofs only [hH,go_sem]
 refine Ah (fun hlt=>?_) (fun hge=>?_)
 ·have hm : sw.hs[k]? = some sw.hs[k]:=lgg hlt
  have hd : sw.hs.drop k = sw.hs[k] :: sw.hs.drop (k + 1):=ldg hlt
  generalize sw.hs[k] = c at hm hd
  rw [hd,Ac] at ho
  by_cases he : c.group = id
  ·subst he
   rw [if_pos rfl] at ho
   simp -implicitDefEqProofs only [hH,hlt,hm,ho,go_sem]
  ·rw [if_neg he] at ho
   simp -implicitDefEqProofs only [hH,hlt,hm,he,go_sem]
   try refine ai ?_
   refine (hI _ _).2 ?_
   and_intros
   .exact ho
   all_goals exact cl0
 ·rw [ldl (by omega),Ac] at ho
  simp -implicitDefEqProofs only [hH,hge,ho,go_sem]
theorem Lb (sw : Stk) (hl : sw.hs.length < 1000000) (hb : ∀ h ∈ sw.hs,Ax h.file /\ Ax h.anon) : V 34 [sw.vv] [] = some (IQ (An sw.hs),[]):=by
 refine Ag (vf:=vf34) rfl ?_
 simp -implicitDefEqProofs (disch:=omega) only [vf34,Uh,go_sem]
 obtain ⟨I,hI⟩:=lpI fun k s=>∃ (acc : List Ch) (w : Nat),An sw.hs = acc ++ An (sw.hs.drop k) /\ acc.length <= k /\ s.pe 2 = .ptr (.slot 2 0) 0 0 /\ s.pe 3 = .ptr (.slot 3 0) 0 0 /\ s.pe 8 = .p (Bc sw.hs) /\ s.pe 9 = .p (.int .i64 ↑sw.hs.length) /\ s.pe 10 = .p (.int .i64 k) /\ s.h (.slot 2 0) = some (0,Ob.box [.own (.slot 2 1) 0 0 0]) /\ s.h (.slot 2 1) = some (0,Ob.arr 2 []) /\ s.h (.slot 3 0) = some (0,Ob.box [.own (.slot 3 1) w 0 acc.length]) /\ s.h (.slot 3 1) = some (w,Ob.arr 2 (acc.map Ch.pv))
 refine Al (sw.hs.length) I ?_ ?_
 ·refine (hI _ _).2 ⟨[],0,?_⟩
  and_intros
  ·rfl
  ·exact lrf _
  all_goals exact cl0
 intro k s hk hIk
 obtain ⟨acc,w,ho,hal,hH⟩:=(hI _ _).1 hIk
 clear hIk
 simp -implicitDefEqProofs (disch:=omega) only [hH,go_sem]
 refine Ah (fun hlt=>?_) (fun hge=>?_)
 ·have hm : sw.hs[k]? = some sw.hs[k]:=lgg hlt
  have hd : sw.hs.drop k = sw.hs[k] :: sw.hs.drop (k + 1):=ldg hlt
  obtain ⟨⟨b1,b2⟩,b3,b4⟩:=hb _ (lmg hm)
  generalize sw.hs[k] = c at hm hd b1 b2 b3 b4
  rw [hd,JF] at ho
  by_cases he : c.file + c.anon = 0
  ·rw [if_pos he,lna] at ho
   simp -implicitDefEqProofs (disch:=omega) only [hH,hlt,hm,he,go_sem]
   try refine ai ?_
   refine (hI _ _).2 ⟨acc,w,?_⟩
   and_intros
   .exact ho
   .omega
   all_goals exact cl0
  ·rw [if_neg he,<- laa] at ho
   simp -implicitDefEqProofs (disch:=omega) only [hH,hlt,hm,he,go_sem]
   try refine ai ?_
   refine (hI _ _).2 ⟨acc ++ [⟨c.group,c.file + c.anon⟩],w + 1,?_⟩
   and_intros
   .exact ho
   .exact by simp; omega
   all_goals exact cl0
 ·rw [ldl (by omega)] at ho
  rw [show An [] = [] from rfl,lan] at ho
  simp -implicitDefEqProofs (disch:=omega) only [hH,hge,go_sem]
  rw [ho]
theorem Sl (sw : Stk) (h : Hg) (hl : sw.hs.length < 1000000) : V 83 [sw.vv,h.vv] [] = some (Stk.fv ⟨putS sw.hs h,sw.size⟩,[]):=by
 refine Ag (vf:=vf83) rfl ?_
 have hps : putS sw.hs h = putGo h (C5 h) sw.hs:=rfl
 generalize putS sw.hs h = R at hps
 rcases Classical.propComplete (h.file = 0) with y1 | y1 <;> rcases Classical.propComplete (h.anon = 0) with y2 | y2 <;> rcases Classical.propComplete (h.swap = 0) with y3 | y3
 all_goals
  have hz : C5 h = (decide (h.file = 0) && decide (h.anon = 0) && decide (h.swap = 0)):=rfl
  simp only [y1,y2,y3,decide_true,decide_false,bau,Bool.and_false] at hz
  simp -implicitDefEqProofs (disch:=omega) only [vf83,TT,y1,y2,y3,go_sem]
  obtain ⟨I,hI⟩:=lpI fun k s=>∃ (acc : List Hg) (d : Bool) (w : Nat),R = acc ++ putGo h d (sw.hs.drop k) /\ acc.length <= 2 * k /\ s.pe 3 = .ptr (.slot 3 0) 0 0 /\ s.pe 4 = .ptr (.slot 4 0) 0 0 /\ s.pe 5 = .ptr (.slot 5 0) 0 0 /\ s.pe 6 = .p (.bool d) /\ s.pe 26 = .p (Bc sw.hs) /\ s.pe 27 = .p (.int .i64 ↑sw.hs.length) /\ s.pe 28 = .p (.int .i64 k) /\ s.h (.slot 3 0) = some (0,Ob.box [.p (.int .i64 h.group),.p (.int .i64 h.file),.p (.int .i64 h.anon),.p (.int .i64 h.swap)]) /\ s.h (.slot 4 0) = some (0,Ob.box [.own (.slot 4 1) 0 0 0,.p (.int .i64 0)]) /\ s.h (.slot 4 1) = some (0,Ob.arr 4 []) /\ s.h (.slot 5 0) = some (0,Ob.box [.own (.slot 11 1) w 0 acc.length,.p (.int .i64 sw.size)]) /\ s.h (.slot 11 1) = some (w,Ob.arr 4 (acc.map Hg.pv))
  refine Al (sw.hs.length) I ?_ ?_
  ·refine (hI _ _).2 ⟨[],C5 h,0,?_⟩
   and_intros
   ·exact by rw [hps]; simp
   ·exact lrf _
   all_goals exact cl0
  intro k s hk hIk
  obtain ⟨acc,d,w,hw,hal,hH⟩:=(hI _ _).1 hIk
  clear hIk
  simp -implicitDefEqProofs (disch:=omega) only [hH,go_sem]
  refine Ah (fun hlt=>?_) (fun hge=>?_)
  ·have hm : sw.hs[k]? = some sw.hs[k]:=lgg hlt
   have hd : sw.hs.drop k = sw.hs[k] :: sw.hs.drop (k + 1):=ldg hlt
   generalize sw.hs[k] = c at hm hd
   rw [hd,putGo] at hw
   cases d with
   | true =>
    by_cases he : c.group = h.group
    ·simp only [he,Bool.not_true,bfa,bft,if_false,if_true,lna,lan,Bool.true_or] at hw
     simp -implicitDefEqProofs (disch:=omega) only [hH,hlt,hm,he,go_sem]
     try refine ai ?_
     refine (hI _ _).2 ⟨acc,true,w,?_⟩
     and_intros
     ·exact hw
     ·omega
     all_goals exact cl0
    ·simp only [he,Bool.not_true,bfa,bft,if_false,lna,Bool.true_or,<- laa] at hw
     simp -implicitDefEqProofs (disch:=omega) only [hH,hlt,hm,he,go_sem]
     try refine ai ?_
     refine (hI _ _).2 ⟨acc ++ [c],true,w + 1,?_⟩
     and_intros
     ·exact hw
     ·exact by simp; omega
     all_goals exact cl0
   | false =>
    by_cases hge : h.group <= c.group
    ·by_cases he : c.group = h.group
     ·simp only [he,Int.le_refl,decide_true,bnf,bas,if_true,lan,Bool.or_true,<- laa] at hw
      simp -implicitDefEqProofs (disch:=omega) only [hH,hlt,hm,he,Int.le_refl,decide_true,go_sem]
      try refine ai ?_
      refine (hI _ _).2 ⟨acc ++ [h],true,w + 1,?_⟩
      and_intros
      .exact hw
      .exact by simp; omega
      all_goals exact cl0
     ·simp only [he,hge,decide_true,bnf,bas,if_true,if_false,Bool.or_true,<- laa] at hw
      simp -implicitDefEqProofs (disch:=omega) only [hH,hlt,hm,hge,he,go_sem]
      try refine ai ?_
      refine (hI _ _).2 ⟨acc ++ [h] ++ [c],true,w + 1 + 1,?_⟩
      and_intros
      .exact hw
      .exact by simp; omega
      all_goals exact cl0
    ·have he : ¬ c.group = h.group:=by omega
     simp only [he,hge,decide_false,bnf,Bool.and_false,bft,if_false,lna,Bool.or_false,<- laa] at hw
     simp -implicitDefEqProofs (disch:=omega) only [hH,hlt,hm,hge,he,go_sem]
     try refine ai ?_
     refine (hI _ _).2 ⟨acc ++ [c],false,w + 1,?_⟩
     and_intros
     .exact hw
     .exact by simp; omega
     all_goals exact cl0
  ·rw [ldl (by omega),putGo] at hw
   cases d with
   | true =>
    simp only [if_true,lan] at hw
    simp -implicitDefEqProofs (disch:=omega) only [hH,hge,go_sem]
    rw [hw]
   | false =>
    simp only [bft,if_false] at hw
    simp -implicitDefEqProofs (disch:=omega) only [hH,hge,go_sem]
    rw [hw]
    simp [Hg.pv]
theorem ZS {c d : Hg} (h : ¬ c = d) : (decide (c.group = d.group) && (decide (c.file = d.file) && (decide (c.anon = d.anon) && decide (c.swap = d.swap)))) = false:=by
 cases c; cases d
 simp only [Hg.mk.injEq] at h
 simp only [Bool.and_eq_false_iff,decide_eq_false_iff_not]
 omega
theorem Mp (a b : List Hg) (hl : a.length < 1000000) : V 20 [.p (Bc a),.p (Bc b)] [] = some (.p (.bool (decide (a = b))),[]):=by
 refine Ag (vf:=vf20) rfl ?_
 by_cases he : a.length = b.length
 ·have he' : ((a.length : Int) = b.length):=by omega
  simp -implicitDefEqProofs (disch:=omega) only [vf20,NF,he',go_sem]
  obtain ⟨I,hI⟩:=lpI fun k s=>a.take k = b.take k /\ s.pe 0 = .p (Bc a) /\ s.pe 1 = .p (Bc b) /\ s.pe 5 = .p (.int .i64 k)
  refine Al (a.length) I ?_ ?_
  ·refine (hI _ _).2 ?_
   and_intros
   ·exact cl3
   all_goals exact cl0
  intro k s hk hIk
  obtain ⟨ht,hH⟩:=(hI _ _).1 hIk
  clear hIk
  simp -implicitDefEqProofs (disch:=omega) only [hH,go_sem]
  refine Ah (fun hlt=>?_) (fun hge=>?_)
  ·have ha : a[k]? = some a[k]:=lgg hlt
   have hb : b[k]? = some b[k]:=lgg (by omega)
   generalize a[k] = c at ha
   generalize b[k] = d at hb
   by_cases hcd : c = d
   ·subst hcd
    simp -implicitDefEqProofs (disch:=omega) only [hH,hlt,ha,hb,Hg.pv,go_sem]
    try refine ai ?_
    refine (hI _ _).2 ?_
    and_intros
    ·exact by rw [List.take_add_one,List.take_add_one,ha,hb,ht]
    all_goals exact cl0
   ·have hne : ¬ a = b:=by
     intro hab
     subst hab
     rw [ha] at hb
     cases hb
     exact hcd rfl
    have hx:=ZS hcd
    simp -implicitDefEqProofs (disch:=omega) only [hH,hlt,ha,hb,hx,hne,decide_false,Hg.pv,go_sem]
  ·have hab : a = b:=by
    rw [ltl (by omega),ltl (by omega)] at ht
    exact ht
   simp -implicitDefEqProofs (disch:=omega) only [hab,decide_true,go_sem]
 ·have he' : ¬ ((a.length : Int) = b.length):=by omega
  have hne : ¬ a = b:=fun h=>he (by rw [h])
  simp -implicitDefEqProofs (disch:=omega) only [vf20,NF,he',hne,decide_false,go_sem]
theorem ZQ {c d : Sh} (h : ¬ c = d) : (decide (c.group = d.group) && (decide (c.file = d.file) && (decide (c.anon = d.anon) && decide (c.low = d.low)))) = false:=by
 cases c; cases d
 simp only [Sh.mk.injEq] at h
 simp only [Bool.and_eq_false_iff,decide_eq_false_iff_not]
 omega
theorem ZR (a b : List Sh) (hl : a.length < 1000000) : V 21 [.p (GU a),.p (GU b)] [] = some (.p (.bool (decide (a = b))),[]):=by
 refine Ag (vf:=vf21) rfl ?_
 by_cases he : a.length = b.length
 ·have he' : ((a.length : Int) = b.length):=by omega
  simp -implicitDefEqProofs (disch:=omega) only [vf21,NE,he',go_sem]
  obtain ⟨I,hI⟩:=lpI fun k s=>a.take k = b.take k /\ s.pe 0 = .p (GU a) /\ s.pe 1 = .p (GU b) /\ s.pe 5 = .p (.int .i64 k)
  refine Al (a.length) I ?_ ?_
  ·refine (hI _ _).2 ?_
   and_intros
   ·exact cl3
   all_goals exact cl0
  intro k s hk hIk
  obtain ⟨ht,hH⟩:=(hI _ _).1 hIk
  clear hIk
  simp -implicitDefEqProofs (disch:=omega) only [hH,go_sem]
  refine Ah (fun hlt=>?_) (fun hge=>?_)
  ·have ha : a[k]? = some a[k]:=lgg hlt
   have hb : b[k]? = some b[k]:=lgg (by omega)
   generalize a[k] = c at ha
   generalize b[k] = d at hb
   by_cases hcd : c = d
   ·subst hcd
    simp -implicitDefEqProofs (disch:=omega) only [hH,hlt,ha,hb,Sh.pv,go_sem]
    try refine ai ?_
    refine (hI _ _).2 ?_
    and_intros
    ·exact by rw [List.take_add_one,List.take_add_one,ha,hb,ht]
    all_goals exact cl0
   ·have hne : ¬ a = b:=by
     intro hab
     subst hab
     rw [ha] at hb
     cases hb
     exact hcd rfl
    have hx:=ZQ hcd
    simp -implicitDefEqProofs (disch:=omega) only [hH,hlt,ha,hb,hx,hne,decide_false,Sh.pv,go_sem]
  ·have hab : a = b:=by
    rw [ltl (by omega),ltl (by omega)] at ht
    exact ht
   simp -implicitDefEqProofs (disch:=omega) only [hab,decide_true,go_sem]
 ·have he' : ¬ ((a.length : Int) = b.length):=by omega
  have hne : ¬ a = b:=fun h=>he (by rw [h])
  simp -implicitDefEqProofs (disch:=omega) only [vf21,NE,he',hne,decide_false,go_sem]
theorem Cd {n : Int} (h : Ap n = true) : 0 <= n /\ n <= 16777216:=by
 simpa [Ap] using h
theorem H5 (t : Tr) (sw : Stk) (hf : t.Fits) (hn : t.nodes.length < 1000000) (hl : sw.hs.length < 1000000) : V 31 [t.vv,sw.vv] [] = some (.p (.bool (BJ t sw)),[]):=by
 refine Ag (vf:=vf31) rfl ?_
 have hc := Gi t hf hn
 have hz := Fo sw.size
 unfold BJ
 rw [show (decide (0 <= sw.size) && decide (sw.size <= 16777216)) = Ap sw.size from rfl]
 by_cases ht : AF t = true
 ·rw [ht] at hc ⊢
  rw [Bool.true_and]
  by_cases hzz : Ap sw.size = true
  ·rw [hzz] at hz ⊢
   rw [Bool.true_and]
   obtain ⟨z0,z1⟩:=Cd hzz
   simp -implicitDefEqProofs (disch:=omega) only [vf31,KG,hc,hz,go_sem]
   obtain ⟨I, hI⟩:=lpI fun k s=>∃ (p : Option Int) (m : Int) (q : Int), DI t.nodes sw.size none 0 0 sw.hs = DI t.nodes sw.size p m q (sw.hs.drop k) /\ (k = 0 -> p = none) /\ (∀ j, k = j + 1 -> ∃ c, sw.hs[j]? = some c /\ p = some c.group) /\ 0 <= m /\ m <= 16777216 /\ 0 <= q /\ q <= sw.size /\ s.pe 2 = .ptr (.slot 2 0) 0 0 /\ s.pe 3 = .ptr (.slot 3 0) 0 0 /\ s.pe 5 = .p (.int .i64 m) /\ s.pe 6 = .p (.int .i64 q) /\ s.pe 21 = .p (Bc sw.hs) /\ s.pe 22 = .p (.int .i64 ↑sw.hs.length) /\ s.pe 23 = .p (.int .i64 k) /\ s.h (.slot 2 0) = some (0, Ob.box [.p (Au t.nodes), .p (.int .i64 t.next)]) /\ s.h (.slot 3 0) = some (0, Ob.box [.p (Bc sw.hs), .p (.int .i64 sw.size)])
   refine Al (sw.hs.length) I ?_ ?_
   ·refine (hI _ _).2 ⟨none,0,0,?_⟩
    and_intros
    ·rfl
    ·exact fun _=>rfl
    ·exact fun j hj=>by omega
    ·omega
    ·omega
    ·omega
    ·omega
    all_goals exact cl0
   intro k s hk hIk
   obtain ⟨p, m, q, hq, hp0, hp1, m0, m1, q0, q1, hH⟩:=(hI _ _).1 hIk
   clear hIk
   simp -implicitDefEqProofs (disch:=omega) only [hH,go_sem]
   refine Ah (fun hlt=>?_) (fun hge=>?_)
   ·have hm : sw.hs[k]? = some sw.hs[k]:=lgg hlt
    have hd : sw.hs.drop k = sw.hs[k] :: sw.hs.drop (k + 1):=ldg hlt
    generalize sw.hs[k] = c at hm hd
    have hfi := DR t c.group hn
    have p1 := Fo c.file
    have p2 := Fo c.anon
    have p3 := Fo c.swap
    rw [hd, Q9] at hq
    rw [show (decide (0 <= c.file) && decide (c.file <= 16777216)) = Ap c.file from rfl,show (decide (0 <= c.anon) && decide (c.anon <= 16777216)) = Ap c.anon from rfl,show (decide (0 <= c.swap) && decide (c.swap <= 16777216)) = Ap c.swap from rfl] at hq
    have hnx : ∀ j,k + 1 = j + 1 -> ∃ c',sw.hs[j]? = some c' /\ some c.group = some c'.group:=fun j hj=>⟨c,by rw [show j = k by omega]; exact hm,rfl⟩
    cases hfs : (Ao t.nodes c.group).isSome with
    | false =>
     rw [hfs] at hfi
     simp only [hfs,bfa] at hq
     generalize (Ao t.nodes c.group).getD zeroNd = nd at hfi
     simp -implicitDefEqProofs (disch:=omega) only [hH,hlt,hm,hfi,Nd.vv,hq,go_sem]
    | true =>
     rw [hfs] at hfi
     rw [hfs, bta] at hq
     generalize (Ao t.nodes c.group).getD zeroNd = nd at hfi
     by_cases hk0 : (0 : Int) < k
     ·obtain ⟨e,he,hpe⟩:=hp1 (k - 1) (by omega)
      have he' : sw.hs[((k : Int) - 1).toNat]? = some e:=by rw [show ((k : Int) - 1).toNat = k - 1 by omega]; exact he
      have hk1 : (0 : Int) <= (k : Int) - 1:=by omega
      subst hpe
      by_cases hle : c.group <= e.group
      ·rw [show prevOk (some e.group) c.group = false from decide_eq_false (by omega)] at hq
       simp only [bfa] at hq
       simp -implicitDefEqProofs (disch:=omega) only [hH,hlt,hm,hfi,Nd.vv,hk0,hk1,he',hle,hq,go_sem]
      ·rw [show prevOk (some e.group) c.group = true from decide_eq_true (by omega),bta] at hq
       cases b1 : Ap c.file with
       | false =>
        rw [b1] at p1 hq
        simp only [bfa] at hq
        simp -implicitDefEqProofs (disch:=omega) only [hH,hlt,hm,hfi,Nd.vv,hk0,hk1,he',hle,p1,hq,go_sem]
       | true =>
        obtain ⟨b10,b11⟩:=Cd b1
        rw [b1] at p1 hq
        rw [Bool.true_and] at hq
        cases b2 : Ap c.anon with
        | false =>
         rw [b2] at p2 hq
         simp only [bfa] at hq
         simp -implicitDefEqProofs (disch:=omega) only [hH,hlt,hm,hfi,Nd.vv,hk0,hk1,he',hle,p1,p2,hq,go_sem]
        | true =>
         obtain ⟨b20,b21⟩:=Cd b2
         rw [b2] at p2 hq
         rw [bta] at hq
         cases b3 : Ap c.swap with
         | false =>
          rw [b3] at p3 hq
          simp only [bfa] at hq
          simp -implicitDefEqProofs (disch:=omega) only [hH,hlt,hm,hfi,Nd.vv,hk0,hk1,he',hle,p1,p2,p3,hq,go_sem]
         | true =>
          obtain ⟨b30,b31⟩:=Cd b3
          rw [b3] at p3 hq
          rw [bta] at hq
          by_cases b4 : c.file + c.anon + c.swap = 0
          ·rw [decide_eq_false (show ¬ (c.file + c.anon + c.swap ≠ 0) from fun h=>h b4)] at hq
           simp only [bfa] at hq
           simp -implicitDefEqProofs (disch:=omega) only [hH,hlt,hm,hfi,Nd.vv,hk0,hk1,he',hle,p1,p2,p3,b4,hq,go_sem]
          ·rw [decide_eq_true (show c.file + c.anon + c.swap ≠ 0 from b4),bta] at hq
           by_cases b5 : 16777216 < m + (c.file + c.anon)
           ·rw [decide_eq_false (show ¬ m + (c.file + c.anon) <= 16777216 by omega)] at hq
            simp only [bfa] at hq
            simp -implicitDefEqProofs (disch:=omega) only [hH,hlt,hm,hfi,Nd.vv,hk0,hk1,he',hle,p1,p2,p3,b4,b5,hq,go_sem]
           ·rw [decide_eq_true (show m + (c.file + c.anon) <= 16777216 by omega),bta] at hq
            by_cases b6 : sw.size < q + c.swap
            ·rw [decide_eq_false (show ¬ q + c.swap <= sw.size by omega)] at hq
             simp only [bfa] at hq
             simp -implicitDefEqProofs (disch:=omega) only [hH,hlt,hm,hfi,Nd.vv,hk0,hk1,he',hle,p1,p2,p3,b4,b5,b6,hq,go_sem]
            ·rw [decide_eq_true (show q + c.swap <= sw.size by omega),bta] at hq
             simp -implicitDefEqProofs (disch:=omega) only [hH,hlt,hm,hfi,Nd.vv,hk0,hk1,he',hle,p1,p2,p3,b4,b5,b6,go_sem]
             try refine ai ?_
             refine (hI _ _).2 ⟨some c.group,m + (c.file + c.anon),q + c.swap,?_⟩
             and_intros
             .exact hq
             .exact by simp
             .exact hnx
             .omega
             .omega
             .omega
             .omega
             all_goals exact cl0
     ·have hpn:=hp0 (by omega)
      subst hpn
      rw [show prevOk none c.group = true from rfl,bta] at hq
      cases b1 : Ap c.file with
      | false =>
       rw [b1] at p1 hq
       simp only [bfa] at hq
       simp -implicitDefEqProofs (disch:=omega) only [hH,hlt,hm,hfi,Nd.vv,hk0,p1,hq,go_sem]
      | true =>
       obtain ⟨b10,b11⟩:=Cd b1
       rw [b1] at p1 hq
       rw [Bool.true_and] at hq
       cases b2 : Ap c.anon with
       | false =>
        rw [b2] at p2 hq
        simp only [bfa] at hq
        simp -implicitDefEqProofs (disch:=omega) only [hH,hlt,hm,hfi,Nd.vv,hk0,p1,p2,hq,go_sem]
       | true =>
        obtain ⟨b20,b21⟩:=Cd b2
        rw [b2] at p2 hq
        rw [bta] at hq
        cases b3 : Ap c.swap with
        | false =>
         rw [b3] at p3 hq
         simp only [bfa] at hq
         simp -implicitDefEqProofs (disch:=omega) only [hH,hlt,hm,hfi,Nd.vv,hk0,p1,p2,p3,hq,go_sem]
        | true =>
         obtain ⟨b30,b31⟩:=Cd b3
         rw [b3] at p3 hq
         rw [bta] at hq
         by_cases b4 : c.file + c.anon + c.swap = 0
         ·rw [decide_eq_false (show ¬ (c.file + c.anon + c.swap ≠ 0) from fun h=>h b4)] at hq
          simp only [bfa] at hq
          simp -implicitDefEqProofs (disch:=omega) only [hH,hlt,hm,hfi,Nd.vv,hk0,p1,p2,p3,b4,hq,go_sem]
         ·rw [decide_eq_true (show c.file + c.anon + c.swap ≠ 0 from b4),bta] at hq
          by_cases b5 : 16777216 < m + (c.file + c.anon)
          ·rw [decide_eq_false (show ¬ m + (c.file + c.anon) <= 16777216 by omega)] at hq
           simp only [bfa] at hq
           simp -implicitDefEqProofs (disch:=omega) only [hH,hlt,hm,hfi,Nd.vv,hk0,p1,p2,p3,b4,b5,hq,go_sem]
          ·rw [decide_eq_true (show m + (c.file + c.anon) <= 16777216 by omega),bta] at hq
           by_cases b6 : sw.size < q + c.swap
           ·rw [decide_eq_false (show ¬ q + c.swap <= sw.size by omega)] at hq
            simp only [bfa] at hq
            simp -implicitDefEqProofs (disch:=omega) only [hH,hlt,hm,hfi,Nd.vv,hk0,p1,p2,p3,b4,b5,b6,hq,go_sem]
           ·rw [decide_eq_true (show q + c.swap <= sw.size by omega),bta] at hq
            simp -implicitDefEqProofs (disch:=omega) only [hH,hlt,hm,hfi,Nd.vv,hk0,p1,p2,p3,b4,b5,b6,go_sem]
            try refine ai ?_
            refine (hI _ _).2 ⟨some c.group,m + (c.file + c.anon),q + c.swap,?_⟩
            and_intros
            .exact hq
            .exact by simp
            .exact hnx
            .omega
            .omega
            .omega
            .omega
            all_goals exact cl0
   ·rw [ldl (by omega)] at hq
    simp only [DI] at hq
    simp -implicitDefEqProofs (disch:=omega) only [hge,hq,go_sem]
  ·have hzf : Ap sw.size = false:=by simpa using hzz
   rw [hzf] at hz ⊢
   simp -implicitDefEqProofs (disch:=omega) only [vf31,KG,hc,hz,bfa,go_sem]
 ·have htf : AF t = false:=by simpa using ht
  rw [htf] at hc ⊢
  simp -implicitDefEqProofs (disch:=omega) only [vf31,KG,hc,bfa,go_sem]
structure Pr where
 group : Int
 least : Int
 low : Int
 deriving DecidableEq
def Pr.pv (h : Pr) : PV:=.agg [.int .i64 h.group,.int .i64 h.least,.int .i64 h.low]
abbrev Pr.vv (h : Pr) : VVal:=.agg [.p (.int .i64 h.group),.p (.int .i64 h.least),.p (.int .i64 h.low)]
abbrev BH (l : List Pr) : PV:=.slice 3 (l.map Pr.pv)
attribute [go_sem] Pr.pv
theorem Z6 (l : List Pr) : (l.map Pr.pv).all PV.flat = true:=by
 rw [List.all_eq_true]
 intro x hx
 obtain ⟨n,_,rfl⟩:=lmm.1 hx
 rfl
attribute [go_sem] Z6
abbrev AJ (n : Int) : Bool:=decide (0 <= n) && decide (n <= 4611686018427387904)
def DG (ns : List Nd) : Option Int -> List Pr -> Bool
 | _,[]=>true
 | p,h :: l=>(Ao ns h.group).isSome && prevOk p h.group && AJ h.least && AJ h.low && DG ns (some h.group) l
def Dt (t : Tr) (l : List Pr) : Bool:=AF t && DG t.nodes none l
structure PrOk (ns : List Nd) (l : List Pr) : Prop where
 known : ∀ h ∈ l,(Ao ns h.group).isSome = true
 inc : l.Pairwise fun a b=>a.group < b.group
 least : ∀ h ∈ l,0 <= h.least /\ h.least <= 4611686018427387904
 low : ∀ h ∈ l,0 <= h.low /\ h.low <= 4611686018427387904
theorem QD (ns : List Nd) : ∀ (l : List Pr) (p : Option Int),DG ns p l = true ↔ PrOk ns l /\ ∀ q,p = some q -> ∀ h ∈ l,q < h.group
 | [],p=>by
  simp only [DG,true_iff]
  exact ⟨⟨by simp,List.Pairwise.nil,by simp,by simp⟩,by simp⟩
 | h :: l,p=>by
  have ih:=QD ns l (some h.group)
  have hp : prevOk p h.group = true ↔ ∀ q,p = some q -> q < h.group:=by cases p <;> simp [prevOk]
  simp only [DG,AJ,bat,decide_eq_true_eq,hp,ih]
  constructor
  ·rintro ⟨⟨⟨⟨h1,h2⟩,h3⟩,h4⟩,⟨a1,a2,a3,a4⟩,h5⟩
   refine ⟨⟨?_,lpw.2 ⟨h5 _ rfl,a2⟩,?_,?_⟩,?_⟩
   ·simp only [lmk,forall_eq_or_imp]; exact ⟨h1,a1⟩
   ·simp only [lmk,forall_eq_or_imp]; exact ⟨h3,a3⟩
   ·simp only [lmk,forall_eq_or_imp]; exact ⟨h4,a4⟩
   ·intro q hq
    have:=h2 q hq
    simp only [lmk,forall_eq_or_imp]
    refine ⟨this,fun c hc=>?_⟩
    have:=h5 _ rfl c hc
    omega
  ·rintro ⟨⟨a1,a2,a3,a4⟩,h5⟩
   simp only [lmk,forall_eq_or_imp] at a1 a3 a4 h5
   obtain ⟨b1,b2⟩:=lpw.1 a2
   refine ⟨⟨⟨⟨a1.1,fun q hq=>(h5 q hq).1⟩,a3.1⟩,a4.1⟩,⟨a1.2,b2,a3.2,a4.2⟩,fun q hq=>?_⟩
   cases hq
   exact b1
theorem G5 (t : Tr) (l : List Pr) : Dt t l = true ↔ TreeOk t /\ PrOk t.nodes l:=by
 simp only [Dt,bat,A5,QD]
 constructor
 .rintro ⟨h1,h2,_⟩; exact ⟨h1,h2⟩
 .rintro ⟨h1,h2⟩; exact ⟨h1,h2,by simp⟩
theorem PN (t : Tr) (l : List Pr) (hf : t.Fits) (hn : t.nodes.length < 1000000) (hl : l.length < 1000000) : V 63 [t.vv,.p (BH l)] [] = some (.p (.bool (Dt t l)),[]):=by
 refine Ag (vf:=vf63) rfl ?_
 have hc := Gi t hf hn
 unfold Dt
 by_cases ht : AF t = true
 ·rw [ht] at hc ⊢
  rw [Bool.true_and]
  simp -implicitDefEqProofs (disch:=omega) only [vf63,NB,hc,go_sem]
  obtain ⟨I,hI⟩:=lpI fun k s=>∃ (p : Option Int),DG t.nodes none l = DG t.nodes p (l.drop k) /\ (k = 0 -> p = none) /\ (∀ j,k = j + 1 -> ∃ c,l[j]? = some c /\ p = some c.group) /\ s.pe 1 = .p (BH l) /\ s.pe 2 = .ptr (.slot 2 0) 0 0 /\ s.pe 12 = .p (BH l) /\ s.pe 13 = .p (.int .i64 ↑l.length) /\ s.pe 14 = .p (.int .i64 k) /\ s.h (.slot 2 0) = some (0,Ob.box [.p (Au t.nodes),.p (.int .i64 t.next)])
  refine Al (l.length) I ?_ ?_
  ·refine (hI _ _).2 ⟨none,?_⟩
   and_intros
   ·rfl
   ·exact fun _=>rfl
   ·exact fun j hj=>by omega
   all_goals exact cl0
  intro k s hk hIk
  obtain ⟨p,hq,hp0,hp1,hH⟩:=(hI _ _).1 hIk
  clear hIk
  simp -implicitDefEqProofs (disch:=omega) only [hH,go_sem]
  refine Ah (fun hlt=>?_) (fun hge=>?_)
  ·have hm : l[k]? = some l[k]:=lgg hlt
   have hd : l.drop k = l[k] :: l.drop (k + 1):=ldg hlt
   generalize l[k] = c at hm hd
   have hfi:=DR t c.group hn
   rw [hd, DG] at hq
   have hnx : ∀ j,k + 1 = j + 1 -> ∃ c',l[j]? = some c' /\ some c.group = some c'.group:=fun j hj=>⟨c,by rw [show j = k by omega]; exact hm,rfl⟩
   cases hfs : (Ao t.nodes c.group).isSome with
   | false =>
    rw [hfs] at hfi
    simp only [hfs,bfa] at hq
    generalize (Ao t.nodes c.group).getD zeroNd = nd at hfi
    simp -implicitDefEqProofs (disch:=omega) only [hH,hlt,hm,hfi,Nd.vv,hq,go_sem]
   | true =>
    rw [hfs] at hfi
    rw [hfs,bta] at hq
    generalize (Ao t.nodes c.group).getD zeroNd = nd at hfi
    by_cases hk0 : (0 : Int) < k
    ·obtain ⟨e,he,hpe⟩:=hp1 (k - 1) (by omega)
     have he' : l[((k : Int) - 1).toNat]? = some e:=by rw [show ((k : Int) - 1).toNat = k - 1 by omega]; exact he
     have hk1 : (0 : Int) <= (k : Int) - 1:=by omega
     subst hpe
     by_cases hle : c.group <= e.group
     ·rw [show prevOk (some e.group) c.group = false from decide_eq_false (by omega)] at hq
      simp only [bfa] at hq
      simp -implicitDefEqProofs (disch:=omega) only [hH,hlt,hm,hfi,Nd.vv,hk0,hk1,he',hle,hq,go_sem]
     ·rw [show prevOk (some e.group) c.group = true from decide_eq_true (by omega),bta] at hq
      by_cases b0 : c.least < 0
      ·rw [show AJ c.least = false by simp [AJ]; omega] at hq
       simp only [bfa] at hq
       simp -implicitDefEqProofs (disch:=omega) only [hH,hlt,hm,hfi,Nd.vv,hk0,hk1,he',hle,b0,hq,go_sem]
      ·skip
       by_cases b1 : 4611686018427387904 < c.least
       ·rw [show AJ c.least = false by simp [AJ]; omega] at hq
        simp only [bfa] at hq
        simp -implicitDefEqProofs (disch:=omega) only [hH,hlt,hm,hfi,Nd.vv,hk0,hk1,he',hle,b0,b1,hq,go_sem]
       ·rw [show AJ c.least = true by simp [AJ]; omega,bta] at hq
        by_cases b2 : c.low < 0
        ·rw [show AJ c.low = false by simp [AJ]; omega] at hq
         simp only [bfa] at hq
         simp -implicitDefEqProofs (disch:=omega) only [hH,hlt,hm,hfi,Nd.vv,hk0,hk1,he',hle,b0,b1,b2,hq,go_sem]
        ·skip
         by_cases b3 : 4611686018427387904 < c.low
         ·rw [show AJ c.low = false by simp [AJ]; omega] at hq
          simp only [bfa] at hq
          simp -implicitDefEqProofs (disch:=omega) only [hH,hlt,hm,hfi,Nd.vv,hk0,hk1,he',hle,b0,b1,b2,b3,hq,go_sem]
         ·rw [show AJ c.low = true by simp [AJ]; omega,bta] at hq
          simp -implicitDefEqProofs (disch:=omega) only [hH,hlt,hm,hfi,Nd.vv,hk0,hk1,he',hle,b0,b1,b2,b3,go_sem]
          try refine ai ?_
          refine (hI _ _).2 ⟨some c.group,?_⟩
          and_intros
          .exact hq
          .exact by simp
          .exact hnx
          all_goals exact cl0
    ·have hpn:=hp0 (by omega)
     subst hpn
     rw [show prevOk none c.group = true from rfl,bta] at hq
     by_cases b0 : c.least < 0
     ·rw [show AJ c.least = false by simp [AJ]; omega] at hq
      simp only [bfa] at hq
      simp -implicitDefEqProofs (disch:=omega) only [hH,hlt,hm,hfi,Nd.vv,hk0,b0,hq,go_sem]
     ·skip
      by_cases b1 : 4611686018427387904 < c.least
      ·rw [show AJ c.least = false by simp [AJ]; omega] at hq
       simp only [bfa] at hq
       simp -implicitDefEqProofs (disch:=omega) only [hH,hlt,hm,hfi,Nd.vv,hk0,b0,b1,hq,go_sem]
      ·rw [show AJ c.least = true by simp [AJ]; omega,bta] at hq
       by_cases b2 : c.low < 0
       ·rw [show AJ c.low = false by simp [AJ]; omega] at hq
        simp only [bfa] at hq
        simp -implicitDefEqProofs (disch:=omega) only [hH,hlt,hm,hfi,Nd.vv,hk0,b0,b1,b2,hq,go_sem]
       ·skip
        by_cases b3 : 4611686018427387904 < c.low
        ·rw [show AJ c.low = false by simp [AJ]; omega] at hq
         simp only [bfa] at hq
         simp -implicitDefEqProofs (disch:=omega) only [hH,hlt,hm,hfi,Nd.vv,hk0,b0,b1,b2,b3,hq,go_sem]
        ·rw [show AJ c.low = true by simp [AJ]; omega,bta] at hq
         simp -implicitDefEqProofs (disch:=omega) only [hH,hlt,hm,hfi,Nd.vv,hk0,b0,b1,b2,b3,go_sem]
         try refine ai ?_
         refine (hI _ _).2 ⟨some c.group,?_⟩
         and_intros
         .exact hq
         .exact by simp
         .exact hnx
         all_goals exact cl0
  ·rw [ldl (by omega)] at hq
   simp only [DG] at hq
   simp -implicitDefEqProofs (disch:=omega) only [hge,hq,go_sem]
 ·have htf : AF t = false:=by simpa using ht
  rw [htf] at hc ⊢
  simp -implicitDefEqProofs (disch:=omega) only [vf63,NB,hc,bfa,go_sem]
abbrev Dm (l : List Pr) : List MKey:=l.map fun x=>MKey.int x.group
theorem zbP (h : Pr) : V 115 [h.vv] [] = some (.p (.int .i64 h.least),[]):=by
 refine Ag (vf:=vf115) rfl ?_
 simp -implicitDefEqProofs only [vf115,Tx,go_sem]
abbrev leaP (l : List Pr) : PV:=.map (.int .i64) (Dm l) (l.map fun x=>PV.int .i64 (min x.least 16777216))
theorem UM (l : List Pr) (hl : l.length < 1000000) (hnd : (l.map (·.group)).Nodup) : V 114 [.p (BH l),.p (.fn 115)] [] = some (.p (leaP l),[]):=by
 refine Ag (vf:=vf114) rfl ?_
 simp -implicitDefEqProofs (disch:=omega) only [vf114,Nj,go_sem]
 obtain ⟨I,hI⟩:=lpI fun k s=>s.pe 1 = .p (.fn 115) /\ s.pe 5 = .mref (.slot 8 0) 0 /\ s.pe 9 = .p (BH l) /\ s.pe 10 = .p (.int .i64 ↑l.length) /\ s.pe 11 = .p (.int .i64 k) /\ s.h (.slot 8 0) = some (0,Ob.map (KT.int IntKind.i64) (Dm (l.take k)) ((l.take k).map fun x=>PV.int .i64 (min x.least 16777216)))
 refine Al (l.length) I ?_ ?_
 ·refine (hI _ _).2 ?_
  and_intros<;>exact cl0
 intro k s hk hIk
 obtain ⟨h1,hH⟩:=(hI _ _).1 hIk
 clear hIk
 simp -implicitDefEqProofs (disch:=omega) only [hH,go_sem]
 refine Ah (fun hlt=>?_) (fun hge=>?_)
 ·have hm : l[k]? = some l[k]:=lgg hlt
  have htk:=Bf hm
  have hnew : MKey.int l[k].group ∉ Dm (l.take k):=by
   intro h
   obtain ⟨y,hy,he⟩:=lmm.1 h
   have he' : y.group = l[k].group:=by simpa using he
   obtain ⟨i,hi,rfl⟩:=List.mem_take_iff_getElem.1 hy
   have h1 : i < k:=(Nat.lt_min.1 hi).1
   have hnd':=List.pairwise_iff_getElem.1 hnd i k (by simp; omega) (by simpa using hlt) h1
   simp only [List.getElem_map] at hnd'
   exact hnd' he'
  generalize l[k] = x at hm htk hnew
  have hput:=JP (MKey.int x.group) (PV.int .i64 (min x.least 16777216)) (Dm (l.take k)) ((l.take k).map fun x=>PV.int .i64 (min x.least 16777216)) (by simp) hnew
  have e1 : Dm (l.take (k + 1)) = Dm (l.take k) ++ [MKey.int x.group]:=by rw [htk]; simp
  have e2 : ((l.take (k + 1)).map fun x=>PV.int .i64 (min x.least 16777216)) = ((l.take k).map fun x=>PV.int .i64 (min x.least 16777216)) ++ [PV.int .i64 (min x.least 16777216)]:=by rw [htk]; simp
  have hfe:=zbP x
  simp -implicitDefEqProofs (disch:=omega) only [h1,hH,hlt,hm,hfe,hput,go_sem]
  try refine ai ?_
  refine (hI _ _).2 ?_
  and_intros<;>exact cl0
 ·simp -implicitDefEqProofs (disch:=omega) only [hH,hge,go_sem]
  rw [ltl (by omega)]
theorem zbO (h : Pr) : V 116 [h.vv] [] = some (.p (.int .i64 h.low),[]):=by
 refine Ag (vf:=vf116) rfl ?_
 simp -implicitDefEqProofs only [vf116,Tw,go_sem]
abbrev lowP (l : List Pr) : PV:=.map (.int .i64) (Dm l) (l.map fun x=>PV.int .i64 (min x.low 16777216))
theorem UJ (l : List Pr) (hl : l.length < 1000000) (hnd : (l.map (·.group)).Nodup) : V 114 [.p (BH l),.p (.fn 116)] [] = some (.p (lowP l),[]):=by
 refine Ag (vf:=vf114) rfl ?_
 simp -implicitDefEqProofs (disch:=omega) only [vf114,Nj,go_sem]
 obtain ⟨I,hI⟩:=lpI fun k s=>s.pe 1 = .p (.fn 116) /\ s.pe 5 = .mref (.slot 8 0) 0 /\ s.pe 9 = .p (BH l) /\ s.pe 10 = .p (.int .i64 ↑l.length) /\ s.pe 11 = .p (.int .i64 k) /\ s.h (.slot 8 0) = some (0,Ob.map (KT.int IntKind.i64) (Dm (l.take k)) ((l.take k).map fun x=>PV.int .i64 (min x.low 16777216)))
 refine Al (l.length) I ?_ ?_
 ·refine (hI _ _).2 ?_
  and_intros<;>exact cl0
 intro k s hk hIk
 obtain ⟨h1,hH⟩:=(hI _ _).1 hIk
 clear hIk
 simp -implicitDefEqProofs (disch:=omega) only [hH,go_sem]
 refine Ah (fun hlt=>?_) (fun hge=>?_)
 ·have hm : l[k]? = some l[k]:=lgg hlt
  have htk:=Bf hm
  have hnew : MKey.int l[k].group ∉ Dm (l.take k):=by
   intro h
   obtain ⟨y,hy,he⟩:=lmm.1 h
   have he' : y.group = l[k].group:=by simpa using he
   obtain ⟨i,hi,rfl⟩:=List.mem_take_iff_getElem.1 hy
   have h1 : i < k:=(Nat.lt_min.1 hi).1
   have hnd':=List.pairwise_iff_getElem.1 hnd i k (by simp; omega) (by simpa using hlt) h1
   simp only [List.getElem_map] at hnd'
   exact hnd' he'
  generalize l[k] = x at hm htk hnew
  have hput:=JP (MKey.int x.group) (PV.int .i64 (min x.low 16777216)) (Dm (l.take k)) ((l.take k).map fun x=>PV.int .i64 (min x.low 16777216)) (by simp) hnew
  have e1 : Dm (l.take (k + 1)) = Dm (l.take k) ++ [MKey.int x.group]:=by rw [htk]; simp
  have e2 : ((l.take (k + 1)).map fun x=>PV.int .i64 (min x.low 16777216)) = ((l.take k).map fun x=>PV.int .i64 (min x.low 16777216)) ++ [PV.int .i64 (min x.low 16777216)]:=by rw [htk]; simp
  have hfe:=zbO x
  simp -implicitDefEqProofs (disch:=omega) only [h1,hH,hlt,hm,hfe,hput,go_sem]
  try refine ai ?_
  refine (hI _ _).2 ?_
  and_intros<;>exact cl0
 ·simp -implicitDefEqProofs (disch:=omega) only [hH,hge,go_sem]
  rw [ltl (by omega)]
def DY (ns : List Nd) (g : Int) : Int:=((Ao ns g).getD zeroNd).parent
def Db (ns : List Nd) (cl : Int -> Int) (root : Int) : Nat -> Int -> Int
 | 0,_=>0
 | k + 1,g=>if g = root then 0 else if DY ns g = root then cl g else
   if Ab ((kidsN ns (DY ns g)).map cl) <= Db ns cl root k (DY ns g) then cl g else cl g * Db ns cl root k (DY ns g) / Ab ((kidsN ns (DY ns g)).map cl)
def AR (t : Tr) (cl : Int -> Int) (root g : Int) : Int:=Db t.nodes cl root t.nodes.length g
theorem Su {t : Tr} (h : TreeOk t) {i : Nat} {n : Nd} (hn : t.nodes[i]? = some n) : DY t.nodes n.id = n.parent:=by rw [DY,BZ h.inc hn]; rfl
theorem Zd {t : Tr} (h : TreeOk t) (cl : Int -> Int) {root : Int} : ∀ (i : Nat) (n : Nd),t.nodes[i]? = some n -> root ∈ ancF t.nodes t.nodes.length n.id -> ∀ k k',i < k -> i < k' -> Db t.nodes cl root k n.id = Db t.nodes cl root k' n.id:=by
 intro i
 induction i using Nat.strongRecOn with
 | _ i ih =>
  intro n hn ha k k' hk hk'
  obtain ⟨k,rfl⟩ : ∃ m,k = m + 1:=⟨k - 1,by omega⟩
  obtain ⟨k',rfl⟩ : ∃ m,k' = m + 1:=⟨k' - 1,by omega⟩
  simp only [Db,Su h hn]
  by_cases h1 : n.id = root
  ·rw [if_pos h1,if_pos h1]
  ·rw [if_neg h1,if_neg h1]
   rcases (Cm h hn root).1 ha with h2 | ⟨hi,h2⟩
   ·exact absurd h2.symm h1
   ·rcases h.nodeAt hn with ⟨h3,_⟩ | ⟨_,_,j,p,hj,hpn,he⟩
    ·exact absurd h3 hi
    ·rw [<- he] at h2 ⊢
     rw [ih j (by omega) p hpn h2 k k' (by omega) (by omega)]
theorem Me {t : Tr} {cl : Int -> Int} {root : Int} : AR t cl root root = 0:=by
 unfold AR
 cases t.nodes.length with
 | zero=>rfl
 | succ k=>rw [Db,if_pos rfl]
theorem Rj {t : Tr} (h : TreeOk t) (cl : Int -> Int) {root : Int} {i : Nat} {n : Nd} (hn : t.nodes[i]? = some n) {j : Nat} {p : Nd} (hp : t.nodes[j]? = some p) (he : p.id = n.parent) (ha : root ∈ ancF t.nodes t.nodes.length p.id) : AR t cl root n.id = if p.id = root then cl n.id else if Ab ((kidsN t.nodes p.id).map cl) <= AR t cl root p.id then cl n.id else cl n.id * AR t cl root p.id / Ab ((kidsN t.nodes p.id).map cl):=by
 have hij:=h.kid hp hn he.symm
 have hi:=(lgs.1 hn).1
 obtain ⟨N,hN⟩ : ∃ N,t.nodes.length = N + 1:=⟨t.nodes.length - 1,by omega⟩
 have hne : ¬ n.id = root:=by
  intro hr
  obtain ⟨q,m,hm,hme,hqj⟩:=ancUp h j p hp ha
  have:=(h.idx hm hn (by rw [hme,hr])).1
  omega
 have e1 : AR t cl root n.id = Db t.nodes cl root (N + 1) n.id:=by rw [AR,hN]
 have e2 : AR t cl root p.id = Db t.nodes cl root N p.id:=Zd h cl j p hp ha _ _ (by omega) (by omega)
 rw [e1,Db,if_neg hne,Su h hn,<- he,e2]
where
 ancUp {t : Tr} (h : TreeOk t) {root : Int} : ∀ (j : Nat) (p : Nd),t.nodes[j]? = some p -> root ∈ ancF t.nodes t.nodes.length p.id -> ∃ (q : Nat) (m : Nd),t.nodes[q]? = some m /\ m.id = root /\ q <= j:=by
  intro j
  induction j using Nat.strongRecOn with
  | _ j ih =>
   intro p hp ha
   rcases (Cm h hp root).1 ha with h2 | ⟨hi,h2⟩
   ·exact ⟨j,p,hp,h2.symm,lrf _⟩
   ·rcases h.nodeAt hp with ⟨h3,_⟩ | ⟨_,_,i,q,hi2,hq,he⟩
    ·exact absurd h3 hi
    ·rw [<- he] at h2
     obtain ⟨a,b,c,d,e⟩:=ih i (by omega) q hq h2
     exact ⟨a,b,c,d,by omega⟩
theorem Ie (ns : List Nd) : ∀ (k : Nat) (l : List Int) (A : List Int) (x : Int) (B : List Int),l.flatMap (subF ns k) = A ++ x :: B -> x ∈ l \/ x ∈ A.flatMap (kidsN ns)
 | 0, l, A, x, B, he=>by
  exfalso
  have : l.flatMap (subF ns 0) = []:=by
   rw [List.flatMap_eq_nil_iff]
   intro y _
   rfl
  rw [this] at he
  simp at he
 | k + 1,[],A,x,B,he=>by simp at he
 | k + 1,y :: l,A,x,B,he=>by
  rw [lfc,subF,lca] at he
  cases A with
  | nil =>
   rw [lna,List.cons.injEq] at he
   exact Or.inl (by rw [<- he.1]; exact lms ..)
  | cons a A =>
   rw [lca,List.cons.injEq] at he
   obtain ⟨rfl,he⟩:=he
   rcases List.append_eq_append_iff.1 he with ⟨c,rfl,hc⟩ | ⟨c,hc1,hc2⟩
   ·rcases Ie ns (k + 1) l c x B hc with h | h
    ·exact Or.inl (lmc _ h)
    ·right
     rw [lfc,List.flatMap_append]
     simp [h]
   ·cases c with
    | nil =>
     rw [lna] at hc2
     rcases Ie ns (k + 1) l [] x B hc2.symm with h | h
     ·exact Or.inl (lmc _ h)
     ·simp at h
    | cons z c =>
     rw [lca,List.cons.injEq] at hc2
     obtain ⟨rfl,_⟩:=hc2
     rcases Ie ns k _ A x c hc1 with h | h
     ·right
      rw [lfc]
      simp [h]
     ·right
      rw [lfc]
      simp [h]
def RepD (ks : List MKey) (vs : List PV) (f : Int -> Int) : Prop:=∀ id,(AN ks vs (.int id)).getD (.int .i64 0) = .int .i64 (f id)
theorem RepD.put {ks : List MKey} {vs : List PV} {f : Int -> Int} (h : RepD ks vs f) (g v : Int) : RepD (At ks vs (.int g) (.int .i64 v)).1 (At ks vs (.int g) (.int .i64 v)).2 (fun x=>if x = g then v else f x):=by
 intro id
 rw [H7]
 by_cases hg : id = g
 ·subst hg
  simp
 ·simp [hg]
  exact h id
theorem RepD.congr {ks : List MKey} {vs : List PV} {f g : Int -> Int} (h : RepD ks vs f) (he : ∀ x,f x = g x) : RepD ks vs g:=fun id=>by rw [<- he]; exact h id
theorem RepD.nil : RepD [] [] fun _=>0:=fun _=>rfl
theorem Qb (ns : List Nd) (cl : Int -> Int) (hb : ∀ x,0 <= cl x /\ cl x <= 16777216) (root : Int) : ∀ (k : Nat) (g : Int),0 <= Db ns cl root k g /\ Db ns cl root k g <= cl g
 | 0, g=>⟨Int.le_refl _, (hb g).1⟩
 | k + 1,g=>by
  have ih:=Qb ns cl hb root k (DY ns g)
  have hg:=hb g
  unfold Db
  split
  ·omega
  ·split
   ·omega
   ·split
    ·omega
    ·rename_i h1
     have hs : Db ns cl root k (DY ns g) < Ab ((kidsN ns (DY ns g)).map cl):=by omega
     generalize Db ns cl root k (DY ns g) = e at ih hs
     generalize Ab ((kidsN ns (DY ns g)).map cl) = s at hs
     generalize cl g = c at hg
     refine ⟨Int.ediv_nonneg (Int.mul_nonneg hg.1 ih.1) (by omega),?_⟩
     have h2 : c * e <= c * s:=Int.mul_le_mul_of_nonneg_left (by omega) hg.1
     refine Int.le_trans (Int.ediv_le_ediv (by omega) h2) ?_
     rw [Int.mul_ediv_cancel _ (by omega)]
     exact Int.le_refl _
theorem Jt (t : Tr) (cl : Int -> Int) (hb : ∀ x,0 <= cl x /\ cl x <= 16777216) (root g : Int) : 0 <= AR t cl root g /\ AR t cl root g <= 16777216:=by
 have:=Qb t.nodes cl hb root t.nodes.length g
 have:=hb g
 unfold AR
 omega
def DC (D : List Int) (f : Int -> Int) (x : Int) : Int:=if x ∈ D then f x else 0
theorem Ss {t : Tr} (h : TreeOk t) {root : Int} (hr : InN t.nodes root) {uk sk : List MKey} {uv sv : List PV} {u s0 : Int -> Int} (hu : RepD uk uv u) (hs : RepD sk sv s0) (hb : ∀ x,0 <= min (u x) (s0 x) /\ min (u x) (s0 x) <= 16777216) : ∃ ks vs,V 113 [t.vv,.mref (.arg 0 0) 0,.p (.map (.int .i64) sk sv),.p (.int .i64 root)] [.map (.int .i64) uk uv] = some (.p (.map (.int .i64) ks vs),[.map (.int .i64) uk uv]) /\ RepD ks vs (DC ((subT t root).flatMap (kidsN t.nodes)) (AR t (fun x=>min (u x) (s0 x)) root)):=by
 suffices hw : wp (BW V vf113 [t.vv,.mref (.arg 0 0) 0,.p (.map (.int .i64) sk sv),.p (.int .i64 root)] [.map (.int .i64) uk uv]) (fun r=>∃ ks vs,r = (.p (.map (.int .i64) ks vs),[.map (.int .i64) uk uv]) /\ RepD ks vs (DC ((subT t root).flatMap (kidsN t.nodes)) (AR t (fun x=>min (u x) (s0 x)) root))) by
  obtain ⟨r,hr,ks,vs,rfl,hrep⟩:=hw
  exact ⟨ks,vs,E9 (vf:=vf113) rfl hr,hrep⟩
 have hsub:=Kb root h
 have hsl:=CZ h root
 have hlen:=h.len
 have hST : subT t root = subF t.nodes t.nodes.length root:=by
  obtain ⟨i,n,hn,rfl⟩:=hr
  simp [subT,Cl ((A5 t).2 h),BZ h.inc hn]
 have heff:=Jt t (fun x=>min (u x) (s0 x)) hb root
 generalize hS : subT t root = S at hsub hsl hST
 simp -implicitDefEqProofs (disch:=omega) only [vf113,Ty,hsub,go_sem]
 obtain ⟨I,hI⟩:=lpI fun k s=>∃ (ks : List MKey) (vs : List PV),RepD ks vs (DC ((S.take k).flatMap (kidsN t.nodes)) (AR t (fun x=>min (u x) (s0 x)) root)) /\ s.pe 1 = .mref (.arg 0 0) 0 /\ s.pe 2 = .p (PV.map (KT.int IntKind.i64) sk sv) /\ s.pe 3 = .p (.int .i64 root) /\ s.pe 4 = .ptr (.slot 4 0) 0 0 /\ s.pe 9 = .mref (.slot 18 0) 0 /\ s.pe 21 = .own (.slot 21 1) 0 0 S.length /\ s.pe 22 = .p (.int .i64 ↑S.length) /\ s.pe 23 = .p (.int .i64 k) /\ s.h (.arg 0 0) = some (0,Ob.map (KT.int IntKind.i64) uk uv) /\ s.h (.slot 4 0) = some (0,Ob.box [.p (Au t.nodes),.p (.int .i64 t.next)]) /\ s.h (.slot 18 0) = some (0,Ob.map (KT.int IntKind.i64) ks vs) /\ s.h (.slot 21 1) = some (0,Ob.arr 1 (List.map (.int .i64) S))
 refine Al (S.length) I ?_ ?_
 ·refine (hI _ _).2 ⟨[],[],?_⟩
  and_intros
  ·exact RepD.nil.congr fun x=>by simp [DC]
  all_goals exact cl0
 intro k s hk hIk
 obtain ⟨ks,vs,hrep,h1,hH⟩:=(hI _ _).1 hIk
 clear hIk
 simp -implicitDefEqProofs (disch:=omega) only [hH,go_sem]
 refine Ah (fun hlt=>?_) (fun hge=>?_)
 ·have hm : S[k]? = some S[k]:=lgg hlt
  have htk:=Bf hm
  have hsp0 : S.take k ++ S[k] :: S.drop (k + 1) = S:=by rw [<- ldg hlt,List.take_append_drop]
  generalize S[k] = g at hm htk hsp0
  have hk:=Ik t g (by omega)
  have hkl:=Fr t.nodes g
  have hfm : (S.take (k + 1)).flatMap (kidsN t.nodes) = (S.take k).flatMap (kidsN t.nodes) ++ kidsN t.nodes g:=by rw [htk]; simp
  obtain ⟨ri,rn,hrn,hre⟩:=hr
  have hgS : g ∈ subF t.nodes t.nodes.length rn.id:=by rw [hre,<- hST]; exact lmg hm
  obtain ⟨gi,gn,hgn,hge',hga⟩:=(DQ h _ ri rn hrn (by omega) g).1 hgS
  rw [hre] at hga
  have hgD : ¬ g = root -> g ∈ (S.take k).flatMap (kidsN t.nodes):=by
   intro hne
   have hsp : [root].flatMap (subF t.nodes t.nodes.length) = S.take k ++ g :: S.drop (k + 1):=by
    rw [lfc,List.flatMap_nil,lan,<- hST]
    exact hsp0.symm
   rcases Ie t.nodes _ _ _ _ _ hsp with h1 | h1
   ·exact absurd (List.mem_singleton.1 h1) hne
   ·exact h1
  have hstep : ∀ x ∈ kidsN t.nodes g,¬ g = x /\ True /\ AR t (fun x=>min (u x) (s0 x)) root x = if g = root then min (u x) (s0 x) else if Ab ((kidsN t.nodes g).map fun x=>min (u x) (s0 x)) <= AR t (fun x=>min (u x) (s0 x)) root g then min (u x) (s0 x) else min (u x) (s0 x) * AR t (fun x=>min (u x) (s0 x)) root g / Ab ((kidsN t.nodes g).map fun x=>min (u x) (s0 x)):=by
   intro x hxk
   obtain ⟨xj,xm,hxm,hxp,rfl⟩:=BR.1 hxk
   have hlt2:=h.kid hgn hxm (by rw [hxp,hge'])
   refine ⟨fun he=>?_,trivial,?_⟩
   ·have:=(h.idx hgn hxm (by rw [hge',he])).1
    omega
   ·have:=Rj h (fun x=>min (u x) (s0 x)) (root:=root) hxm hgn (by rw [hge',hxp]) hga
    rw [hge'] at this
    exact this
  generalize hG : kidsN t.nodes g = G at hk hkl hfm hstep
  simp -implicitDefEqProofs (disch:=omega) only [hH,hlt,hm,hk,go_sem]
  obtain ⟨J,hJ⟩:=lpI fun j s=>∃ (q : Int) (v29_1 : Nat),Ab (G.map fun x=>min (u x) (s0 x)) = q + Ab ((G.drop j).map fun x=>min (u x) (s0 x)) /\ 0 <= q /\ q <= 16777216 * j /\ s.pe 1 = .mref (.arg 0 0) 0 /\ s.pe 2 = .p (PV.map (KT.int IntKind.i64) sk sv) /\ s.pe 3 = .p (.int .i64 root) /\ s.pe 4 = .ptr (.slot 4 0) 0 0 /\ s.pe 9 = .mref (.slot 18 0) 0 /\ s.pe 11 = .p (.int .i64 g) /\ s.pe 12 = .own (.slot 29 1) v29_1 0 G.length /\ s.pe 13 = .p (.int .i64 q) /\ s.pe 21 = .own (.slot 21 1) 0 0 S.length /\ s.pe 22 = .p (.int .i64 ↑S.length) /\ s.pe 23 = .p (.int .i64 ↑k) /\ s.pe 30 = .own (.slot 29 1) v29_1 0 G.length /\ s.pe 31 = .p (.int .i64 ↑G.length) /\ s.pe 32 = .p (.int .i64 j) /\ s.h (.arg 0 0) = some (0,Ob.map (KT.int IntKind.i64) uk uv) /\ s.h (.slot 4 0) = some (0,Ob.box [.p (Au t.nodes),.p (.int .i64 t.next)]) /\ s.h (.slot 18 0) = some (0,Ob.map (KT.int IntKind.i64) ks vs) /\ s.h (.slot 21 1) = some (0,Ob.arr 1 (List.map (.int .i64) S)) /\ s.h (.slot 29 1) = some (v29_1,Ob.arr 1 (List.map (.int .i64) G))
  refine Al (G.length) J ?_ ?_
  ·refine (hJ _ _).2 ⟨0,nv (Cq [29] s.h (.slot 29 1)),?_⟩
   and_intros
   ·exact by simp
   ·omega
   ·omega
   all_goals exact cl0
  intro j s hj hJk
  obtain ⟨q,v29_1,hq,q0,q1,h1,hH⟩:=(hJ _ _).1 hJk
  clear hJk
  simp -implicitDefEqProofs (disch:=omega) only [hH,go_sem]
  refine Ah (fun hjl=>?_) (fun hjg=>?_)
  ·have hx : G[j]? = some G[j]:=lgg hjl
   have hdr : G.drop j = G[j] :: G.drop (j + 1):=ldg hjl
   generalize G[j] = x at hx hdr
   rw [hdr,lpc,Ab,<- Int.add_assoc] at hq
   have hux:=hu x
   have hsx:=hs x
   obtain ⟨c0,c1⟩:=hb x
   simp -implicitDefEqProofs (disch:=omega) only [h1,hH,hjl,hx,hux,hsx,go_sem]
   try refine ai ?_
   refine (hJ _ _).2 ⟨q + min (u x) (s0 x),v29_1,?_⟩
   and_intros
   ·exact hq
   ·omega
   ·exact by push_cast; omega
   all_goals exact cl0
  ·rw [ldl (by omega),lpn,Ab,Int.add_zero] at hq
   have hjG : j = G.length:=by omega
   simp -implicitDefEqProofs (disch:=omega) only [hH,hjg,go_sem]
   obtain ⟨P,hP⟩:=lpI fun p s=>∃ (ks : List MKey) (vs : List PV),RepD ks vs (DC ((S.take k).flatMap (kidsN t.nodes) ++ G.take p) (AR t (fun x=>min (u x) (s0 x)) root)) /\ s.pe 1 = .mref (.arg 0 0) 0 /\ s.pe 2 = .p (PV.map (KT.int IntKind.i64) sk sv) /\ s.pe 3 = .p (.int .i64 root) /\ s.pe 4 = .ptr (.slot 4 0) 0 0 /\ s.pe 9 = .mref (.slot 18 0) 0 /\ s.pe 11 = .p (.int .i64 g) /\ s.pe 13 = .p (.int .i64 q) /\ s.pe 21 = .own (.slot 21 1) 0 0 S.length /\ s.pe 22 = .p (.int .i64 ↑S.length) /\ s.pe 23 = .p (.int .i64 ↑k) /\ s.pe 46 = .own (.slot 29 1) v29_1 0 G.length /\ s.pe 47 = .p (.int .i64 ↑G.length) /\ s.pe 48 = .p (.int .i64 p) /\ s.h (.arg 0 0) = some (0,Ob.map (KT.int IntKind.i64) uk uv) /\ s.h (.slot 4 0) = some (0,Ob.box [.p (Au t.nodes),.p (.int .i64 t.next)]) /\ s.h (.slot 18 0) = some (0,Ob.map (KT.int IntKind.i64) ks vs) /\ s.h (.slot 21 1) = some (0,Ob.arr 1 (List.map (.int .i64) S)) /\ s.h (.slot 29 1) = some (v29_1,Ob.arr 1 (List.map (.int .i64) G))
   refine Al (G.length) P ?_ ?_
   ·refine (hP _ _).2 ⟨ks,vs,?_⟩
    and_intros
    ·exact by simpa using hrep
    all_goals exact cl0
   intro p s hp hPk
   obtain ⟨ks,vs,hrp,h1,hH⟩:=(hP _ _).1 hPk
   clear hPk
   simp -implicitDefEqProofs (disch:=omega) only [hH,go_sem]
   refine Ah (fun hpl=>?_) (fun hpg=>?_)
   ·have hx : G[p]? = some G[p]:=lgg hpl
    have htp:=Bf hx
    generalize G[p] = x at hx htp
    have hux:=hu x
    have hsx:=hs x
    obtain ⟨c0,c1⟩:=hb x
    obtain ⟨st1,st2,st3⟩:=hstep x (lmg hx)
    have hrx:=hrp.put x (min (u x) (s0 x))
    have lg:=hrx g
    have lx:=hrx x
    simp only [if_neg st1,if_pos] at lg lx
    have hnew : ∀ v,v = AR t (fun x=>min (u x) (s0 x)) root x -> ∀ y,(if y = x then v else DC ((S.take k).flatMap (kidsN t.nodes) ++ G.take p) (AR t (fun x=>min (u x) (s0 x)) root) y) = DC ((S.take k).flatMap (kidsN t.nodes) ++ G.take (p + 1)) (AR t (fun x=>min (u x) (s0 x)) root) y:=by
     intro v hv y
     unfold DC
     rw [htp,<- laa]
     by_cases hy : y = x
     ·subst hy
      simp [hv]
     ·simp [hy]
    by_cases hgr : g = root
    ·rw [if_pos hgr] at st3
     have hr2:=hrx.congr (hnew _ st3.symm)
     simp -implicitDefEqProofs (disch:=omega) only [h1,hH,hpl,hx,hux,hsx,hgr,go_sem]
     try refine ai ?_
     refine (hP _ _).2 ⟨(At ks vs (.int x) (.int .i64 (min (u x) (s0 x)))).1,(At ks vs (.int x) (.int .i64 (min (u x) (s0 x)))).2,?_⟩
     and_intros
     ·exact hr2
     all_goals exact cl0
    ·rw [if_neg hgr] at st3
     have hgv : DC ((S.take k).flatMap (kidsN t.nodes) ++ G.take p) (AR t (fun x=>min (u x) (s0 x)) root) g = AR t (fun x=>min (u x) (s0 x)) root g:=by
      unfold DC
      rw [if_pos (lmp.2 (Or.inl (hgD hgr)))]
     rw [hgv] at lg
     have hqs : Ab (G.map fun x=>min (u x) (s0 x)) = q:=hq
     rw [hqs] at st3
     obtain ⟨e0,e1⟩:=heff g
     by_cases hle : q <= AR t (fun x=>min (u x) (s0 x)) root g
     ·rw [if_pos hle] at st3
      have hr2:=hrx.congr (hnew _ st3.symm)
      have hle' : ¬ AR t (fun x=>min (u x) (s0 x)) root g < q:=by omega
      simp -implicitDefEqProofs (disch:=omega) only [h1,hH,hpl,hx,hux,hsx,hgr,lg,hle',go_sem]
      try refine ai ?_
      refine (hP _ _).2 ⟨(At ks vs (.int x) (.int .i64 (min (u x) (s0 x)))).1,(At ks vs (.int x) (.int .i64 (min (u x) (s0 x)))).2,?_⟩
      and_intros
      ·exact hr2
      all_goals exact cl0
     ·rw [if_neg hle] at st3
      have hle' : AR t (fun x=>min (u x) (s0 x)) root g < q:=by omega
      have m0 : 0 <= min (u x) (s0 x) * AR t (fun x=>min (u x) (s0 x)) root g:=Int.mul_nonneg c0 e0
      have m1 : min (u x) (s0 x) * AR t (fun x=>min (u x) (s0 x)) root g <= 16777216 * 16777216:=Int.mul_le_mul c1 e1 e0 (by omega)
      have m2 : (min (u x) (s0 x) * AR t (fun x=>min (u x) (s0 x)) root g).tdiv q = min (u x) (s0 x) * AR t (fun x=>min (u x) (s0 x)) root g / q:=Int.tdiv_eq_ediv_of_nonneg m0
      have m3 : 0 <= min (u x) (s0 x) * AR t (fun x=>min (u x) (s0 x)) root g / q:=Int.ediv_nonneg m0 (by omega)
      have m4 : min (u x) (s0 x) * AR t (fun x=>min (u x) (s0 x)) root g / q <= 16777216 * 16777216:=Int.le_trans (Int.ediv_le_self _ m0) m1
      have hrx2:=hrx.put x (min (u x) (s0 x) * AR t (fun x=>min (u x) (s0 x)) root g / q)
      have hr2:=hrx2.congr (g:=DC ((S.take k).flatMap (kidsN t.nodes) ++ G.take (p + 1)) (AR t (fun x=>min (u x) (s0 x)) root)) fun y=>by
       rw [<- hnew _ st3.symm y]
       by_cases hy : y = x <;> simp [hy]
      generalize hE : AR t (fun x=>min (u x) (s0 x)) root g = E at lg hle' m0 m1 m2 m3 m4 hr2
      simp -implicitDefEqProofs (disch:=omega) only [h1,hH,hpl,hx,hux,hsx,hgr,lg,lx,hle',m2,go_sem]
      try refine ai ?_
      refine (hP _ _).2 ⟨(At (At ks vs (.int x) (.int .i64 (min (u x) (s0 x)))).1 (At ks vs (.int x) (.int .i64 (min (u x) (s0 x)))).2 (.int x) (.int .i64 (min (u x) (s0 x) * E / q))).1,(At (At ks vs (.int x) (.int .i64 (min (u x) (s0 x)))).1 (At ks vs (.int x) (.int .i64 (min (u x) (s0 x)))).2 (.int x) (.int .i64 (min (u x) (s0 x) * E / q))).2,?_⟩
      and_intros
      .exact hr2
      all_goals exact cl0
   ·have hz : G.take p = G:=ltl (by omega)
    rw [hz,<- hfm] at hrp
    simp -implicitDefEqProofs (disch:=omega) only [hH,hpg,go_sem]
    try refine ai ?_
    refine (hI _ _).2 ⟨ks,vs,?_⟩
    and_intros
    .exact hrp
    all_goals exact cl0
 ·simp -implicitDefEqProofs (disch:=omega) only [hH,hge,go_sem]
  rw [ltl (by omega)] at hrep
  exact ⟨ks,vs,rfl,hrep⟩
theorem ChOk.nil (ns : List Nd) : ChOk ns []:=⟨fun c h=>by simp at h,List.Pairwise.nil,fun c h=>by simp at h,by simp [Ab]⟩
theorem ChOk.length {t : Tr} {l : List Ch} (h : ChOk t.nodes l) : l.length <= t.nodes.length:=by
 have:=F4 (l.map (·.group)) (t.nodes.map (·.id)) (Ot h.inc) (fun x hx=>by
  obtain ⟨c,hc,rfl⟩:=lmm.1 hx
  obtain ⟨n,hn,he⟩:=Cu (h.known c hc)
  exact lmm.2 ⟨n,hn,he⟩)
 simpa using this
theorem WX {α : Type} {p : α -> Bool} {l : List α} {k : Nat} {m : α} (hm : l[k]? = some m) : (l.take (k + 1)).filter p = if p m = true then (l.take k).filter p ++ [m] else (l.take k).filter p:=by
 rw [List.take_add_one,hm]
 simp only [Option.toList,List.filter_append,lfl,List.filter_nil]
 split <;> simp
def C6 (t : Tr) (c : List Ch) (n : Nd) : Ch:=⟨n.id,tot t (Aq c) n.id⟩
def GF (t : Tr) (c : List Ch) : List Ch × Int:=if Dx t c = true then ((t.nodes.filter fun n=>decide (0 < tot t (Aq c) n.id)).map (C6 t c),0) else ([],1)
theorem Qg (t : Tr) (c : List Ch) (hf : t.Fits) (hn : t.nodes.length < 1000000) (hl : c.length < 1000000) : V 112 [t.vv,Dq c] [] = some (.tup [.fresh 2 ((GF t c).1.map Ch.pv),.p (.int .i64 (GF t c).2)],[]):=by
 refine Ag (vf:=vf112) rfl ?_
 have hv:=L3 t c hf hn hl
 unfold GF
 cases hvv : Dx t c with
 | false =>
  rw [hvv] at hv
  simp -implicitDefEqProofs (disch:=omega) only [vf112,Nk,hv,go_sem]
  try rfl
 | true =>
  rw [hvv] at hv
  rw [if_pos rfl]
  obtain ⟨h1,h2⟩:=(Fh t c).1 hvv
  obtain ⟨ks,vs,hs,hg⟩:=Sj h1 h2 hn hl
  simp -implicitDefEqProofs (disch:=omega) only [vf112,Nk,hv,hs,go_sem]
  obtain ⟨I,hI⟩:=lpI fun k s=>∃ (acc : List Ch) (w : Nat),acc = ((t.nodes.take k).filter fun n=>decide (0 < tot t (Aq c) n.id)).map (C6 t c) /\ acc.length <= k /\ s.pe 6 = .own (.slot 6 0) w 0 acc.length /\ s.pe 7 = .p (PV.map (KT.int IntKind.i64) ks vs) /\ s.pe 18 = .p (Au t.nodes) /\ s.pe 19 = .p (.int .i64 ↑t.nodes.length) /\ s.pe 20 = .p (.int .i64 k) /\ s.h (.slot 6 0) = some (w,Ob.arr 2 (acc.map Ch.pv))
  refine Al (t.nodes.length) I ?_ ?_
  ·refine (hI _ _).2 ⟨[],0,?_⟩
   and_intros
   ·exact cl3
   ·exact cl3
   all_goals first | exact cl0 | (simp -implicitDefEqProofs (disch:=omega) only [lma,go_sem] <;> first | (simp [Ab]; done) | (simp [Ab]; omega))
  intro k s hk hIk
  obtain ⟨acc,w,hacc,hal,hH⟩:=(hI _ _).1 hIk
  clear hIk
  simp -implicitDefEqProofs (disch:=omega) only [hH,go_sem]
  refine Ah (fun hlt=>?_) (fun hge=>?_)
  ·have hm : t.nodes[k]? = some t.nodes[k]:=lgg hlt
   generalize t.nodes[k] = m at hm
   have hgm:=hg k m hm
   have hst:=WX (p:=fun n : Nd=>decide (0 < tot t (Aq c) n.id)) hm
   by_cases hp : 0 < tot t (Aq c) m.id
   ·simp only [hp,decide_true,if_true] at hst
    have htc : C6 t c m = ⟨m.id,tot t (Aq c) m.id⟩:=rfl
    generalize tot t (Aq c) m.id = T at hgm hp htc
    simp -implicitDefEqProofs (disch:=omega) only [hH,hlt,hm,hgm,hp,go_sem]
    try refine ai ?_
    refine (hI _ _).2 ⟨acc ++ [⟨m.id,T⟩],w + 1,?_⟩
    and_intros
    .exact by rw [hst,lma,hacc,lpc,lpn,htc]
    .exact by simp; omega
    all_goals first | exact cl0 | (simp -implicitDefEqProofs (disch:=omega) only [hH,lma,go_sem] <;> first | (simp [Ab]; done) | (simp [Ab]; omega))
   ·simp only [hp,decide_false,bft,if_false] at hst
    generalize tot t (Aq c) m.id = T at hgm hp
    simp -implicitDefEqProofs (disch:=omega) only [hH,hlt,hm,hgm,hp,go_sem]
    try refine ai ?_
    refine (hI _ _).2 ⟨acc,w,?_⟩
    and_intros
    .exact by rw [hst,hacc]
    .omega
    all_goals first | exact cl0 | (simp -implicitDefEqProofs (disch:=omega) only [hH,lma,go_sem] <;> first | (simp [Ab]; done) | (simp [Ab]; omega))
  ·rw [ltl (by omega)] at hacc
   rw [<- hacc]
   simp -implicitDefEqProofs (disch:=omega) only [hH,hge,go_sem]
   try rfl
def Cz (l : List Ch) (id : Int) : Int:=(Be l id).getD 4611686018427387904
theorem XO {l : List Ch} {k : Nat} {c : Ch} {id : Int} (hm : l[k]? = some c) (h : Be l id = Be (l.drop k) id) : Be l id = if c.group = id then some c.own else Be (l.drop (k + 1)) id:=by
 have hl:=(lgs.1 hm).1
 rw [h,ldg hl]
 rw [lgg hl] at hm
 cases hm
 rfl
theorem zbM (l : List Ch) (id : Int) (hl : l.length < 1000000) : V 135 [.p (AP l),.p (.int .i64 id)] [] = some (.p (.int .i64 (Cz l id)),[]):=by
 refine Ag (vf:=vf135) rfl ?_
 unfold Cz
 simp -implicitDefEqProofs (disch:=omega) only [vf135,Tl,go_sem]
 obtain ⟨I,hI⟩:=lpI fun k s=>Be l id = Be (l.drop k) id /\ s.pe 0 = .p (AP l) /\ s.pe 1 = .p (.int .i64 id) /\ s.pe 5 = .p (.int .i64 k)
 refine Al (l.length) I ?_ ?_
 ·refine (hI _ _).2 ?_
  and_intros
  ·exact cl3
  all_goals first | exact cl0 | (simp -implicitDefEqProofs (disch:=omega) only [h6,h7,h18,h19,h20,hh6_0,lma,go_sem] <;> first | (simp [Ab]; done) | (simp [Ab]; omega))
 intro k s hk hIk
 obtain ⟨hq,hH⟩:=(hI _ _).1 hIk
 clear hIk
 simp -implicitDefEqProofs (disch:=omega) only [hH,go_sem]
 refine Ah (fun hlt=>?_) (fun hge=>?_)
 ·have hm : l[k]? = some l[k]:=lgg hlt
  generalize l[k] = c at hm
  have hst:=XO hm hq
  by_cases hp : c.group = id
  ·rw [if_pos hp] at hst
   simp -implicitDefEqProofs (disch:=omega) only [hH,hlt,hm,hp,hst,Option.getD_some,go_sem]
  ·rw [if_neg hp] at hst
   simp -implicitDefEqProofs (disch:=omega) only [hH,hlt,hm,hp,go_sem]
   try refine ai ?_
   refine (hI _ _).2 ?_
   and_intros
   .exact hst
   all_goals first | exact cl0 | (simp -implicitDefEqProofs (disch:=omega) only [hH,lma,go_sem] <;> first | (simp [Ab]; done) | (simp [Ab]; omega))
 ·rw [ldl (by omega)] at hq
  simp -implicitDefEqProofs (disch:=omega) only [hge,hq,Be,Option.getD_none,go_sem]
def B1 (f : Pr -> Int) : List Pr -> Int -> Int
 | [],_=>0
 | h :: l,id=>if h.group = id then min (f h) 16777216 else B1 f l id
theorem Sn (f : Pr -> Int) (l : List Pr) : RepD (Dm l) (l.map fun x=>PV.int .i64 (min (f x) 16777216)) (B1 f l):=by
 intro id
 induction l with
 | nil=>rfl
 | cons h l ih =>
  simp only [Dm,lpc,AN,MKey.int.injEq,B1]
  by_cases he : h.group = id
  ·simp [he]
  ·have he' : ¬ id = h.group:=fun e=>he e.symm
   simp only [he,he',if_false]
   exact ih
theorem K0 (f : Pr -> Int) {l : List Pr} (h : ∀ x ∈ l,0 <= f x) (id : Int) : 0 <= B1 f l id /\ B1 f l id <= 16777216:=by
 induction l with
 | nil=>exact ⟨by simp [B1],by simp [B1]⟩
 | cons x l ih =>
  have:=h x (by simp)
  have:=ih fun y hy=>h y (by simp [hy])
  unfold B1
  split <;> omega
def Av (t : Tr) (c : List Ch) (x : Int) : Int:=if (Ao t.nodes x).isSome then tot t (Aq c) x else 0
theorem Ov {t : Tr} (h : TreeOk t) {c : List Ch} (hc : ∀ x,0 <= Aq c x) (x : Int) : (Be ((t.nodes.filter fun n=>decide (0 < tot t (Aq c) n.id)).map (C6 t c)) x).getD 0 = Av t c x:=by
 have key : ∀ (l : List Nd),(Be ((l.filter fun n=>decide (0 < tot t (Aq c) n.id)).map (C6 t c)) x).getD 0 = if (l.find? fun n=>decide (n.id = x)).isSome then tot t (Aq c) x else 0:=by
  intro l
  induction l with
  | nil=>rfl
  | cons n l ih =>
   have hn:=Hb t hc n.id
   by_cases hx : n.id = x
   ·subst hx
    by_cases hp : 0 < tot t (Aq c) n.id
    ·simp [hp,Be,C6]
    ·have hz : tot t (Aq c) n.id = 0:=by omega
     simp only [lfl,hp,decide_false,bft,if_false,ih]
     simp [hz]
   ·by_cases hp : 0 < tot t (Aq c) n.id
    ·simp only [lfl,hp,decide_true,if_true,lpc,Be,C6,hx,if_false,List.find?_cons,decide_false]
     exact ih
    ·simp only [lfl,hp,decide_false,bft,if_false,List.find?_cons,hx]
     exact ih
 exact key t.nodes
theorem QO {t : Tr} (h : TreeOk t) {root : Int} (hr : InN t.nodes root) (cl : Int -> Int) {g : Int} (hg : g ∈ subT t root) : DC ((subT t root).flatMap (kidsN t.nodes)) (AR t cl root) g = AR t cl root g:=by
 unfold DC
 by_cases hD : g ∈ (subT t root).flatMap (kidsN t.nodes)
 ·rw [if_pos hD]
 ·rw [if_neg hD]
  have hST : subT t root = subF t.nodes t.nodes.length root:=by
   obtain ⟨i,n,hn,rfl⟩:=hr
   simp [subT,Cl ((A5 t).2 h),BZ h.inc hn]
  obtain ⟨A,B,hAB⟩:=List.append_of_mem hg
  have hsp : [root].flatMap (subF t.nodes t.nodes.length) = A ++ g :: B:=by
   rw [lfc,List.flatMap_nil,lan,<- hST,hAB]
  rcases Ie t.nodes _ _ _ _ _ hsp with h1 | h1
  ·rw [List.mem_singleton.1 h1,Me]
  ·exfalso
   apply hD
   rw [hAB,List.flatMap_append]
   exact lmp.2 (Or.inl h1)
def CP (t : Tr) (c : List Ch) (l : List Pr) (root g : Int) : Pr:=⟨g,AR t (fun x=>min (Av t c x) (B1 (·.least) l x)) root g,AR t (fun x=>min (Av t c x) (B1 (·.low) l x)) root g⟩
theorem zbu {t : Tr} {c : List Ch} {l : List Pr} {root : Int} (h : TreeOk t) (hc : ChOk t.nodes c) (hp : PrOk t.nodes l) (hr : InN t.nodes root) (hl : l.length < 1000000) : V 67 [t.vv,Dq c,.p (BH l),.p (.int .i64 root)] [] = some (.tup [.fresh 3 ((msort (subT t root)).map fun g=>(CP t c l root g).pv),.p (.int .i64 0)],[]):=by
 refine Ag (vf:=vf67) rfl ?_
 have hlen:=h.len
 have hcl:=hc.length
 have hv:=L3 t c h.fits (by omega) (by omega)
 rw [(Fh t c).2 ⟨h,hc⟩] at hv
 have hpv:=PN t l h.fits (by omega) hl
 rw [(G5 t l).2 ⟨h,hp⟩] at hpv
 have hfi:=DR t root (by omega)
 have hfs : (Ao t.nodes root).isSome = true:=by
  obtain ⟨i,n,hn,rfl⟩:=hr
  rw [BZ h.inc hn]; rfl
 rw [hfs] at hfi
 generalize (Ao t.nodes root).getD zeroNd = nd at hfi
 have htt:=Qg t c h.fits (by omega) (by omega)
 have hTK : GF t c = ((t.nodes.filter fun n=>decide (0 < tot t (Aq c) n.id)).map (C6 t c),0):=by
  rw [GF,if_pos ((Fh t c).2 ⟨h,hc⟩)]
 rw [hTK] at htt
 simp only at htt
 have hlk:=Ov h (ES hc.pos)
 have htinc : (((t.nodes.filter fun n=>decide (0 < tot t (Aq c) n.id)).map (C6 t c))).Pairwise fun a b=>a.group < b.group:=by
  rw [List.pairwise_map]
  exact h.inc.filter _
 have htl : ((t.nodes.filter fun n=>decide (0 < tot t (Aq c) n.id)).map (C6 t c)).length <= t.nodes.length:=by
  rw [llm]; exact List.length_filter_le _ _
 generalize (t.nodes.filter fun n=>decide (0 < tot t (Aq c) n.id)).map (C6 t c) = T at htt hlk htinc htl
 simp -implicitDefEqProofs (disch:=omega) only [vf67,T4,hv,hpv,hfi,Nd.vv,htt,go_sem]
 obtain ⟨I,hI⟩:=lpI fun k s=>∃ (ks : List MKey) (vs : List PV),RepD ks vs (fun x=>(Be (T.take k) x).getD 0) /\ s.pe 2 = .p (BH l) /\ s.pe 3 = .p (.int .i64 root) /\ s.pe 4 = .ptr (.slot 4 0) 0 0 /\ s.pe 12 = .mref (.slot 41 0) 0 /\ s.pe 48 = .own (.slot 45 1) 0 0 T.length /\ s.pe 49 = .p (.int .i64 ↑T.length) /\ s.pe 50 = .p (.int .i64 k) /\ s.h (.slot 4 0) = some (0,Ob.box [.p (Au t.nodes),.p (.int .i64 t.next)]) /\ s.h (.slot 41 0) = some (0,Ob.map (KT.int IntKind.i64) ks vs) /\ s.h (.slot 45 1) = some (0,Ob.arr 2 (List.map Ch.pv T))
 refine Al (T.length) I ?_ ?_
 ·refine (hI _ _).2 ⟨[],[],?_⟩
  and_intros
  ·exact RepD.nil.congr fun x=>by simp [Be]
  all_goals exact cl0
 intro k s hk hIk
 obtain ⟨ks,vs,hrep,h2,hH⟩:=(hI _ _).1 hIk
 clear hIk
 simp -implicitDefEqProofs (disch:=omega) only [hH,go_sem]
 refine Ah (fun hlt=>?_) (fun hge=>?_)
 ·have hm : T[k]? = some T[k]:=lgg hlt
  have htk:=Bf hm
  have hlt' : ∀ d ∈ T.take k,d.group ≠ T[k].group:=by
   intro d hd
   obtain ⟨j,hj,rfl⟩:=List.mem_take_iff_getElem.1 hd
   have:=List.pairwise_iff_getElem.1 htinc j k (by omega) hlt (by omega)
   omega
  generalize T[k] = c at hm htk hlt'
  have hnew:=(hrep.put c.group c.own).congr (g:=fun x=>(Be (T.take (k + 1)) x).getD 0) fun x=>by
   rw [htk,LB c x _ hlt']
   by_cases hx : x = c.group
   .simp [hx]
   .simp [hx]
  simp -implicitDefEqProofs (disch:=omega) only [hH,hlt,hm,Ch.pv,go_sem]
  try refine ai ?_
  refine (hI _ _).2 ⟨(At ks vs (.int c.group) (.int .i64 c.own)).1,(At ks vs (.int c.group) (.int .i64 c.own)).2,?_⟩
  and_intros
  ·exact hnew
  all_goals exact cl0
 ·rw [ltl (by omega)] at hrep
  have hrep:=hrep.congr hlk
  have hnd : (l.map (·.group)).Nodup:=by
   have:=hp.inc
   rw [List.nodup_iff_pairwise_ne,List.pairwise_map]
   exact this.imp fun h=>by omega
  have hs1:=UM l hl hnd
  have hs2:=UJ l hl hnd
  have hu0 : ∀ x,0 <= Av t c x:=fun x=>by
   unfold Av
   split
   .exact Hb t (ES hc.pos) x
   .exact Int.le_refl _
  have hb1 : ∀ x,0 <= min (Av t c x) (B1 (·.least) l x) /\ min (Av t c x) (B1 (·.least) l x) <= 16777216:=fun x=>by
   have:=K0 (·.least) (l:=l) (fun y hy=>(hp.least y hy).1) x
   have:=hu0 x
   omega
  have hb2 : ∀ x,0 <= min (Av t c x) (B1 (·.low) l x) /\ min (Av t c x) (B1 (·.low) l x) <= 16777216:=fun x=>by
   have:=K0 (·.low) (l:=l) (fun y hy=>(hp.low y hy).1) x
   have:=hu0 x
   omega
  obtain ⟨ks1,vs1,he1,hr1⟩:=Ss h hr hrep (Sn (·.least) l) hb1
  obtain ⟨ks2,vs2,he2,hr2⟩:=Ss h hr hrep (Sn (·.low) l) hb2
  have hsu:=Kb root h
  have hsl:=CZ h root
  have hso:=Sm (subT t root) (by omega)
  have hml:=F9 (subT t root)
  have hG1 : ∀ g ∈ msort (subT t root),(AN ks1 vs1 (.int g)).getD (.int .i64 0) = .int .i64 (CP t c l root g).least:=fun g hg=>by
   rw [hr1 g,QO h hr _ ((D2 _).mem_iff.1 hg)]
   rfl
  have hG2 : ∀ g ∈ msort (subT t root),(AN ks2 vs2 (.int g)).getD (.int .i64 0) = .int .i64 (CP t c l root g).low:=fun g hg=>by
   rw [hr2 g,QO h hr _ ((D2 _).mem_iff.1 hg)]
   rfl
  have hGg : ∀ g,(CP t c l root g).group = g:=fun g=>rfl
  generalize CP t c l root = E at hG1 hG2 hGg
  generalize hG : msort (subT t root) = G at hso hml hG1 hG2
  generalize subT t root = S at hsu hsl hso hml
  simp -implicitDefEqProofs (disch:=omega) only [h2,hH,hge,hs1,hs2,he1,he2,hsu,hso,go_sem]
  obtain ⟨J,hJ⟩:=lpI fun j s=>∃ (v74_1 : Nat) (acc : List Pr) (ww : Nat),acc = (G.take j).map E /\ acc.length <= j /\ s.pe 17 = .p (PV.map (KT.int IntKind.i64) ks1 vs1) /\ s.pe 18 = .p (PV.map (KT.int IntKind.i64) ks2 vs2) /\ s.pe 20 = .own (.slot 20 0) ww 0 acc.length /\ s.pe 77 = .own (.slot 74 1) v74_1 0 S.length /\ s.pe 78 = .p (.int .i64 ↑S.length) /\ s.pe 79 = .p (.int .i64 j) /\ s.h (.slot 20 0) = some (ww,Ob.arr 3 (acc.map Pr.pv)) /\ s.h (.slot 74 1) = some (v74_1,Ob.arr 1 (List.map (.int .i64) G))
  refine Al (G.length) J ?_ ?_
  ·refine (hJ _ _).2 ⟨nv (s.h (.slot 74 1)),[],nv (s.h (.slot 20 0)),?_⟩
   and_intros
   .exact by simp
   .exact by simp
   all_goals exact cl0
  intro j s hj hJk
  obtain ⟨v74_1,acc,ww,hacc,hal,hH⟩:=(hJ _ _).1 hJk
  clear hJk
  simp -implicitDefEqProofs (disch:=omega) only [hH,go_sem]
  refine Ah (fun hjl=>?_) (fun hjg=>?_)
  ·have hx : G[j]? = some G[j]:=lgg (by omega)
   have htk:=Bf hx
   generalize G[j] = g at hx htk
   have hgm:=lmg hx
   have h1:=hG1 g hgm
   have h2:=hG2 g hgm
   simp -implicitDefEqProofs (disch:=omega) only [hH,hjl,hx,h1,h2,go_sem]
   try refine ai ?_
   refine (hJ _ _).2 ⟨v74_1,acc ++ [E g],ww + 1,?_⟩
   and_intros
   .exact by rw [hacc,htk]; simp
   .exact by simp; omega
   all_goals exact cl0
  ·rw [ltl (by omega)] at hacc
   simp -implicitDefEqProofs (disch:=omega) only [hH,hjg,go_sem]
   rw [hacc,List.map_map]
   rfl
def Iz (t : Tr) (sw : Stk) (id : Int) : Int:=if BJ t sw then (if (Ao t.nodes id).isSome then 0 else 4) else 1
theorem Qt (t : Tr) (sw : Stk) (id : Int) (hf : t.Fits) (hn : t.nodes.length < 1000000) (hl : sw.hs.length < 1000000) : V 65 [t.vv,sw.vv,.p (.int .i64 id)] [] = some (.p (.int .i64 (Iz t sw id)),[]):=by
 refine Ag (vf:=vf65) rfl ?_
 have hv:=H5 t sw hf hn hl
 have hfi:=DR t id hn
 unfold Iz
 cases hvv : BJ t sw with
 | false =>
  rw [hvv] at hv
  simp -implicitDefEqProofs only [vf65,KC,hv,go_sem]
 | true =>
  rw [hvv] at hv
  generalize (Ao t.nodes id).getD zeroNd = nd at hfi
  cases hfs : (Ao t.nodes id).isSome with
  | false =>
   rw [hfs] at hfi
   simp -implicitDefEqProofs only [vf65,KC,hv,hfi,Nd.vv,go_sem]
  | true =>
   rw [hfs] at hfi
   simp -implicitDefEqProofs only [vf65,KC,hv,hfi,Nd.vv,go_sem]
def swT (t : Tr) (hs : List Hg) (id : Int) : Int:=Ab ((subT t id).map (CA hs))
theorem Lt {f : Int -> Int} {B : Int} (h : ∀ x,0 <= f x /\ f x <= B) : ∀ (l : List Int),0 <= Ab (l.map f) /\ Ab (l.map f) <= B * l.length
 | []=>by simp [Ab]
 | x :: l=>by
  have:=Lt h l
  have:=h x
  simp only [lpc,Ab,llc,Int.natCast_add,Int.natCast_one,Int.mul_add,Int.mul_one]
  omega
theorem Wx {t : Tr} (h : TreeOk t) (sw : Stk) (id : Int) (hl : sw.hs.length < 1000000) (hb : ∀ x,Ax (CA sw.hs x)) : V 84 [t.vv,sw.vv,.p (.int .i64 id)] [] = some (.p (.int .i64 (swT t sw.hs id)),[]):=by
 refine Ag (vf:=vf84) rfl ?_
 have hs:=Kb id h
 have hsl:=CZ h id
 have hlen:=h.len
 unfold swT
 generalize subT t id = S at hs hsl
 simp -implicitDefEqProofs (disch:=omega) only [vf84,TS,hs,go_sem]
 obtain ⟨I,hI⟩:=lpI fun k s=>∃ (q : Int),Ab (S.map (CA sw.hs)) = q + Ab ((S.drop k).map (CA sw.hs)) /\ 0 <= q /\ q <= 16777216 * k /\ s.pe 4 = .ptr (.slot 4 0) 0 0 /\ s.pe 7 = .p (.int .i64 q) /\ s.pe 12 = .own (.slot 12 1) 0 0 S.length /\ s.pe 13 = .p (.int .i64 ↑S.length) /\ s.pe 14 = .p (.int .i64 k) /\ s.h (.slot 4 0) = some (0,Ob.box [.p (Bc sw.hs),.p (.int .i64 sw.size)]) /\ s.h (.slot 12 1) = some (0,Ob.arr 1 (List.map (.int .i64) S))
 refine Al (S.length) I ?_ ?_
 ·refine (hI _ _).2 ⟨0,?_⟩
  and_intros
  .exact by simp
  .omega
  .omega
  all_goals exact cl0
 intro k s hk hIk
 obtain ⟨q,ho,q0,q1,hH⟩:=(hI _ _).1 hIk
 clear hIk
 simp -implicitDefEqProofs (disch:=omega) only [hH,go_sem]
 refine Ah (fun hlt=>?_) (fun hge=>?_)
 ·have hm : S[k]? = some S[k]:=lgg hlt
  have hd : S.drop k = S[k] :: S.drop (k + 1):=ldg hlt
  generalize S[k] = x at hm hd
  have hg:=Gy sw x hl
  obtain ⟨b1,b2⟩:=hb x
  rw [hd,lpc,Ab,<- Int.add_assoc] at ho
  unfold CA at b1 b2
  simp -implicitDefEqProofs (disch:=omega) only [hH,hlt,hm,hg,go_sem]
  try refine ai ?_
  refine (hI _ _).2 ⟨q + (Ac sw.hs x).swap,?_⟩
  and_intros
  .exact ho
  .omega
  .exact by push_cast; omega
  all_goals exact cl0
 ·rw [ldl (by omega),lpn,Ab,Int.add_zero] at ho
  simp -implicitDefEqProofs (disch:=omega) only [hH,hge,ho,go_sem]
theorem W8 {t : Tr} {sw : Stk} {id : Int} : Iz t sw id = 0 ↔ StkOk t sw /\ ∃ (i : Nat) (n : Nd),t.nodes[i]? = some n /\ n.id = id:=by
 unfold Iz
 rw [<- Dc]
 constructor
 ·intro h
  split at h
  ·rename_i hv
   refine ⟨hv,?_⟩
   split at h
   ·rename_i hs
    cases hf : Ao t.nodes id with
    | none=>rw [hf] at hs; simp at hs
    | some n =>
     unfold Ao at hf
     obtain ⟨i,hi⟩:=lgm (List.mem_of_find?_eq_some hf)
     have:=List.find?_some hf
     exact ⟨i,n,hi,by simpa using this⟩
   .omega
  .omega
 ·rintro ⟨hv,i,n,hi,rfl⟩
  rw [if_pos hv,BZ ((Dc t sw).1 hv).tree.inc hi]
  rfl
def CN (W : Int -> Int) (l : List Ch) : List Int -> Int -> Int
 | [],a=>a
 | g :: gs,a=>CN W l gs (min a (Cz l g - W g))
def B8 (t : Tr) (hs : List Hg) (z : Int) (l : List Ch) (id : Int) : Int:=max 0 (CN (swT t hs) l (ancF t.nodes t.nodes.length id) (z - swT t hs 1))
theorem MC (W : Int -> Int) (l : List Ch) : ∀ (gs : List Int) (a : Int),CN W l gs a <= a
 | [],a=>Int.le_refl _
 | g :: gs,a=>by
  have:=MC W l gs (min a (Cz l g - W g))
  unfold CN
  omega
theorem VA {l : List Ch} {g : Int} (h : ∀ x ∈ l,x.group ≠ g) : Be l g = none:=by
 induction l with
 | nil=>rfl
 | cons x l ih =>
  rw [Be,if_neg (h x (by simp)),ih fun y hy=>h y (by simp [hy])]
structure LimOk (l : List Ch) : Prop where
 inc : l.Pairwise fun a b=>a.group < b.group
 bound : ∀ x ∈ l,0 <= x.own /\ x.own <= 4611686018427387904
theorem LimOk.nil : LimOk []:=⟨List.Pairwise.nil,by simp⟩
theorem LimOk.most {l : List Ch} (h : LimOk l) (g : Int) : 0 <= Cz l g /\ Cz l g <= 4611686018427387904:=by
 unfold Cz
 cases hl : Be l g with
 | none=>simp
 | some v =>
  obtain ⟨c,hc,_,rfl⟩:=YR hl
  exact h.bound c hc
theorem ZK {t : Tr} (h : TreeOk t) (sw : Stk) (l : List Ch) (id : Int) (hs : sw.hs.length < 1000000) (hb : ∀ x,Ax (CA sw.hs x)) (hz : Ax sw.size) (hl : LimOk l) (hll : l.length < 1000000) : V 88 [t.vv,sw.vv,.p (AP l),.p (.int .i64 id)] [] = some (.p (.int .i64 (B8 t sw.hs sw.size l id)),[]):=by
 refine Ag (vf:=vf88) rfl ?_
 have hlen:=h.len
 have han:=M2 t id (by omega)
 have hal:=Pd t.nodes t.nodes.length id
 have hsw : ∀ g,V 84 [t.vv,sw.vv,.p (.int .i64 g)] [] = some (.p (.int .i64 (swT t sw.hs g)),[]):=fun g=>Wx h sw g hs hb
 have hWb : ∀ g,0 <= swT t sw.hs g /\ swT t sw.hs g <= 16777216 * 64:=fun g=>by
  have h1:=Lt (f:=CA sw.hs) (B:=16777216) hb (subT t g)
  have h2:=CZ h g
  unfold swT
  omega
 have hmb:=hl.most
 unfold B8
 obtain ⟨z0,z1⟩:=hz
 generalize swT t sw.hs = W at hsw hWb
 have h1:=hWb 1
 generalize ancF t.nodes t.nodes.length id = A at han hal
 simp -implicitDefEqProofs (disch:=omega) only [vf88,TQ,hsw 1,han,go_sem]
 obtain ⟨I,hI⟩:=lpI fun k s=>∃ (a : Int),CN W l A (sw.size - W 1) = CN W l (A.drop k) a /\ -16777216 * 64 <= a /\ a <= 16777216 /\ s.pe 2 = .p (AP l) /\ s.pe 4 = .ptr (.slot 4 0) 0 0 /\ s.pe 5 = .ptr (.slot 5 0) 0 0 /\ s.pe 9 = .p (.int .i64 a) /\ s.pe 22 = .own (.slot 22 1) 0 0 A.length /\ s.pe 23 = .p (.int .i64 ↑A.length) /\ s.pe 24 = .p (.int .i64 k) /\ s.h (.slot 4 0) = some (0,Ob.box [.p (Au t.nodes),.p (.int .i64 t.next)]) /\ s.h (.slot 5 0) = some (0,Ob.box [.p (Bc sw.hs),.p (.int .i64 sw.size)]) /\ s.h (.slot 22 1) = some (0,Ob.arr 1 (List.map (.int .i64) A))
 refine Al (A.length) I ?_ ?_
 ·refine (hI _ _).2 ⟨sw.size - W 1,?_⟩
  and_intros
  ·rfl
  ·omega
  ·omega
  all_goals exact cl0
 intro k s hk hIk
 obtain ⟨a,ha,a0,a1,h2,hH⟩:=(hI _ _).1 hIk
 clear hIk
 simp -implicitDefEqProofs (disch:=omega) only [hH,go_sem]
 refine Ah (fun hlt=>?_) (fun hge=>?_)
 ·have hm : A[k]? = some A[k]:=lgg hlt
  have hdr : A.drop k = A[k] :: A.drop (k + 1):=ldg hlt
  generalize A[k] = g at hm hdr
  have hg:=hWb g
  have hmg:=hmb g
  rw [hdr,CN] at ha
  simp -implicitDefEqProofs (disch:=omega) only [h2,hH,hlt,hm,go_sem]
  obtain ⟨J,hJ⟩:=lpI fun j s=>∃ (b : Int),min a (Cz l g - W g) = min b ((Be (l.drop j) g).getD 4611686018427387904 - W g) /\ -16777216 * 64 <= b /\ b <= 16777216 /\ s.pe 2 = .p (AP l) /\ s.pe 4 = .ptr (.slot 4 0) 0 0 /\ s.pe 5 = .ptr (.slot 5 0) 0 0 /\ s.pe 9 = .p (.int .i64 b) /\ s.pe 11 = .p (.int .i64 g) /\ s.pe 22 = .own (.slot 22 1) 0 0 A.length /\ s.pe 23 = .p (.int .i64 ↑A.length) /\ s.pe 24 = .p (.int .i64 k) /\ s.pe 28 = .p (AP l) /\ s.pe 29 = .p (.int .i64 l.length) /\ s.pe 30 = .p (.int .i64 j) /\ s.h (.slot 4 0) = some (0,Ob.box [.p (Au t.nodes),.p (.int .i64 t.next)]) /\ s.h (.slot 5 0) = some (0,Ob.box [.p (Bc sw.hs),.p (.int .i64 sw.size)]) /\ s.h (.slot 22 1) = some (0,Ob.arr 1 (List.map (.int .i64) A))
  refine Al (l.length) J ?_ ?_
  ·refine (hJ _ _).2 ⟨a,?_⟩
   and_intros
   ·rfl
   ·omega
   ·omega
   all_goals exact cl0
  intro j s hj hJk
  obtain ⟨b,hb',b0,b1,h2,hH⟩:=(hJ _ _).1 hJk
  clear hJk
  simp -implicitDefEqProofs (disch:=omega) only [hH,go_sem]
  refine Ah (fun hjl=>?_) (fun hjg=>?_)
  ·have hx : l[j]? = some l[j]:=lgg hjl
   have hdl : l.drop j = l[j] :: l.drop (j + 1):=ldg hjl
   have hinc:=hl.inc
   have hxb:=hl.bound l[j] (lgk _)
   have hrest : ∀ y ∈ l.drop (j + 1),y.group ≠ l[j].group:=by
    intro y hy
    rw [<- List.take_append_drop j l,hdl] at hinc
    have:=(lpw.1 (List.pairwise_append.1 hinc).2.1).1 y hy
    omega
   generalize l[j] = x at hx hdl hrest hxb
   rw [hdl,Be] at hb'
   by_cases hxg : x.group = g
   ·rw [if_pos hxg] at hb'
    rw [hxg] at hrest
    have hn:=VA hrest
    have hnew : min a (Cz l g - W g) = min (min b (x.own - W g)) ((Be (l.drop (j + 1)) g).getD 4611686018427387904 - W g):=by
     rw [hb',hn]
     simp only [Option.getD_some,Option.getD_none]
     omega
    have hsg:=hsw g
    simp -implicitDefEqProofs (disch:=omega) only [hH,hjl,hx,hxg,hsg,Ch.pv,go_sem]
    try refine ai ?_
    refine (hJ _ _).2 ⟨min b (x.own - W g),?_⟩
    and_intros
    .exact hnew
    .omega
    .omega
    all_goals exact cl0
   ·rw [if_neg hxg] at hb'
    simp -implicitDefEqProofs (disch:=omega) only [hH,hjl,hx,hxg,Ch.pv,go_sem]
    try refine ai ?_
    refine (hJ _ _).2 ⟨b,?_⟩
    and_intros
    .exact hb'
    .exact b0
    .exact b1
    all_goals exact cl0
  ·have hjz : l.drop j = []:=ldl (by omega)
   rw [hjz] at hb'
   have he : min a (Cz l g - W g) = b:=by
    rw [hb']
    simp only [Be,Option.getD_none]
    omega
   rw [he] at ha
   simp -implicitDefEqProofs (disch:=omega) only [hH,hjg,go_sem]
   try refine ai ?_
   refine (hI _ _).2 ⟨b,?_⟩
   and_intros
   .exact ha
   .exact b0
   .exact b1
   all_goals exact cl0
 ·rw [ldl (by omega),CN] at ha
  simp -implicitDefEqProofs (disch:=omega) only [hH,hge,go_sem]
  rw [ha]
  try rfl
theorem K8 (t : Tr) (l : List Ch) : Du t l = true ↔ TreeOk t /\ AscOk (Cx t.nodes) 0 4611686018427387904 l:=by
 rw [Du,bat,A5,Mh]
theorem LimOk.of {kn : Int -> Bool} {l : List Ch} (h : AscOk kn 0 4611686018427387904 l) : LimOk l:=⟨h.inc,h.range⟩
theorem StkOk.swp {t : Tr} {sw : Stk} (h : StkOk t sw) (x : Int) : Ax (CA sw.hs x):=(h.hs.get x).2.2
def hgE (ns : List Nd) : Option Int -> List Hg -> Bool
 | _,[]=>true
 | p,h :: l=>(Ao ns h.group).isSome && prevOk p h.group && (Ap h.file && Ap h.anon && Ap h.swap) && decide (h.file + h.anon + h.swap ≠ 0) && hgE ns (some h.group) l
theorem M0 {ns : List Nd} : ∀ {l : List Hg} {p : Option Int},hgE ns p l = true -> 0 <= Ab (l.map fun h=>h.file + h.anon) /\ 0 <= Ab (l.map (·.swap))
 | [],_,_=>by simp [Ab]
 | h :: l,p,he=>by
  simp only [hgE,bat] at he
  obtain ⟨⟨⟨_,⟨h1,h2⟩,h3⟩,_⟩,h4⟩:=he
  have:=M0 h4
  have:=Cd h1
  have:=Cd h2
  have:=Cd h3
  simp only [lpc,Ab]
  omega
theorem P4 (ns : List Nd) (z : Int) : ∀ (l : List Hg) (p : Option Int) (m s : Int),m <= 16777216 -> s <= z -> DI ns z p m s l = (hgE ns p l && (decide (m + Ab (l.map fun h=>h.file + h.anon) <= 16777216) && decide (s + Ab (l.map (·.swap)) <= z)))
 | [], p, m, s, hm, hs=>by simp [DI, hgE, Ab, hm, hs]
 | h :: l,p,m,s,hm,hs=>by
  rw [Q9,hgE,show (decide (0 <= h.file) && decide (h.file <= 16777216)) = Ap h.file from rfl,show (decide (0 <= h.anon) && decide (h.anon <= 16777216)) = Ap h.anon from rfl,show (decide (0 <= h.swap) && decide (h.swap <= 16777216)) = Ap h.swap from rfl]
  by_cases hE : ((Ao ns h.group).isSome && prevOk p h.group && (Ap h.file && Ap h.anon && Ap h.swap) && decide (h.file + h.anon + h.swap ≠ 0)) = true
  ·have hE' : ((Ao ns h.group).isSome && prevOk p h.group && Ap h.file && Ap h.anon && Ap h.swap && decide (h.file + h.anon + h.swap ≠ 0)) = true:=by
    rw [<- hE]
    simp only [Bool.and_assoc]
   rw [hE,hE',bta,bta]
   simp only [lpc,Ab]
   by_cases d1 : m + (h.file + h.anon) <= 16777216
   ·by_cases d2 : s + h.swap <= z
    ·rw [P4 ns z l _ _ _ d1 d2,decide_eq_true d1,decide_eq_true d2,bta,bta,Int.add_assoc m (h.file + h.anon),Int.add_assoc s h.swap]
    ·rw [decide_eq_false d2,Bool.and_false,bfa]
     symm
     cases he : hgE ns (some h.group) l with
     | false=>rfl
     | true =>
      have:=M0 he
      rw [decide_eq_false (show ¬ s + (h.swap + Ab (l.map (·.swap))) <= z by omega),Bool.and_false,Bool.and_false]
   ·rw [decide_eq_false d1,bfa,bfa]
    symm
    cases he : hgE ns (some h.group) l with
    | false=>rfl
    | true =>
     have:=M0 he
     rw [decide_eq_false (show ¬ m + (h.file + h.anon + Ab (l.map fun h=>h.file + h.anon)) <= 16777216 by omega),bfa,Bool.and_false]
  ·have hE' : ¬ ((Ao ns h.group).isSome && prevOk p h.group && Ap h.file && Ap h.anon && Ap h.swap && decide (h.file + h.anon + h.swap ≠ 0)) = true:=by
    intro h'
    apply hE
    rw [<- h']
    simp only [Bool.and_assoc]
   simp only [Bool.not_eq_true] at hE hE'
   rw [hE,hE']
   simp only [bfa]
theorem VY (t : Tr) (sw : Stk) : BJ t sw = (AF t && (Ap sw.size && (hgE t.nodes none sw.hs && (decide (Ab (sw.hs.map fun h=>h.file + h.anon) <= 16777216) && decide (Ab (sw.hs.map (·.swap)) <= sw.size))))):=by
 unfold BJ
 rw [show (decide (0 <= sw.size) && decide (sw.size <= 16777216)) = Ap sw.size from rfl,Bool.and_assoc]
 cases hp : Ap sw.size with
 | false=>simp only [bfa]
 | true =>
  rw [P4 _ _ _ _ _ _ (by omega) (Cd hp).1]
  simp only [Int.zero_add]
abbrev FD (h : Hg) : Bool:=Ap h.file && Ap h.anon && Ap h.swap
theorem Qv (h : Hg) : V 81 [h.vv] [] = some (.p (.bool (FD h)),[]):=by
 refine Ag (vf:=vf81) rfl ?_
 unfold FD
 simp only [Ap]
 by_cases x0 : 0 <= h.file
 ·by_cases x1 : h.file <= 16777216
  ·by_cases x2 : 0 <= h.anon
   ·by_cases x3 : h.anon <= 16777216
    ·by_cases x4 : 0 <= h.swap
     ·by_cases x5 : h.swap <= 16777216
      .simp -implicitDefEqProofs only [vf81,FX,x0,x1,x2,x3,x4,x5,decide_true,bas,go_sem]
      .simp -implicitDefEqProofs only [vf81,FX,x0,x1,x2,x3,x4,x5,decide_true,decide_false,bas,Bool.and_false,go_sem]
     .simp -implicitDefEqProofs only [vf81,FX,x0,x1,x2,x3,x4,decide_true,decide_false,bas,Bool.and_false,bfa,go_sem]
    .simp -implicitDefEqProofs only [vf81,FX,x0,x1,x2,x3,decide_true,decide_false,bas,Bool.and_false,bfa,go_sem]
   .simp -implicitDefEqProofs only [vf81,FX,x0,x1,x2,decide_true,decide_false,bas,Bool.and_false,bfa,go_sem]
  .simp -implicitDefEqProofs only [vf81,FX,x0,x1,decide_true,decide_false,bas,Bool.and_false,bfa,go_sem]
 .simp -implicitDefEqProofs only [vf81,FX,x0,decide_false,bas,bfa,go_sem]
theorem Hq (sw : Stk) (id : Int) (hl : sw.hs.length < 1000000) : V 37 [sw.vv,.p (.int .i64 id)] [] = some ((Ac sw.hs id).vv,[]):=by
 refine Ag (vf:=vf37) rfl ?_
 simp -implicitDefEqProofs only [vf37,Ue,go_sem]
 obtain ⟨I,hI⟩:=lpI fun k s=>Ac sw.hs id = Ac (sw.hs.drop k) id /\ s.pe 1 = .p (.int .i64 id) /\ s.pe 2 = .ptr (.slot 2 0) 0 0 /\ s.pe 4 = .ptr (.slot 4 0) 0 0 /\ s.pe 5 = .p (.int .i64 k) /\ s.h (.slot 2 0) = some (0,Ob.box [.p (Bc sw.hs),.p (.int .i64 sw.size)]) /\ s.h (.slot 4 0) = some (0,Ob.box [.p (.int .i64 0),.p (.int .i64 0),.p (.int .i64 0),.p (.int .i64 0)])
 refine Al (sw.hs.length) I ?_ ?_
 ·refine (hI _ _).2 ?_
  and_intros
  ·rfl
  all_goals exact cl0
 intro k s hk hIk
 obtain ⟨ho,hH⟩:=(hI _ _).1 hIk
 clear hIk
 simp -implicitDefEqProofs only [hH,go_sem]
 refine Ah (fun hlt=>?_) (fun hge=>?_)
 ·have hm : sw.hs[k]? = some sw.hs[k]:=lgg hlt
  have hd : sw.hs.drop k = sw.hs[k] :: sw.hs.drop (k + 1):=ldg hlt
  generalize sw.hs[k] = c at hm hd
  rw [hd,Ac] at ho
  by_cases he : c.group = id
  ·subst he
   rw [if_pos rfl] at ho
   simp -implicitDefEqProofs only [hH,hlt,hm,ho,go_sem]
  ·rw [if_neg he] at ho
   simp -implicitDefEqProofs only [hH,hlt,hm,he,go_sem]
   try refine ai ?_
   refine (hI _ _).2 ?_
   and_intros
   .exact ho
   all_goals exact cl0
 ·rw [ldl (by omega),Ac] at ho
  simp -implicitDefEqProofs only [hH,hge,ho,go_sem]
theorem Ge (sw : Stk) (h : Hg) (hl : sw.hs.length < 1000000) : V 82 [sw.vv,h.vv] [] = some (Stk.fv ⟨putS sw.hs h,sw.size⟩,[]):=by
 refine Ag (vf:=vf82) rfl ?_
 have hps : putS sw.hs h = putGo h (C5 h) sw.hs:=rfl
 generalize putS sw.hs h = R at hps
 rcases Classical.propComplete (h.file = 0) with y1 | y1 <;> rcases Classical.propComplete (h.anon = 0) with y2 | y2 <;> rcases Classical.propComplete (h.swap = 0) with y3 | y3
 all_goals
  have hz : C5 h = (decide (h.file = 0) && decide (h.anon = 0) && decide (h.swap = 0)):=rfl
  simp only [y1,y2,y3,decide_true,decide_false,bau,Bool.and_false] at hz
  simp -implicitDefEqProofs (disch:=omega) only [vf82,TU,y1,y2,y3,go_sem]
  obtain ⟨I,hI⟩:=lpI fun k s=>∃ (acc : List Hg) (d : Bool) (w : Nat),R = acc ++ putGo h d (sw.hs.drop k) /\ acc.length <= 2 * k /\ s.pe 2 = .ptr (.slot 2 0) 0 0 /\ s.pe 3 = .ptr (.slot 3 0) 0 0 /\ s.pe 4 = .ptr (.slot 4 0) 0 0 /\ s.pe 5 = .own (.slot 5 0) w 0 acc.length /\ s.pe 6 = .p (.bool d) /\ s.pe 7 = .p (.int .i64 k) /\ s.h (.slot 2 0) = some (0,Ob.box [.p (Bc sw.hs),.p (.int .i64 sw.size)]) /\ s.h (.slot 3 0) = some (0,Ob.box [.p (.int .i64 h.group),.p (.int .i64 h.file),.p (.int .i64 h.anon),.p (.int .i64 h.swap)]) /\ s.h (.slot 4 0) = some (0,Ob.box [.own (.slot 4 1) 0 0 0,.p (.int .i64 0)]) /\ s.h (.slot 4 1) = some (0,Ob.arr 4 []) /\ s.h (.slot 5 0) = some (w,Ob.arr 4 (acc.map Hg.pv))
  refine Al (sw.hs.length) I ?_ ?_
  ·refine (hI _ _).2 ⟨[],C5 h,0,?_⟩
   and_intros
   ·exact by rw [hps]; simp
   ·exact lrf _
   all_goals exact cl0
  intro k s hk hIk
  obtain ⟨acc,d,w,hw,hal,hH⟩:=(hI _ _).1 hIk
  clear hIk
  simp -implicitDefEqProofs (disch:=omega) only [hH,go_sem]
  refine Ah (fun hlt=>?_) (fun hge=>?_)
  ·have hm : sw.hs[k]? = some sw.hs[k]:=lgg hlt
   have hd : sw.hs.drop k = sw.hs[k] :: sw.hs.drop (k + 1):=ldg hlt
   generalize sw.hs[k] = c at hm hd
   rw [hd,putGo] at hw
   cases d with
   | true =>
    by_cases he : c.group = h.group
    ·simp only [he,Bool.not_true,bfa,bft,if_false,if_true,lna,lan,Bool.true_or] at hw
     simp -implicitDefEqProofs (disch:=omega) only [hH,hlt,hm,he,go_sem]
     try refine ai ?_
     refine (hI _ _).2 ⟨acc,true,w,?_⟩
     and_intros
     ·exact hw
     ·omega
     all_goals exact cl0
    ·simp only [he,Bool.not_true,bfa,bft,if_false,lna,Bool.true_or,<- laa] at hw
     simp -implicitDefEqProofs (disch:=omega) only [hH,hlt,hm,he,go_sem]
     try refine ai ?_
     refine (hI _ _).2 ⟨acc ++ [c],true,w + 1,?_⟩
     and_intros
     ·exact hw
     ·exact by simp; omega
     all_goals exact cl0
   | false =>
    by_cases hge : h.group <= c.group
    ·by_cases he : c.group = h.group
     ·simp only [he,Int.le_refl,decide_true,bnf,bas,if_true,lan,Bool.or_true,<- laa] at hw
      simp -implicitDefEqProofs (disch:=omega) only [hH,hlt,hm,he,Int.le_refl,decide_true,go_sem]
      try refine ai ?_
      refine (hI _ _).2 ⟨acc ++ [h],true,w + 1,?_⟩
      and_intros
      .exact hw
      .exact by simp; omega
      all_goals exact cl0
     ·simp only [he,hge,decide_true,bnf,bas,if_true,if_false,Bool.or_true,<- laa] at hw
      simp -implicitDefEqProofs (disch:=omega) only [hH,hlt,hm,hge,he,go_sem]
      try refine ai ?_
      refine (hI _ _).2 ⟨acc ++ [h] ++ [c],true,w + 1 + 1,?_⟩
      and_intros
      .exact hw
      .exact by simp; omega
      all_goals exact cl0
    ·have he : ¬ c.group = h.group:=by omega
     simp only [he,hge,decide_false,bnf,Bool.and_false,bft,if_false,lna,Bool.or_false,<- laa] at hw
     simp -implicitDefEqProofs (disch:=omega) only [hH,hlt,hm,hge,he,go_sem]
     try refine ai ?_
     refine (hI _ _).2 ⟨acc ++ [c],false,w + 1,?_⟩
     and_intros
     .exact hw
     .exact by simp; omega
     all_goals exact cl0
  ·rw [ldl (by omega),putGo] at hw
   cases d with
   | true =>
    simp only [if_true,lan] at hw
    simp -implicitDefEqProofs (disch:=omega) only [hH,hge,go_sem]
    rw [hw]
   | false =>
    simp only [bft,if_false] at hw
    simp -implicitDefEqProofs (disch:=omega) only [hH,hge,go_sem]
    rw [hw]
    simp [Hg.pv]
theorem Jo (t : Tr) (sw : Stk) (hn : t.nodes.length < 1000000) (hl : sw.hs.length < 1000000) : V 32 [t.vv,sw.vv] [] = some (.p (.bool (BJ t sw)),[]):=by
 refine Ag (vf:=vf32) rfl ?_
 have hc := EV t hn
 rw [VY]
 by_cases ht : AF t = true
 ·rw [ht] at hc ⊢
  rw [Bool.true_and]
  by_cases s0 : sw.size < 0
  ·have hp : Ap sw.size = false:=by simp [Ap]; omega
   rw [hp, bfa]
   simp -implicitDefEqProofs (disch:=omega) only [vf32,IK,hc,s0,go_sem]
  ·by_cases s1 : 16777216 < sw.size
   ·have hp : Ap sw.size = false:=by simp [Ap]; omega
    rw [hp,bfa]
    simp -implicitDefEqProofs (disch:=omega) only [vf32,IK,hc,s0,s1,go_sem]
   ·have hp : Ap sw.size = true:=by simp [Ap]; omega
    rw [hp,bta]
    simp -implicitDefEqProofs (disch:=omega) only [vf32,IK,hc,s0,s1,go_sem]
    obtain ⟨I,hI⟩:=lpI fun k s=>∃ (p : Option Int) (m : Int) (q : Int),hgE t.nodes none sw.hs = hgE t.nodes p (sw.hs.drop k) /\ (k = 0 -> p = none) /\ (∀ j,k = j + 1 -> ∃ c,sw.hs[j]? = some c /\ p = some c.group) /\ 0 <= m /\ m <= 33554432 * k /\ 0 <= q /\ q <= 16777216 * k /\ Ab (sw.hs.map fun h=>h.file + h.anon) = m + Ab ((sw.hs.drop k).map fun h=>h.file + h.anon) /\ Ab (sw.hs.map (·.swap)) = q + Ab ((sw.hs.drop k).map (·.swap)) /\ s.pe 2 = .ptr (.slot 2 0) 0 0 /\ s.pe 3 = .ptr (.slot 3 0) 0 0 /\ s.pe 5 = .p (.int .i64 m) /\ s.pe 6 = .p (.int .i64 q) /\ s.pe 7 = .p (.int .i64 k) /\ s.h (.slot 2 0) = some (0,Ob.box [.p (Au t.nodes),.p (.int .i64 t.next)]) /\ s.h (.slot 3 0) = some (0,Ob.box [.p (Bc sw.hs),.p (.int .i64 sw.size)])
    refine Al (sw.hs.length) I ?_ ?_
    ·refine (hI _ _).2 ⟨none,0,0,?_⟩
     and_intros
     ·rfl
     ·exact fun _=>rfl
     ·exact fun j hj=>by omega
     ·omega
     ·omega
     ·omega
     ·omega
     ·exact by simp
     ·exact by simp
     all_goals exact cl0
    intro k s hk hIk
    obtain ⟨p,m,q,hq,hp0,hp1,m0,m1,q0,q1,sm,sq,hH⟩:=(hI _ _).1 hIk
    clear hIk
    simp -implicitDefEqProofs (disch:=omega) only [hH,go_sem]
    refine Ah (fun hlt=>?_) (fun hge=>?_)
    ·have hm : sw.hs[k]? = some sw.hs[k]:=lgg hlt
     have hd : sw.hs.drop k = sw.hs[k] :: sw.hs.drop (k + 1):=ldg hlt
     generalize sw.hs[k] = c at hm hd
     have hfi:=CJ t c.group hn
     rw [Cl ht] at hfi
     have p1:=Qv c
     rw [hd,hgE] at hq
     rw [hd,lpc,Ab,<- Int.add_assoc] at sm sq
     have hnx : ∀ j,k + 1 = j + 1 -> ∃ c',sw.hs[j]? = some c' /\ some c.group = some c'.group:=fun j hj=>⟨c,by rw [show j = k by omega]; exact hm,rfl⟩
     have hcv : c.vv = .agg [.p (.int .i64 c.group),.p (.int .i64 c.file),.p (.int .i64 c.anon),.p (.int .i64 c.swap)]:=rfl
     rw [hcv] at p1
     cases hfs : (Ao t.nodes c.group).isSome with
     | false =>
      rw [hfs] at hfi
      simp only [hfs,bfa] at hq
      simp -implicitDefEqProofs (disch:=omega) only [hH,hlt,hm,hfi,hq,bfa,go_sem]
     | true =>
      rw [hfs] at hfi
      rw [hfs,bta] at hq
      by_cases hk0 : (0 : Int) < k
      ·obtain ⟨e,he,hpe⟩:=hp1 (k - 1) (by omega)
       have he' : sw.hs[((k : Int) - 1).toNat]? = some e:=by rw [show ((k : Int) - 1).toNat = k - 1 by omega]; exact he
       have hk1 : (0 : Int) <= (k : Int) - 1:=by omega
       subst hpe
       by_cases hle : c.group <= e.group
       ·rw [show prevOk (some e.group) c.group = false from decide_eq_false (by omega)] at hq
        simp only [bfa] at hq
        simp -implicitDefEqProofs (disch:=omega) only [hH,hlt,hm,hfi,hk0,hk1,he',hle,hq,bfa,go_sem]
       ·rw [show prevOk (some e.group) c.group = true from decide_eq_true (by omega),bta] at hq
        cases b1 : FD c with
        | false =>
         have hq2 : hgE t.nodes none sw.hs = false:=by rw [hq,show (Ap c.file && Ap c.anon && Ap c.swap) = false from b1]; simp only [bfa]
         rw [b1] at p1
         simp -implicitDefEqProofs (disch:=omega) only [hH,hlt,hm,hfi,hk0,hk1,he',hle,p1,hq2,bfa,go_sem]
        | true =>
         rw [show (Ap c.file && Ap c.anon && Ap c.swap) = true from b1,bta] at hq
         rw [b1] at p1
         simp only [FD,bat] at b1
         obtain ⟨⟨b2,b3⟩,b5⟩:=b1
         have g2:=Cd b2
         have g3:=Cd b3
         have g5:=Cd b5
         by_cases b4 : c.file + c.anon + c.swap = 0
         ·rw [decide_eq_false (show ¬ (c.file + c.anon + c.swap ≠ 0) from fun h=>h b4)] at hq
          simp only [bfa] at hq
          simp -implicitDefEqProofs (disch:=omega) only [hH,hlt,hm,hfi,hk0,hk1,he',hle,p1,b4,hq,bfa,go_sem]
         ·rw [decide_eq_true (show c.file + c.anon + c.swap ≠ 0 from b4),bta] at hq
          simp -implicitDefEqProofs (disch:=omega) only [hH,hlt,hm,hfi,hk0,hk1,he',hle,p1,b4,go_sem]
          try refine ai ?_
          refine (hI _ _).2 ⟨some c.group,m + (c.file + c.anon),q + c.swap,?_⟩
          and_intros
          .exact hq
          .exact by simp
          .exact hnx
          .omega
          .exact by push_cast; omega
          .omega
          .exact by push_cast; omega
          .exact sm
          .exact sq
          all_goals exact cl0
      ·have hpn:=hp0 (by omega)
       subst hpn
       rw [show prevOk none c.group = true from rfl,bta] at hq
       cases b1 : FD c with
       | false =>
        have hq2 : hgE t.nodes none sw.hs = false:=by rw [hq,show (Ap c.file && Ap c.anon && Ap c.swap) = false from b1]; simp only [bfa]
        rw [b1] at p1
        simp -implicitDefEqProofs (disch:=omega) only [hH,hlt,hm,hfi,hk0,p1,hq2,bfa,go_sem]
       | true =>
        rw [show (Ap c.file && Ap c.anon && Ap c.swap) = true from b1,bta] at hq
        rw [b1] at p1
        simp only [FD,bat] at b1
        obtain ⟨⟨b2,b3⟩,b5⟩:=b1
        have g2:=Cd b2
        have g3:=Cd b3
        have g5:=Cd b5
        by_cases b4 : c.file + c.anon + c.swap = 0
        ·rw [decide_eq_false (show ¬ (c.file + c.anon + c.swap ≠ 0) from fun h=>h b4)] at hq
         simp only [bfa] at hq
         simp -implicitDefEqProofs (disch:=omega) only [hH,hlt,hm,hfi,hk0,p1,b4,hq,bfa,go_sem]
        ·rw [decide_eq_true (show c.file + c.anon + c.swap ≠ 0 from b4),bta] at hq
         simp -implicitDefEqProofs (disch:=omega) only [hH,hlt,hm,hfi,hk0,p1,b4,go_sem]
         try refine ai ?_
         refine (hI _ _).2 ⟨some c.group,m + (c.file + c.anon),q + c.swap,?_⟩
         and_intros
         .exact hq
         .exact by simp
         .exact hnx
         .omega
         .exact by push_cast; omega
         .omega
         .exact by push_cast; omega
         .exact sm
         .exact sq
         all_goals exact cl0
    ·rw [ldl (by omega)] at hq sm sq
     simp only [hgE,lpn,Ab,Int.add_zero] at hq sm sq
     rw [sm,sq,hq,bta]
     by_cases f1 : m <= 16777216
     ·by_cases f2 : q <= sw.size
      .simp -implicitDefEqProofs (disch:=omega) only [hH,hge,f1,f2,decide_true,bas,go_sem]
      .simp -implicitDefEqProofs (disch:=omega) only [hH,hge,f1,f2,decide_true,decide_false,Bool.and_false,go_sem]
     .simp -implicitDefEqProofs (disch:=omega) only [hH,hge,f1,decide_false,bfa,go_sem]
 ·have htf : AF t = false:=by simpa using ht
  rw [htf] at hc ⊢
  simp -implicitDefEqProofs (disch:=omega) only [vf32,IK,hc,bfa,go_sem]
def Fd (t : Tr) (sw : Stk) (h : Hg) : Stk × Int :=
 if BJ t sw = true then (if (Ao t.nodes h.group).isSome = true then (if FD h = true then (if BJ t ⟨putS sw.hs h,sw.size⟩ = true then (⟨putS sw.hs h,sw.size⟩,0) else (⟨[],0⟩,7)) else (⟨[],0⟩,3)) else (⟨[],0⟩,4)) else (⟨[],0⟩,1)
theorem SU {t : Tr} {sw : Stk} {h : Hg} (he : (Fd t sw h).2 = 0) : StkOk t (Fd t sw h).1:=by
 rw [<- Dc]
 unfold Fd at he ⊢
 split at he
 ·split at he
  ·split at he
   ·split at he
    ·rename_i h1 h2 h3 h4
     rw [if_pos h1,if_pos h2,if_pos h3,if_pos h4]
     exact h4
    .simp at he
   .simp at he
  .simp at he
 .simp at he
theorem HgOk.length {t : Tr} {z : Int} {l : List Hg} (h : HgOk t.nodes z l) : l.length <= t.nodes.length:=by
 have hnd : (l.map (·.group)).Nodup:=by
  rw [List.Nodup,List.pairwise_map]
  exact h.inc.imp fun hab=>by omega
 have:=F4 (l.map (·.group)) (t.nodes.map (·.id)) hnd (fun x hx=>by
  obtain ⟨c,hc,rfl⟩:=lmm.1 hx
  obtain ⟨n,hn,he⟩:=Cu (h.known c hc)
  exact lmm.2 ⟨n,hn,he⟩)
 simpa using this
theorem ZU (t : Tr) (sw : Stk) (h : Hg) (hn : t.nodes.length < 1000000) (hl : sw.hs.length < 900000) : V 27 [t.vv,sw.vv,h.vv] [] = some (.tup [Stk.fv (Fd t sw h).1,.p (.int .i64 (Fd t sw h).2)],[]):=by
 refine Ag (vf:=vf27) rfl ?_
 have hv:=Jo t sw hn (by omega)
 have hh:=CJ t h.group hn
 unfold Fd
 cases hvv : BJ t sw with
 | false =>
  rw [hvv] at hv
  rw [if_neg (by simp)]
  simp -implicitDefEqProofs only [vf27,HL,hv,go_sem]
  try rfl
 | true =>
  rw [hvv] at hv
  have h1:=(Dc t sw).1 hvv
  rw [Cl ((A5 t).2 h1.tree)] at hh
  rw [if_pos rfl]
  cases hs : (Ao t.nodes h.group).isSome with
  | false =>
   rw [hs] at hh
   rw [if_neg (by simp)]
   simp -implicitDefEqProofs only [vf27,HL,hv,hh,go_sem]
   try rfl
  | true =>
   rw [hs] at hh
   rw [if_pos rfl]
   have hp:=Qv h
   cases hps : FD h with
   | false =>
    rw [hps] at hp
    rw [if_neg (by simp)]
    simp -implicitDefEqProofs only [vf27,HL,hv,hh,hp,go_sem]
    try rfl
   | true =>
    rw [hps] at hp
    rw [if_pos rfl]
    have hr:=Ge sw h (by omega)
    have hrl:=WG sw.hs h
    have hv2:=Jo t ⟨putS sw.hs h,sw.size⟩ hn (by simp only; omega)
    generalize putS sw.hs h = G at hr hv2
    cases hvv2 : BJ t ⟨G,sw.size⟩ with
    | false =>
     rw [hvv2] at hv2
     rw [if_neg (by simp)]
     simp -implicitDefEqProofs only [vf27,HL,hv,hh,hp,hr,hv2,go_sem]
     try rfl
    | true =>
     rw [hvv2] at hv2
     rw [if_pos rfl]
     simp -implicitDefEqProofs only [vf27,HL,hv,hh,hp,hr,hv2,go_sem]
def BK (t : Tr) (hs : List Hg) (z : Int) (l : List Ch) (own : Hg -> Int) (pr : Pr -> Int) (out : Bool) (e : Pr) : Pt:=⟨e.group,Av t (An hs) e.group,pr e,own (Ac hs e.group),if out = true then B8 t hs z l e.group else 4611686018427387904⟩
theorem Yt {t : Tr} (h : TreeOk t) {hs : List Hg} {z : Int} (hh : HgOk t.nodes z hs) (hz : Ax z) {l : List Ch} (hl : LimOk l) (hll : l.length < 1000000) (eff : List Pr) (hel : eff.length < 1000000) {fo fp : FuncId} {own : Hg -> Int} {pr : Pr -> Int} (hown : ∀ x : Hg,V fo [x.vv] [] = some (.p (.int .i64 (own x)),[])) (hpr : ∀ x : Pr,V fp [x.vv] [] = some (.p (.int .i64 (pr x)),[])) (out low : Bool) (kt : KT) (tk : List MKey) (tv : List PV) :
  V 73 [.ptr (.arg 0 0) 0 0,.agg [.p (.fn fo),.p (.fn fp),.p (.bool out),.p (.bool low)]] [.box [.p (Au t.nodes),.p (.int .i64 t.next),.own (.arg 1 0) 0 0 hs.length,.p (.int .i64 z),.p (AP l),.own (.arg 2 0) 0 0 eff.length,.mref (.arg 3 0) 0],.arr 4 (hs.map Hg.pv),.arr 3 (eff.map Pr.pv),.map kt tk tv] = some (.fresh 5 ((eff.map (BK t hs z l own pr out)).map Pt.pv),[.box [.p (Au t.nodes),.p (.int .i64 t.next),.own (.arg 1 0) 0 0 hs.length,.p (.int .i64 z),.p (AP l),.own (.arg 2 0) 0 0 eff.length,.mref (.arg 3 0) 0],.arr 4 (hs.map Hg.pv),.arr 3 (eff.map Pr.pv),.map kt tk tv]):=by
 refine Ag (vf:=vf73) rfl ?_
 have hlen:=h.len
 have hhl:=hh.length
 have hc:=Dw hh
 have hcl:=MJ hs
 have hct:=Lb ⟨hs,z⟩ (by show hs.length < 1000000; omega) (fun x hx=>⟨hh.file x hx,hh.anon x hx⟩)
 have htt:=Qg t (An hs) h.fits (by omega) (by omega)
 have hTK : GF t (An hs) = ((t.nodes.filter fun n=>decide (0 < tot t (Aq (An hs)) n.id)).map (C6 t (An hs)),0):=by
  rw [GF,if_pos ((Fh t _).2 ⟨h,hc⟩)]
 rw [hTK] at htt
 simp only at htt
 have hlk:=Ov h (ES hc.pos)
 have htinc : (((t.nodes.filter fun n=>decide (0 < tot t (Aq (An hs)) n.id)).map (C6 t (An hs)))).Pairwise fun a b=>a.group < b.group:=by
  rw [List.pairwise_map]
  exact h.inc.filter _
 have htl : ((t.nodes.filter fun n=>decide (0 < tot t (Aq (An hs)) n.id)).map (C6 t (An hs))).length <= t.nodes.length:=by
  rw [llm]; exact List.length_filter_le _ _
 have hget : ∀ g,V 36 [.agg [.p (Bc hs),.p (.int .i64 z)],.p (.int .i64 g)] [] = some ((Ac hs g).vv,[]):=fun g=>Gy ⟨hs,z⟩ g (by show hs.length < 1000000; omega)
 have hroom : ∀ g,V 88 [t.vv,.agg [.p (Bc hs),.p (.int .i64 z)],.p (AP l),.p (.int .i64 g)] [] = some (.p (.int .i64 (B8 t hs z l g)),[]):=fun g=>ZK h ⟨hs,z⟩ l g (by show hs.length < 1000000; omega) (fun x=>(hh.get x).2.2) hz hl hll
 generalize (t.nodes.filter fun n=>decide (0 < tot t (Aq (An hs)) n.id)).map (C6 t (An hs)) = T at htt hlk htinc htl
 generalize hC : An hs = C at hct htt hlk hcl
 simp only [Stk.vv] at hct
 simp -implicitDefEqProofs (disch:=omega) only [vf73,TZ,hct,htt,go_sem]
 obtain ⟨I,hI⟩:=lpI fun k s=>∃ (ks : List MKey) (vs : List PV),RepD ks vs (fun x=>(Be (T.take k) x).getD 0) /\ s.pe 0 = .ptr (Id.arg 0 0) 0 0 /\ s.pe 3 = .ptr (.slot 3 0) 0 0 /\ s.pe 5 = .mref (.slot 14 0) 0 /\ s.pe 28 = .own (.slot 25 1) 0 0 T.length /\ s.pe 29 = .p (.int .i64 ↑T.length) /\ s.pe 30 = .p (.int .i64 k) /\ s.h (.arg 0 0) = some (0,Ob.box [.p (Au t.nodes),.p (.int .i64 t.next),VVal.own (Id.arg 1 0) 0 0 hs.length,.p (.int .i64 z),.p (AP l),VVal.own (Id.arg 2 0) 0 0 eff.length,VVal.mref (Id.arg 3 0) 0]) /\ s.h (.arg 1 0) = some (0,Ob.arr 4 (List.map Hg.pv hs)) /\ s.h (.arg 2 0) = some (0,Ob.arr 3 (List.map Pr.pv eff)) /\ s.h (.arg 3 0) = some (0,Ob.map kt tk tv) /\ s.h (.slot 3 0) = some (0,Ob.box [.p (PV.fn fo),.p (PV.fn fp),.p (.bool out),.p (.bool low)]) /\ s.h (.slot 14 0) = some (0,Ob.map (KT.int IntKind.i64) ks vs) /\ s.h (.slot 25 1) = some (0,Ob.arr 2 (List.map Ch.pv T))
 refine Al (T.length) I ?_ ?_
 ·refine (hI _ _).2 ⟨[],[],?_⟩
  and_intros
  ·exact RepD.nil.congr fun x=>by simp [Be]
  all_goals exact cl0
 intro k s hk hIk
 obtain ⟨ks,vs,hrep,hH⟩:=(hI _ _).1 hIk
 clear hIk
 simp -implicitDefEqProofs (disch:=omega) only [hH,go_sem]
 refine Ah (fun hlt=>?_) (fun hge=>?_)
 ·have hm : T[k]? = some T[k]:=lgg hlt
  have htk:=Bf hm
  have hlt' : ∀ d ∈ T.take k,d.group ≠ T[k].group:=by
   intro d hd
   obtain ⟨j,hj,rfl⟩:=List.mem_take_iff_getElem.1 hd
   have:=List.pairwise_iff_getElem.1 htinc j k (by omega) hlt (by omega)
   omega
  generalize T[k] = c at hm htk hlt'
  have hnew:=(hrep.put c.group c.own).congr (g:=fun x=>(Be (T.take (k + 1)) x).getD 0) fun x=>by
   rw [htk,LB c x _ hlt']
   by_cases hx : x = c.group
   ·simp [hx]
   ·simp [hx]
  simp -implicitDefEqProofs (disch:=omega) only [hH,hlt,hm,Ch.pv,go_sem]
  try refine ai ?_
  refine (hI _ _).2 ⟨(At ks vs (.int c.group) (.int .i64 c.own)).1,(At ks vs (.int c.group) (.int .i64 c.own)).2,?_⟩
  and_intros
  ·exact hnew
  all_goals exact cl0
 ·rw [ltl (by omega)] at hrep
  have hrep:=hrep.congr hlk
  simp -implicitDefEqProofs (disch:=omega) only [hH,hge,go_sem]
  obtain ⟨J,hJ⟩:=lpI fun j s=>∃ (acc : List Pt) (ww : Nat),acc = (eff.take j).map (BK t hs z l own pr out) /\ acc.length <= j /\ s.pe 0 = .ptr (Id.arg 0 0) 0 0 /\ s.pe 3 = .ptr (.slot 3 0) 0 0 /\ s.pe 5 = .mref (.slot 14 0) 0 /\ s.pe 10 = .own (.slot 10 0) ww 0 acc.length /\ s.pe 43 = VVal.own (Id.arg 2 0) 0 0 eff.length /\ s.pe 44 = .p (.int .i64 ↑eff.length) /\ s.pe 45 = .p (.int .i64 j) /\ s.h (.arg 0 0) = some (0,Ob.box [.p (Au t.nodes),.p (.int .i64 t.next),VVal.own (Id.arg 1 0) 0 0 hs.length,.p (.int .i64 z),.p (AP l),VVal.own (Id.arg 2 0) 0 0 eff.length,VVal.mref (Id.arg 3 0) 0]) /\ s.h (.arg 1 0) = some (0,Ob.arr 4 (List.map Hg.pv hs)) /\ s.h (.arg 2 0) = some (0,Ob.arr 3 (List.map Pr.pv eff)) /\ s.h (.arg 3 0) = some (0,Ob.map kt tk tv) /\ s.h (.slot 3 0) = some (0,Ob.box [.p (PV.fn fo),.p (PV.fn fp),.p (.bool out),.p (.bool low)]) /\ s.h (.slot 10 0) = some (ww,Ob.arr 5 (acc.map Pt.pv)) /\ s.h (.slot 14 0) = some (0,Ob.map (KT.int IntKind.i64) ks vs)
  refine Al (eff.length) J ?_ ?_
  ·refine (hJ _ _).2 ⟨[],nv (s.h (.slot 10 0)),?_⟩
   and_intros
   ·exact by simp
   ·exact by simp
   all_goals exact cl0
  intro j s hj hJk
  obtain ⟨acc,ww,hacc,hal,hH⟩:=(hJ _ _).1 hJk
  clear hJk
  simp -implicitDefEqProofs (disch:=omega) only [hH,go_sem]
  refine Ah (fun hjl=>?_) (fun hjg=>?_)
  ·have hx : eff[j]? = some eff[j]:=lgg hjl
   have htk:=Bf hx
   generalize eff[j] = e at hx htk
   have hu:=hrep e.group
   have ho:=hown (Ac hs e.group)
   have hp:=hpr e
   have hg:=hget e.group
   have hr:=hroom e.group
   have hnew : ∀ r,(if out = true then B8 t hs z l e.group else 4611686018427387904) = r -> acc ++ [⟨e.group,Av t C e.group,pr e,own (Ac hs e.group),r⟩] = (eff.take (j + 1)).map (BK t hs z l own pr out):=by
    intro r hr
    rw [<- hr,hacc,htk,lma,<- hC]
    rfl
   simp only [Pr.vv] at hp
   cases out with
   | false =>
    simp -implicitDefEqProofs (disch:=omega) only [hH,hjl,hx,hu,ho,hp,hg,Pr.pv,go_sem]
    try refine ai ?_
    refine (hJ _ _).2 ⟨acc ++ [⟨e.group,Av t C e.group,pr e,own (Ac hs e.group),4611686018427387904⟩],ww + 1,?_⟩
    and_intros
    .exact hnew _ rfl
    .exact by simp; omega
    all_goals exact cl0
   | true =>
    simp -implicitDefEqProofs (disch:=omega) only [hH,hjl,hx,hu,ho,hp,hg,hr,Pr.pv,go_sem]
    try refine ai ?_
    refine (hJ _ _).2 ⟨acc ++ [⟨e.group,Av t C e.group,pr e,own (Ac hs e.group),B8 t hs z l e.group⟩],ww + 1,?_⟩
    and_intros
    .exact hnew _ rfl
    .exact by simp; omega
    all_goals exact cl0
  ·rw [ltl (by omega)] at hacc
   simp -implicitDefEqProofs (disch:=omega) only [hH,hjg,go_sem]
   rw [hacc]
theorem QW : ∀ (ks : List MKey) (vs : List PV) (k : MKey) (v w : PV),(At ks vs k v).1 = (At ks vs k w).1
 | [],_,_,_,_=>rfl
 | _ :: _,[],_,_,_=>rfl
 | a :: ks,b :: vs,k,v,w=>by
  have ih:=QW ks vs k v w
  unfold At
  split
  .rfl
  .simpa using ih
theorem Mx : ∀ (ks : List MKey) (vs : List PV) (k : MKey) (v x : PV),ks.length = vs.length -> (At ks vs k v).2.set (Da ks k) x = (At ks vs k x).2 /\ Da ks k < (At ks vs k v).2.length
 | [],[],_,_,_,_=>by simp [At,Da]
 | [],_ :: _,_,_,_,h=>by simp at h
 | _ :: _,[],_,_,_,h=>by simp at h
 | a :: ks,b :: vs,k,v,x,h=>by
  have ih:=Mx ks vs k v x (by simpa using h)
  unfold At Da
  split
  .simp
  .simpa using ih
structure RepH (ks : List MKey) (vs : List PV) (f : Int -> Sh) : Prop where
 len : ks.length = vs.length
 get : ∀ id,(AN ks vs (.int id)).getD (.agg [.int .i64 0,.int .i64 0,.int .i64 0,.int .i64 0]) = (f id).pv
theorem RepH.nil : RepH [] [] fun _=>zeroSh:=⟨rfl,fun _=>rfl⟩
theorem RepH.put {ks : List MKey} {vs : List PV} {f : Int -> Sh} (h : RepH ks vs f) (g : Int) (v : Sh) : RepH (At ks vs (.int g) v.pv).1 (At ks vs (.int g) v.pv).2 (fun x=>if x = g then v else f x):=by
 refine ⟨My _ _ _ _ h.len,fun id=>?_⟩
 rw [H7]
 by_cases hg : id = g
 ·subst hg
  simp
 ·simp [hg]
  exact h.get id
theorem ZJ (t : Tr) (hs : List Hg) (z : Int) (l : List Ch) (eff : List Pr) (hl : hs.length < 1000000) {fo fp : FuncId} (out low : Bool) (id n : Int) {tk : List MKey} {tv : List PV} {f : Int -> Sh} (hf : RepH tk tv f) (hn : Ax n) (hh : Ax (Ac hs id).file /\ Ax (Ac hs id).anon /\ Ax (Ac hs id).swap) (hk : Ax (f id).file /\ Ax (f id).anon /\ Ax (f id).low) :
  V 74 [.ptr (.arg 0 0) 0 0,.agg [.p (.fn fo),.p (.fn fp),.p (.bool out),.p (.bool low)],.p (.int .i64 id),.p (.int .i64 n)] [.box [.p (Au t.nodes),.p (.int .i64 t.next),.own (.arg 1 0) 0 0 hs.length,.p (.int .i64 z),.p (AP l),.own (.arg 2 0) 0 0 eff.length,.mref (.arg 3 0) 0],.arr 4 (hs.map Hg.pv),.arr 3 (eff.map Pr.pv),.map (.int .i64) tk tv] = some (.tup [],[.box [.p (Au t.nodes),.p (.int .i64 t.next),.fresh 4 ((putS hs (AQ out (Ac hs id) n)).map Hg.pv),.p (.int .i64 z),.p (AP l),.own (.arg 2 0) 0 0 eff.length,.mref (.arg 3 0) 0],.arr 4 (hs.map Hg.pv),.arr 3 (eff.map Pr.pv),.map (.int .i64) (At tk tv (.int id) (Bj out low id (f id) n).pv).1 (At tk tv (.int id) (Bj out low id (f id) n).pv).2]):=by
 refine Ag (vf:=vf74) rfl ?_
 have hget:=Gy ⟨hs,z⟩ id hl
 have hput:=fun a b c d : Int=>Sl ⟨hs,z⟩ ⟨a,b,c,d⟩ hl
 have hg:=hf.get id
 have hkey:=fun v : PV=>QW tk tv (.int id) v (Bj out low id (f id) n).pv
 have hset:=fun v x : PV=>(Mx tk tv (.int id) v x hf.len).1
 have hlt:=fun v : PV=>(Mx tk tv (.int id) v v hf.len).2
 simp only [Stk.vv] at hget
 simp only [Stk.vv,Stk.fv,Hg.vv] at hput
 obtain ⟨a1,a2,a3⟩:=hh
 obtain ⟨b1,b2,b3⟩:=hk
 have hgid:=Dd hs id
 generalize Ac hs id = x at hget a1 a2 a3 hgid ⊢
 generalize f id = k at hg b1 b2 b3 hkey ⊢
 obtain ⟨xg,xf,xa,xs⟩:=x
 obtain ⟨kg,kf,ka,kl⟩:=k
 simp only [Ax] at a1 a2 a3 b1 b2 b3 hn
 simp only [Sh.pv] at hg hkey
 cases out <;> cases low <;> (simp only [Bj,AQ,if_true,if_false,bft] at hkey ⊢; simp -implicitDefEqProofs (disch:=omega) only [vf74,TY,hget,hg,hput,Hg.vv,hlt,hset,hkey,Sh.pv,go_sem])
def IM (hs : List Hg) : List Ch:=hs.map fun h=>⟨h.group,h.swap⟩
theorem Ru : ∀ (hs : List Hg) (g : Int),Aq (IM hs) g = CA hs g
 | [],_=>rfl
 | h :: hs,g=>by
  have ih:=Ru hs g
  unfold CA at ih ⊢
  show (if h.group = g then h.swap else Aq (IM hs) g) = _
  rw [show Ac (h :: hs) g = if h.group = g then h else Ac hs g from rfl,ih]
  split <;> rfl
theorem Rt {t : Tr} (h : TreeOk t) {z : Int} {hs : List Hg} (hh : HgOk t.nodes z hs) : swT t hs 1 = Ab (hs.map (·.swap)):=by
 obtain ⟨r,hr,hr1⟩:=MQ h
 have h1:=Pw (l:=IM hs) (by rw [IM,List.pairwise_map]; exact hh.inc) (subF t.nodes t.nodes.length r.id) (Fi h hr) fun d hd=>by
  obtain ⟨x,hx,rfl⟩:=lmm.1 hd
  obtain ⟨m,hm,he⟩:=Cu (hh.known x hx)
  obtain ⟨j,hj⟩:=lgm hm
  show x.group ∈ _
  rw [<- he]
  exact (MW h hr _).2 ⟨j,m,hj,rfl,by rw [hr1]; exact JI h j m hj⟩
 rw [IM,List.map_map] at h1
 rw [swT,<- hr1,DM h hr]
 refine Eq.trans ?_ h1
 refine congrArg Ab (List.map_congr_left fun g _=>?_)
 rw [<- Ru]
 rfl
theorem Lf {t : Tr} (h : TreeOk t) {z : Int} {hs : List Hg} (hh : HgOk t.nodes z hs) (l : List Ch) (g : Int) : 0 <= B8 t hs z l g /\ B8 t hs z l g <= z - Ab (hs.map (·.swap)):=by
 have h1:=MC (swT t hs) l (ancF t.nodes t.nodes.length g) (z - swT t hs 1)
 have h2:=hh.out
 rw [Rt h hh] at h1
 unfold B8
 rw [Rt h hh]
 omega
theorem Yq {ns : List Nd} {z : Int} {hs : List Hg} (hh : HgOk ns z hs) : 0 <= Ab (hs.map (·.swap)):=Cs _ fun x hx=>(hh.swap x hx).1
theorem G6 {t : Tr} (h : TreeOk t) {c : List Ch} (hc : ChOk t.nodes c) (g : Int) : 0 <= Av t c g /\ Av t c g <= 16777216:=by
 unfold Av
 split
 ·rename_i hf
  obtain ⟨n,hn,rfl⟩:=Cu hf
  obtain ⟨j,hj⟩:=lgm hn
  have h1:=M6 h hc hj
  have h2:=Hb t (ES hc.pos) n.id
  have h3:=hc.all
  omega
 .omega
structure EffOk (t : Tr) (root : Int) (eff : List Pr) : Prop where
 groups : eff.map (·.group) = msort (subT t root)
 bound : ∀ e ∈ eff,(0 <= e.least /\ e.least <= 16777216) /\ (0 <= e.low /\ e.low <= 16777216)
def A8 (t : Tr) (c : List Ch) (l : List Pr) (root : Int) : List Pr:=(msort (subT t root)).map (CP t c l root)
theorem Lj {t : Tr} (h : TreeOk t) {c : List Ch} (hc : ChOk t.nodes c) (f : Pr -> Int) {l : List Pr} (hf : ∀ y ∈ l,0 <= f y) (x : Int) : 0 <= min (Av t c x) (B1 f l x) /\ min (Av t c x) (B1 f l x) <= 16777216:=by
 have h1:=K0 f hf x
 have h2:=G6 h hc x
 omega
theorem Kd {t : Tr} (h : TreeOk t) {c : List Ch} (hc : ChOk t.nodes c) {l : List Pr} (hl : PrOk t.nodes l) (root : Int) : EffOk t root (A8 t c l root):=by
 refine ⟨?_,fun e he=>?_⟩
 ·unfold A8
  rw [List.map_map]
  exact List.map_id _
 ·obtain ⟨g,_,rfl⟩:=lmm.1 he
  exact ⟨Jt t _ (Lj h hc (·.least) fun y hy=>(hl.least y hy).1) root g,Jt t _ (Lj h hc (·.low) fun y hy=>(hl.low y hy).1) root g⟩
theorem YF {t : Tr} (h : TreeOk t) {root : Int} (hr : InN t.nodes root) {hs : List Hg} {z : Int} (hh : HgOk t.nodes z hs) (hz : Ax z) (l : List Ch) {eff : List Pr} (he : EffOk t root eff) {own : Hg -> Int} {pr : Pr -> Int} (hown : ∀ g,Ax (own (Ac hs g))) (hpr : ∀ e ∈ eff,Ax (pr e)) (out : Bool) : PartsOk t (eff.map (BK t hs z l own pr out)) root:=by
 refine ⟨h,hr,?_,fun x hx=>?_⟩
 ·rw [List.map_map]
  exact he.groups
 ·obtain ⟨e,hem,rfl⟩:=lmm.1 hx
  have h1:=G6 h (Dw hh) e.group
  have h2:=hown e.group
  have h3:=hpr e hem
  have h4:=Lf h hh l e.group
  have h5:=Yq hh
  unfold Ax at h2 h3 hz
  refine ⟨h1.1,h1.2,h3.1,h3.2,h2.1,h2.2,?_,?_⟩
  ·show 0 <= if out = true then B8 t hs z l e.group else 4611686018427387904
   split <;> omega
  ·show (if out = true then B8 t hs z l e.group else 4611686018427387904) <= 4611686018427387904
   split <;> omega
theorem Hd {t : Tr} {hs : List Hg} {z : Int} {l : List Ch} {own : Hg -> Int} {pr : Pr -> Int} {out : Bool} {g : Int} : ∀ {eff : List Pr},g ∈ eff.map (·.group) -> ∃ e ∈ eff,e.group = g /\ partOf (eff.map (BK t hs z l own pr out)) g = BK t hs z l own pr out e
 | [],h=>by simp at h
 | e :: eff,h=>by
  unfold partOf
  rw [lpc,List.find?_cons]
  by_cases he : e.group = g
  ·refine ⟨e,by simp,he,?_⟩
   simp [BK,he]
  ·have h1 : g ∈ eff.map (·.group):=by simpa [Ne.symm he,eq_comm] using h
   obtain ⟨e',he',hg,hp⟩:=Hd (t:=t) (hs:=hs) (z:=z) (l:=l) (own:=own) (pr:=pr) (out:=out) h1
   refine ⟨e',by simp [he'],hg,?_⟩
   have : decide ((BK t hs z l own pr out e).group = g) = false:=decide_eq_false he
   rw [this]
   exact hp
theorem DN {t : Tr} (h : TreeOk t) {root : Int} (hr : InN t.nodes root) {eff : List Pr} (he : EffOk t root eff) (g : Int) : g ∈ eff.map (·.group) ↔ g ∈ subA t root:=by
 obtain ⟨i,n,hn,hre⟩:=hr
 rw [he.groups,(D2 _).mem_iff,<- hre,DM h hn]
def Bm (out : Bool) (x : Hg) : Int:=if out then x.anon else x.file
def prS (low : Bool) (x : Pr) : Int:=if low then x.least else max x.least x.low
abbrev ShSt:=List Hg × (Int -> Sh) × Int
abbrev A2 (t : Tr) (z : Int) (l : List Ch) (eff : List Pr) (out low : Bool) (hs : List Hg) : List Pt:=eff.map (BK t hs z l (Bm out) (prS low) out)
def takesS (t : Tr) (z : Int) (l : List Ch) (eff : List Pr) (root : Int) (out low : Bool) (s : ShSt) : List (Int × Int):=(Cy t (A2 t z l eff out low s.1) root s.2.2).1
def AK (out low : Bool) (s : ShSt) (a : List (Int × Int)) : ShSt:=((C0 out low (s.1,s.2.1) a).1,(C0 out low (s.1,s.2.1) a).2,s.2.2 - Ab (a.map Prod.snd))
def Eg (t : Tr) (z : Int) (l : List Ch) (eff : List Pr) (root : Int) (out low : Bool) (s : ShSt) : ShSt:=AK out low s (takesS t z l eff root out low s)
def outR (k : Nat) : Bool:=decide (k % 2 = 1)
def lowR (k : Nat) : Bool:=decide (2 <= k)
def Bk (t : Tr) (z : Int) (l : List Ch) (eff : List Pr) (root : Int) (s0 : ShSt) : Nat -> ShSt
 | 0=>s0
 | k + 1=>Eg t z l eff root (outR k) (lowR k) (Bk t z l eff root s0 k)
structure ShOk (t : Tr) (z n0 : Int) (s : ShSt) : Prop where
 hs : HgOk t.nodes z s.1
 left : 0 <= s.2.2 /\ s.2.2 <= n0
 file : ∀ x,0 <= (s.2.1 x).file /\ (s.2.1 x).file <= n0 - s.2.2
 anon : ∀ x,0 <= (s.2.1 x).anon /\ (s.2.1 x).anon <= n0 - s.2.2
 low : ∀ x,0 <= (s.2.1 x).low /\ (s.2.1 x).low <= n0 - s.2.2
 grp : ∀ x,s.2.1 x = zeroSh \/ (s.2.1 x).group = x
theorem Rv {S : List Int} {a : List (Int × Int)} (h : ∀ q ∈ a,0 <= q.2) : Ar S a <= Ab (a.map Prod.snd):=by
 induction a with
 | nil=>exact Int.le_refl _
 | cons q a ih =>
  have h1:=ih fun r hr=>h r (by simp [hr])
  have h2:=h q (by simp)
  have h3 : Ar S (q :: a) = (if q.1 ∈ S then q.2 else 0) + Ar S a:=rfl
  rw [h3,lpc,Ab]
  split <;> omega
theorem Yo {t : Tr} {z n0 : Int} (hz : z <= 16777216) {s : ShSt} (hs : ShOk t z n0 s) (out low : Bool) {a : List (Int × Int)} (hq : ∀ q ∈ a,0 < q.2 /\ (Ao t.nodes q.1).isSome = true) (ho : ∀ x,Ar [x] a <= Bm out (Ac s.1 x)) (hsw : out = true -> Ab (s.1.map (·.swap)) + Ab (a.map Prod.snd) <= z) (hl : Ab (a.map Prod.snd) <= s.2.2) : ShOk t z n0 (AK out low s a):=by
 have h1:=Pv hz out low a (s.1,s.2.1) hs.hs hq (fun x=>by
  have:=ho x
  unfold Bm at this
  exact this) hsw
 have hq0 : ∀ q ∈ a,0 <= q.2:=fun q hqm=>by have:=(hq q hqm).1; omega
 have hsn : 0 <= Ab (a.map Prod.snd):=Cs _ hq0
 have hon : ∀ x,0 <= Ar [x] a /\ Ar [x] a <= Ab (a.map Prod.snd):=fun x=>⟨KZ hq0,Rv hq0⟩
 have hle:=hs.left
 have key : ∀ x,(AK out low s a).2.1 x = if x ∈ a.map Prod.fst then Bj out low x (s.2.1 x) (Ar [x] a) else s.2.1 x:=fun x=>KY out low x a (s.1,s.2.1)
 have hn : (AK out low s a).2.2 = s.2.2 - Ab (a.map Prod.snd):=rfl
 refine ⟨h1.1,by rw [hn]; omega,fun x=>?_,fun x=>?_,fun x=>?_,fun x=>?_⟩
 ·rw [key x,hn]
  have b1:=hs.file x
  have b2:=hon x
  split
  ·unfold Bj
   cases out <;> simp <;> omega
  ·omega
 ·rw [key x,hn]
  have b1:=hs.anon x
  have b2:=hon x
  split
  ·unfold Bj
   cases out <;> simp <;> omega
  ·omega
 ·rw [key x,hn]
  have b1:=hs.low x
  have b2:=hon x
  split
  ·unfold Bj
   cases low <;> simp <;> omega
  .omega
 ·rw [key x]
  split
  .exact .inr rfl
  .exact hs.grp x
theorem Ql {f : Int × Int -> Int} : ∀ (a : List (Int × Int)) (j : Nat),(∀ q ∈ a,0 <= f q) -> Ab ((a.take j).map f) <= Ab (a.map f)
 | [],j,_=>by simp
 | q :: a,0,h=>by
  have:=Cs (f:=f) (q :: a) h
  simpa [Ab] using this
 | q :: a,j + 1,h=>by
  have ih:=Ql a j fun r hr=>h r (by simp [hr])
  simp only [List.take_succ_cons,lpc,Ab]
  omega
theorem J2 {t : Tr} (h : TreeOk t) {root : Int} (hr : InN t.nodes root) {z n0 : Int} (hz : Ax z) (hn : n0 <= 16777216) (l : List Ch) {eff : List Pr} (he : EffOk t root eff) (out low : Bool) {s : ShSt} (hs : ShOk t z n0 s) :
  PartsOk t (A2 t z l eff out low s.1) root /\ Cy t (A2 t z l eff out low s.1) root s.2.2 = (takesS t z l eff root out low s,0) /\ RoundOk t (A2 t z l eff out low s.1) root (min s.2.2 (capR t (A2 t z l eff out low s.1) root)) (takesS t z l eff root out low s) /\ Ab ((takesS t z l eff root out low s).map Prod.snd) = min s.2.2 (capR t (A2 t z l eff out low s.1) root) /\ (∀ x,Ar [x] (takesS t z l eff root out low s) <= Bm out (Ac s.1 x)) /\ ∀ j,ShOk t z n0 (AK out low s ((takesS t z l eff root out low s).take j)):=by
 have hP : PartsOk t (A2 t z l eff out low s.1) root:=YF h hr hs.hs hz l he (fun g=>by
  obtain ⟨a,b,_⟩:=hs.hs.get g
  unfold Bm
  cases out <;> simp <;> assumption) (fun e hem=>by
  have:=he.bound e hem
  unfold prS Ax
  cases low <;> simp <;> omega) out
 have hle:=hs.left
 obtain ⟨a,ha,hR⟩:=RH hP hle.1 (by omega)
 have hta : takesS t z l eff root out low s = a:=by unfold takesS; rw [ha]
 rw [hta]
 have hq0 : ∀ q ∈ a,0 <= q.2:=fun q hqm=>by have:=(hR.pos q hqm).1; omega
 have hsum : Ab (a.map Prod.snd) = min s.2.2 (capR t (A2 t z l eff out low s.1) root):=by
  rw [<- hR.top,hR.on root hr,Hf fun q hq=>hR.groups q hq]
 have hown : ∀ x,Ar [x] a <= Bm out (Ac s.1 x):=fun x=>by
  by_cases hx : x ∈ subA t root
  ·have h1:=(QI hP.ok hR x).2
   obtain ⟨e,hem,hg,hp⟩:=Hd (t:=t) (hs:=s.1) (z:=z) (l:=l) (own:=Bm out) (pr:=prS low) (out:=out) ((DN h hr he x).2 hx)
   rw [hp] at h1
   show Ar [x] a <= Bm out (Ac s.1 x)
   rw [<- hg] at h1 ⊢
   exact h1
  ·rw [DK fun q hq hqx=>hx (by
    have:=hR.groups q hq
    simp only [List.mem_singleton] at hqx
    rw [<- hqx]
    exact this)]
   obtain ⟨a1,a2,_⟩:=hs.hs.get x
   unfold Bm Ax at *
   cases out <;> simp <;> omega
 have hsw : out = true -> Ab (s.1.map (·.swap)) + Ab (a.map Prod.snd) <= z:=fun ho=>by
  have h1:=(M8 h (l:=A2 t z l eff out low s.1) hr).1
  obtain ⟨e,hem,hg,hp⟩:=Hd (t:=t) (hs:=s.1) (z:=z) (l:=l) (own:=Bm out) (pr:=prS low) (out:=out) ((DN h hr he root).2 (Jy h hr))
  rw [hp] at h1
  have h2:=(Lf h hs.hs l e.group).2
  simp only [BK,ho,if_true] at h1
  rw [hsum]
  subst ho
  omega
 refine ⟨hP,ha,hR,hsum,hown,fun j=>?_⟩
 have htl:=Ql a j (f:=Prod.snd) hq0
 refine Yo hz.2 hs out low (fun q hq=>?_) (fun x=>?_) (fun ho=>?_) ?_
 ·have hqm:=List.mem_of_mem_take hq
  refine ⟨(hR.pos q hqm).1,?_⟩
  obtain ⟨i,n,hn',hne⟩:=D3 h hr (hR.groups q hqm)
  rw [<- hne,BZ h.inc hn']
  rfl
 ·have:=hown x
  have:=Xl (S:=[x]) hq0 j
  omega
 ·have:=hsw ho
  omega
 .omega
theorem GG {t : Tr} (h : TreeOk t) {root : Int} (hr : InN t.nodes root) {z n0 : Int} (hz : Ax z) (hn : n0 <= 16777216) (l : List Ch) {eff : List Pr} (he : EffOk t root eff) {s0 : ShSt} (hs : ShOk t z n0 s0) : ∀ k,ShOk t z n0 (Bk t z l eff root s0 k)
 | 0=>hs
 | k + 1=>by
  have ih:=GG h hr hz hn l he hs k
  have h1:=(J2 h hr hz hn l he (outR k) (lowR k) ih).2.2.2.2.2 (takesS t z l eff root (outR k) (lowR k) (Bk t z l eff root s0 k)).length
  rw [List.take_length] at h1
  exact h1
theorem Gx {t : Tr} {z n : Int} {hs : List Hg} (hh : HgOk t.nodes z hs) (hn : 0 <= n) : ShOk t z n (hs,(fun _=>zeroSh),n):=by
 refine ⟨hh,⟨hn,Int.le_refl _⟩,fun _=>?_,fun _=>?_,fun _=>?_,fun _=>.inl rfl⟩ <;> (simp only []; omega)
def outL (f : Int -> Sh) (eff : List Pr) : List Sh:=(eff.map fun e=>f e.group).filter fun k=>decide (k.group ≠ 0)
def BF (t : Tr) (sw : Stk) (p : List Pr) (l : List Ch) (root n : Int) : Stk × List Sh × Int :=
 if BJ t sw && Dt t p && Du t l then
  if (Ao t.nodes root).isSome then
   if Ap n then (⟨(Bk t sw.size l (A8 t (An sw.hs) p root) root (sw.hs,(fun _=>zeroSh),n) 4).1,sw.size⟩,outL (Bk t sw.size l (A8 t (An sw.hs) p root) root (sw.hs,(fun _=>zeroSh),n) 4).2.1 (A8 t (An sw.hs) p root),0)
   else (⟨[],0⟩,[],3)
  else (⟨[],0⟩,[],4)
 else (⟨[],0⟩,[],1)
theorem zaN (x : Hg) : V 68 [x.vv] [] = some (.p (.int .i64 x.file),[]):=by
 refine Ag (vf:=vf68) rfl ?_
 simp -implicitDefEqProofs only [vf68,T3,go_sem]
theorem za4 (x : Hg) : V 70 [x.vv] [] = some (.p (.int .i64 x.anon),[]):=by
 refine Ag (vf:=vf70) rfl ?_
 simp -implicitDefEqProofs only [vf70,T1,go_sem]
theorem zaB (x : Pr) : V 69 [x.vv] [] = some (.p (.int .i64 (max x.least x.low)),[]):=by
 refine Ag (vf:=vf69) rfl ?_
 simp -implicitDefEqProofs only [vf69,T2,go_sem]
theorem zat (x : Pr) : V 71 [x.vv] [] = some (.p (.int .i64 x.least),[]):=by
 refine Ag (vf:=vf71) rfl ?_
 simp -implicitDefEqProofs only [vf71,T0,go_sem]
def fnO (out : Bool) : FuncId:=if out then 70 else 68
def fnP (low : Bool) : FuncId:=if low then 71 else 69
theorem zcy (out : Bool) (x : Hg) : V (fnO out) [x.vv] [] = some (.p (.int .i64 (Bm out x)),[]):=by
 cases out
 .exact zaN x
 .exact za4 x
theorem zcx (low : Bool) (x : Pr) : V (fnP low) [x.vv] [] = some (.p (.int .i64 (prS low x)),[]):=by
 cases low
 .exact zaB x
 .exact zat x
theorem Ww (out low : Bool) (s : ShSt) (b : List (Int × Int)) (q : Int × Int) : AK out low s (b ++ [q]) = (putS (AK out low s b).1 (AQ out (Ac (AK out low s b).1 q.1) q.2),(fun x=>if x = q.1 then Bj out low q.1 ((AK out low s b).2.1 q.1) q.2 else (AK out low s b).2.1 x),(AK out low s b).2.2 - q.2):=by
 unfold AK C0
 rw [lfa,lma,Ds]
 simp only [List.foldl_cons,List.foldl_nil,Eu,lpc,lpn,Ab]
 congr 2
 omega
theorem YG (f : Int -> Sh) (eff : List Pr) (e : Pr) : outL f (eff ++ [e]) = outL f eff ++ if (f e.group).group = 0 then [] else [f e.group]:=by
 unfold outL
 rw [lma,List.filter_append]
 congr 1
 by_cases h : (f e.group).group = 0 <;> simp [h]
theorem JN (f : Int -> Sh) (eff : List Pr) : (outL f eff).length <= eff.length:=by
 unfold outL
 refine Nat.le_trans (List.length_filter_le _ _) ?_
 rw [llm]
 exact lrf _
theorem Yv (t : Tr) (sw : Stk) (p : List Pr) (l : List Ch) (root n : Int) (hf : t.Fits) (hn : t.nodes.length < 1000000) (hl : sw.hs.length < 1000000) (hpl : p.length < 1000000) (hll : l.length < 1000000) : V 19 [t.vv,sw.vv,.p (BH p),.p (AP l),.p (.int .i64 root),.p (.int .i64 n)] [] = some (.tup [Stk.fv (BF t sw p l root n).1,.fresh 4 ((BF t sw p l root n).2.1.map Sh.pv),.p (.int .i64 (BF t sw p l root n).2.2)],[]):=by
 refine Ag (vf:=vf19) rfl ?_
 have hv := H5 t sw hf hn hl
 have hpv:=PN t p hf hn hpl
 have hlv:=XT t l hf hn hll
 have hck:=Qt t sw root hf hn hl
 have hpg:=Fo n
 have e4 : decide ((4 : Int) = 0) = false:=rfl
 unfold BF
 unfold Iz at hck
 by_cases h1 : BJ t sw = true
 ·rw [h1] at hv hck ⊢
  by_cases h2 : Dt t p = true
  ·rw [h2] at hpv ⊢
   by_cases h3 : Du t l = true
   ·rw [h3] at hlv ⊢
    by_cases h4 : (Ao t.nodes root).isSome = true
    ·rw [h4] at hck ⊢
     by_cases h5 : Ap n = true
     ·rw [h5] at hpg ⊢
      have hS:=(Dc t sw).1 h1
      have hT:=hS.tree
      have hPr:=((G5 t p).1 h2).2
      have hL:=LimOk.of ((K8 t l).1 h3).2
      have hlen:=hT.len
      have hr : InN t.nodes root:=by
       obtain ⟨m,hm,he⟩:=Cu h4
       obtain ⟨j,hj⟩:=lgm hm
       exact ⟨j,m,hj,he⟩
      have hcn:=Dw hS.hs
      have hct:=Lb sw hl (fun x hx=>⟨hS.hs.file x hx,hS.hs.anon x hx⟩)
      have hef:=zbu hT hcn hPr hr hpl
      have heo:=Kd hT hcn hPr root
      have hnb:=Cd h5
      have hz : Ax sw.size:=⟨hS.z0,hS.z1⟩
      have hsh:=GG hT hr hz hnb.2 l heo (Gx hS.hs hnb.1)
      have hrd:=fun k=>J2 hT hr hz hnb.2 l heo (outR k) (lowR k) (hsh k)
      have hS0 : Bk t sw.size l (A8 t (An sw.hs) p root) root (sw.hs,(fun _=>zeroSh),n) 0 = (sw.hs,(fun _=>zeroSh),n):=rfl
      have hSs : ∀ k,Bk t sw.size l (A8 t (An sw.hs) p root) root (sw.hs,(fun _=>zeroSh),n) (k + 1) = Eg t sw.size l (A8 t (An sw.hs) p root) root (outR k) (lowR k) (Bk t sw.size l (A8 t (An sw.hs) p root) root (sw.hs,(fun _=>zeroSh),n) k):=fun _=>rfl
      have hel : (A8 t (An sw.hs) p root).length <= 64:=by
       have h6:=CZ hT root
       unfold A8
       rw [llm,F9]
       omega
      have hemap : (msort (subT t root)).map (fun g=>(CP t (An sw.hs) p root g).pv) = (A8 t (An sw.hs) p root).map Pr.pv:=by
       unfold A8
       rw [List.map_map]
       rfl
      have hpt : ∀ (hs : List Hg) (k : Nat) (kt : KT) (tk : List MKey) (tv : List PV),HgOk t.nodes sw.size hs -> _:=fun hs k kt tk tv hh=>Yt hT hh hz hL hll (A8 t (An sw.hs) p root) (by omega) (zcy (outR k)) (zcx (lowR k)) (outR k) (lowR k) kt tk tv
      have hro:=fun (q : List Pt) (m : Int) (hq : q.length < 1000000)=>ZV t q root m hT.fits (by omega) hq
      rw [hemap] at hef
      generalize hE : A8 t (An sw.hs) p root = eff at hef heo hsh hrd hS0 hSs hel hemap hpt
      generalize hF : Bk t sw.size l eff root (sw.hs,(fun _=>zeroSh),n) = F at hsh hrd hS0 hSs ⊢
      simp -implicitDefEqProofs (disch:=omega) only [vf19,GS,hv,hpv,hlv,hck,hpg,hct,hef,go_sem]
      obtain ⟨I,hI⟩:=lpI fun k s=>∃ (ks : List MKey) (vs : List PV) (ww : Nat),RepH ks vs (F k).2.1 /\ s.pe 4 = .p (.int .i64 root) /\ s.pe 5 = .p (.int .i64 (F k).2.2) /\ s.pe 6 = .ptr (.slot 6 0) 0 0 /\ s.pe 12 = .ptr (.slot 12 0) 0 0 /\ s.pe 16 = .ptr (.slot 66 0) 0 0 /\ s.pe 83 = VVal.agg [.p (PV.fn 68),.p (PV.fn 69),.p (.bool false),.p (.bool false),.p (PV.fn 70),.p (PV.fn 69),.p (.bool true),.p (.bool false),.p (PV.fn 68),.p (PV.fn 71),.p (.bool false),.p (.bool true),.p (PV.fn 70),.p (PV.fn 71),.p (.bool true),.p (.bool true)] /\ s.pe 84 = .p (.int .i64 k) /\ s.h (.slot 6 0) = some (0,Ob.box [.p (Au t.nodes),.p (.int .i64 t.next)]) /\ s.h (.slot 12 0) = some (0,Ob.box [.own (.slot 12 1) 0 0 0,.p (.int .i64 0)]) /\ s.h (.slot 12 1) = some (0,Ob.arr 4 []) /\ s.h (.slot 59 0) = some (ww,Ob.arr 4 (List.map Hg.pv (F k).1)) /\ s.h (.slot 64 0) = some (0,Ob.map (KT.int IntKind.i64) ks vs) /\ s.h (.slot 66 0) = some (0,Ob.box [.p (Au t.nodes),.p (.int .i64 t.next),.own (.slot 59 0) ww 0 (F k).1.length,.p (.int .i64 sw.size),.p (AP l),.own (.slot 74 1) 0 0 eff.length,.mref (.slot 64 0) 0]) /\ s.h (.slot 74 1) = some (0,Ob.arr 3 (List.map Pr.pv eff))
      refine Al (4) I ?_ ?_
      ·refine (hI _ _).2 ⟨[],[],0,?_⟩
       and_intros
       ·exact by rw [hS0]; exact RepH.nil
       all_goals first | exact cl0 | (simp -implicitDefEqProofs (disch:=omega) only [lma,go_sem] <;> first | (simp [hS0]; done) | (simp [hS0]; omega))
      intro k s hk hIk
      obtain ⟨ks,vs,ww,hrep,h4,h5,h6,hH⟩:=(hI _ _).1 hIk
      clear hIk
      simp -implicitDefEqProofs (disch:=omega) only [hH,go_sem]
      refine Ah (fun hlt=>?_) (fun hge=>?_)
      ·have hidx : List.take 4 (List.drop (k * 4) [VVal.p (PV.fn 68),.p (PV.fn 69),.p (.bool false),.p (.bool false),.p (PV.fn 70),.p (PV.fn 69),.p (.bool true),.p (.bool false),.p (PV.fn 68),.p (PV.fn 71),.p (.bool false),.p (.bool true),.p (PV.fn 70),.p (PV.fn 71),.p (.bool true),.p (.bool true)]) = [.p (.fn (fnO (outR k))),.p (.fn (fnP (lowR k))),.p (.bool (outR k)),.p (.bool (lowR k))]:=by
        have hk4 : k = 0 \/ k = 1 \/ k = 2 \/ k = 3:=by omega
        rcases hk4 with rfl | rfl | rfl | rfl <;> rfl
       obtain ⟨hP,hRP,hRo,hsum,hown,hpre⟩:=hrd k
       have hp0:=hpt (F k).1 k (.int .i64) ks vs (hsh k).hs
       have hr0:=hro (A2 t sw.size l eff (outR k) (lowR k) (F k).1) (F k).2.2 (by rw [A2,llm]; omega)
       rw [hRP] at hr0
       simp only at hr0
       have hPl : (eff.map (BK t (F k).1 sw.size l (Bm (outR k)) (prS (lowR k)) (outR k))).length <= 64:=by rw [llm]; omega
       have hPo : ∀ q ∈ takesS t sw.size l eff root (outR k) (lowR k) (F k),Ax q.2:=fun q hq=>by
        have a1:=hRo.pos q hq
        have a2:=(Eo hP.ok q.1).o1
        exact ⟨by omega,by omega⟩
       unfold A2 at hr0
       have hFk:=hSs k
       have hok:=hsh (k + 1)
       rw [hFk] at hok
       unfold Eg at hFk
       generalize eff.map (BK t (F k).1 sw.size l (Bm (outR k)) (prS (lowR k)) (outR k)) = Q at hp0 hr0 hPl
       generalize takesS t sw.size l eff root (outR k) (lowR k) (F k) = a at hr0 hRo hpre hPo hFk
       have hal:=hRo.len
       have hG0 : AK (outR k) (lowR k) (F k) (a.take 0) = F k:=by
        unfold AK
        simp [C0,Ab]
       have hGs : ∀ (j : Nat) (q : Int × Int),a[j]? = some q -> AK (outR k) (lowR k) (F k) (a.take (j + 1)) = _:=fun j q hq=>by rw [Bf hq,Ww]
       rw [show AK (outR k) (lowR k) (F k) a = AK (outR k) (lowR k) (F k) (a.take a.length) by rw [List.take_length]] at hFk
       generalize hG : (fun j=>AK (outR k) (lowR k) (F k) (a.take j)) = G
       have hG' : ∀ j,AK (outR k) (lowR k) (F k) (a.take j) = G j:=fun j=>by rw [<- hG]
       simp only [hG'] at hpre hG0 hGs hFk
       clear hG hG' hRo hP hRP hsum hown
       obtain ⟨O,hO⟩ : ∃ O,fnO (outR k) = O:=⟨_,rfl⟩
       obtain ⟨U,hU⟩ : ∃ U,fnP (lowR k) = U:=⟨_,rfl⟩
       rw [hO,hU] at hidx hp0
       generalize outR k = o at *
       generalize lowR k = u at *
       simp -implicitDefEqProofs (disch:=omega) only [h4,h5,h6,hH,hlt,hidx,hp0,hr0,go_sem]
       have hS0:=hG0
       obtain ⟨J,hJ⟩:=lpI fun j s=>∃ (v18_0 : Nat) (v94_1 : Nat) (ks : List MKey) (vs : List PV) (ww : Nat),RepH ks vs (G j).2.1 /\ s.pe 4 = .p (.int .i64 root) /\ s.pe 5 = .p (.int .i64 (G j).2.2) /\ s.pe 6 = .ptr (.slot 6 0) 0 0 /\ s.pe 12 = .ptr (.slot 12 0) 0 0 /\ s.pe 16 = .ptr (.slot 66 0) 0 0 /\ s.pe 18 = .ptr (.slot 18 0) v18_0 0 /\ s.pe 83 = VVal.agg [.p (PV.fn 68),.p (PV.fn 69),.p (.bool false),.p (.bool false),.p (PV.fn 70),.p (PV.fn 69),.p (.bool true),.p (.bool false),.p (PV.fn 68),.p (PV.fn 71),.p (.bool false),.p (.bool true),.p (PV.fn 70),.p (PV.fn 71),.p (.bool true),.p (.bool true)] /\ s.pe 84 = .p (.int .i64 ↑k) /\ s.pe 97 = .own (.slot 94 1) v94_1 0 a.length /\ s.pe 98 = .p (.int .i64 ↑a.length) /\ s.pe 99 = .p (.int .i64 j) /\ s.h (.slot 6 0) = some (0,Ob.box [.p (Au t.nodes),.p (.int .i64 t.next)]) /\ s.h (.slot 12 0) = some (0,Ob.box [.own (.slot 12 1) 0 0 0,.p (.int .i64 0)]) /\ s.h (.slot 12 1) = some (0,Ob.arr 4 []) /\ s.h (.slot 18 0) = some (v18_0,Ob.box [.p (PV.fn O),.p (PV.fn U),.p (.bool o),.p (.bool u)]) /\ s.h (.slot 59 0) = some (ww,Ob.arr 4 (List.map Hg.pv (G j).1)) /\ s.h (.slot 64 0) = some (0,Ob.map (KT.int IntKind.i64) ks vs) /\ s.h (.slot 66 0) = some (0,Ob.box [.p (Au t.nodes),.p (.int .i64 t.next),.own (.slot 59 0) ww 0 (G j).1.length,.p (.int .i64 sw.size),.p (AP l),.own (.slot 74 1) 0 0 eff.length,.mref (.slot 64 0) 0]) /\ s.h (.slot 74 1) = some (0,Ob.arr 3 (List.map Pr.pv eff)) /\ s.h (.slot 94 1) = some (v94_1,Ob.arr 2 (List.map tkP a))
       refine Al (a.length) J ?_ ?_
       ·refine (hJ _ _).2 ⟨nv (Cq [18,91,94] s.h (.slot 18 0)),nv (Cq [18,91,94] s.h (.slot 94 1)),ks,vs,ww,?_⟩
        and_intros
        ·exact by rw [hG0]; exact hrep
        all_goals first | exact cl0 | (simp -implicitDefEqProofs (disch:=omega) only [h4,h5,h6,hH,lma,go_sem] <;> first | (simp [hS0]; done) | (simp [hS0]; omega))
       intro j s hj hJk
       obtain ⟨v18_0,v94_1,ks,vs,ww,hrp,h4,h5,h6,hH⟩:=(hJ _ _).1 hJk
       clear hJk
       simp -implicitDefEqProofs (disch:=omega) only [hH,go_sem]
       refine Ah (fun hjl=>?_) (fun hjg=>?_)
       ·have hx : a[j]? = some a[j]:=lgg hjl
        have hgs:=hGs j _ hx
        have hqo:=hPo a[j] (lgk _)
        have hpj:=hpre j
        have hpj2:=hpre (j + 1)
        generalize a[j] = q at hx hgs hqo
        obtain ⟨g,m⟩:=q
        have hlj:=hpj.hs.length
        have hle:=hpj.left
        have hmb : Ax m:=hqo
        have htk:=ZJ t (G j).1 sw.size l eff (by omega) (fo:=O) (fp:=U) o u g m hrp hqo (hpj.hs.get g) (by
         have b1:=hpj.file g
         have b2:=hpj.anon g
         have b3:=hpj.low g
         unfold Ax
         omega)
        have hrn:=hrp.put g (Bj o u g ((G j).2.1 g) m)
        simp only at hgs
        unfold Ax at hmb
        have hrn' : RepH (At ks vs (.int g) (Bj o u g ((G j).2.1 g) m).pv).1 (At ks vs (.int g) (Bj o u g ((G j).2.1 g) m).pv).2 (G (j + 1)).2.1:=by rw [hgs]; exact hrn
        have e1 : (G (j + 1)).1 = putS (G j).1 (AQ o (Ac (G j).1 g) m):=by rw [hgs]
        have e2 : (G (j + 1)).2.2 = (G j).2.2 - m:=by rw [hgs]
        have hl2:=hpj2.hs.length
        rw [e1] at hl2
        simp -implicitDefEqProofs (disch:=omega) only [h5,hH,hjl,hx,htk,tkP,go_sem]
        try refine ai ?_
        refine (hJ _ _).2 ⟨v18_0,v94_1,(At ks vs (.int g) (Bj o u g ((G j).2.1 g) m).pv).1,(At ks vs (.int g) (Bj o u g ((G j).2.1 g) m).pv).2,ww + 1,?_⟩
        and_intros
        ·exact hrn'
        all_goals first | exact cl0 | (simp -implicitDefEqProofs (disch:=omega) only [h4,h5,h6,hH,e1,e2,Sh.pv,lma,go_sem] <;> first | (simp [hS0]; done) | (simp [hS0]; omega))
       ·have hje : j = a.length:=by omega
        rw [hje,<- hFk] at hrp
        have hrp':=hrp
        simp -implicitDefEqProofs (disch:=omega) only [hH,hjg,go_sem]
        try refine ai ?_
        refine (hI _ _).2 ⟨ks,vs,ww,?_⟩
        and_intros
        ·exact hrp
        all_goals first | exact cl0 | (simp -implicitDefEqProofs (disch:=omega) only [h5,hH,hFk,hje,go_sem] <;> first | (simp [hS0]; done) | (simp [hS0]; omega))
      ·have hk4 : k = 4:=by omega
       subst hk4
       have hok:=hsh 4
       simp -implicitDefEqProofs (disch:=omega) only [hH,hge,go_sem]
       obtain ⟨g,hg⟩ : ∃ g,(F 4).2.1 = g:=⟨_,rfl⟩
       rw [hg] at hrep
       rw [hg]
       have hS0 : (F 4).2.1 = g:=hg
       obtain ⟨K,hK⟩:=lpI fun k s=>∃ (acc : List Sh) (wv : Nat),acc = outL g (eff.take k) /\ acc.length <= k /\ s.pe 12 = .ptr (.slot 12 0) 0 0 /\ s.pe 16 = .ptr (.slot 66 0) 0 0 /\ s.pe 23 = .own (.slot 23 0) wv 0 acc.length /\ s.pe 119 = .own (.slot 74 1) 0 0 eff.length /\ s.pe 120 = .p (.int .i64 ↑eff.length) /\ s.pe 121 = .p (.int .i64 k) /\ s.h (.slot 12 0) = some (0,Ob.box [.own (.slot 12 1) 0 0 0,.p (.int .i64 0)]) /\ s.h (.slot 12 1) = some (0,Ob.arr 4 []) /\ s.h (.slot 23 0) = some (wv,Ob.arr 4 (acc.map Sh.pv)) /\ s.h (.slot 59 0) = some (ww,Ob.arr 4 (List.map Hg.pv (F 4).1)) /\ s.h (.slot 64 0) = some (0,Ob.map (KT.int IntKind.i64) ks vs) /\ s.h (.slot 66 0) = some (0,Ob.box [.p (Au t.nodes),.p (.int .i64 t.next),.own (.slot 59 0) ww 0 (F 4).1.length,.p (.int .i64 sw.size),.p (AP l),.own (.slot 74 1) 0 0 eff.length,.mref (.slot 64 0) 0]) /\ s.h (.slot 74 1) = some (0,Ob.arr 3 (List.map Pr.pv eff))
       refine Al (eff.length) K ?_ ?_
       ·refine (hK _ _).2 ⟨[],nv (Cq [18,91,94] s.h (.slot 23 0)),?_⟩
        and_intros
        ·rfl
        ·exact by simp
        all_goals first | exact cl0 | (simp -implicitDefEqProofs (disch:=omega) only [h4,h5,h6,hH,lma,go_sem] <;> first | (simp [hS0]; done) | (simp [hS0]; omega))
       intro k s hk hKk
       obtain ⟨acc,wv,hacc,hal,hH⟩:=(hK _ _).1 hKk
       clear hKk
       simp -implicitDefEqProofs (disch:=omega) only [hH,go_sem]
       refine Ah (fun hkl=>?_) (fun hkg=>?_)
       ·have hx : eff[k]? = some eff[k]:=lgg hkl
        have htk:=Bf hx
        generalize eff[k] = e at hx htk
        have hge:=hrep.get e.group
        have hol:=YG g (eff.take k) e
        rw [<- htk] at hol
        have hgv : (g e.group).pv = .agg [.int .i64 (g e.group).group,.int .i64 (g e.group).file,.int .i64 (g e.group).anon,.int .i64 (g e.group).low]:=rfl
        rw [hgv] at hge
        generalize g e.group = x at hge hol
        by_cases hx0 : x.group = 0
        ·rw [if_pos hx0,lan] at hol
         have hx0' : (!decide (x.group = 0)) = false:=by simp [hx0]
         simp -implicitDefEqProofs (disch:=omega) only [hH,hkl,hx,hge,Pr.pv,hx0,go_sem]
         try refine ai ?_
         refine (hK _ _).2 ⟨acc,wv,?_⟩
         and_intros
         .exact by rw [hol]; exact hacc
         .omega
         all_goals first | exact cl0 | (simp -implicitDefEqProofs (disch:=omega) only [hH,lma,go_sem] <;> first | (simp [hS0]; done) | (simp [hS0]; omega))
        ·rw [if_neg hx0] at hol
         simp -implicitDefEqProofs (disch:=omega) only [hH,hkl,hx,hge,Pr.pv,hx0,go_sem]
         try refine ai ?_
         refine (hK _ _).2 ⟨acc ++ [x],wv + 1,?_⟩
         and_intros
         .exact by rw [hol,hacc]
         .exact by simp; omega
         all_goals first | exact cl0 | (simp -implicitDefEqProofs (disch:=omega) only [hH,lma,go_sem] <;> first | (simp [hS0]; done) | (simp [hS0]; omega))
       ·rw [ltl (by omega)] at hacc
        simp -implicitDefEqProofs (disch:=omega) only [hH,hkg,go_sem]
        rw [hacc]
     ·have h5' : Ap n = false:=by simpa using h5
      rw [h5'] at hpg ⊢
      simp -implicitDefEqProofs (disch:=omega) only [vf19,GS,hv,hpv,hlv,hck,hpg,go_sem] <;> rfl
    ·have h4' : (Ao t.nodes root).isSome = false:=by simpa using h4
     rw [h4'] at hck ⊢
     simp -implicitDefEqProofs (disch:=omega) only [vf19,GS,hv,hpv,hlv,hck,e4,go_sem] <;> rfl
   ·have h3' : Du t l = false:=by simpa using h3
    rw [h3'] at hlv ⊢
    simp -implicitDefEqProofs (disch:=omega) only [vf19,GS,hv,hpv,hlv,go_sem] <;> rfl
  ·have h2' : Dt t p = false:=by simpa using h2
   rw [h2'] at hpv ⊢
   simp -implicitDefEqProofs (disch:=omega) only [vf19,GS,hv,hpv,go_sem] <;> rfl
 ·have h1' : BJ t sw = false:=by simpa using h1
  rw [h1'] at hv ⊢
  simp -implicitDefEqProofs (disch:=omega) only [vf19,GS,hv,go_sem] <;> rfl
theorem DO {t : Tr} {z : Int} {l : List Ch} {eff : List Pr} {root : Int} {out low : Bool} {s : ShSt} {P : List Pt} {S : List Int} {a : List (Int × Int)} (h1 : msort (subT t root) = S) (h0 : A2 t z l eff out low s.1 = P) (h2 : (AF t && (!(subT t root).isEmpty && A0 P S)) = true) (h3 : Ap s.2.2 = true) (h4 : takeR t P root (min s.2.2 (capR t P root)) = a) (h5 : a.Pairwise fun x y=>x.1 <= y.1) : Eg t z l eff root out low s = AK out low s a:=by
 unfold Eg takesS
 rw [h0,Cy,CK,h1,if_pos h2,if_pos h3]
 show AK out low s (tsort (takeR t P root (min s.2.2 (capR t P root)))) = _
 rw [h4,Zt h5]
theorem Mo {t : Tr} {z : Int} {l : List Ch} {eff : List Pr} {root : Int} {s0 s1 s2 s3 s4 : ShSt} (h1 : Eg t z l eff root false false s0 = s1) (h2 : Eg t z l eff root true false s1 = s2) (h3 : Eg t z l eff root false true s2 = s3) (h4 : Eg t z l eff root true true s3 = s4) : Bk t z l eff root s0 4 = s4:=by
 rw [<- h4,<- h3,<- h2,<- h1]
 rfl
def Hp (L : List Int) (a : Nat) (id : Int) : Hg:=⟨id,Bs L a [0,0,4,30,100],Bs L (Ae L a 5) [0,5,20,80],Bs L (Ae L (Ae L a 5) 4) [0,0,3,15]⟩
def Sk (L : List Int) (a : Nat) : Nat:=Ae L (Ae L (Ae L a 5) 4) 4
def FJ (L : List Int) (t : Tr) : List Nd -> Nat -> Stk -> Stk × Nat
 | [],a,s=>(s,a)
 | n :: ns,a,s=>FJ L t ns (Sk L a) (if (Fd t s (Hp L a n.id)).2 = 0 then (Fd t s (Hp L a n.id)).1 else s)
theorem Rk (L : List Int) (t : Tr) : ∀ (ns : List Nd) (a : Nat) (s : Stk),StkOk t s -> StkOk t (FJ L t ns a s).1
 | [],_,_,h=>h
 | n :: ns,a,s,h=>by
  unfold FJ
  refine Rk L t ns _ _ ?_
  split
  .rename_i h0; exact SU h0
  .exact h
def D6 (L : List Int) (a : Nat) : Stk:=⟨[],Bs L a [0,20,200,5000]⟩
theorem Qn (L : List Int) (a : Nat) {t : Tr} (h : TreeOk t) : StkOk t (D6 L a):=by
 have hm:=QF L a (xs:=[0,20,200,5000]) (by simp)
 simp only [lmk,List.not_mem_nil,or_false] at hm
 refine ⟨h,?_,?_,⟨by simp [D6],by simp [D6],by simp [D6],by simp [D6],by simp [D6],by simp [D6],by simp [D6,Ab],?_⟩⟩
 all_goals (simp only [D6,Ab,lpn]; omega)
def IE (L : List Int) (a : Nat) (t : Tr) : Stk × Nat:=FJ L t t.nodes (Ae L a 4) (D6 L a)
theorem ZG (L : List Int) (a : Nat) {t : Tr} (h : TreeOk t) (hL : L.length < 4611686018427387904) : V 9 [.ptr (.arg 0 0) 0 0,t.vv] [A3 L a] = some ((IE L a t).1.fv,[A3 L (IE L a t).2]):=by
 refine Ag (vf:=vf9) rfl ?_
 have hlen:=h.len
 have hp0:=Cw L a [0,20,200,5000] hL (by simp) (by simp)
 simp only [AT,llc,lln,rA,lpc,lpn] at hp0
 have hnA0 : Ae L a ((4 : Nat) : Int) = Ae L a 4:=rfl
 rw [hnA0] at hp0
 have hok0:=Qn L a h
 unfold IE
 unfold D6 at hok0 ⊢
 generalize Bs L a [0,20,200,5000] = z at hp0 hok0
 generalize Ae L a 4 = a0 at hp0
 simp -implicitDefEqProofs (disch:=omega) only [vf9,vb9,hp0,go_sem]
 obtain ⟨I,hI⟩:=lpI fun k s=>∃ (b : Nat) (c : Stk) (ww : Nat),StkOk t c /\ FJ L t t.nodes a0 ⟨[],z⟩ = FJ L t (t.nodes.drop k) b c /\ s.pe 0 = .ptr (Id.arg 0 0) 0 0 /\ s.pe 3 = .ptr (.slot 3 0) 0 0 /\ s.pe 4 = .ptr (.slot 4 0) 0 0 /\ s.pe 5 = .ptr (.slot 5 0) 0 0 /\ s.pe 6 = .p (.int .i64 k) /\ s.h (.arg 0 0) = some (0,A3 L b) /\ s.h (.slot 3 0) = some (0,Ob.box [.p (Au t.nodes),.p (.int .i64 t.next)]) /\ s.h (.slot 4 0) = some (0,Ob.box [.own (.slot 4 1) 0 0 0,.p (.int .i64 0)]) /\ s.h (.slot 4 1) = some (0,Ob.arr 4 []) /\ s.h (.slot 5 0) = some (0,Ob.box [.own (.slot 13 1) ww 0 c.hs.length,.p (.int .i64 c.size)]) /\ s.h (.slot 13 1) = some (ww,Ob.arr 4 (c.hs.map Hg.pv))
 refine Al (t.nodes.length) I ?_ ?_
 ·refine (hI _ _).2 ⟨a0,⟨[],z⟩,0,?_⟩
  and_intros
  ·exact hok0
  ·rfl
  all_goals exact cl0
 intro k s hk hIk
 obtain ⟨b,c,ww,hc,hd,hH⟩:=(hI _ _).1 hIk
 clear hIk
 have hcl:=hc.hs.length
 simp -implicitDefEqProofs (disch:=omega) only [hH,go_sem]
 refine Ah (fun hlt=>?_) (fun hge=>?_)
 ·have hm : t.nodes[k]? = some t.nodes[k]:=lgg hlt
  have hdr : t.nodes.drop k = t.nodes[k] :: t.nodes.drop (k + 1):=ldg hlt
  generalize t.nodes[k] = m at hm hdr
  rw [hdr,FJ] at hd
  have p1:=Cw L b [0,0,4,30,100] hL (by simp) (by simp)
  have p2:=Cw L (Ae L b 5) [0,5,20,80] hL (by simp) (by simp)
  have p3:=Cw L (Ae L (Ae L b 5) 4) [0,0,3,15] hL (by simp) (by simp)
  have hput:=ZU t c (Hp L b m.id) (by omega) (by omega)
  have hok:=SU (t:=t) (sw:=c) (h:=Hp L b m.id)
  simp only [AT,llc,lln,rA,lpc,lpn] at p1 p2 p3
  unfold Hp Sk at hd
  unfold Hp at hput hok
  have e5 : Ae L b ((5 : Nat) : Int) = Ae L b 5:=rfl
  rw [e5] at p1
  generalize Bs L b [0,0,4,30,100] = v1 at p1 hput hok hd
  generalize Ae L b 5 = b1 at p1 p2 p3 hput hok hd
  have e4 : Ae L b1 ((4 : Nat) : Int) = Ae L b1 4:=rfl
  rw [e4] at p2
  generalize Bs L b1 [0,5,20,80] = v2 at p2 hput hok hd
  generalize Ae L b1 4 = b2 at p2 p3 hput hok hd
  have e4' : Ae L b2 ((4 : Nat) : Int) = Ae L b2 4:=rfl
  rw [e4'] at p3
  generalize Bs L b2 [0,0,3,15] = v3 at p3 hput hok hd
  generalize Ae L b2 4 = b3 at p3 hd
  generalize Fd t c ⟨m.id,v1,v2,v3⟩ = r at hput hok hd
  obtain ⟨⟨rl,rz⟩,re⟩:=r
  simp only at hput hok hd
  by_cases he : re = 0
  ·subst he
   rw [if_pos rfl] at hd
   simp -implicitDefEqProofs (disch:=omega) only [hH,hlt,hm,p1,p2,p3,hput,go_sem]
   try refine ai ?_
   refine (hI _ _).2 ⟨b3,⟨rl,rz⟩,ww + 1,?_⟩
   and_intros
   .exact hok rfl
   .exact hd
   all_goals exact cl0
  ·rw [if_neg he] at hd
   simp -implicitDefEqProofs (disch:=omega) only [hH,hlt,hm,p1,p2,p3,hput,he,go_sem]
   try refine ai ?_
   refine (hI _ _).2 ⟨b3,c,ww,?_⟩
   and_intros
   .exact hc
   .exact hd
   all_goals exact cl0
 ·rw [ldl (by omega),FJ] at hd
  rw [hd]
  simp -implicitDefEqProofs (disch:=omega) only [hH,hge,go_sem]
theorem Zy {t : Tr} (h : TreeOk t) {l : List Ch} (hl : ChOk t.nodes l) {i : Nat} {n : Nd} (hn : t.nodes[i]? = some n) : V 145 [t.vv,Dq l,.p (.int .i64 n.id)] [] = some (.tup [.p (.int .i64 (tot t (Aq l) n.id)),.p (.int .i64 0)],[]):=by
 have h0 : E4 t l n.id = 0:=O8.2 ⟨h,hl,i,n,hn,rfl⟩
 have hlen:=h.len
 have hll:=hl.length
 have:=Zx t l n.id h.fits (by omega) (by omega)
 rw [NH,if_pos h0,h0] at this
 exact this
theorem ZA {t : Tr} (h : TreeOk t) {c : List Ch} (hc : ChOk t.nodes c) : tot t (Aq c) 1 = Ab (c.map (·.own)):=by
 obtain ⟨r,hr,hr1⟩:=MQ h
 rw [<- hr1]
 refine Pw hc.inc _ (Fi h hr) fun d hd=>?_
 obtain ⟨m,hm,he⟩:=Cu (hc.known d hd)
 obtain ⟨j,hj⟩:=lgm hm
 rw [<- he]
 exact (MW h hr _).2 ⟨j,m,hj,rfl,by rw [hr1]; exact JI h j m hj⟩
theorem zal {ns : List Nd} {n : Nd} (h : n ∈ ns) : (Ao ns n.id).isSome = true:=by
 rw [Ao,List.find?_isSome]
 exact ⟨n,h,by simp⟩
theorem L4 {t : Tr} {gs : List Int} (hi : gs.Pairwise fun a b=>a < b) (hk : ∀ g ∈ gs,(Ao t.nodes g).isSome = true) : gs.length <= t.nodes.length:=by
 have hnd : gs.Nodup:=hi.imp fun hab=>by omega
 have:=F4 gs (t.nodes.map (·.id)) hnd (fun x hx=>by
  obtain ⟨n,hn,he⟩:=Cu (hk x hx)
  exact lmm.2 ⟨n,hn,he⟩)
 simpa using this
theorem PrOk.length {t : Tr} {l : List Pr} (h : PrOk t.nodes l) : l.length <= t.nodes.length:=by
 have:=L4 (t:=t) (gs:=l.map (·.group)) (by rw [List.pairwise_map]; exact h.inc) fun g hg=>by
  obtain ⟨x,hx,rfl⟩:=lmm.1 hg
  exact h.known x hx
 simpa using this
theorem AscOk.length {t : Tr} {lo hi : Int} {l : List Ch} (h : AscOk (Cx t.nodes) lo hi l) : l.length <= t.nodes.length:=by
 have:=L4 (t:=t) (gs:=l.map (·.group)) (by rw [List.pairwise_map]; exact h.inc) fun g hg=>by
  obtain ⟨x,hx,rfl⟩:=lmm.1 hg
  exact h.known x hx
 simpa using this
structure TrialOk (t : Tr) (sw : Stk) (p : List Pr) (l : List Ch) (root : Int) : Prop where
 stk : StkOk t sw
 pr : PrOk t.nodes p
 lim : AscOk (Cx t.nodes) 0 4611686018427387904 l
 root : InN t.nodes root
theorem SW {t : Tr} (h : TreeOk t) {hs : List Hg} {g : Int} (hg : InN t.nodes g) : swT t hs g = Ab ((subA t g).map (CA hs)):=by
 obtain ⟨i,n,hn,rfl⟩:=hg
 rw [swT,DM h hn]
theorem Jx (a : List (Int × Int)) : ∀ (S : List Int),S.Nodup -> Ab (S.map fun x=>Ar [x] a) = Ar S a
 | [],_=>(DK fun q _ hq=>by simp at hq).symm
 | x :: S,h=>by
  rw [List.nodup_cons] at h
  rw [Px h.1,lpc,Ab,Jx a S h.2]
theorem Mn (f g : Int -> Int) : ∀ (ks : List Int),Ab (ks.map fun c=>f c + g c) = Ab (ks.map f) + Ab (ks.map g)
 | []=>rfl
 | c :: ks=>by
  have:=Mn f g ks
  simp only [lpc,Ab,this]
  omega
structure StepS (t : Tr) (l : List Pt) (root : Int) (out low : Bool) (s s' : ShSt) (a : List (Int × Int)) : Prop where
 parts : PartsOk t l root
 rnd : RoundOk t l root (min s.2.2 (capR t l root)) a
 sum : Ab (a.map Prod.snd) = min s.2.2 (capR t l root)
 get : ∀ x,Ac s'.1 x = AQ out (Ac s.1 x) (Ar [x] a)
 file : ∀ x,(s'.2.1 x).file = (s.2.1 x).file + if out then 0 else Ar [x] a
 anon : ∀ x,(s'.2.1 x).anon = (s.2.1 x).anon + if out then Ar [x] a else 0
 low : ∀ x,(s'.2.1 x).low = (s.2.1 x).low + if low then Ar [x] a else 0
 left : s'.2.2 = s.2.2 - Ab (a.map Prod.snd)
 non : ∀ x,0 <= Ar [x] a
 own : ∀ x,Ar [x] a <= Bm out (Ac s.1 x)
 off : ∀ x,x ∉ subA t root -> Ar [x] a = 0
theorem RD {t : Tr} (h : TreeOk t) {root : Int} (hr : InN t.nodes root) {z n0 : Int} (hz : Ax z) (hn : n0 <= 16777216) (l : List Ch) {eff : List Pr} (he : EffOk t root eff) {s0 : ShSt} (hs : ShOk t z n0 s0) (k : Nat) : StepS t (A2 t z l eff (outR k) (lowR k) (Bk t z l eff root s0 k).1) root (outR k) (lowR k) (Bk t z l eff root s0 k) (Bk t z l eff root s0 (k + 1)) (takesS t z l eff root (outR k) (lowR k) (Bk t z l eff root s0 k)):=by
 have hk:=GG h hr hz hn l he hs k
 obtain ⟨h1,h2,h3,h4,h5,h6⟩:=J2 h hr hz hn l he (outR k) (lowR k) hk
 have e : Bk t z l eff root s0 (k + 1) = AK (outR k) (lowR k) (Bk t z l eff root s0 k) (takesS t z l eff root (outR k) (lowR k) (Bk t z l eff root s0 k)):=rfl
 rw [e]
 generalize takesS t z l eff root (outR k) (lowR k) (Bk t z l eff root s0 k) = a at h2 h3 h4 h5 ⊢
 generalize Bk t z l eff root s0 k = s at *
 generalize outR k = out at *
 generalize lowR k = low at *
 have hq0 : ∀ q ∈ a,0 <= q.2:=fun q hqm=>by have:=(h3.pos q hqm).1; omega
 have key : ∀ x,(AK out low s a).2.1 x = if x ∈ a.map Prod.fst then Bj out low x (s.2.1 x) (Ar [x] a) else s.2.1 x:=fun x=>KY out low x a (s.1,s.2.1)
 have hz0 : ∀ x,x ∉ a.map Prod.fst -> Ar [x] a = 0:=fun x hx=>DK fun r hr hrq=>hx (by
  have : r.1 = x:=by simpa using hrq
  rw [<- this]
  exact lmm.2 ⟨r,hr,rfl⟩)
 refine ⟨h1,h3,h4,fun x=>OL out low x a (s.1,s.2.1),fun x=>?_,fun x=>?_,fun x=>?_,rfl,fun x=>KZ hq0,h5,fun x hx=>hz0 x fun hm=>?_⟩
 ·rw [key x]
  by_cases hx : x ∈ a.map Prod.fst
  ·rw [if_pos hx]
   unfold Bj
   cases out <;> simp
  ·rw [if_neg hx,hz0 x hx]
   cases out <;> simp
 ·rw [key x]
  by_cases hx : x ∈ a.map Prod.fst
  ·rw [if_pos hx]
   unfold Bj
   cases out <;> simp
  ·rw [if_neg hx,hz0 x hx]
   cases out <;> simp
 ·rw [key x]
  by_cases hx : x ∈ a.map Prod.fst
  ·rw [if_pos hx]
   unfold Bj
   cases low <;> simp
  ·rw [if_neg hx,hz0 x hx]
   cases low <;> simp
 ·obtain ⟨q,hq,rfl⟩:=lmm.1 hm
  exact hx (h3.groups q hq)
structure Noted (t : Tr) (root : Int) (hs : List Hg) (n : Int) (s : ShSt) : Prop where
 get : ∀ x,Ac s.1 x = ⟨x,(Ac hs x).file - (s.2.1 x).file,(Ac hs x).anon - (s.2.1 x).anon,(Ac hs x).swap + (s.2.1 x).anon⟩
 off : ∀ x,x ∉ subA t root -> (s.2.1 x).file = 0 /\ (s.2.1 x).anon = 0 /\ (s.2.1 x).low = 0
 sum : ∀ S : List Int,S.Nodup -> (∀ x ∈ subA t root,x ∈ S) -> Ab (S.map fun x=>(s.2.1 x).file + (s.2.1 x).anon) = n - s.2.2
 low : ∀ x,(s.2.1 x).low <= (s.2.1 x).file + (s.2.1 x).anon
theorem Noted.step {t : Tr} {root : Int} {hs : List Hg} {n : Int} {s s' : ShSt} (hn : Noted t root hs n s) {l : List Pt} {out low : Bool} {a : List (Int × Int)} (h : StepS t l root out low s s' a) : Noted t root hs n s':=by
 have hT:=h.parts.tree
 refine ⟨fun x=>?_,fun x hx=>?_,fun S hS hSr=>?_,fun x=>?_⟩
 ·rw [h.get,hn.get,h.file,h.anon]
  unfold AQ
  cases out <;> simp <;> omega
 ·have h1:=hn.off x hx
  rw [h.file,h.anon,h.low,h.off x hx,h1.1,h1.2.1,h1.2.2]
  simp
 ·have h1:=hn.sum S hS hSr
  have h2 : (fun x=>(s'.2.1 x).file + (s'.2.1 x).anon) = fun x=>((s.2.1 x).file + (s.2.1 x).anon) + Ar [x] a:=by
   funext x
   rw [h.file,h.anon]
   cases out <;> simp <;> omega
  rw [h2,Mn,h1,Jx a _ hS,Hf fun q hq=>hSr _ (h.rnd.groups q hq),h.left]
  omega
 ·have h1:=hn.low x
  have h2:=h.non x
  rw [h.file,h.anon,h.low]
  cases out <;> cases low <;> simp <;> omega
theorem zcn (t : Tr) (root : Int) (hs : List Hg) (n : Int) : Noted t root hs n (hs,(fun _=>zeroSh),n):=by
 refine ⟨fun x=>?_,fun x hx=>⟨rfl,rfl,rfl⟩,fun S _ _=>?_,fun x=>by simp⟩
 ·show Ac hs x = ⟨x,(Ac hs x).file - 0,(Ac hs x).anon - 0,(Ac hs x).swap + 0⟩
  rw [Int.sub_zero,Int.sub_zero,Int.add_zero]
  have hg:=Dd hs x
  revert hg
  generalize Ac hs x = y
  intro hg
  subst hg
  rfl
 ·show Ab (S.map fun _=>(0 : Int) + 0) = n - n
  rw [Int.add_zero,H1]
  omega
theorem Qs {t : Tr} (h : TreeOk t) {root : Int} (hr : InN t.nodes root) {z n : Int} (hz : Ax z) (hn0 : 0 <= n) (hn : n <= 16777216) (l : List Ch) {eff : List Pr} (he : EffOk t root eff) {hs : List Hg} (hh : HgOk t.nodes z hs) : ∀ k,Noted t root hs n (Bk t z l eff root (hs,(fun _=>zeroSh),n) k)
 | 0=>zcn t root hs n
 | k + 1=>(Qs h hr hz hn0 hn l he hh k).step (RD h hr hz hn l he (Gx hh hn0) k)
theorem JM {f : Int -> Sh} {eff : List Pr} (hg : ∀ x,f x = zeroSh \/ (f x).group = x) {x : Sh} (hx : x ∈ outL f eff) : x.group ∈ eff.map (·.group) /\ x = f x.group /\ x.group ≠ 0:=by
 obtain ⟨h1,h2⟩:=List.mem_filter.1 hx
 obtain ⟨e,he,rfl⟩:=lmm.1 h1
 simp only [decide_eq_true_eq] at h2
 rcases hg e.group with h3 | h3
 ·rw [h3] at h2
  exact absurd rfl h2
 ·rw [h3] at h2 ⊢
  exact ⟨lmm.2 ⟨e,he,rfl⟩,rfl,h2⟩
theorem La {f g : Int -> Int} {l : List Int} (h : ∀ x ∈ l,f x = g x) : Ab (l.map f) = Ab (l.map g):=congrArg Ab (List.map_congr_left h)
theorem Rs {t : Tr} {l : List Pt} {root : Int} {out low : Bool} {s s' : ShSt} {a : List (Int × Int)} (h : StepS t l root out low s s' a) {g : Int} (hg : InN t.nodes g) : swT t s'.1 g = swT t s.1 g + if out then Dk t a g else 0:=by
 have hT:=h.parts.tree
 rw [SW hT hg,SW hT hg,h.rnd.on g hg,<- Jx a _ (Lu hT hg)]
 cases out with
 | false =>
  simp only [bft,if_false,Int.add_zero]
  refine La fun x _=>?_
  unfold CA
  rw [h.get]
  rfl
 | true =>
  simp only [if_true]
  rw [<- Mn]
  refine La fun x _=>?_
  unfold CA
  rw [h.get]
  rfl
theorem Po {t : Tr} {l : List Pt} {root : Int} {out low : Bool} {s s' : ShSt} {a : List (Int × Int)} (h : StepS t l root out low s s' a) {z z' : Int} (h0 : HgOk t.nodes z s.1) (h1 : HgOk t.nodes z' s'.1) {g : Int} (hg : InN t.nodes g) : Av t (An s'.1) g = Av t (An s.1) g - Dk t a g:=by
 have hT:=h.parts.tree
 have hf : (Ao t.nodes g).isSome = true:=by
  obtain ⟨i,n,hn,rfl⟩:=hg
  rw [BZ hT.inc hn]
  rfl
 unfold Av
 rw [if_pos hf,if_pos hf,h.rnd.on g hg,<- Jx a _ (Lu hT hg)]
 unfold tot
 rw [<- Rw]
 refine La fun x _=>?_
 rw [Fx h0.inc,Fx h1.inc]
 unfold Ei
 rw [h.get]
 unfold AQ
 cases out <;> simp <;> omega
theorem Q0 (W : Int -> Int) (l : List Ch) {c : Int} : ∀ (gs : List Int) (a : Int),c ∈ gs -> CN W l gs a <= Cz l c - W c
 | [],_,h=>by simp at h
 | g :: gs,a,h=>by
  rcases lmk.1 h with rfl | h
  ·have:=MC W l gs (min a (Cz l c - W c))
   unfold CN
   omega
  .exact Q0 W l gs _ h
theorem GD {t : Tr} (h : TreeOk t) {g : Int} (hg : InN t.nodes g) : ancR t g = ancF t.nodes t.nodes.length g:=by
 obtain ⟨i,n,hn,rfl⟩:=hg
 exact E1 h hn
theorem RI {t : Tr} (hT : TreeOk t) {hs : List Hg} {z : Int} {l : List Ch} {g c : Int} (hg : InN t.nodes g) (h : c ∈ ancR t g) : B8 t hs z l g <= max 0 (Cz l c - swT t hs c):=by
 rw [GD hT hg] at h
 have:=Q0 (swT t hs) l (c:=c) (ancF t.nodes t.nodes.length g) (z - swT t hs 1) h
 unfold B8
 omega
theorem zcd {t : Tr} (h : TreeOk t) : ∀ (i : Nat) (n : Nd),t.nodes[i]? = some n -> ∀ a b,a ∈ ancF t.nodes t.nodes.length n.id -> b ∈ ancF t.nodes t.nodes.length n.id -> a ∈ ancF t.nodes t.nodes.length b \/ b ∈ ancF t.nodes t.nodes.length a:=by
 intro i
 induction i using Nat.strongRecOn with
 | _ i ih =>
  intro n hn a b ha hb
  rcases (Cm h hn a).1 ha with h1 | ⟨hi,h1⟩
  ·rw [h1]
   exact .inr hb
  ·rcases (Cm h hn b).1 hb with h2 | ⟨_,h2⟩
   ·rw [h2]
    exact .inl ha
   ·rcases h.nodeAt hn with ⟨h3,_⟩ | ⟨_,_,j,p,hj,hp,he⟩
    ·exact absurd h3 hi
    ·rw [<- he] at h1 h2
     exact ih j (by omega) p hp a b h1 h2
theorem Xv {t : Tr} (h : TreeOk t) {root : Int} (hr : InN t.nodes root) {z : Int} {lm : List Ch} {eff : List Pr} (he : EffOk t root eff) {low : Bool} {s s' : ShSt} {a : List (Int × Int)} (hS : StepS t (A2 t z lm eff true low s.1) root true low s s' a) {g : Int} (hg : InN t.nodes g) : 0 <= Dk t a g /\ (Dk t a g = 0 \/ Dk t a g <= max 0 (Cz lm g - swT t s.1 g)):=by
 have h0 : 0 <= Dk t a g:=IY hS.rnd g
 refine ⟨h0,?_⟩
 have room : ∀ c,c ∈ subA t root -> capR t (A2 t z lm eff true low s.1) c <= B8 t s.1 z lm c:=fun c hc=>by
  obtain ⟨e,hem,hge,hp⟩:=Hd (t:=t) (hs:=s.1) (z:=z) (l:=lm) (own:=Bm true) (pr:=prS low) (out:=true) ((DN h hr he c).2 hc)
  have h1:=(M8 h (l:=A2 t z lm eff true low s.1) (D3 h hr hc)).1
  rw [hp] at h1
  simp only [BK,if_true,hge] at h1
  exact h1
 by_cases h1 : g ∈ subA t root
 ·right
  have h2:=hS.rnd.sub g h1
  have h3:=room g h1
  have h4:=RI (hs:=s.1) (z:=z) (l:=lm) h hg (c:=g) ((FA h hg hg).2 (Jy h hg))
  omega
 ·by_cases h2 : root ∈ subA t g
  ·right
   have h3:=hS.sum
   have h4 : Dk t a g <= Ab (a.map Prod.snd):=by
    rw [hS.rnd.on g hg]
    exact Rv fun q hq=>by have:=(hS.rnd.pos q hq).1; omega
   have h5:=room root (Jy h hr)
   have h6:=RI (hs:=s.1) (z:=z) (l:=lm) h hr (c:=g) ((FA h hg hr).2 h2)
   omega
  ·left
   rw [hS.rnd.on g hg]
   refine DK fun q hq hqg=>?_
   have h3:=hS.rnd.groups q hq
   obtain ⟨i,n,hn,hne⟩:=D3 h hr h3
   have a1:=(FA h hr ⟨i,n,hn,hne⟩).2 h3
   have a2:=(FA h hg ⟨i,n,hn,hne⟩).2 hqg
   rw [<- hne,E1 h hn] at a1 a2
   rcases zcd h i n hn g root a2 a1 with h5 | h5
   .exact h2 ((FA h hg hr).1 (by rw [GD h hr]; exact h5))
   .exact h1 ((FA h hr hg).1 (by rw [GD h hg]; exact h5))
section
variable {t : Tr} {root z n : Int} {lm : List Ch} {eff : List Pr} {hs : List Hg}
abbrev KJ (t : Tr) (z : Int) (lm : List Ch) (eff : List Pr) (root : Int) (hs : List Hg) (n : Int) (k : Nat) : ShSt:=Bk t z lm eff root (hs,(fun _=>zeroSh),n) k
theorem Si (h : TreeOk t) (hr : InN t.nodes root) (hz : Ax z) (hn0 : 0 <= n) (hn : n <= 16777216) (lm : List Ch) (he : EffOk t root eff) (hh : HgOk t.nodes z hs) {g : Int} (hg : InN t.nodes g) : ∀ k,swT t hs g <= swT t (KJ t z lm eff root hs n k).1 g /\ swT t (KJ t z lm eff root hs n k).1 g <= max (swT t hs g) (Cz lm g)
 | 0=>by
  show swT t hs g <= swT t hs g /\ swT t hs g <= max (swT t hs g) (Cz lm g)
  omega
 | k + 1=>by
  have ih:=Si h hr hz hn0 hn lm he hh hg k
  have hS:=RD h hr hz hn lm he (Gx hh hn0) k
  have h1:=Rs hS hg
  by_cases ho : outR k = true
  ·rw [ho] at hS h1
   have h2:=Xv h hr he hS hg
   rw [if_pos rfl] at h1
   show swT t hs g <= swT t (Bk t z lm eff root _ (k + 1)).1 g /\ swT t (Bk t z lm eff root _ (k + 1)).1 g <= _
   rw [h1]
   unfold KJ at ih
   omega
  ·rw [Bool.not_eq_true] at ho
   rw [ho] at h1
   rw [if_neg (by simp)] at h1
   show swT t hs g <= swT t (Bk t z lm eff root _ (k + 1)).1 g /\ swT t (Bk t z lm eff root _ (k + 1)).1 g <= _
   rw [h1,Int.add_zero]
   exact ih
theorem keeps (h : TreeOk t) (hr : InN t.nodes root) (he : EffOk t root eff) {out low : Bool} {s s' : ShSt} {a : List (Int × Int)} (hS : StepS t (A2 t z lm eff out low s.1) root out low s s' a) (h0 : HgOk t.nodes z s.1) (h1 : HgOk t.nodes z s'.1) {e : Pr} (hem : e ∈ eff) : Av t (An s'.1) e.group <= Av t (An s.1) e.group /\ min (Av t (An s.1) e.group) (prS low e) <= Av t (An s'.1) e.group:=by
 have hs : e.group ∈ subA t root:=(DN h hr he e.group).1 (lmm.2 ⟨e,hem,rfl⟩)
 have hg:=D3 h hr hs
 have h2:=hS.rnd.sub _ hs
 have h3:=(M8 h (l:=A2 t z lm eff out low s.1) hg).2
 obtain ⟨e',hem',hge,hp⟩:=Hd (t:=t) (hs:=s.1) (z:=z) (l:=lm) (own:=Bm out) (pr:=prS low) (out:=out) ((DN h hr he e.group).2 hs)
 have hee : e' = e:=by
  have hnd : (eff.map (·.group)).Nodup:=by
   rw [he.groups]
   obtain ⟨i,n,hn,hne⟩:=hr
   rw [(D2 _).nodup_iff,<- hne,DM h hn]
   exact Fi h hn
  exact eff_inj hnd hem' hem hge
 subst hee
 rw [hp] at h3
 have h4:=Po hS h0 h1 hg
 have h5:=IY hS.rnd e'.group
 simp only [BK] at h3
 omega
where
 eff_inj : ∀ {l : List Pr} {x y : Pr},(l.map (·.group)).Nodup -> x ∈ l -> y ∈ l -> x.group = y.group -> x = y
  | [],_,_,_,hx,_,_=>by simp at hx
  | w :: l,x,y,hnd,hx,hy,hxy=>by
   rw [lpc,List.nodup_cons] at hnd
   rcases lmk.1 hx with hx | hx
   ·rcases lmk.1 hy with hy | hy
    .rw [hx,hy]
    .exact absurd (lmm.2 ⟨y,hy,by rw [<- hxy,hx]⟩) hnd.1
   ·rcases lmk.1 hy with hy | hy
    .exact absurd (lmm.2 ⟨x,hx,by rw [hxy,hy]⟩) hnd.1
    .exact eff_inj hnd.2 hx hy hxy
end
structure LePt (x y : Pt) : Prop where
 usage : x.usage <= y.usage
 prot : y.protect <= x.protect
 own : x.own <= y.own
 room : x.room <= y.room
theorem zca {x y : Pt} (h : LePt x y) {a b : Int} (hab : a <= b) : F3 x a <= F3 y b:=by
 have h1:=h.usage
 have h2:=h.prot
 have h3:=h.own
 have h4:=h.room
 unfold F3
 omega
theorem capR_le {t : Tr} {p q : List Pt} (h : TreeOk t) {root : Int} (hr : InN t.nodes root) (hle : ∀ g ∈ subA t root,LePt (partOf p g) (partOf q g)) : ∀ (k i : Nat) (n : Nd),t.nodes[i]? = some n -> t.nodes.length <= i + k -> n.id ∈ subA t root -> capR t p n.id <= capR t q n.id:=by
 intro k
 induction k with
 | zero=>intro i n hn hk; have:=(lgs.1 hn).1; omega
 | succ k ih =>
  intro i n hn hk hs
  have hin : InN t.nodes n.id:=⟨i,n,hn,rfl⟩
  rw [JG h _ hin,JG h _ hin]
  refine zca (hle _ hs) (sumI_le fun c hc=>?_)
  have hcs:=Ry h hr hs (zbQ h hin hc)
  obtain ⟨j,m,hj,hp,rfl⟩:=BR.1 hc
  have hij:=h.kid hn hj hp
  exact ih j m hj (by omega) hcs
where
 sumI_le : ∀ {ks : List Int} {f g : Int -> Int},(∀ c ∈ ks,f c <= g c) -> Ab (ks.map f) <= Ab (ks.map g)
  | [],_,_,_=>Int.le_refl _
  | c :: ks,f,g,h=>by
   have h1:=h c (by simp)
   have h2:=sumI_le (ks:=ks) (f:=f) (g:=g) fun d hd=>h d (by simp [hd])
   simp only [lpc,Ab]
   omega
theorem PW (W W' : Int -> Int) (l : List Ch) (T : Int) : ∀ (gs : List Int) (a a' : Int),(∀ g ∈ gs,W g + T <= W' g) -> a' <= a - T -> CN W' l gs a' <= CN W l gs a - T
 | [],a,a',_,h=>h
 | g :: gs,a,a',hW,h=>by
  have:=hW g (by simp)
  exact PW W W' l T gs _ _ (fun x hx=>hW x (by simp [hx])) (by omega)
theorem Xw {t : Tr} (h : TreeOk t) {hs hs' : List Hg} {z : Int} {l : List Ch} {g T : Int} (hg : InN t.nodes g) (hT : 0 <= T) (hW : ∀ c ∈ ancR t g,swT t hs c + T <= swT t hs' c) : B8 t hs' z l g <= max 0 (B8 t hs z l g - T):=by
 have h1 : (1 : Int) ∈ ancR t g:=by
  obtain ⟨i,n,hn,rfl⟩:=hg
  rw [E1 h hn]
  exact JI h i n hn
 have h2:=PW (swT t hs) (swT t hs') l T (ancF t.nodes t.nodes.length g) (z - swT t hs 1) (z - swT t hs' 1) (fun c hc=>hW c (by rw [GD h hg]; exact hc)) (by have:=hW 1 h1; omega)
 unfold B8
 omega
section
variable {t : Tr} {root z n : Int} {lm : List Ch} {eff : List Pr} {hs : List Hg}
theorem SX (h : TreeOk t) (hr : InN t.nodes root) (he : EffOk t root eff) {g : Int} (hg : g ∈ subA t root) (out low : Bool) (hs : List Hg) : (partOf (A2 t z lm eff out low hs) g).usage = Av t (An hs) g /\ (partOf (A2 t z lm eff out low hs) g).own = Bm out (Ac hs g) /\ (partOf (A2 t z lm eff out low hs) g).room = (if out then B8 t hs z lm g else 4611686018427387904) /\ (partOf (A2 t z lm eff out low hs) g).group = g:=by
 obtain ⟨e,hem,hge,hp⟩:=Hd (t:=t) (hs:=hs) (z:=z) (l:=lm) (own:=Bm out) (pr:=prS low) (out:=out) ((DN h hr he g).2 hg)
 rw [hp,<- hge]
 exact ⟨rfl,rfl,rfl,rfl⟩
theorem Z5 (h : TreeOk t) (hr : InN t.nodes root) (he : EffOk t root eff) {g : Int} (hg : g ∈ subA t root) (out out' low : Bool) (hs hs' : List Hg) : (partOf (A2 t z lm eff out low hs) g).protect = (partOf (A2 t z lm eff out' low hs') g).protect:=by
 have key : ∀ {eff : List Pr},g ∈ eff.map (·.group) -> (partOf (A2 t z lm eff out low hs) g).protect = (partOf (A2 t z lm eff out' low hs') g).protect:=by
  intro eff
  induction eff with
  | nil=>intro hx; simp at hx
  | cons e eff ih =>
   intro hx
   unfold partOf at ih ⊢
   simp only [A2,lpc,List.find?_cons] at ih ⊢
   by_cases hge : e.group = g
   ·have e1 : decide ((BK t hs z lm (Bm out) (prS low) out e).group = g) = true:=decide_eq_true hge
    have e2 : decide ((BK t hs' z lm (Bm out') (prS low) out' e).group = g) = true:=decide_eq_true hge
    rw [e1,e2]
    rfl
   ·have e1 : decide ((BK t hs z lm (Bm out) (prS low) out e).group = g) = false:=decide_eq_false hge
    have e2 : decide ((BK t hs' z lm (Bm out') (prS low) out' e).group = g) = false:=decide_eq_false hge
    rw [e1,e2]
    exact ih (by simpa [Ne.symm hge,eq_comm,hge] using hx)
 exact key ((DN h hr he g).2 hg)
theorem parts_down (h : TreeOk t) (hr : InN t.nodes root) (he : EffOk t root eff) {l : List Pt} {out low : Bool} {s s' : ShSt} {a : List (Int × Int)} (hS : StepS t l root out low s s' a) (h0 : HgOk t.nodes z s.1) (h1 : HgOk t.nodes z s'.1) (o2 l2 : Bool) {g : Int} (hg : g ∈ subA t root) : LePt (partOf (A2 t z lm eff o2 l2 s'.1) g) (partOf (A2 t z lm eff o2 l2 s.1) g):=by
 have hin:=D3 h hr hg
 obtain ⟨a1,a2,a3,_⟩:=SX (z:=z) (lm:=lm) h hr he hg o2 l2 s.1
 obtain ⟨b1,b2,b3,_⟩:=SX (z:=z) (lm:=lm) h hr he hg o2 l2 s'.1
 have hu:=Po hS h0 h1 hin
 have ht:=IY hS.rnd g
 have hnn:=hS.non g
 refine ⟨?_,?_,?_,?_⟩
 ·rw [a1,b1]
  omega
 ·rw [Z5 h hr he hg o2 o2 l2 s.1 s'.1]
  exact Int.le_refl _
 ·rw [a2,b2,hS.get]
  unfold Bm AQ
  cases out <;> cases o2 <;> simp <;> omega
 ·rw [a3,b3]
  cases o2 with
  | false=>exact Int.le_refl _
  | true =>
   simp only [if_true]
   have h2:=Xw (z:=z) (l:=lm) h hin (Int.le_refl 0) (hs:=s.1) (hs':=s'.1) fun c hc=>by
    have hci : InN t.nodes c:=by
     obtain ⟨i,n,hn,rfl⟩:=hin
     exact anc_in h i n hn hc
    rw [Rs hS hci]
    have:=IY hS.rnd c
    split <;> omega
   have h3:=(Lf h h0 lm g).1
   omega
where
 anc_in {t : Tr} (h : TreeOk t) : ∀ (i : Nat) (n : Nd),t.nodes[i]? = some n -> ∀ {c : Int},c ∈ ancR t n.id -> InN t.nodes c:=by
  intro i
  induction i using Nat.strongRecOn with
  | _ i ih =>
   intro n hn c hc
   rw [E1 h hn] at hc
   rcases (Cm h hn c).1 hc with h1 | ⟨hi,h1⟩
   ·exact ⟨i,n,hn,h1.symm⟩
   ·rcases h.nodeAt hn with ⟨h3,_⟩ | ⟨_,_,j,p,hj,hp,he⟩
    ·exact absurd h3 hi
    ·rw [<- he,<- E1 h hp] at h1
     exact ih j (by omega) p hp h1
end
abbrev HO (t : Tr) (sw : Stk) (p : List Pr) (root : Int) : List Pr:=A8 t (An sw.hs) p root
abbrev F1 (t : Tr) (sw : Stk) (p : List Pr) (l : List Ch) (root n : Int) (k : Nat) : ShSt:=KJ t sw.size l (HO t sw p root) root sw.hs n k
theorem TrialOk.eff {t : Tr} {sw : Stk} {p : List Pr} {l : List Ch} {root : Int} (h : TrialOk t sw p l root) : EffOk t root (HO t sw p root):=Kd h.stk.tree (Dw h.stk.hs) h.pr root
theorem Xo {t : Tr} {sw : Stk} {p : List Pr} {l : List Ch} {root n : Int} (h : TrialOk t sw p l root) (hn0 : 0 <= n) (hn : n <= 16777216) : BF t sw p l root n = (⟨(F1 t sw p l root n 4).1,sw.size⟩,outL (F1 t sw p l root n 4).2.1 (HO t sw p root),0):=by
 have h1 : BJ t sw = true:=(Dc t sw).2 h.stk
 have h2 : Dt t p = true:=(G5 t p).2 ⟨h.stk.tree,h.pr⟩
 have h3 : Du t l = true:=(K8 t l).2 ⟨h.stk.tree,h.lim⟩
 have h4 : (Ao t.nodes root).isSome = true:=by
  obtain ⟨i,m,hm,rfl⟩:=h.root
  rw [BZ h.stk.tree.inc hm]
  rfl
 unfold BF
 rw [if_pos (by rw [h1,h2,h3]; rfl),if_pos h4,if_pos (by simp [Ap,hn0,hn])]
theorem zb9 {t : Tr} (h : TreeOk t) {root : Int} (hr : InN t.nodes root) {eff : List Pr} (he : EffOk t root eff) : eff.length <= t.nodes.length:=by
 have h1:=F4 (eff.map (·.group)) (t.nodes.map (·.id)) (by
  rw [he.groups]
  obtain ⟨i,n,hn,hne⟩:=hr
  rw [(D2 _).nodup_iff,<- hne,DM h hn]
  exact Fi h hn) fun x hx=>by
   obtain ⟨i,m,hm,hme⟩:=D3 h hr ((DN h hr he x).1 hx)
   exact lmm.2 ⟨m,lmg hm,hme⟩
 simpa using h1
theorem YT {t : Tr} {sw : Stk} {p : List Pr} {l : List Ch} {root n : Int} (h : TrialOk t sw p l root) (hn0 : 0 <= n) (hn : n <= 16777216) : StkOk t ⟨(F1 t sw p l root n 4).1,sw.size⟩ /\ ∀ id,InN t.nodes id -> swT t sw.hs id <= swT t (F1 t sw p l root n 4).1 id /\ swT t (F1 t sw p l root n 4).1 id <= max (swT t sw.hs id) (Cz l id):=by
 have hT:=h.stk.tree
 have hr:=h.root
 have he:=h.eff
 have hz : Ax sw.size:=⟨h.stk.z0,h.stk.z1⟩
 have hO:=GG hT hr hz hn l he (Gx h.stk.hs hn0) 4
 exact ⟨⟨hT,hz.1,hz.2,hO.hs⟩,fun id hid=>Si hT hr hz hn0 hn l he h.stk.hs hid 4⟩
section
variable {t : Tr} {sw : Stk} {p : List Pr} {l : List Ch} {root n : Int}
theorem zcD (h : TrialOk t sw p l root) (hn0 : 0 <= n) (hn : n <= 16777216) (k : Nat) : ShOk t sw.size n (F1 t sw p l root n k):=GG h.stk.tree h.root ⟨h.stk.z0,h.stk.z1⟩ hn l h.eff (Gx h.stk.hs hn0) k
theorem Za (h : TrialOk t sw p l root) (hn0 : 0 <= n) (hn : n <= 16777216) (k : Nat) : Noted t root sw.hs n (F1 t sw p l root n k):=Qs h.stk.tree h.root ⟨h.stk.z0,h.stk.z1⟩ hn0 hn l h.eff h.stk.hs k
end
structure Mc where
 group : Int
 least : Int
 low : Int
 high : Int
 most : Int
 swap : Int
 tog : Bool
 deriving DecidableEq
def AA : List Mc -> Int -> Mc
 | [],id=>⟨id,0,0,4611686018427387904,4611686018427387904,4611686018427387904,false⟩
 | m :: l,id=>if m.group = id then m else AA l id
def AE (l : List Mc) (id : Int) : Int:=if id = 1 then min (AA l id).most 16777216 else (AA l id).most
def A7 (l : List Mc) : List Pr:=(l.filter fun m=>!(decide (m.least = 0) && decide (m.low = 0))).map fun m=>⟨m.group,m.least,m.low⟩
def A9 (l : List Mc) : List Ch:=(l.filter fun m=>!decide (m.swap = 4611686018427387904)).map fun m=>⟨m.group,m.swap⟩
def A4 (n : Int) : Bool:=(decide (0 <= n) && decide (n <= 1099511627776)) || decide (n = 4611686018427387904)
theorem Fm {n : Int} (h : A4 n = true) : 0 <= n /\ n <= 4611686018427387904:=by
 simp only [A4,bot,bat,decide_eq_true_eq] at h
 omega
structure McOk (ns : List Nd) (l : List Mc) : Prop where
 known : ∀ m ∈ l,(Ao ns m.group).isSome = true
 inc : l.Pairwise fun a b=>a.group < b.group
 amt : ∀ m ∈ l,A4 m.least = true /\ A4 m.low = true /\ A4 m.high = true /\ A4 m.most = true /\ A4 m.swap = true
theorem J3 {ns : List Nd} {l : List Mc} (h : McOk ns l) : PrOk ns (A7 l):=by
 refine ⟨fun c hc=>?_,?_,fun c hc=>?_,fun c hc=>?_⟩
 ·obtain ⟨m,hm,rfl⟩:=lmm.1 hc
  exact h.known m (List.mem_filter.1 hm).1
 ·unfold A7
  rw [List.pairwise_map]
  exact h.inc.sublist List.filter_sublist
 ·obtain ⟨m,hm,rfl⟩:=lmm.1 hc
  exact Fm (h.amt m (List.mem_filter.1 hm).1).1
 ·obtain ⟨m,hm,rfl⟩:=lmm.1 hc
  exact Fm (h.amt m (List.mem_filter.1 hm).1).2.1
theorem Ke {ns : List Nd} {l : List Mc} (h : McOk ns l) : AscOk (Cx ns) 0 4611686018427387904 (A9 l):=by
 refine ⟨fun c hc=>?_,?_,fun c hc=>?_⟩
 ·obtain ⟨m,hm,rfl⟩:=lmm.1 hc
  exact h.known m (List.mem_filter.1 hm).1
 ·unfold A9
  rw [List.pairwise_map]
  exact h.inc.sublist List.filter_sublist
 ·obtain ⟨m,hm,rfl⟩:=lmm.1 hc
  exact Fm (h.amt m (List.mem_filter.1 hm).1).2.2.2.2
theorem Ij {ns : List Nd} {l : List Mc} (h : McOk ns l) (id : Int) : A4 (AA l id).high = true /\ A4 (AA l id).most = true:=by
 have h1:=h.amt
 clear h
 induction l with
 | nil=>exact ⟨rfl,rfl⟩
 | cons m l ih =>
  unfold AA
  split
  .exact ⟨(h1 m (by simp)).2.2.1,(h1 m (by simp)).2.2.2.1⟩
  .exact ih fun x hx=>h1 x (by simp [hx])
def Ca (f : Sh -> Int) (a : List Sh) (id : Int) : Int:=Ab (a.map fun y=>if y.group = id then f y else 0)
theorem HU (f : Sh -> Int) (a b : List Sh) (id : Int) : Ca f (a ++ b) id = Ca f a id + Ca f b id:=by
 unfold Ca
 rw [lma,Ds]
theorem Gc {f : Sh -> Int} {a : List Sh} (h : ∀ y ∈ a,0 <= f y) (id : Int) : 0 <= Ca f a id:=Cs _ fun y hy=>by
 split
 .exact h y hy
 .exact Int.le_refl _
def Acc (s0 : List Hg) (a : List Sh) (s : List Hg) : Prop:=∀ id,Ac s id = ⟨id,(Ac s0 id).file - Ca (·.file) a id,(Ac s0 id).anon - Ca (·.anon) a id,(Ac s0 id).swap + Ca (·.anon) a id⟩
theorem zce (s : List Hg) : Acc s [] s:=fun id=>by
 have hg:=Dd s id
 revert hg
 generalize Ac s id = y
 intro hg
 subst hg
 simp [Ca,Ab]
theorem Acc.trans {s0 s1 s2 : List Hg} {a b : List Sh} (h : Acc s0 a s1) (h' : Acc s1 b s2) : Acc s0 (a ++ b) s2:=fun id=>by
 rw [h' id,h id,HU,HU]
 simp only [Hg.mk.injEq,true_and]
 omega
theorem LV {f : Int -> Sh} (hg : ∀ x,f x = zeroSh \/ (f x).group = x) (F : Sh -> Int) (hF : F zeroSh = 0) {id : Int} (h0 : id ≠ 0) : ∀ {eff : List Pr},(eff.map (·.group)).Nodup -> (id ∉ eff.map (·.group) -> F (f id) = 0) -> Ca F (outL f eff) id = F (f id)
 | [],_,ho=>by
  rw [ho (by simp)]
  rfl
 | e :: eff,hnd,ho=>by
  rw [lpc,List.nodup_cons] at hnd
  have key : Ca F (outL f (e :: eff)) id = (if e.group = id then F (f id) else 0) + Ca F (outL f eff) id:=by
   have e1 : outL f (e :: eff) = (if (f e.group).group ≠ 0 then [f e.group] else []) ++ outL f eff:=by
    unfold outL
    rw [lpc]
    by_cases hz : (f e.group).group ≠ 0
    ·rw [List.filter_cons_of_pos (by simpa using hz),if_pos hz]
     rfl
    ·rw [List.filter_cons_of_neg (by simpa using hz),if_neg hz]
     rfl
   rw [e1,HU]
   congr 1
   rcases hg e.group with h1 | h1
   ·rw [h1,if_neg (by simp)]
    by_cases he : e.group = id
    ·rw [if_pos he,<- he,h1,hF]
     rfl
    ·rw [if_neg he]
     rfl
   ·by_cases he : e.group = id
    ·rw [if_pos he,if_pos (by rw [h1,he]; exact h0),<- he]
     simp [Ca,Ab,h1]
    ·rw [if_neg he]
     split
     .simp [Ca,Ab,h1,he]
     .rfl
  rw [key]
  by_cases he : e.group = id
  ·rw [if_pos he]
   have hno : id ∉ eff.map (·.group):=he ▸ hnd.1
   have : Ca F (outL f eff) id = 0:=by
    unfold Ca
    refine (congrArg Ab (List.map_congr_left (g:=fun _=>(0 : Int)) fun y hy=>?_)).trans ?_
    ·have:=(JM hg hy).1
     rw [if_neg]
     intro hy2
     exact hno (hy2 ▸ this)
    ·clear key ho hno he hnd
     induction outL f eff with
     | nil=>rfl
     | cons y l ih=>rw [lpc,Ab,ih]; rfl
   omega
  ·rw [if_neg he]
   have:=LV hg F hF h0 hnd.2 fun hx=>ho (by simp [hx,Ne.symm he])
   omega
structure ShkOk (t : Tr) (s : Stk) (root n : Int) (x : Stk) (a : List Sh) : Prop where
 stk : StkOk t x
 size : x.size = s.size
 use : ∀ g,InN t.nodes g -> Av t (An x.hs) g <= Av t (An s.hs) g
 acc : Acc s.hs a x.hs
 pos : ∀ y ∈ a,0 <= y.file /\ 0 <= y.anon
 in_ : ∀ y ∈ a,y.group ∈ subA t root
 len : a.length <= 64
theorem Zb {t : Tr} (h : TreeOk t) {root : Int} (hr : InN t.nodes root) {eff : List Pr} (he : EffOk t root eff) : (eff.map (·.group)).Nodup:=by
 rw [he.groups]
 obtain ⟨i,n,hn,hne⟩:=hr
 rw [(D2 _).nodup_iff,<- hne,DM h hn]
 exact Fi h hn
theorem Pp {t : Tr} (hT : TreeOk t) {z z' : Int} {s0 s : List Hg} {a : List Sh} (h : Acc s0 a s) (hp : ∀ y ∈ a,0 <= y.file /\ 0 <= y.anon) (h0 : HgOk t.nodes z s0) (h1 : HgOk t.nodes z' s) {g : Int} (hg : InN t.nodes g) : Av t (An s) g <= Av t (An s0) g:=by
 have hf : (Ao t.nodes g).isSome = true:=by
  obtain ⟨i,n,hn,rfl⟩:=hg
  rw [BZ hT.inc hn]
  rfl
 unfold Av
 rw [if_pos hf,if_pos hf]
 unfold tot
 refine capR_le.sumI_le fun x _=>?_
 rw [Fx h0.inc,Fx h1.inc]
 unfold Ei
 rw [h x]
 have h2:=Gc (f:=(·.file)) (fun y hy=>(hp y hy).1) x
 have h3:=Gc (f:=(·.anon)) (fun y hy=>(hp y hy).2) x
 show _ - _ + (_ - _) <= _
 omega
theorem M7 {t : Tr} {sw : Stk} {p : List Pr} {l : List Ch} {root n : Int} (h : TrialOk t sw p l root) (hn0 : 0 <= n) (hn : n <= 16777216) : ShkOk t sw root n (BF t sw p l root n).1 (BF t sw p l root n).2.1 /\ (BF t sw p l root n).2.2 = 0:=by
 rw [Xo h hn0 hn]
 refine ⟨?_,rfl⟩
 have hT:=h.stk.tree
 have hO:=zcD h hn0 hn 4
 have hN:=Za h hn0 hn 4
 have hE:=h.eff
 have hst:=(YT h hn0 hn).1
 have hnd:=Zb hT h.root hE
 have hel:=zb9 hT h.root hE
 have hlen:=hT.len
 generalize F1 t sw p l root n 4 = s at *
 generalize HO t sw p root = eff at *
 have hacc : Acc sw.hs (outL s.2.1 eff) s.1:=fun id=>by
  by_cases h0 : id = 0
  ·have e0 : ∀ F : Sh -> Int,Ca F (outL s.2.1 eff) id = 0:=fun F=>by
    unfold Ca
    refine (congrArg Ab (List.map_congr_left (g:=fun _=>(0 : Int)) fun y hy=>?_)).trans (sumI_zero_map _)
    rw [if_neg]
    intro hy2
    exact (JM hO.grp hy).2.2 (hy2.trans h0)
   have hoff:=hN.off id fun hx=>by
    obtain ⟨i,m,hm,hme⟩:=D3 hT h.root hx
    have:=hT.pos m (lmg hm)
    omega
   rw [hN.get id,e0,e0,hoff.1,hoff.2.1]
  ·have hoff : id ∉ eff.map (·.group) -> (s.2.1 id).file = 0 /\ (s.2.1 id).anon = 0:=fun hx=>by
    have:=hN.off id fun hy=>hx ((DN hT h.root hE id).2 hy)
    exact ⟨this.1,this.2.1⟩
   rw [hN.get id,LV hO.grp (·.file) rfl h0 hnd fun hx=>(hoff hx).1,LV hO.grp (·.anon) rfl h0 hnd fun hx=>(hoff hx).2]
 have hpos : ∀ y ∈ outL s.2.1 eff,0 <= y.file /\ 0 <= y.anon:=fun y hy=>by
  rw [(JM hO.grp hy).2.1]
  exact ⟨(hO.file _).1,(hO.anon _).1⟩
 refine ⟨hst,rfl,fun g hg=>Pp hT hacc hpos h.stk.hs hO.hs hg,hacc,hpos,fun y hy=>(DN hT h.root hE _).1 (JM hO.grp hy).1,?_⟩
 have:=JN s.2.1 eff
 show (outL s.2.1 eff).length <= 64
 omega
where
 sumI_zero_map : ∀ (l : List Sh),Ab (l.map fun _=>(0 : Int)) = 0
  | []=>rfl
  | _ :: l=>by rw [lpc,Ab,sumI_zero_map l]; rfl
end Go.V
