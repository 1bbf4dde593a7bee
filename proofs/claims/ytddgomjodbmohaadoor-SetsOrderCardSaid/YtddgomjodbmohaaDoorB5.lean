/- Part 5 of the proof. -/
import Derived.Test.YtddgomjodbmohaaDoorB2
import Derived.Sort.AssemblyPlain
import Derived.Lib.BitFns
import Derived.Test.YtddgomjodbmohaaDoorB1
import Derived.Test.YtddgomjodbmohaaDoorB3
import Derived.Test.YtddgomjodbmohaaDoorB4
set_option linter.unusedSectionVars false
set_option linter.unusedSimpArgs false
set_option linter.unusedVariables false
open Nat renaming reduceAdd → rA, reduceSub → rS, reduceEqDiff → rE, reduceLeDiff → rL, le_refl → lrf
open List renaming getElem?_eq_getElem → lgg, getElem?_eq_some_iff → lgs, mem_of_getElem? → lmg, drop_eq_getElem_cons → ldg, mem_cons_of_mem → lmc, map_cons → lpc, drop_of_length_le → ldl, nil_append → lna, append_nil → lan, mem_map → lmm, mem_cons_self → lms, map_append → lma, take_of_length_le → ltl, length_cons → llc, length_append → lla, flatMap_cons → lfc, getElem?_append_right → lgr, mem_cons → lmk, map_nil → lpn, length_nil → lln, mem_append → lmp, length_map → llm, getElem_mem → lgk, length_take → llt, length_drop → lld, pairwise_cons → lpw, cons_append → lca
open Bool renaming and_eq_true → bat, false_eq_true → bft, true_and → bta
namespace Go.V
abbrev Sub (ps : List (Int × Int)):={ p : Int × Int // p ∈ ps }
def ltS {ps : List (Int × Int)} (x y : Sub ps) : Bool:=decide (x.1.1 - y.1.1 < 0)
theorem swoS {ps : List (Int × Int)} : Go.Sort.SWO (ltS (ps:=ps)) where
 irrefl x:=by simp [ltS]
 trans x y z h1 h2:=by simp [ltS] at *; omega
 ntrans x y z h1 h2:=by simp [ltS] at *; omega
noncomputable abbrev inhS {ps : List (Int × Int)} (h : ps ≠ []) : Inhabited (Sub ps):=⟨⟨ps.head h,List.head_mem h⟩⟩
noncomputable def sortA (ps : List (Int × Int)) (h : ps ≠ []) : Array (Sub ps):=letI:=inhS h; Go.Sort.pdq ltS ps.attach.toArray 0 ps.length (Lib.bitLen ps.length) true true
open Classical in
noncomputable def sortQ (ps : List (Int × Int)) : List (Int × Int):=if h : ps ≠ [] then (sortA ps h).toList.map Subtype.val else []
theorem sortA_ok (ps : List (Int × Int)) (h : ps ≠ []) : (sortA ps h).toList.Perm ps.attach /\ (sortA ps h).toList.Pairwise (fun x y=>x.1.1 <= y.1.1):=by
 letI:=inhS h
 have hs:=Go.Sort.pdq_sorts ltS swoS ps.attach.toArray 0 ps.length (Lib.bitLen ps.length) true true (Nat.zero_le _) (by simp) (Or.inl rfl)
 obtain ⟨⟨e1,_,e2⟩,e3⟩:=hs
 rw [show Go.Sort.pdq ltS ps.attach.toArray 0 ps.length (Lib.bitLen ps.length) true true = sortA ps h from rfl] at e1 e2 e3
 have hsz : (sortA ps h).size = ps.length:=by rw [e1]; simp
 have x1 : (sortA ps h).extract 0 ps.length = sortA ps h:=by rw [<- hsz]; exact Array.extract_size
 have x2 : (ps.attach.toArray).extract 0 ps.length = ps.attach.toArray:=by
  have : ps.attach.toArray.size = ps.length:=by simp
  rw [<- this]; exact Array.extract_size
 rw [x1,x2] at e2
 refine ⟨by simpa using e2,?_⟩
 rw [List.pairwise_iff_getElem]
 intro i j hi hj hij
 have hi' : i < (sortA ps h).size:=by simpa using hi
 have hj' : j < (sortA ps h).size:=by simpa using hj
 have:=e3 i j (Nat.zero_le _) hij (by omega)
 rw [getElem!_pos (sortA ps h) i hi',getElem!_pos (sortA ps h) j hj'] at this
 simp only [ltS,decide_eq_false_iff_not] at this
 simp only [Array.getElem_toList]
 omega
theorem sortQ_nil : sortQ [] = []:=by
 unfold sortQ
 rw [dif_neg (fun h=>h rfl)]
theorem sortQ_perm (ps : List (Int × Int)) : (sortQ ps).Perm ps:=by
 unfold sortQ
 split
 ·rename_i h
  have:=(sortA_ok ps h).1.map Subtype.val
  rwa [List.attach_map_subtype_val] at this
 ·rename_i h
  rw [Classical.not_not.1 h]
theorem sortQ_sorted (ps : List (Int × Int)) : (sortQ ps).Pairwise (fun x y=>x.1 <= y.1):=by
 unfold sortQ
 split
 ·rename_i h
  exact List.pairwise_map.2 (sortA_ok ps h).2
 .exact List.Pairwise.nil
noncomputable def XQ (g : FuncId) (args : List VVal) (H : List Ob) : Option (VVal × List Ob):=match args,H with
 | [.own (.arg 0 0) 0 0 n,.p (.fn g')],[.arr 2 xs]=>gd (g' = g) <| gd (n = xs.length) <| gd (n < 4611686018427387904) <| ob (mapO unPair xs) fun ps =>
   gd (∀ p ∈ ps,0 <= p.1 /\ p.1 < 4611686018427387904) (some (.tup [],[.arr 2 ((sortQ ps).map pairPV)]))
 | _,_=>none
end Go.V
namespace Go.V
noncomputable def XS : Sig:=fun f args H=>if f = 26 then XSplit args H else if f = 33 then XJoin args H else if f = 32 then XItoa args H else if f = 38 then XCut args H else if f = 30 then XQ 31 args H else none
noncomputable abbrev V : Sig:=vcall prog XS
theorem XS_none {f : FuncId} {vf : VFunc} (hf : prog f = some vf) (args : List VVal) (H : List Ob) : XS f args H = none:=by
 unfold XS
 have h0 : ¬ f = 26:=fun e=>by
  subst e
  exact absurd hf (by simp [prog])
 have h1 : ¬ f = 33:=fun e=>by
  subst e
  exact absurd hf (by simp [prog])
 have h2 : ¬ f = 32:=fun e=>by
  subst e
  exact absurd hf (by simp [prog])
 have h3 : ¬ f = 38:=fun e=>by
  subst e
  exact absurd hf (by simp [prog])
 have h4 : ¬ f = 30:=fun e=>by
  subst e
  exact absurd hf (by simp [prog])
 rw [if_neg h0,if_neg h1,if_neg h2,if_neg h3,if_neg h4]
theorem V_fix {f : FuncId} {vf : VFunc} (hf : prog f = some vf) {args : List VVal} {H : List Ob} {r : VVal × List Ob} (h : callF V vf args H = some r) : V f args H = some r:=vcall_fix (XS_none hf) hf h
theorem V_wp {f : FuncId} {vf : VFunc} (hf : prog f = some vf) {args : List VVal} {H : List Ob} {r : VVal × List Ob} (h : wp (callF V vf args H) (· = r)) : V f args H = some r:=V_fix hf (eq_of_wp h)
theorem V_x {f : FuncId} {args : List VVal} {H : List Ob} {r : VVal × List Ob} (h : XS f args H = some r) : V f args H = some r:=vcall_of (n:=0) h
theorem split_x {s sep : ByteArray} (hs : s.size < 4294967281) (h1 : 1 <= sep.size) : V 26 [.p (.str s),.p (.str sep)] [] = some (.fresh 1 ((splitS s sep).map PV.str),[]):=V_x (by
 simp only [XS,if_true,XSplit,gd,if_pos hs,if_pos h1])
theorem mapO_unS : ∀ (ss : List ByteArray),mapO unS (ss.map PV.str) = some ss
 | []=>rfl
 | s :: ss=>by
  simp only [lpc,mapO,unS,ob,mapO_unS ss]
theorem mapO_unPair : ∀ (ps : List (Int × Int)),mapO unPair (ps.map pairPV) = some ps
 | []=>rfl
 | p :: ps=>by
  simp only [lpc,mapO,unPair,ob,mapO_unPair ps]
theorem join_x {ss : List ByteArray} {sep : ByteArray} (hn : ss.length <= 140737488355328) (h : (Lib.join (ss.map (·.data.toList)) sep.data.toList).length <= 140737488355328) : V 33 [.own (.arg 0 0) 0 0 ss.length,.p (.str sep)] [.arr 1 (ss.map PV.str)] = some (.p (.str (joinS ss sep)),[.arr 1 (ss.map PV.str)]):=V_x (by
 have e0 : (33 : Nat) ≠ 26:=by decide
 simp only [XS,if_neg e0,if_true,XJoin,llm,mapO_unS,gd,ob,if_pos hn,if_pos h])
theorem itoa_x {n : Int} (h0 : -9223372036854775808 <= n) (h1 : n <= 9223372036854775807) : V 32 [.p (.int .i64 n)] [] = some (.p (.str (itoaS n)),[]):=V_x (by
 have e0 : (32 : Nat) ≠ 26:=by decide
 have e1 : (32 : Nat) ≠ 33:=by decide
 simp only [XS,if_neg e0,if_neg e1,if_true,XItoa,gd,h0,h1,and_self])
theorem cut_x {s sep : ByteArray} (hs : s.size < 4294967281) : V 38 [.p (.str s),.p (.str sep)] [] = some (.tup [.p (.str ⟨(cutS s sep).1.toArray⟩),.p (.str ⟨(cutS s sep).2.1.toArray⟩),.p (.bool (cutS s sep).2.2)],[]):=V_x (by
 have e0 : (38 : Nat) ≠ 26:=by decide
 have e1 : (38 : Nat) ≠ 33:=by decide
 have e2 : (38 : Nat) ≠ 32:=by decide
 simp only [XS,if_neg e0,if_neg e1,if_neg e2,if_true,XCut,gd,if_pos hs])
theorem sortF_x {ps : List (Int × Int)} (hn : ps.length < 4611686018427387904) (hb : ∀ p ∈ ps,0 <= p.1 /\ p.1 < 4611686018427387904) : V 30 [.own (.arg 0 0) 0 0 ps.length,.p (.fn 31)] [.arr 2 (ps.map pairPV)] = some (.tup [],[.arr 2 ((sortQ ps).map pairPV)]):=V_x (by
 have e0 : (30 : Nat) ≠ 26:=by decide
 have e1 : (30 : Nat) ≠ 33:=by decide
 have e2 : (30 : Nat) ≠ 32:=by decide
 have e3 : (30 : Nat) ≠ 38:=by decide
 simp only [XS,if_neg e0,if_neg e1,if_neg e2,if_neg e3,if_true,XQ,llm,mapO_unPair,gd,ob,if_pos hn,if_pos hb])
end Go.V
namespace Go.V
def isD (c : UInt8) : Bool:=decide (48 <= c.toNat) && decide (c.toNat <= 57)
def valF (l : List UInt8) (n : Nat) : Nat:=l.foldl (fun n c=>10 * n + (c.toNat - 48)) n
abbrev valD (l : List UInt8) : Nat:=valF l 0
def okD (l : List UInt8) : Bool:=l.all isD && decide (1 <= l.length) && decide (l.length <= 9)
def numV (l : List UInt8) : Int:=if okD l = true then (valD l : Nat) else -1
theorem valF_snoc (l : List UInt8) (c : UInt8) (n : Nat) : valF (l ++ [c]) n = 10 * valF l n + (c.toNat - 48):=by simp [valF]
theorem valD_lt : ∀ (l : List UInt8) (n : Nat),l.all isD = true -> valF l n < (n + 1) * 10 ^ l.length
 | [],n,_=>by simp [valF]
 | c :: l,n,h=>by
  simp only [List.all_cons,bat] at h
  have ih:=valD_lt l (10 * n + (c.toNat - 48)) h.2
  have hc : c.toNat <= 57:=by
   have:=h.1
   simp only [isD,bat,decide_eq_true_eq] at this
   exact this.2
  rw [llc,Nat.pow_succ,<- Nat.mul_assoc,Nat.mul_right_comm]
  refine Nat.lt_of_lt_of_le ih (Nat.mul_le_mul_right _ (by omega))
theorem ofNat_digit (n : Nat) (h : n < 10) : (UInt8.ofNat (48 + n)).toNat = 48 + n:=by
 rw [UInt8.toNat_ofNat']
 omega
theorem dec_ok (u : Nat) : (Lib.decDigits u).all isD = true /\ valD (Lib.decDigits u) = u /\ Lib.decDigits u ≠ []:=by
 induction u using Nat.strongRecOn with
 | _ u ih =>
  rw [Lib.decDigits]
  split
  ·rename_i h
   refine ⟨?_,?_,by simp⟩
   ·simp [isD,ofNat_digit u h]; omega
   ·show 10 * 0 + ((UInt8.ofNat (48 + u)).toNat - 48) = u
    rw [ofNat_digit u h]
    omega
  ·rename_i h
   obtain ⟨i1,i2,i3⟩:=ih (u / 10) (by omega)
   have hm : u % 10 < 10:=Nat.mod_lt _ (by omega)
   refine ⟨?_,?_,by simp⟩
   ·rw [List.all_append,i1]
    simp [isD,ofNat_digit _ hm]; omega
   ·have i2 : valF (Lib.decDigits (u / 10)) 0 = u / 10:=i2
    rw [valD,valF_snoc,i2,ofNat_digit _ hm]
    omega
theorem dec_len : ∀ (k u : Nat),u < 10 ^ (k + 1) -> (Lib.decDigits u).length <= k + 1
 | 0,u,h=>by
  rw [Lib.decDigits,dif_pos (by simpa using h)]
  simp
 | k + 1,u,h=>by
  rw [Lib.decDigits]
  split
  ·simp
  ·have:=dec_len k (u / 10) (by rw [Nat.pow_succ] at h; omega)
   simp only [lla,llc,lln]
   omega
theorem isD_ne {c : UInt8} (h : isD c = true) : c ≠ 44 /\ c ≠ 45:=by
 simp only [isD,bat,decide_eq_true_eq] at h
 refine ⟨fun e=>?_,fun e=>?_⟩ <;> · rw [e] at h; exact absurd h.1 (by decide)
theorem num_dec {u : Nat} (h : u < 1000000000) : numV (Lib.decDigits u) = (u : Int):=by
 obtain ⟨h1,h2,h3⟩:=dec_ok u
 have h4:=dec_len 8 u (by omega)
 have h5 : 1 <= (Lib.decDigits u).length:=List.length_pos_iff.2 h3
 rw [numV,if_pos (by simp only [okD,h1,bta,bat,decide_eq_true_eq]; omega),h2]
theorem cut_no {c : UInt8} : ∀ {l : List UInt8},c ∉ l -> Lib.index l [c] = -1
 | [],_=>by simp [Lib.index]
 | b :: l,h=>by
  have h1 : ¬ b = c:=fun e=>h (by rw [e]; exact lms ..)
  have ih:=cut_no (l:=l) (c:=c) fun hm=>h (lmc _ hm)
  have hp : ([c] : List UInt8).isPrefixOf (b :: l) = false:=by simp [List.isPrefixOf,Ne.symm h1]
  rw [Lib.index,hp,ih]
  simp
theorem cut_at {c : UInt8} : ∀ {a : List UInt8} (b : List UInt8),c ∉ a -> Lib.index (a ++ c :: b) [c] = (a.length : Nat)
 | [],b,_=>by rw [lna,Lib.index]; simp [List.isPrefixOf]
 | x :: a,b,h=>by
  have h1 : ¬ x = c:=fun e=>h (by rw [e]; exact lms ..)
  have ih:=cut_at (a:=a) (c:=c) b fun hm=>h (lmc _ hm)
  have hp : ([c] : List UInt8).isPrefixOf (x :: (a ++ c :: b)) = false:=by simp [List.isPrefixOf,Ne.symm h1]
  rw [lca,Lib.index,hp,ih]
  have hn : ¬ (((a.length : Nat) : Int) == -1) = true:=fun e=>by have:=beq_iff_eq.1 e; omega
  simp [hn]
theorem cutS_no {c : UInt8} {l : List UInt8} (h : c ∉ l) : Lib.cut l [c] = (l,[],false):=by
 rw [Lib.cut,cut_no h,if_neg (by decide)]
theorem cutS_at {c : UInt8} {a : List UInt8} (b : List UInt8) (h : c ∉ a) : Lib.cut (a ++ c :: b) [c] = (a,b,true):=by
 rw [Lib.cut,cut_at b h,if_pos (Int.natCast_nonneg _)]
 simp [List.drop_append]
def cutB (c : UInt8) : List UInt8 -> List (List UInt8)
 | []=>[[]]
 | b :: l=>if b = c then [] :: cutB c l else match cutB c l with
  | x :: xs=>(b :: x) :: xs
  | []=>[[b]]
theorem cutB_split (c : UInt8) : ∀ l : List UInt8,Lib.splitK [c] 0 (Lib.count l [c]) l = cutB c l
 | []=>rfl
 | b :: l=>by
  have ih:=cutB_split c l
  by_cases hb : b = c
  ·subst hb
   have hix : Lib.index (b :: l) [b] = 0:=by rw [Lib.index]; simp [List.isPrefixOf]
   rw [Lib.count_cons_eq,Nat.add_comm,Lib.splitK,hix]
   simp only [cutB,if_pos]
   rw [if_neg (by decide)]
   simp only [Int.toNat_zero,Nat.zero_add,List.take_zero,llc,lln,List.drop_succ_cons,List.drop_zero,ih]
  ·have hp : ([c] : List UInt8).isPrefixOf (b :: l) = false:=by simp [List.isPrefixOf,Ne.symm hb]
   have hix : Lib.index (b :: l) [c] = if Lib.index l [c] == -1 then -1 else Lib.index l [c] + 1:=by rw [Lib.index,hp]; simp
   rw [Lib.count_cons_ne b c l hb]
   simp only [cutB,if_neg hb]
   rw [<- ih]
   by_cases hm : Lib.index l [c] = -1
   ·rw [Lib.count_miss hm,Lib.splitK,Lib.splitK]
   ·have hge:=Lib.index_ge l [c]
    obtain ⟨j,hj⟩ : ∃ j : Nat,Lib.index l [c] = j:=⟨(Lib.index l [c]).toNat,by omega⟩
    have hix' : Lib.index (b :: l) [c] = ((j + 1 : Nat) : Int):=by rw [hix,if_neg (fun e=>hm (beq_iff_eq.1 e)),hj]; omega
    have hn : ¬ ((((j : Nat) : Int)) == -1) = true:=fun e=>by have:=beq_iff_eq.1 e; omega
    have hn' : ¬ ((((j + 1 : Nat) : Int)) == -1) = true:=fun e=>by have:=beq_iff_eq.1 e; omega
    rw [Lib.count_hit (by simp) hj,Nat.add_comm,Lib.splitK,Lib.splitK,hix',hj,if_neg hn,if_neg hn']
    simp only [Int.toNat_natCast,Nat.add_zero,llc,lln,List.take_succ_cons,List.drop_succ_cons]
theorem cutB_ne (c : UInt8) : ∀ l,cutB c l ≠ []
 | []=>by simp [cutB]
 | b :: l=>by
  unfold cutB
  split
  .simp
  .split <;> simp
theorem cutB_app (c : UInt8) : ∀ a b : List UInt8,cutB c (a ++ c :: b) = cutB c a ++ cutB c b
 | [],b=>by simp [cutB]
 | x :: a,b=>by
  have ih:=cutB_app c a b
  rw [lca]
  simp only [cutB]
  by_cases hx : x = c
  ·rw [if_pos hx,if_pos hx,ih]; rfl
  ·rw [if_neg hx,if_neg hx,ih]
   cases h : cutB c a with
   | nil=>exact absurd h (cutB_ne c a)
   | cons y ys=>rfl
theorem cutB_no (c : UInt8) : ∀ a : List UInt8,c ∉ a -> cutB c a = [a]
 | [],_=>rfl
 | x :: a,h=>by
  have h1 : ¬ x = c:=fun e=>h (by rw [e]; exact lms ..)
  simp only [cutB,if_neg h1,cutB_no c a fun hm=>h (lmc _ hm)]
theorem splitS_cutB (s : ByteArray) (c : UInt8) : (splitS s ⟨#[c]⟩).map (·.data.toList) = cutB c s.data.toList:=by
 rw [splitS,Lib.splitB_data]
 exact cutB_split c _
theorem cutB_join (c : UInt8) : ∀ xs : List (List UInt8),xs ≠ [] -> (∀ x ∈ xs,c ∉ x) -> cutB c (Lib.join xs [c]) = xs
 | [],h,_=>absurd rfl h
 | [x],_,h=>by
  rw [Lib.join_one,cutB_no c x (h x (lms ..))]
 | x :: y :: r,_,h=>by
  have ih:=cutB_join c (y :: r) (by simp) fun z hz=>h z (lmc _ hz)
  rw [Lib.join_cons] at ih
  have e : Lib.join (x :: y :: r) [c] = x ++ c :: (y ++ Lib.joinTail [c] r):=by
   rw [Lib.join_cons]
   simp [Lib.joinTail]
  rw [e,cutB_app,cutB_no c x (h x (lms ..)),ih]
  rfl
end Go.V
namespace Go.V
def runLen (x : Int) : List Int -> Nat
 | []=>0
 | b :: r=>if b = x + 1 then runLen b r + 1 else 0
theorem runLen_le (x : Int) : ∀ r : List Int,runLen x r <= r.length
 | []=>lrf _
 | b :: r=>by
  have:=runLen_le b r
  unfold runLen
  split <;> simp <;> omega
def runsR : List Int -> List (Int × Int)
 | []=>[]
 | x :: r=>(x,x + runLen x r) :: runsR (r.drop (runLen x r))
termination_by l=>l.length
decreasing_by simp; omega
theorem runsR_nil : runsR [] = []:=by rw [runsR]
theorem runsR_cons (x : Int) (r : List Int) : runsR (x :: r) = (x,x + runLen x r) :: runsR (r.drop (runLen x r)):=by rw [runsR]
def rangeI (a b : Int) : List Int:=(List.range (b + 1 - a).toNat).map fun k : Nat=>a + (k : Int)
theorem rangeI_nil {a b : Int} (h : b < a) : rangeI a b = []:=by
 rw [rangeI,show (b + 1 - a).toNat = 0 by omega]; rfl
theorem rangeI_cons {a b : Int} (h : a <= b) : rangeI a b = a :: rangeI (a + 1) b:=by
 rw [rangeI,show (b + 1 - a).toNat = (b + 1 - (a + 1)).toNat + 1 by omega,List.range_succ_eq_map,lpc,List.map_map]
 simp only [rangeI,Int.natCast_zero,Int.add_zero]
 congr 1
 apply List.map_congr_left
 intro k _
 simp only [Function.comp,Nat.succ_eq_add_one,Int.natCast_add,Int.natCast_one]
 omega
theorem mem_rangeI {a b x : Int} : x ∈ rangeI a b ↔ a <= x /\ x <= b:=by
 simp only [rangeI,lmm,List.mem_range]
 constructor
 .rintro ⟨k,hk,rfl⟩; omega
 .intro h; exact ⟨(x - a).toNat,by omega,by omega⟩
def spanL (next : Int) : List (Int × Int) -> List Int
 | []=>[]
 | p :: r=>rangeI (max next p.1) p.2 ++ spanL (max (max next p.1) (p.2 + 1)) r
abbrev Asc (l : List Int) : Prop:=l.Pairwise (· < ·)
theorem run_split : ∀ (r : List Int) (x : Int),x :: r = rangeI x (x + runLen x r) ++ r.drop (runLen x r)
 | [],x=>by
  rw [runLen,rangeI_cons (by omega),rangeI_nil (by omega)]; rfl
 | b :: r,x=>by
  unfold runLen
  split
  ·rename_i h
   subst h
   have ih:=run_split r (x + 1)
   rw [rangeI_cons (by omega),List.drop_succ_cons,lca,show x + ((runLen (x + 1) r + 1 : Nat) : Int) = x + 1 + runLen (x + 1) r by omega,<- ih]
  .rw [rangeI_cons (by omega),rangeI_nil (by omega)]; rfl
theorem runsR_asc : ∀ (n : Nat) (l : List Int),l.length <= n -> Asc l -> (∀ p ∈ runsR l,p.1 <= p.2 /\ p.1 ∈ l /\ p.2 ∈ l) /\ (runsR l).Pairwise (fun a b=>a.1 < b.1)
 | _,[],_,_=>by rw [runsR_nil]; exact ⟨by simp,List.Pairwise.nil⟩
 | 0,x :: r,h,_=>by simp at h
 | n + 1,x :: r,h,ha=>by
  have hk:=runLen_le x r
  have hs:=run_split r x
  have ha2:=ha
  rw [hs] at ha2
  have hp:=List.pairwise_append.1 ha2
  obtain ⟨i1,i2⟩:=runsR_asc n (r.drop (runLen x r)) (by simp at h ⊢; omega) hp.2.1
  rw [runsR_cons]
  refine ⟨fun p hp'=>?_,lpw.2 ⟨fun p hp'=>?_,i2⟩⟩
  ·rcases lmk.1 hp' with rfl | hp'
   ·refine ⟨by simp only; omega,lms ..,?_⟩
    rw [hs]
    exact List.mem_append_left _ (mem_rangeI.2 ⟨by omega,Int.le_refl _⟩)
   ·obtain ⟨j1,j2,j3⟩:=i1 p hp'
    exact ⟨j1,lmc _ (List.mem_of_mem_drop j2),lmc _ (List.mem_of_mem_drop j3)⟩
  .exact hp.2.2 x (mem_rangeI.2 ⟨by omega,by omega⟩) p.1 (i1 p hp').2.1
abbrev decB (n : Int) : List UInt8:=Lib.itoa n
def elemB (p : Int × Int) : List UInt8:=if p.1 < p.2 then decB p.1 ++ 45 :: decB p.2 else decB p.1
abbrev elemS (p : Int × Int) : ByteArray:=⟨(elemB p).toArray⟩
def elemV (l : List UInt8) : Int × Int:=(numV (Lib.cut l [45]).1,if (Lib.cut l [45]).2.2 = true then numV (Lib.cut l [45]).2.1 else numV (Lib.cut l [45]).1)
abbrev elemOk (p : Int × Int) : Bool:=decide (0 <= p.1) && decide (p.1 <= p.2)
def elemsV : List ByteArray -> Option (List (Int × Int))
 | []=>some []
 | s :: r=>if elemOk (elemV s.data.toList) = true then (elemsV r).map (elemV s.data.toList :: ·) else none
theorem itoa_pos {n : Int} (h : 0 <= n) : Lib.itoa n = Lib.decDigits n.toNat:=by rw [Lib.itoa,if_neg (by omega)]
theorem dec_no {n : Int} (h : 0 <= n) : (44 : UInt8) ∉ decB n /\ (45 : UInt8) ∉ decB n:=by
 rw [decB,itoa_pos h]
 have:=(dec_ok n.toNat).1
 rw [List.all_eq_true] at this
 exact ⟨fun hm=>(isD_ne (this _ hm)).1 rfl,fun hm=>(isD_ne (this _ hm)).2 rfl⟩
theorem num_decB {n : Int} (h : 0 <= n) (h2 : n < 1000000000) : numV (decB n) = n:=by
 rw [decB,itoa_pos h,num_dec (by omega)]
 omega
end Go.V
namespace Go.V
structure Nd where
 id : Int
 parent : Int
 name : ByteArray
 control : Int
 kind : Int
 owner : Int
 deriving DecidableEq
def Nd.pv (n : Nd) : PV:=.agg [.int .i64 n.id,.int .i64 n.parent,.str n.name,.int .i64 n.control,.int .i64 n.kind,.int .i64 n.owner]
def Nd.vv (n : Nd) : VVal:=.agg [.p (.int .i64 n.id),.p (.int .i64 n.parent),.p (.str n.name),.p (.int .i64 n.control),.p (.int .i64 n.kind),.p (.int .i64 n.owner)]
abbrev nodesP (ns : List Nd) : PV:=.slice 6 (ns.map Nd.pv)
structure Tr where
 nodes : List Nd
 next : Int
abbrev Tr.vv (t : Tr) : VVal:=.agg [.p (nodesP t.nodes),.p (.int .i64 t.next)]
abbrev intsP (xs : List Int) : PV:=.slice 1 (xs.map (.int .i64))
attribute [go_sem] Nd.pv solid
theorem nodes_flat (ns : List Nd) : (ns.map Nd.pv).all PV.flat = true:=by
 rw [List.all_eq_true]
 intro x hx
 obtain ⟨n,_,rfl⟩:=lmm.1 hx
 rfl
theorem ints_flat (k : IntKind) (xs : List Int) : (xs.map (PV.int k)).all PV.flat = true:=by
 rw [List.all_eq_true]
 intro x hx
 obtain ⟨n,_,rfl⟩:=lmm.1 hx
 rfl
attribute [go_sem] nodes_flat ints_flat
theorem light_eq (xs : List PV) : V 7 [.p (.slice 1 xs)] [] = some (.p (.bool (decide (xs.length <= 600))),[]):=by
 refine V_fix (vf:=vf7) rfl ?_
 simp -implicitDefEqProofs (disch:=omega) only [vf7,vb7,go_sem,↓reduceIte,rA,rS,rE,rL,reduceCtorEq]
 simp only [show (600 : Int) = ((600 : Nat) : Int) from rfl,Int.ofNat_le]
abbrev diceB (L : List Int) (a : Nat) : Ob:=.box [.p (intsP L),.p (.int .i64 a)]
theorem roll_eq (L : List Int) : V 9 [.p (intsP L)] [] = some (.boxed [.p (intsP L),.p (.int .i64 0)],[]):=by
 refine V_fix (vf:=vf9) rfl ?_
 simp -implicitDefEqProofs (disch:=omega) only [vf9,vb9,go_sem,↓reduceIte,rA,rS,rE,rL,reduceCtorEq]
def nextV (L : List Int) (a : Nat) (n : Int) : Int:=if 1 <= n then (L.getD a 0) % n else 0
def nextA (L : List Int) (a : Nat) (n : Int) : Nat:=if a < L.length /\ 1 <= n then a + 1 else a
theorem emod_tmod {x n : Int} (h : 1 <= n) : x % n = if x.tmod n < 0 then x.tmod n + n else x.tmod n:=by
 have h3:=Int.emod_nonneg x (show n ≠ 0 by omega)
 have h4:=Int.emod_lt_of_pos x (show 0 < n by omega)
 have h5:=Int.tmod_eq_emod (a:=x) (b:=n)
 rw [h5]
 split <;> split <;> omega
theorem next_eq (L : List Int) (a : Nat) (n : Int) (hL : L.length < 4611686018427387904) (hn : n < 4611686018427387904) : V 10 [.ptr (.arg 0 0) 0 0,.p (.int .i64 n)] [diceB L a] = some (.p (.int .i64 (nextV L a n)),[diceB L (nextA L a n)]):=by
 refine V_wp (vf:=vf10) rfl ?_
 by_cases ha : L.length <= a
 ·simp -implicitDefEqProofs (disch:=omega) only [vf10,vb10,ha,go_sem,↓reduceIte,rA,rS,rE,rL,reduceCtorEq]
  simp [nextV,nextA,List.getD_eq_getElem?_getD,List.getElem?_eq_none ha,Nat.not_lt.2 ha]
 ·have hx : L[a]? = some (L.getD a 0):=by
   rw [List.getD_eq_getElem?_getD,lgg (by omega)]; rfl
  have ht : (((a : Int) + 1 - 1).toNat) = a:=by omega
  simp -implicitDefEqProofs (disch:=omega) only [vf10,vb10,ha,go_sem,↓reduceIte,rA,rS,rE,rL,reduceCtorEq]
  repeat' ((first | refine wp_grn_d (fun hb=>?_) (fun hb=>?_) | refine wp_gtn_d (fun hb=>?_) (fun hb=>?_) | refine wp_gr_d (fun hb=>?_) (fun hb=>?_) | refine wp_gt_d (fun hb=>?_) (fun hb=>?_) | refine wp_gr (fun hb=>?_) (fun hb=>?_) | refine wp_gt (fun hb=>?_) (fun hb=>?_) | refine wp_nt_d (fun hb=>?_) (fun hb=>?_) | refine wp_nt (fun hb=>?_) (fun hb=>?_) | refine wp_if_d (fun hb=>?_) (fun hb=>?_) | refine wp_if (fun hb=>?_) (fun hb=>?_)) <;> simp -implicitDefEqProofs (disch:=omega) only [hb,hx,ht,go_sem,↓reduceIte,rA,rS,rE,rL,reduceCtorEq])
  ·simp [nextV,nextA,show ¬ 1 <= n by omega]
  ·have:=emod_tmod (x:=L.getD a 0) (n:=n) (by omega)
   rw [if_pos (by assumption)] at this
   have h1:=Int.tmod_lt_of_pos (L.getD a 0) (show 0 < n by omega)
   have h2:=Int.emod_nonneg (L.getD a 0) (show n ≠ 0 by omega)
   rw [wrap64 (by omega) (by omega),<- this]
   simp only [nextV,nextA,show 1 <= n by omega,show a < L.length by omega,and_self,if_true,diceB,Int.natCast_add,Int.natCast_one]
  ·have:=emod_tmod (x:=L.getD a 0) (n:=n) (by omega)
   rw [if_neg (by assumption)] at this
   rw [<- this]
   simp only [nextV,nextA,show 1 <= n by omega,show a < L.length by omega,and_self,if_true,diceB,Int.natCast_add,Int.natCast_one]
theorem nextV_nonneg (L : List Int) (a : Nat) (n : Int) : 0 <= nextV L a n:=by
 unfold nextV
 split
 .exact Int.emod_nonneg _ (by omega)
 .omega
theorem nextV_lt (L : List Int) (a : Nat) {n : Int} (h : 1 <= n) : nextV L a n < n:=by
 unfold nextV
 rw [if_pos h]
 exact Int.emod_lt_of_pos _ (by omega)
theorem take_snoc {α : Type} {l : List α} {k : Nat} {x : α} (h : l[k]? = some x) : l.take (k + 1) = l.take k ++ [x]:=by
 rw [List.take_add_one,h]
 rfl
theorem take_map_self {α β : Type} (f : α -> β) (l : List α) : List.take l.length (l.map f) = l.map f:=by
 rw [ltl (by simp)]
theorem take_map_snoc {α β : Type} (f : α -> β) (l : List α) (x : β) : List.take (l.length + 1) (l.map f ++ [x]) = l.map f ++ [x]:=by
 rw [ltl (by simp)]
attribute [go_sem] take_map_self take_map_snoc
end Go.V
namespace Go.V
theorem isD_iff (c : UInt8) : (isD c = true) = (48 <= (c.toNat : Int) /\ (c.toNat : Int) <= 57):=by
 simp only [isD,bat,decide_eq_true_eq]
 apply propext
 omega
theorem wrap8 {n : Int} (h0 : 0 <= n) (h1 : n < 256) : IntKind.u8.wrap n = n:=by
 simp [IntKind.wrap,IntKind.bits,IntKind.signed]
 omega
theorem numV_bad {l : List UInt8} {k : Nat} {c : UInt8} (h : l[k]? = some c) (hc : ¬ isD c = true) : numV l = -1:=by
 have hm:=lmg h
 have : okD l = false:=by
  cases e : okD l with
  | false=>rfl
  | true =>
   simp only [okD,bat,List.all_eq_true] at e
   exact absurd (e.1.1 c hm) hc
 rw [numV,if_neg (by rw [this]; exact Bool.false_ne_true)]
set_option maxHeartbeats 1000000 in
theorem number_eq (x : ByteArray) (hs : x.size < 4294967281) : V 39 [.p (.str x)] [] = some (.p (.int .i64 (numV x.data.toList)),[]):=by
 refine V_wp (vf:=vf39) rfl ?_
 have hsl : x.data.toList.length = x.size:=rfl
 have he : decide (x = ⟨#[]⟩) = decide (x.data.toList.length = 0):=by
  rw [decide_eq_decide]
  constructor
  ·rintro rfl; rfl
  ·intro h
   obtain ⟨⟨d⟩⟩:=x
   cases d with
   | nil=>rfl
   | cons=>simp at h
 generalize hl : x.data.toList = l at hsl he
 simp -implicitDefEqProofs (disch:=omega) only [vf39,vb39,hl,go_sem,↓reduceIte,rA,rS,rE,rL,reduceCtorEq]
 obtain ⟨I,hI⟩ : ∃ I : Nat -> St -> Prop,∀ k s,I k s ↔ (l.take k).all isD = true /\ s.pe 0 = .p (PV.str x) /\ s.pe 3 = .p (.int .i64 ((min (valD (l.take k)) 1073741824 : Nat) : Int)) /\ s.pe 7 = .p (PV.slice 1 (List.map (fun b ↦ PV.int IntKind.u8 ↑b.toNat) l)) /\ s.pe 8 = .p (.int .i64 ↑l.length) /\ s.pe 9 = .p (.int .i64 k):=⟨_,fun _ _=>Iff.rfl⟩
 refine wp_count (l.length) I ?_ ?_
 ·refine (hI _ _).2 ⟨?_,?_,?_,?_,?_,?_⟩
  ·rfl
  all_goals exact cl0
 intro k s hk hIk
 obtain ⟨hd,h0,h3,h7,h8,h9⟩:=(hI _ _).1 hIk
 clear hIk
 generalize hv : valD (l.take k) = v at h3
 obtain ⟨m,hm⟩ : ∃ m : Nat,m = min v 1073741824:=⟨_,rfl⟩
 rw [<- hm] at h3
 have hm1 : m <= 1073741824:=by omega
 simp -implicitDefEqProofs (disch:=omega) only [h0,h3,h7,h8,h9,go_sem,↓reduceIte,rA,rS,rE,rL,reduceCtorEq]
 refine wp_if_d (fun hlt=>?_) (fun hge=>?_)
 ·have hc : l[k]? = some l[k]:=lgg (by omega)
  have htk:=take_snoc hc
  generalize l[k] = c at hc htk
  by_cases hD : isD c = true
  ·have hD2:=hD
   rw [isD_iff] at hD2
   have f1 : ¬ (c.toNat : Int) < 48:=by omega
   have f2 : ¬ (c.toNat : Int) > 57:=by omega
   have w1 : IntKind.u8.wrap ((c.toNat : Int) - 48) = (c.toNat : Int) - 48:=wrap8 (by omega) (by omega)
   have w2 : (10 * (m : Int) + ((c.toNat : Int) - 48)) = ((10 * m + (c.toNat - 48) : Nat) : Int):=by omega
   have htv : valD (l.take (k + 1)) = 10 * v + (c.toNat - 48):=by rw [htk,valD,valF_snoc,<- hv]
   have w3 : min ((10 * m + (c.toNat - 48) : Nat) : Int) 1073741824 = ((min (10 * v + (c.toNat - 48)) 1073741824 : Nat) : Int):=by omega
   simp -implicitDefEqProofs (disch:=omega) only [h0,h3,h7,h8,h9,hlt,hc,f1,f2,w1,w2,w3,go_sem,↓reduceIte,rA,rS,rE,rL,reduceCtorEq]
   have hd2 : (l.take (k + 1)).all isD = true:=by rw [htk,List.all_append,hd]; simp [hD]
   clear htk hm
   try refine And.intro (by omega) ?_
   refine (hI _ _).2 ⟨?_,?_,?_,?_,?_,?_⟩
   ·exact hd2
   all_goals exact cl0
  ·rw [numV_bad hc hD]
   rw [isD_iff] at hD
   by_cases f1 : (c.toNat : Int) < 48
   ·simp -implicitDefEqProofs (disch:=omega) only [h0,h3,h7,h8,h9,hlt,hc,f1,go_sem,↓reduceIte,rA,rS,rE,rL,reduceCtorEq]
   ·have f2 : (c.toNat : Int) > 57:=by omega
    simp -implicitDefEqProofs (disch:=omega) only [h0,h3,h7,h8,h9,hlt,hc,f1,f2,go_sem,↓reduceIte,rA,rS,rE,rL,reduceCtorEq]
 ·have hk : k = l.length:=by omega
  subst hk
  rw [List.take_length] at hd hv
  by_cases hz0 : l.length = 0
  ·have hn : numV l = -1:=by rw [numV,if_neg (by simp [okD,hz0])]
   have he1 : decide (x = ⟨#[]⟩) = true:=by rw [he,hz0]; rfl
   rw [hn]
   simp -implicitDefEqProofs (disch:=omega) only [h0,h3,h7,h8,h9,hge,he1,go_sem,↓reduceIte,rA,rS,rE,rL,reduceCtorEq]
  ·have he1 : decide (x = ⟨#[]⟩) = false:=by rw [he]; simpa using hz0
   by_cases h9 : (x.size : Int) > 9
   ·have hn : numV l = -1:=by rw [numV,if_neg (by simp [okD]; omega)]
    rw [hn]
    simp -implicitDefEqProofs (disch:=omega) only [h0,h3,h7,h8,h9,hge,he1,h9,go_sem,↓reduceIte,rA,rS,rE,rL,reduceCtorEq]
   ·have hn : numV l = (v : Int):=by
     rw [numV,if_pos (by simp only [okD,hd,bta,bat,decide_eq_true_eq]; omega),hv]
    have hlt:=valD_lt l 0 hd
    rw [Nat.zero_add,Nat.one_mul] at hlt
    have hpw : 10 ^ l.length <= 10 ^ 9:=Nat.pow_le_pow_right (by omega) (by omega)
    have hmv : m = v:=by
     have : v < 10 ^ 9:=by rw [<- hv]; exact Nat.lt_of_lt_of_le hlt hpw
     omega
    rw [hn,<- hmv]
    simp -implicitDefEqProofs (disch:=omega) only [h0,h3,h7,h8,h9,hge,he1,h9,go_sem,↓reduceIte,rA,rS,rE,rL,reduceCtorEq]
theorem cut_le (l sep : List UInt8) : (Lib.cut l sep).1.length <= l.length /\ (Lib.cut l sep).2.1.length <= l.length:=by
 unfold Lib.cut
 split
 ·simp only [llt,lld]
  omega
 .simp
abbrev pairVV (p : Int × Int) : VVal:=.agg [.p (.int .i64 p.1),.p (.int .i64 p.2)]
set_option maxHeartbeats 1000000 in
theorem element_eq (x : ByteArray) (hs : x.size < 4294967281) : V 27 [.p (.str x)] [] = some (.tup [pairVV (elemV x.data.toList),.p (.bool (elemOk (elemV x.data.toList)))],[]):=by
 refine V_wp (vf:=vf27) rfl ?_
 have hc:=cut_x (s:=x) (sep:=⟨#[45]⟩) hs
 obtain ⟨c1,c2⟩:=cut_le x.data.toList [45]
 have hsl : x.data.toList.length = x.size:=rfl
 have hn1:=number_eq ⟨(Lib.cut x.data.toList [45]).1.toArray⟩ (by show (Lib.cut x.data.toList [45]).1.length < _; omega)
 have hn2:=number_eq ⟨(Lib.cut x.data.toList [45]).2.1.toArray⟩ (by show (Lib.cut x.data.toList [45]).2.1.length < _; omega)
 simp only at hn1 hn2
 unfold elemV elemOk
 rw [show cutS x ⟨#[45]⟩ = Lib.cut x.data.toList [45] from rfl] at hc
 generalize Lib.cut x.data.toList [45] = q at hc hn1 hn2 ⊢
 obtain ⟨q1,q2,q3⟩:=q
 simp only at hc hn1 hn2 ⊢
 generalize numV q1 = a at hn1 ⊢
 generalize numV q2 = b at hn2 ⊢
 cases q3
 ·by_cases ha : 0 <= a
  .simp -implicitDefEqProofs (disch:=omega) only [vf27,vb27,hc,hn1,ha,go_sem,↓reduceIte,rA,rS,rE,rL,reduceCtorEq]
  .simp -implicitDefEqProofs (disch:=omega) only [vf27,vb27,hc,hn1,ha,go_sem,↓reduceIte,rA,rS,rE,rL,reduceCtorEq]
 ·by_cases ha : 0 <= a
  .simp -implicitDefEqProofs (disch:=omega) only [vf27,vb27,hc,hn1,hn2,ha,go_sem,↓reduceIte,rA,rS,rE,rL,reduceCtorEq]
  .simp -implicitDefEqProofs (disch:=omega) only [vf27,vb27,hc,hn1,hn2,ha,go_sem,↓reduceIte,rA,rS,rE,rL,reduceCtorEq]
end Go.V
namespace Go.V
def idxF (f : Int × Int -> Bool) : List (Int × Int) -> Nat -> Int
 | [],_=>-1
 | x :: r,k=>if f x = true then (k : Int) else idxF f r (k + 1)
theorem idxF_cons (f : Int × Int -> Bool) (x : Int × Int) (r : List (Int × Int)) (k : Nat) : idxF f (x :: r) k = if f x = true then (k : Int) else idxF f r (k + 1):=rfl
theorem idxF_nil (f : Int × Int -> Bool) (k : Nat) : idxF f [] k = -1:=rfl
theorem idxF_any (f : Int × Int -> Bool) : ∀ (l : List (Int × Int)) (k : Nat),decide (idxF f l k ≥ 0) = l.any f
 | [],k=>rfl
 | x :: r,k=>by
  unfold idxF
  rw [List.any_cons]
  split
  ·rename_i h
   rw [h,Bool.true_or]
   exact decide_eq_true (Int.natCast_nonneg _)
  ·rename_i h
   rw [idxF_any f r (k + 1)]
   simp [h]
abbrev spansP (ps : List (Int × Int)) : PV:=.slice 2 (ps.map pairPV)
abbrev highB (n : Int) (p : Int × Int) : Bool:=decide (p.2 ≥ min n 65536)
theorem high_eq (p : Int × Int) (n : Int) : V 29 [pairVV p,.ptr (.arg 0 0) 0 0] [.box [.p (.int .i64 n)]] = some (.p (.bool (highB n p)),[.box [.p (.int .i64 n)]]):=by
 refine V_wp (vf:=vf29) rfl ?_
 simp -implicitDefEqProofs (disch:=omega) only [vf29,vb29,go_sem,↓reduceIte,rA,rS,rE,rL,reduceCtorEq]
theorem spans_flat (ps : List (Int × Int)) : (ps.map pairPV).all PV.flat = true:=by
 rw [List.all_eq_true]
 intro x hx
 obtain ⟨n,_,rfl⟩:=lmm.1 hx
 rfl
attribute [go_sem] spans_flat
theorem indexSpan_eq (ps : List (Int × Int)) (n : Int) (hl : ps.length < 4611686018427387904) : V 40 [.p (spansP ps),.fn 29 [.ptr (.arg 0 0) 0 0]] [.box [.p (.int .i64 n)]] = some (.p (.int .i64 (idxF (highB n) ps 0)),[.box [.p (.int .i64 n)]]):=by
 refine V_wp (vf:=vf40) rfl ?_
 simp -implicitDefEqProofs (disch:=omega) only [vf40,vb40,go_sem,↓reduceIte,rA,rS,rE,rL,reduceCtorEq]
 refine wp_count ps.length (fun k s=>idxF (highB n) ps 0 = idxF (highB n) (ps.drop k) k /\ s.pe 0 = .p (spansP ps) /\ s.pe 1 = .fn 29 [.ptr (.arg 0 0) 0 0] /\ s.pe 7 = .p (.int .i64 ps.length) /\ s.pe 8 = .p (.int .i64 k) /\ s.h (.arg 0 0) = some (0,.box [.p (.int .i64 n)])) ?_ ?_
 ·exact ⟨rfl,rfl,rfl,rfl,rfl,rfl⟩
 ·rintro k s hk ⟨hall,h0,h1,h7,h8,hh⟩
  simp -implicitDefEqProofs (disch:=omega) only [h0,h1,h7,h8,hh,go_sem,↓reduceIte,rA,rS,rE,rL,reduceCtorEq]
  refine wp_if_d (fun hlt=>?_) (fun hge=>?_)
  ·have hm : ps[k]? = some ps[k]:=lgg hlt
   have hd : ps.drop k = ps[k] :: ps.drop (k + 1):=ldg (by omega)
   generalize ps[k] = m at hm hd
   rw [hd,idxF_cons] at hall
   have hc:=high_eq m n
   generalize highB n m = b at hc hall
   cases b
   ·rw [if_neg Bool.false_ne_true] at hall
    simp -implicitDefEqProofs (disch:=omega) only [h0,h1,h7,h8,hh,hm,hc,go_sem,↓reduceIte,rA,rS,rE,rL,reduceCtorEq]
    exact ⟨hlt,hall,by simp only [Int.natCast_add,Int.natCast_one]⟩
   ·rw [if_pos rfl] at hall
    simp -implicitDefEqProofs (disch:=omega) only [h0,h1,h7,h8,hh,hm,hc,go_sem,↓reduceIte,rA,rS,rE,rL,reduceCtorEq]
    rw [hall]
  ·rw [ldl (by omega)] at hall
   simp -implicitDefEqProofs (disch:=omega) only [h0,h1,h7,h8,hh,hge,go_sem,↓reduceIte,rA,rS,rE,rL,reduceCtorEq]
   rw [hall,idxF_nil]
theorem contains_eq (ps : List (Int × Int)) (n : Int) (hl : ps.length < 4611686018427387904) : V 28 [.p (spansP ps),.fn 29 [.ptr (.arg 0 0) 0 0]] [.box [.p (.int .i64 n)]] = some (.p (.bool (ps.any (highB n))),[.box [.p (.int .i64 n)]]):=by
 refine V_wp (vf:=vf28) rfl ?_
 have hc:=indexSpan_eq ps n hl
 have ha:=idxF_any (highB n) ps 0
 generalize idxF (highB n) ps 0 = i at hc ha
 generalize ps.any (highB n) = b at ha ⊢
 simp -implicitDefEqProofs (disch:=omega) only [vf28,vb28,hc,ha,go_sem,↓reduceIte,rA,rS,rE,rL,reduceCtorEq]
theorem cutB_len (c : UInt8) : ∀ l : List UInt8,(∀ p ∈ cutB c l,p.length <= l.length) /\ (cutB c l).length <= l.length + 1
 | []=>by simp [cutB]
 | b :: l=>by
  obtain ⟨i1,i2⟩:=cutB_len c l
  unfold cutB
  split
  ·refine ⟨fun p hp=>?_,by simp; omega⟩
   rcases lmk.1 hp with rfl | hp
   ·simp
   ·have:=i1 p hp; simp; omega
  ·split
   ·rename_i x xs h
    rw [h] at i1 i2
    refine ⟨fun p hp=>?_,by simp at i2 ⊢; omega⟩
    rcases lmk.1 hp with rfl | hp
    .have:=i1 x (lms ..); simp; omega
    .have:=i1 p (lmc _ hp); simp; omega
   .simp
theorem split_len (x : ByteArray) (c : UInt8) : (∀ w ∈ splitS x ⟨#[c]⟩,w.size <= x.size) /\ (splitS x ⟨#[c]⟩).length <= x.size + 1:=by
 have h:=splitS_cutB x c
 obtain ⟨h1,h2⟩:=cutB_len c x.data.toList
 rw [<- h] at h1 h2
 refine ⟨fun w hw=>h1 _ (List.mem_map_of_mem hw),by simpa using h2⟩
theorem numV_lt (l : List UInt8) : numV l < 1000000000:=by
 unfold numV
 split
 ·rename_i h
  simp only [okD,bat,decide_eq_true_eq] at h
  have h1:=valD_lt l 0 h.1.1
  rw [Nat.zero_add,Nat.one_mul] at h1
  have hpw : 10 ^ l.length <= 10 ^ 9:=Nat.pow_le_pow_right (by omega) (by omega)
  have : valD l < 10 ^ 9:=Nat.lt_of_lt_of_le h1 hpw
  omega
 .omega
theorem elemV_lt (l : List UInt8) : (elemV l).2 < 1000000000:=by
 unfold elemV
 simp only
 split <;> exact numV_lt _
abbrev okP (p : Int × Int) : Prop:=0 <= p.1 /\ p.1 <= p.2 /\ p.2 < 1000000000
theorem elemsV_cons (w : ByteArray) (r : List ByteArray) : elemsV (w :: r) = if elemOk (elemV w.data.toList) = true then (elemsV r).map (elemV w.data.toList :: ·) else none:=rfl
noncomputable def parseT (x : ByteArray) (n : Int) : List Int × Int :=
 if x = ⟨#[]⟩ then ([],0) else match elemsV (splitS x ⟨#[44]⟩) with
  | none=>([],2)
  | some ps=>if ps.any (highB n) = true then ([],3) else (spanL 0 (sortQ ps),0)
set_option maxHeartbeats 8000000 in
theorem sparse_eq (x : ByteArray) (n : Int) (hs : x.size < 4294967281) : V 13 [.p (.str x),.p (.int .i64 n)] [] = some (.tup [.fresh 1 ((parseT x n).1.map (.int .i64)),.p (.int .i64 (parseT x n).2)],[]):=by
 refine V_wp (vf:=vf13) rfl ?_
 unfold parseT
 by_cases he : x = ⟨#[]⟩
 ·have hd : decide (x = ⟨#[]⟩) = true:=decide_eq_true he
  rw [if_pos he]
  simp -implicitDefEqProofs (disch:=omega) only [vf13,vb13,hd,go_sem,↓reduceIte,rA,rS,rE,rL,reduceCtorEq]
 have hd : decide (x = ⟨#[]⟩) = false:=decide_eq_false he
 rw [if_neg he]
 have h1:=split_x (sep:=⟨#[44]⟩) hs (by decide)
 obtain ⟨hw1,hw2⟩:=split_len x 44
 generalize splitS x ⟨#[44]⟩ = ws at h1 hw1 hw2 ⊢
 simp -implicitDefEqProofs (disch:=omega) only [vf13,vb13,hd,h1,go_sem,↓reduceIte,rA,rS,rE,rL,reduceCtorEq]
 obtain ⟨I,hI⟩ : ∃ I : Nat -> St -> Prop,∀ k s,I k s ↔ ∃ (acc : List (Int × Int)) (ww : Nat),elemsV ws = (elemsV (ws.drop k)).map (acc ++ ·) /\ (∀ p ∈ acc,okP p) /\ acc.length = k /\ s.pe 3 = .ptr (.slot 3 0) 0 0 /\ s.pe 6 = .own (.slot 6 0) ww 0 acc.length /\ s.pe 18 = .own (.slot 18 1) 0 0 ws.length /\ s.pe 19 = .p (.int .i64 ↑ws.length) /\ s.pe 20 = .p (.int .i64 k) /\ s.h (.slot 3 0) = some (0,Ob.box [.p (.int .i64 n)]) /\ s.h (.slot 6 0) = some (ww,Ob.arr 2 (acc.map pairPV)) /\ s.h (.slot 18 1) = some (0,Ob.arr 1 (List.map PV.str ws)):=⟨_,fun _ _=>Iff.rfl⟩
 refine wp_count (ws.length) I ?_ ?_
 ·refine (hI _ _).2 ⟨[],0,?_,?_,?_,?_,?_,?_,?_,?_,?_,?_,?_⟩
  ·exact by rw [List.drop_zero]; cases elemsV ws <;> rfl
  ·exact by simp
  ·rfl
  all_goals exact cl0
 intro k s hk hIk
 obtain ⟨acc,ww,ha,hb,hl,h3,h6,h18,h19,h20,hh3_0,hh6_0,hh18_1⟩:=(hI _ _).1 hIk
 clear hIk
 simp -implicitDefEqProofs (disch:=omega) only [h3,h6,h18,h19,h20,hh3_0,hh6_0,hh18_1,go_sem,↓reduceIte,rA,rS,rE,rL,reduceCtorEq]
 refine wp_if_d (fun hlt=>?_) (fun hge=>?_)
 ·have hc : ws[k]? = some ws[k]:=lgg (by omega)
  have hdr : ws.drop k = ws[k] :: ws.drop (k + 1):=ldg (by omega)
  have hwk:=hw1 _ (lgk (show k < ws.length by omega))
  generalize ws[k] = w at hc hdr hwk
  rw [hdr,elemsV_cons] at ha
  have hel:=element_eq w (by omega)
  have hlt9:=elemV_lt w.data.toList
  generalize elemV w.data.toList = q at hel ha hlt9
  have htk : List.take acc.length (acc.map pairPV) = acc.map pairPV:=ltl (by simp)
  by_cases hq : elemOk q = true
  ·rw [hq] at hel
   rw [if_pos hq] at ha
   simp only [elemOk,bat,decide_eq_true_eq] at hq
   have ha2 : elemsV ws = (elemsV (ws.drop (k + 1))).map ((acc ++ [q]) ++ ·):=by
    rw [ha,Option.map_map]
    congr 1
    funext r
    simp
   have hb2 : ∀ p ∈ acc ++ [q],okP p:=fun p hp=>by
    rcases lmp.1 hp with hp | hp
    ·exact hb p hp
    ·rw [List.mem_singleton.1 hp]; exact ⟨hq.1,hq.2,hlt9⟩
   clear ha
   simp -implicitDefEqProofs (disch:=omega) only [h3,h6,h18,h19,h20,hh3_0,hh6_0,hh18_1,hlt,hc,hel,htk,go_sem,↓reduceIte,rA,rS,rE,rL,reduceCtorEq]
   try refine And.intro (by omega) ?_
   refine (hI _ _).2 ⟨acc ++ [q],ww + 1,?_,?_,?_,?_,?_,?_,?_,?_,?_,?_,?_⟩
   ·exact ha2
   ·exact hb2
   ·exact by rw [lla,hl]; rfl
   all_goals exact cl0
  ·rw [if_neg hq] at ha
   have hq2 : elemOk q = false:=by simpa using hq
   rw [hq2] at hel
   rw [ha]
   simp -implicitDefEqProofs (disch:=omega) only [h3,h6,h18,h19,h20,hh3_0,hh6_0,hh18_1,hlt,hc,hel,htk,go_sem,↓reduceIte,rA,rS,rE,rL,reduceCtorEq]
 ·have hkn : k = ws.length:=by omega
  have hnil : elemsV (ws.drop k) = some []:=by rw [ldl (by omega)]; rfl
  have ha3 : elemsV ws = some acc:=by rw [ha,hnil]; simp
  clear ha hnil
  rw [ha3]
  have hco:=contains_eq acc n (by omega)
  have htk : List.take acc.length (acc.map pairPV) = acc.map pairPV:=ltl (by simp)
  by_cases hany : acc.any (highB n) = true
  ·rw [hany] at hco
   simp -implicitDefEqProofs (disch:=omega) only [h3,h6,h18,h19,h20,hh3_0,hh6_0,hh18_1,hge,htk,hco,go_sem,↓reduceIte,rA,rS,rE,rL,reduceCtorEq]
   simp only [hany,if_true,lpn]
  ·have hany2 : acc.any (highB n) = false:=by simpa using hany
   rw [hany2] at hco
   simp only [hany2,bft,if_false]
   have hso:=sortF_x (ps:=acc) (by omega) fun p hp=>by have:=hb p hp; exact ⟨this.1,by omega⟩
   have hqn:=(sortQ_perm acc).length_eq
   have hhi : ∀ p ∈ sortQ acc,okP p /\ p.2 < 65536:=fun p hp=>by
    have hm:=(sortQ_perm acc).subset hp
    have h0:=List.any_eq_false.1 hany2 p hm
    simp only [highB,decide_eq_true_eq] at h0
    exact ⟨hb p hm,by omega⟩
   simp -implicitDefEqProofs (disch:=omega) only [h3,h6,h18,h19,h20,hh3_0,hh6_0,hh18_1,hge,htk,hco,hso,go_sem,↓reduceIte,rA,rS,rE,rL,reduceCtorEq]
   generalize sortQ acc = qs at hqn hhi ⊢
   rw [<- hqn]
   obtain ⟨J,hJ⟩ : ∃ I : Nat -> St -> Prop,∀ j s,I j s ↔ ∃ (vv : Nat) (out : List Int) (next : Int),spanL 0 qs = out ++ spanL next (qs.drop j) /\ 0 <= next /\ next <= 65536 /\ (out.length : Int) <= next /\ s.pe 11 = .own (.slot 11 0) vv 0 out.length /\ s.pe 12 = .p (.int .i64 next) /\ s.pe 41 = .own (.slot 6 0) ww 0 qs.length /\ s.pe 42 = .p (.int .i64 ↑qs.length) /\ s.pe 43 = .p (.int .i64 j) /\ s.h (.slot 6 0) = some (ww,Ob.arr 2 (List.map pairPV qs)) /\ s.h (.slot 11 0) = some (vv,Ob.arr 1 (out.map (.int .i64))):=⟨_,fun _ _=>Iff.rfl⟩
   refine wp_count (qs.length) J ?_ ?_
   ·refine (hJ _ _).2 ⟨nv (fzOb [4] s.h (.slot 11 0)),[],0,?_,?_,?_,?_,?_,?_,?_,?_,?_,?_,?_⟩
    ·rfl
    ·exact cl3
    ·exact cl3
    ·exact cl3
    all_goals exact cl0
   intro j s hj hJk
   obtain ⟨vv,out,next,hsp,hn0,hn1,hol,h11,h12,h41,h42,h43,hh6_0,hh11_0⟩:=(hJ _ _).1 hJk
   clear hJk
   simp -implicitDefEqProofs (disch:=omega) only [h11,h12,h41,h42,h43,hh6_0,hh11_0,go_sem,↓reduceIte,rA,rS,rE,rL,reduceCtorEq]
   refine wp_if_d (fun hlt2=>?_) (fun hge2=>?_)
   ·have hc : qs[j]? = some qs[j]:=lgg (by omega)
    have hdr : qs.drop j = qs[j] :: qs.drop (j + 1):=ldg (by omega)
    have hpp:=hhi _ (lgk (show j < qs.length by omega))
    generalize qs[j] = p at hc hdr hpp
    obtain ⟨p1,p2⟩:=p
    simp only at hpp
    rw [hdr] at hsp
    simp only [spanL] at hsp
    generalize hR : spanL (max (max next p1) (p2 + 1)) (qs.drop (j + 1)) = R at hsp
    simp -implicitDefEqProofs (disch:=omega) only [h11,h12,h41,h42,h43,hh6_0,hh11_0,hlt2,hc,go_sem,↓reduceIte,rA,rS,rE,rL,reduceCtorEq]
    generalize hmx : max next p1 = mx at hsp hR ⊢
    obtain ⟨M,hM⟩ : ∃ I : Nat -> St -> Prop,∀ m s,I m s ↔ ∃ (v2 : Nat) (out2 : List Int) (nx : Int) (v14_0 : Nat),m = (p2 + 1 - nx).toNat /\ spanL 0 qs = out2 ++ (rangeI nx p2 ++ R) /\ mx <= nx /\ (nx <= p2 + 1 \/ nx = mx) /\ (out2.length : Int) <= nx /\ s.pe 11 = .own (.slot 11 0) v2 0 out2.length /\ s.pe 12 = .p (.int .i64 nx) /\ s.pe 14 = .ptr (.slot 14 0) v14_0 0 /\ s.pe 41 = .own (.slot 6 0) ww 0 qs.length /\ s.pe 42 = .p (.int .i64 ↑qs.length) /\ s.pe 43 = .p (.int .i64 ↑j) /\ s.h (.slot 6 0) = some (ww,Ob.arr 2 (List.map pairPV qs)) /\ s.h (.slot 11 0) = some (v2,Ob.arr 1 (List.map (.int .i64) out2)) /\ s.h (.slot 14 0) = some (v14_0,Ob.box [.p (.int .i64 p1),.p (.int .i64 p2)]):=⟨_,fun _ _=>Iff.rfl⟩
    refine wp_meas M id ((p2 + 1 - mx).toNat) ?_ ?_
    ·refine (hM _ _).2 ⟨vv,out,mx,nv (s.h (.slot 14 0)),?_,?_,?_,?_,?_,?_,?_,?_,?_,?_,?_,?_,?_,?_⟩
     .rfl
     .exact hsp
     .exact cl3
     .exact Or.inr rfl
     .omega
     all_goals exact cl0
    intro m s hMk
    obtain ⟨v2,out2,nx,v14_0,hmm,hs2,hx0,hx1,ho2,h11,h12,h14,h41,h42,h43,hh6_0,hh11_0,hh14_0⟩:=(hM _ _).1 hMk
    clear hMk
    simp -implicitDefEqProofs (disch:=omega) only [h11,h12,h14,h41,h42,h43,hh6_0,hh11_0,hh14_0,go_sem,↓reduceIte,rA,rS,rE,rL,reduceCtorEq]
    refine wp_if_d (fun hle=>?_) (fun hgt=>?_)
    ·have htk2 : List.take out2.length (out2.map (PV.int .i64)) = out2.map (PV.int .i64):=ltl (by simp)
     rw [rangeI_cons hle] at hs2
     have hs3 : spanL 0 qs = (out2 ++ [nx]) ++ (rangeI (nx + 1) p2 ++ R):=by rw [hs2]; simp
     clear hs2
     simp -implicitDefEqProofs (disch:=omega) only [h11,h12,h14,h41,h42,h43,hh6_0,hh11_0,hh14_0,hle,htk2,go_sem,↓reduceIte,rA,rS,rE,rL,reduceCtorEq]
     refine ⟨(p2 + 1 - (nx + 1)).toNat,by simp only [id]; omega,(hM _ _).2 ⟨v2 + 1,out2 ++ [nx],nx + 1,v14_0,?_,?_,?_,?_,?_,?_,?_,?_,?_,?_,?_,?_,?_,?_⟩⟩
     .rfl
     .exact hs3
     .omega
     .omega
     .exact by rw [lla]; simp only [llc,lln]; omega
     all_goals exact cl0
    ·rw [rangeI_nil (by omega),lna,<- hR,show max mx (p2 + 1) = nx by omega] at hs2
     simp -implicitDefEqProofs (disch:=omega) only [h11,h12,h14,h41,h42,h43,hh6_0,hh11_0,hh14_0,hgt,go_sem,↓reduceIte,rA,rS,rE,rL,reduceCtorEq]
     try refine And.intro (by omega) ?_
     refine (hJ _ _).2 ⟨v2,out2,nx,?_,?_,?_,?_,?_,?_,?_,?_,?_,?_,?_⟩
     .exact hs2
     .omega
     .omega
     .exact ho2
     all_goals exact cl0
   ·rw [ldl (by omega),spanL,lan] at hsp
    have htk3 : List.take out.length (out.map (PV.int .i64)) = out.map (PV.int .i64):=ltl (by simp)
    rw [hsp]
    simp -implicitDefEqProofs (disch:=omega) only [h11,h12,h41,h42,h43,hh6_0,hh11_0,hge2,htk3,go_sem,↓reduceIte,rA,rS,rE,rL,reduceCtorEq]
    simp only [hany2,bft,if_false]
end Go.V
namespace Go.V
theorem itoaS_size {n : Int} (h : 0 <= n) (h2 : n < 1000000000) : (itoaS n).size <= 9:=by
 show (Lib.itoa n).length <= 9
 rw [itoa_pos h]
 exact dec_len 8 n.toNat (by omega)
theorem elemS_two {x y : Int} (h : x < y) : itoaS x ++ (⟨#[45]⟩ ++ itoaS y) = elemS (x,y):=by
 have e : elemB (x,y) = Lib.itoa x ++ 45 :: Lib.itoa y:=by unfold elemB; rw [if_pos h]
 apply ByteArray.ext
 rw [show (elemS (x,y)).data = (elemB (x,y)).toArray from rfl,e]
 simp
theorem elemS_one {x y : Int} (h : ¬ x < y) : itoaS x = elemS (x,y):=by
 have e : elemB (x,y) = Lib.itoa x:=by unfold elemB; rw [if_neg h]
 show (⟨(Lib.itoa x).toArray⟩ : ByteArray) = ⟨(elemB (x,y)).toArray⟩
 rw [e]
abbrev setTxt (l : List Int) : ByteArray:=joinS ((runsR l).map elemS) ⟨#[44]⟩
theorem runsR_len : ∀ (n : Nat) (l : List Int),l.length <= n -> (runsR l).length <= l.length
 | _,[],_=>by rw [runsR_nil]; exact lrf _
 | 0,x :: r,h=>by simp at h
 | n + 1,x :: r,h=>by
  have:=runsR_len n (r.drop (runLen x r)) (by simp at h ⊢; omega)
  rw [runsR_cons]
  simp at this ⊢
  omega
theorem lens_le {B : Nat} : ∀ r : List ByteArray,(∀ x ∈ r,x.size <= B) -> Lib.lens (r.map (·.data.toList)) <= B * r.length
 | [],_=>by simp [Lib.lens]
 | y :: r,hr=>by
  have:=lens_le r fun z hz=>hr z (lmc _ hz)
  have h3 : y.data.toList.length <= B:=hr y (lms ..)
  simp only [Lib.lens,lpc,List.sum_cons,llc] at this ⊢
  rw [Nat.mul_succ]
  omega
theorem join_bound {B : Nat} (xs : List ByteArray) (c : UInt8) (h : ∀ x ∈ xs,x.size <= B) : (Lib.join (xs.map (·.data.toList)) [c]).length <= B * xs.length + xs.length:=by
 cases xs with
 | nil=>exact Nat.zero_le _
 | cons x r =>
  rw [lpc,Lib.join_cons,lla,Lib.joinTail_length,llm]
  have h1 : x.data.toList.length <= B:=h x (lms ..)
  have h3:=lens_le r fun z hz=>h z (lmc _ hz)
  simp only [llc,lln] at *
  rw [Nat.mul_succ]
  omega
theorem elemS_size {p : Int × Int} (h : 0 <= p.1) (h2 : p.1 <= p.2) (h3 : p.2 < 1000000000) : (elemS p).size <= 19:=by
 have h1:=itoaS_size (n:=p.1) h (by omega)
 have h4:=itoaS_size (n:=p.2) (by omega) h3
 by_cases hlt : p.1 < p.2
 ·rw [<- elemS_two hlt,ByteArray.size_append,ByteArray.size_append]
  have : (⟨#[45]⟩ : ByteArray).size = 1:=rfl
  omega
 ·rw [show elemS p = itoaS p.1 from (elemS_one (x:=p.1) (y:=p.2) hlt).symm]
  omega
set_option maxHeartbeats 8000000 in
theorem sformat_eq (l : List Int) (hl : l.length < 1000000) (ha : Asc l) (hb : ∀ x ∈ l,0 <= x /\ x < 999999999) : V 17 [.p (intsP l)] [] = some (.tup [.p (.str (setTxt l)),.p (.int .i64 0)],[]):=by
 refine V_wp (vf:=vf17) rfl ?_
 simp -implicitDefEqProofs (disch:=omega) only [vf17,vb17,go_sem,↓reduceIte,rA,rS,rE,rL,reduceCtorEq]
 obtain ⟨R,hR⟩ : ∃ I : Nat -> St -> Prop,∀ r s,I r s ↔ ∃ (i : Nat) (acc : List (Int × Int)) (w : Nat),r = l.length - i /\ i <= l.length /\ runsR l = acc ++ runsR (l.drop i) /\ acc.length <= i /\ s.pe 0 = .p (intsP l) /\ s.pe 4 = .own (.slot 4 0) w 0 acc.length /\ s.pe 5 = .p (.int .i64 i) /\ s.h (.slot 4 0) = some (w,Ob.arr 1 ((acc.map elemS).map PV.str)):=⟨_,fun _ _=>Iff.rfl⟩
 refine wp_meas R id (l.length) ?_ ?_
 ·refine (hR _ _).2 ⟨0,[],0,?_,?_,?_,?_,?_,?_,?_,?_⟩
  ·rfl
  ·exact Nat.zero_le _
  ·rfl
  ·exact lrf _
  all_goals exact cl0
 intro r s hRk
 obtain ⟨i,acc,w,hr,hil,hrn,hac,h0,h4,h5,hh4_0⟩:=(hR _ _).1 hRk
 clear hRk
 simp -implicitDefEqProofs (disch:=omega) only [h0,h4,h5,hh4_0,go_sem,↓reduceIte,rA,rS,rE,rL,reduceCtorEq]
 refine wp_if_d (fun hlt=>?_) (fun hge=>?_)
 ·have hc : l[i]? = some l[i]:=lgg (by omega)
  have hdr : l.drop i = l[i] :: l.drop (i + 1):=ldg (by omega)
  have hbi:=hb _ (lgk (show i < l.length by omega))
  have hpre : 0 < i -> ∃ y,l[((i : Int) - 1).toNat]? = some y /\ y < l[i]:=fun h0=>by
   rw [Asc,List.pairwise_iff_getElem] at ha
   have:=ha (i - 1) i (by omega) (by omega) (by omega)
   exact ⟨l[i - 1],by rw [show ((i : Int) - 1).toNat = i - 1 by omega]; exact lgg (by omega),this⟩
  generalize l[i] = x at hc hdr hbi hpre
  have hx0 : ¬ x < 0:=by omega
  by_cases hi0 : 0 < i
  ·obtain ⟨y0,hy0,hyx0⟩:=hpre hi0
   have hgt : (i : Int) > 0:=by omega
   have hnl : ¬ x <= y0:=by omega
   simp -implicitDefEqProofs (disch:=omega) only [h0,h4,h5,hh4_0,hlt,hc,hx0,hgt,hy0,hnl,go_sem,↓reduceIte,rA,rS,rE,rL,reduceCtorEq]
   obtain ⟨K,hK⟩ : ∃ I : Nat -> St -> Prop,∀ k s,I k s ↔ ∃ (c : Nat) (j : Nat),k = l.length - j /\ j = i + c /\ j < l.length /\ runLen x (l.drop (i + 1)) = c + runLen (x + c) (l.drop (j + 1)) /\ l[j]? = some (x + c) /\ s.pe 0 = .p (intsP l) /\ s.pe 4 = .own (.slot 4 0) w 0 acc.length /\ s.pe 5 = .p (.int .i64 ↑i) /\ s.pe 6 = .p (.int .i64 j) /\ s.h (.slot 4 0) = some (w,Ob.arr 1 ((acc.map elemS).map PV.str)):=⟨_,fun _ _=>Iff.rfl⟩
   refine wp_meas K id ((l.length - i)) ?_ ?_
   ·refine (hK _ _).2 ⟨0,i,?_,?_,?_,?_,?_,?_,?_,?_,?_,?_⟩
    ·rfl
    ·rfl
    ·omega
    ·exact by simp
    ·exact by simpa using hc
    all_goals exact cl0
   intro k s hKk
   obtain ⟨c,j,hkm,hjc,hcl,hrl,hkc,h0,h4,h5,h6,hh4_0⟩:=(hK _ _).1 hKk
   clear hKk
   have hbc:=hb _ (lmg hkc)
   have hstep : ∀ y,l[j + 1]? = some y -> l.drop (j + 1) = y :: l.drop (j + 1 + 1):=fun y hy=>by
    have hlt':=(lgs.1 hy).1
    rw [ldg (l:=l) (i:=j + 1) hlt',(lgs.1 hy).2]
   have e1 : ((j : Int) + 1).toNat = j + 1:=by omega
   have hstop : (∀ y,l[j + 1]? = some y -> y ≠ x + c + 1) -> runLen (x + c) (l.drop (j + 1)) = 0:=fun hy=>by
    cases hq : l[j + 1]? with
    | none =>
     rw [ldl (by rw [List.getElem?_eq_none_iff] at hq; omega)]
     rfl
    | some y =>
     rw [hstep y hq,runLen,if_neg (hy y hq)]
   have hend : runLen (x + c) (l.drop (j + 1)) = 0 -> runsR l = (acc ++ [(x,x + (c : Int))]) ++ runsR (l.drop (j + 1)):=fun h0=>by
    rw [hrn,hdr,runsR_cons,hrl,h0,Nat.add_zero,List.drop_drop,show i + 1 + c = j + 1 by omega]
    simp
   by_cases hlen : j + 1 < l.length
   ·have hy : l[j + 1]? = some l[j + 1]:=lgg hlen
    generalize l[j + 1] = y at hy
    have hlt2 : (j : Int) + 1 < l.length:=by omega
    by_cases hye : y = x + c + 1
    ·have hrl2 : runLen x (l.drop (i + 1)) = (c + 1) + runLen (x + ((c + 1 : Nat) : Int)) (l.drop (j + 1 + 1)):=by
      rw [hrl,hstep _ hy,runLen,if_pos hye,hye,show x + ((c + 1 : Nat) : Int) = x + c + 1 by omega]
      omega
     have hkc2 : l[j + 1]? = some (x + ((c + 1 : Nat) : Int)):=by
      rw [hy,hye,show x + ((c + 1 : Nat) : Int) = x + c + 1 by omega]
     clear hrl hstop hend hstep
     simp -implicitDefEqProofs (disch:=omega) only [h0,h4,h5,h6,hh4_0,e1,hlt2,hy,hkc,hye,go_sem,↓reduceIte,rA,rS,rE,rL,reduceCtorEq]
     refine ⟨(l.length - (j + 1)),by simp only [id]; omega,(hK _ _).2 ⟨c + 1,j + 1,?_,?_,?_,?_,?_,?_,?_,?_,?_,?_⟩⟩
     ·rfl
     ·omega
     ·exact hlen
     ·exact hrl2
     ·exact hkc2
     all_goals exact cl0
    ·have hz:=hstop fun z hz=>by rw [hy] at hz; cases hz; exact hye
     have hrn2:=hend hz
     clear hstop hend hstep hrl hrn
     have htk : List.take acc.length ((acc.map elemS).map PV.str) = (acc.map elemS).map PV.str:=ltl (by simp)
     have hit1:=itoa_x (n:=x) (by omega) (by omega)
     have hit2:=itoa_x (n:=x + c) (by omega) (by omega)
     have hz1:=itoaS_size (n:=x) (by omega) (by omega)
     have hz2:=itoaS_size (n:=x + c) (by omega) (by omega)
     have hz3 : ((⟨#[45]⟩ : ByteArray) ++ itoaS (x + c)).size = 1 + (itoaS (x + c)).size:=ByteArray.size_append
     have hz4 : (⟨#[45]⟩ : ByteArray).size = 1:=rfl
     by_cases hc0 : c = 0
     ·have hng : ¬ (j : Int) > (i : Int):=by omega
      rw [elemS_one (x:=x) (y:=x + (c : Int)) (by rw [hc0]; simp)] at hit1
      simp -implicitDefEqProofs (disch:=omega) only [h0,h4,h5,h6,hh4_0,e1,hlt2,hy,hye,hkc,hc,hit1,hng,htk,go_sem,↓reduceIte,rA,rS,rE,rL,reduceCtorEq]
      clear hz1 hz2 hz3 hz4 hz e1
      try clear hye
      refine ⟨(l.length - (j + 1)),by simp only [id]; omega,(hR _ _).2 ⟨j + 1,acc ++ [(x,x + (c : Int))],w + 1,?_,?_,?_,?_,?_,?_,?_,?_⟩⟩
      .rfl
      .omega
      .exact hrn2
      .exact by rw [lla]; simp only [llc,lln]; omega
      all_goals exact cl0
     ·have hng : (j : Int) > (i : Int):=by omega
      have hxc : x < x + (c : Int):=Int.lt_add_of_pos_right x (Int.natCast_pos.2 (Nat.pos_of_ne_zero hc0))
      have e5:=elemS_two hxc
      generalize itoaS x = t1 at hit1 hz1 e5
      generalize itoaS (x + (c : Int)) = t2 at hit2 hz2 hz3 e5
      simp -implicitDefEqProofs (disch:=omega) only [h0,h4,h5,h6,hh4_0,e1,hlt2,hy,hye,hkc,hc,hit1,hit2,hng,htk,e5,go_sem,↓reduceIte,rA,rS,rE,rL,reduceCtorEq]
      clear hz1 hz2 hz3 hz4 hz e1
      try clear hye
      refine ⟨(l.length - (j + 1)),by simp only [id]; omega,(hR _ _).2 ⟨j + 1,acc ++ [(x,x + (c : Int))],w + 1,?_,?_,?_,?_,?_,?_,?_,?_⟩⟩
      .rfl
      .omega
      .exact hrn2
      .exact by rw [lla]; simp only [llc,lln]; omega
      all_goals exact cl0
   ·have hge2 : ¬ (j : Int) + 1 < l.length:=by omega
    have hz:=hstop fun z hz=>absurd (lgs.1 hz).1 hlen
    have hrn2:=hend hz
    clear hstop hend hstep hrl hrn
    have htk : List.take acc.length ((acc.map elemS).map PV.str) = (acc.map elemS).map PV.str:=ltl (by simp)
    have hit1:=itoa_x (n:=x) (by omega) (by omega)
    have hit2:=itoa_x (n:=x + c) (by omega) (by omega)
    have hz1:=itoaS_size (n:=x) (by omega) (by omega)
    have hz2:=itoaS_size (n:=x + c) (by omega) (by omega)
    have hz3 : ((⟨#[45]⟩ : ByteArray) ++ itoaS (x + c)).size = 1 + (itoaS (x + c)).size:=ByteArray.size_append
    have hz4 : (⟨#[45]⟩ : ByteArray).size = 1:=rfl
    by_cases hc0 : c = 0
    ·have hng : ¬ (j : Int) > (i : Int):=by omega
     rw [elemS_one (x:=x) (y:=x + (c : Int)) (by rw [hc0]; simp)] at hit1
     simp -implicitDefEqProofs (disch:=omega) only [h0,h4,h5,h6,hh4_0,e1,hge2,hkc,hc,hit1,hng,htk,go_sem,↓reduceIte,rA,rS,rE,rL,reduceCtorEq]
     clear hz1 hz2 hz3 hz4 hz e1
     try clear hye
     refine ⟨(l.length - (j + 1)),by simp only [id]; omega,(hR _ _).2 ⟨j + 1,acc ++ [(x,x + (c : Int))],w + 1,?_,?_,?_,?_,?_,?_,?_,?_⟩⟩
     ·rfl
     ·omega
     ·exact hrn2
     ·exact by rw [lla]; simp only [llc,lln]; omega
     all_goals exact cl0
    ·have hng : (j : Int) > (i : Int):=by omega
     have hxc : x < x + (c : Int):=Int.lt_add_of_pos_right x (Int.natCast_pos.2 (Nat.pos_of_ne_zero hc0))
     have e5:=elemS_two hxc
     generalize itoaS x = t1 at hit1 hz1 e5
     generalize itoaS (x + (c : Int)) = t2 at hit2 hz2 hz3 e5
     simp -implicitDefEqProofs (disch:=omega) only [h0,h4,h5,h6,hh4_0,e1,hge2,hkc,hc,hit1,hit2,hng,htk,e5,go_sem,↓reduceIte,rA,rS,rE,rL,reduceCtorEq]
     clear hz1 hz2 hz3 hz4 hz e1
     try clear hye
     refine ⟨(l.length - (j + 1)),by simp only [id]; omega,(hR _ _).2 ⟨j + 1,acc ++ [(x,x + (c : Int))],w + 1,?_,?_,?_,?_,?_,?_,?_,?_⟩⟩
     ·rfl
     ·omega
     ·exact hrn2
     ·exact by rw [lla]; simp only [llc,lln]; omega
     all_goals exact cl0
  ·have hgt : ¬ (i : Int) > 0:=by omega
   simp -implicitDefEqProofs (disch:=omega) only [h0,h4,h5,hh4_0,hlt,hc,hx0,hgt,go_sem,↓reduceIte,rA,rS,rE,rL,reduceCtorEq]
   obtain ⟨Q,hQ⟩ : ∃ I : Nat -> St -> Prop,∀ q s,I q s ↔ ∃ (c : Nat) (j : Nat),q = l.length - j /\ j = i + c /\ j < l.length /\ runLen x (l.drop (i + 1)) = c + runLen (x + c) (l.drop (j + 1)) /\ l[j]? = some (x + c) /\ s.pe 0 = .p (intsP l) /\ s.pe 4 = .own (.slot 4 0) w 0 acc.length /\ s.pe 5 = .p (.int .i64 ↑i) /\ s.pe 6 = .p (.int .i64 j) /\ s.h (.slot 4 0) = some (w,Ob.arr 1 ((acc.map elemS).map PV.str)):=⟨_,fun _ _=>Iff.rfl⟩
   refine wp_meas Q id ((l.length - i)) ?_ ?_
   ·refine (hQ _ _).2 ⟨0,i,?_,?_,?_,?_,?_,?_,?_,?_,?_,?_⟩
    ·rfl
    ·rfl
    ·omega
    ·exact by simp
    ·exact by simpa using hc
    all_goals exact cl0
   intro q s hQk
   obtain ⟨c,j,hkm,hjc,hcl,hrl,hkc,h0,h4,h5,h6,hh4_0⟩:=(hQ _ _).1 hQk
   clear hQk
   have hbc:=hb _ (lmg hkc)
   have hstep : ∀ y,l[j + 1]? = some y -> l.drop (j + 1) = y :: l.drop (j + 1 + 1):=fun y hy=>by
    have hlt':=(lgs.1 hy).1
    rw [ldg (l:=l) (i:=j + 1) hlt',(lgs.1 hy).2]
   have e1 : ((j : Int) + 1).toNat = j + 1:=by omega
   have hstop : (∀ y,l[j + 1]? = some y -> y ≠ x + c + 1) -> runLen (x + c) (l.drop (j + 1)) = 0:=fun hy=>by
    cases hq : l[j + 1]? with
    | none =>
     rw [ldl (by rw [List.getElem?_eq_none_iff] at hq; omega)]
     rfl
    | some y =>
     rw [hstep y hq,runLen,if_neg (hy y hq)]
   have hend : runLen (x + c) (l.drop (j + 1)) = 0 -> runsR l = (acc ++ [(x,x + (c : Int))]) ++ runsR (l.drop (j + 1)):=fun h0=>by
    rw [hrn,hdr,runsR_cons,hrl,h0,Nat.add_zero,List.drop_drop,show i + 1 + c = j + 1 by omega]
    simp
   by_cases hlen : j + 1 < l.length
   ·have hy : l[j + 1]? = some l[j + 1]:=lgg hlen
    generalize l[j + 1] = y at hy
    have hlt2 : (j : Int) + 1 < l.length:=by omega
    by_cases hye : y = x + c + 1
    ·have hrl2 : runLen x (l.drop (i + 1)) = (c + 1) + runLen (x + ((c + 1 : Nat) : Int)) (l.drop (j + 1 + 1)):=by
      rw [hrl,hstep _ hy,runLen,if_pos hye,hye,show x + ((c + 1 : Nat) : Int) = x + c + 1 by omega]
      omega
     have hkc2 : l[j + 1]? = some (x + ((c + 1 : Nat) : Int)):=by
      rw [hy,hye,show x + ((c + 1 : Nat) : Int) = x + c + 1 by omega]
     clear hrl hstop hend hstep
     simp -implicitDefEqProofs (disch:=omega) only [h0,h4,h5,h6,hh4_0,e1,hlt2,hy,hkc,hye,go_sem,↓reduceIte,rA,rS,rE,rL,reduceCtorEq]
     refine ⟨(l.length - (j + 1)),by simp only [id]; omega,(hQ _ _).2 ⟨c + 1,j + 1,?_,?_,?_,?_,?_,?_,?_,?_,?_,?_⟩⟩
     ·rfl
     ·omega
     ·exact hlen
     ·exact hrl2
     ·exact hkc2
     all_goals exact cl0
    ·have hz:=hstop fun z hz=>by rw [hy] at hz; cases hz; exact hye
     have hrn2:=hend hz
     clear hstop hend hstep hrl hrn
     have htk : List.take acc.length ((acc.map elemS).map PV.str) = (acc.map elemS).map PV.str:=ltl (by simp)
     have hit1:=itoa_x (n:=x) (by omega) (by omega)
     have hit2:=itoa_x (n:=x + c) (by omega) (by omega)
     have hz1:=itoaS_size (n:=x) (by omega) (by omega)
     have hz2:=itoaS_size (n:=x + c) (by omega) (by omega)
     have hz3 : ((⟨#[45]⟩ : ByteArray) ++ itoaS (x + c)).size = 1 + (itoaS (x + c)).size:=ByteArray.size_append
     have hz4 : (⟨#[45]⟩ : ByteArray).size = 1:=rfl
     by_cases hc0 : c = 0
     ·have hng : ¬ (j : Int) > (i : Int):=by omega
      rw [elemS_one (x:=x) (y:=x + (c : Int)) (by rw [hc0]; simp)] at hit1
      simp -implicitDefEqProofs (disch:=omega) only [h0,h4,h5,h6,hh4_0,e1,hlt2,hy,hye,hkc,hc,hit1,hng,htk,go_sem,↓reduceIte,rA,rS,rE,rL,reduceCtorEq]
      clear hz1 hz2 hz3 hz4 hz e1
      try clear hye
      refine ⟨(l.length - (j + 1)),by simp only [id]; omega,(hR _ _).2 ⟨j + 1,acc ++ [(x,x + (c : Int))],w + 1,?_,?_,?_,?_,?_,?_,?_,?_⟩⟩
      .rfl
      .omega
      .exact hrn2
      .exact by rw [lla]; simp only [llc,lln]; omega
      all_goals exact cl0
     ·have hng : (j : Int) > (i : Int):=by omega
      have hxc : x < x + (c : Int):=Int.lt_add_of_pos_right x (Int.natCast_pos.2 (Nat.pos_of_ne_zero hc0))
      have e5:=elemS_two hxc
      generalize itoaS x = t1 at hit1 hz1 e5
      generalize itoaS (x + (c : Int)) = t2 at hit2 hz2 hz3 e5
      simp -implicitDefEqProofs (disch:=omega) only [h0,h4,h5,h6,hh4_0,e1,hlt2,hy,hye,hkc,hc,hit1,hit2,hng,htk,e5,go_sem,↓reduceIte,rA,rS,rE,rL,reduceCtorEq]
      clear hz1 hz2 hz3 hz4 hz e1
      try clear hye
      refine ⟨(l.length - (j + 1)),by simp only [id]; omega,(hR _ _).2 ⟨j + 1,acc ++ [(x,x + (c : Int))],w + 1,?_,?_,?_,?_,?_,?_,?_,?_⟩⟩
      .rfl
      .omega
      .exact hrn2
      .exact by rw [lla]; simp only [llc,lln]; omega
      all_goals exact cl0
   ·have hge2 : ¬ (j : Int) + 1 < l.length:=by omega
    have hz:=hstop fun z hz=>absurd (lgs.1 hz).1 hlen
    have hrn2:=hend hz
    clear hstop hend hstep hrl hrn
    have htk : List.take acc.length ((acc.map elemS).map PV.str) = (acc.map elemS).map PV.str:=ltl (by simp)
    have hit1:=itoa_x (n:=x) (by omega) (by omega)
    have hit2:=itoa_x (n:=x + c) (by omega) (by omega)
    have hz1:=itoaS_size (n:=x) (by omega) (by omega)
    have hz2:=itoaS_size (n:=x + c) (by omega) (by omega)
    have hz3 : ((⟨#[45]⟩ : ByteArray) ++ itoaS (x + c)).size = 1 + (itoaS (x + c)).size:=ByteArray.size_append
    have hz4 : (⟨#[45]⟩ : ByteArray).size = 1:=rfl
    by_cases hc0 : c = 0
    ·have hng : ¬ (j : Int) > (i : Int):=by omega
     rw [elemS_one (x:=x) (y:=x + (c : Int)) (by rw [hc0]; simp)] at hit1
     simp -implicitDefEqProofs (disch:=omega) only [h0,h4,h5,h6,hh4_0,e1,hge2,hkc,hc,hit1,hng,htk,go_sem,↓reduceIte,rA,rS,rE,rL,reduceCtorEq]
     clear hz1 hz2 hz3 hz4 hz e1
     try clear hye
     refine ⟨(l.length - (j + 1)),by simp only [id]; omega,(hR _ _).2 ⟨j + 1,acc ++ [(x,x + (c : Int))],w + 1,?_,?_,?_,?_,?_,?_,?_,?_⟩⟩
     .rfl
     .omega
     .exact hrn2
     .exact by rw [lla]; simp only [llc,lln]; omega
     all_goals exact cl0
    ·have hng : (j : Int) > (i : Int):=by omega
     have hxc : x < x + (c : Int):=Int.lt_add_of_pos_right x (Int.natCast_pos.2 (Nat.pos_of_ne_zero hc0))
     have e5:=elemS_two hxc
     generalize itoaS x = t1 at hit1 hz1 e5
     generalize itoaS (x + (c : Int)) = t2 at hit2 hz2 hz3 e5
     simp -implicitDefEqProofs (disch:=omega) only [h0,h4,h5,h6,hh4_0,e1,hge2,hkc,hc,hit1,hit2,hng,htk,e5,go_sem,↓reduceIte,rA,rS,rE,rL,reduceCtorEq]
     clear hz1 hz2 hz3 hz4 hz e1
     try clear hye
     refine ⟨(l.length - (j + 1)),by simp only [id]; omega,(hR _ _).2 ⟨j + 1,acc ++ [(x,x + (c : Int))],w + 1,?_,?_,?_,?_,?_,?_,?_,?_⟩⟩
     .rfl
     .omega
     .exact hrn2
     .exact by rw [lla]; simp only [llc,lln]; omega
     all_goals exact cl0
 ·have hii : i = l.length:=by omega
  rw [ldl (by omega),runsR_nil,lan] at hrn
  have hok:=runsR_asc l.length l (lrf _) ha
  have hlen:=runsR_len l.length l (lrf _)
  have hjl : (Lib.join (((runsR l).map elemS).map (·.data.toList)) (⟨#[44]⟩ : ByteArray).data.toList).length <= 140737488355328:=by
   refine Nat.le_trans (join_bound (B:=19) _ 44 fun t ht=>?_) (by simp; omega)
   obtain ⟨p,hp,rfl⟩:=lmm.1 ht
   obtain ⟨p1,p2,p3⟩:=hok.1 p hp
   have b1:=hb _ p2
   have b2:=hb _ p3
   exact elemS_size b1.1 p1 (by omega)
  have hj:=join_x (ss:=(runsR l).map elemS) (sep:=⟨#[44]⟩) (by simp; omega) hjl
  unfold setTxt
  rw [hrn] at hj hlen ⊢
  rw [llm] at hj
  have htk : List.take acc.length ((acc.map elemS).map PV.str) = (acc.map elemS).map PV.str:=ltl (by simp)
  simp -implicitDefEqProofs (disch:=omega) only [h0,h4,h5,hh4_0,hge,hj,htk,go_sem,↓reduceIte,rA,rS,rE,rL,reduceCtorEq]
end Go.V
namespace Go.V
theorem bytes_inj : ∀ {a b : List ByteArray},a.map (·.data.toList) = b.map (·.data.toList) -> a = b
 | [],[],_=>rfl
 | x :: a,y :: b,h=>by
  simp only [lpc,List.cons.injEq] at h
  rw [bytes_inj h.2]
  congr 1
  obtain ⟨⟨x⟩⟩:=x
  obtain ⟨⟨y⟩⟩:=y
  simp only at h
  rw [h.1]
theorem split_join {xs : List ByteArray} {c : UInt8} (h : xs ≠ []) (hc : ∀ x ∈ xs,c ∉ x.data.toList) : splitS (joinS xs ⟨#[c]⟩) ⟨#[c]⟩ = xs:=by
 apply bytes_inj
 rw [splitS_cutB]
 show cutB c (Lib.join (xs.map (·.data.toList)) [c]) = _
 rw [cutB_join c _ (by simpa using h)]
 intro x hx
 obtain ⟨y,hy,rfl⟩:=lmm.1 hx
 exact hc y hy
theorem sortQ_eq {ps qs : List (Int × Int)} (hp : qs.Perm ps) (h : qs.Pairwise (fun a b=>a.1 < b.1)) : sortQ ps = qs:=by
 have hpp : (sortQ ps).Perm qs:=(sortQ_perm ps).trans hp.symm
 refine List.Perm.eq_of_pairwise (le:=fun x y=>x.1 <= y.1) (fun a b ha hb h1 h2=>?_) (sortQ_sorted ps) (h.imp fun h=>Int.le_of_lt h) hpp
 have ha' : a ∈ qs:=hpp.subset ha
 obtain ⟨i,hi,rfl⟩:=List.getElem_of_mem ha'
 obtain ⟨j,hj,rfl⟩:=List.getElem_of_mem hb
 rw [List.pairwise_iff_getElem] at h
 rcases Nat.lt_trichotomy i j with hij | hij | hij
 .have:=h i j hi hj hij; omega
 .subst hij; rfl
 .have:=h j i hj hi hij; omega
theorem bool_eq3 (L : List Int) (a : Nat) (n : Int) (hL : L.length < 4611686018427387904) (h1 : 1 <= n) (hn : n < 4611686018427387904) : V 12 [.ptr (.arg 0 0) 0 0,.p (.int .i64 n)] [diceB L a] = some (.p (.bool (decide (nextV L a n = n - 1))),[diceB L (nextA L a n)]):=by
 refine V_wp (vf:=vf12) rfl ?_
 have hc:=next_eq L a n hL hn
 simp -implicitDefEqProofs (disch:=omega) only [vf12,vb12,hc,go_sem,↓reduceIte,rA,rS,rE,rL,reduceCtorEq]
theorem same3_eq (a b : List Int) (ha : a.length < 1000000) (hb : b.length < 1000000) : V 14 [.p (intsP a),.p (intsP b)] [] = some (.p (.bool (decide (a = b))),[]):=by
 refine V_wp (vf:=vf14) rfl ?_
 by_cases hlen : a.length = b.length
 ·simp -implicitDefEqProofs (disch:=omega) only [vf14,vb14,hlen,go_sem,↓reduceIte,rA,rS,rE,rL,reduceCtorEq]
  obtain ⟨I,hI⟩ : ∃ I : Nat -> St -> Prop,∀ k s,I k s ↔ a.take k = b.take k /\ s.pe 0 = .p (intsP a) /\ s.pe 1 = .p (intsP b) /\ s.pe 5 = .p (.int .i64 k):=⟨_,fun _ _=>Iff.rfl⟩
  refine wp_count (a.length) I ?_ ?_
  ·refine (hI _ _).2 ⟨?_,?_,?_,?_⟩
   ·rfl
   all_goals exact cl0
  intro k s hk hIk
  obtain ⟨ht,h0,h1,h5⟩:=(hI _ _).1 hIk
  clear hIk
  simp -implicitDefEqProofs (disch:=omega) only [h0,h1,h5,go_sem,↓reduceIte,rA,rS,rE,rL,reduceCtorEq]
  refine wp_if_d (fun hlt=>?_) (fun hge=>?_)
  ·have hca : a[k]? = some a[k]:=lgg (by omega)
   have hcb : b[k]? = some b[k]:=lgg (by omega)
   have hta:=take_snoc hca
   have htb:=take_snoc hcb
   generalize a[k] = x at hca hta
   generalize b[k] = y at hcb htb
   by_cases hxy : x = y
   ·subst hxy
    have hxx : ¬ x ≠ x:=fun h=>h rfl
    simp -implicitDefEqProofs (disch:=omega) only [h0,h1,h5,hlt,hca,hcb,hxx,go_sem,↓reduceIte,rA,rS,rE,rL,reduceCtorEq]
    try refine And.intro (by omega) ?_
    refine (hI _ _).2 ⟨?_,?_,?_,?_⟩
    .exact by rw [hta,htb,ht]
    all_goals exact cl0
   ·have hd : decide (a = b) = false:=decide_eq_false fun e=>hxy (by rw [e,hcb] at hca; exact (Option.some.inj hca).symm)
    rw [hd]
    simp -implicitDefEqProofs (disch:=omega) only [h0,h1,h5,hlt,hca,hcb,hxy,go_sem,↓reduceIte,rA,rS,rE,rL,reduceCtorEq]
  ·have hd : decide (a = b) = true:=decide_eq_true (by
    rw [ltl (by omega),ltl (by omega)] at ht
    exact ht)
   rw [hd]
   simp -implicitDefEqProofs (disch:=omega) only [h0,h1,h5,hge,go_sem,↓reduceIte,rA,rS,rE,rL,reduceCtorEq]
 ·have hd : decide (a = b) = false:=decide_eq_false fun e=>hlen (by rw [e])
  have hl2 : ¬ (a.length : Int) = b.length:=by omega
  rw [hd]
  simp -implicitDefEqProofs (disch:=omega) only [vf14,vb14,hl2,go_sem,↓reduceIte,rA,rS,rE,rL,reduceCtorEq]
end Go.V
namespace Go.V
theorem ex_split : elemsV (splitS ⟨#[48,45,50,44,55,44,49]⟩ ⟨#[44]⟩) = some [(0,2),(7,7),(1,1)]:=by decide +kernel
theorem ex_parse : parseT ⟨#[48,45,50,44,55,44,49]⟩ 8 = ([0,1,2,7],0):=by
 have hs : sortQ [(0,2),(7,7),(1,1)] = [(0,2),(1,1),(7,7)]:=sortQ_eq (by decide +kernel) (by decide +kernel)
 have ha : ([(0,2),(7,7),(1,1)] : List (Int × Int)).any (highB 8) = false:=by decide +kernel
 have hp : spanL 0 [(0,2),(1,1),(7,7)] = [0,1,2,7]:=by decide +kernel
 rw [parseT,if_neg (by decide),ex_split]
 simp only [ha,bft,if_false]
 rw [hs,hp]
theorem ex_format : setTxt [0,1,2,7] = ⟨#[48,45,50,44,55]⟩:=by
 have hr : runsR [0,1,2,7] = [(0,2),(7,7)]:=by
  rw [runsR_cons,show runLen 0 [1,2,7] = 2 from by decide +kernel]
  rw [show ([1,2,7] : List Int).drop 2 = [7] from rfl,runsR_cons,show runLen 7 [] = 0 from rfl,List.drop_nil,runsR_nil]
  rfl
 have e1 : elemS (0,2) = ⟨#[48,45,50]⟩:=by
  rw [elemS,show elemB (0,2) = Lib.itoa 0 ++ 45 :: Lib.itoa 2 from by unfold elemB; rw [if_pos (by decide)]]
  rw [itoa_pos (by decide),itoa_pos (by decide)]
  rw [Lib.decDigits,dif_pos (by decide),Lib.decDigits,dif_pos (by decide)]
  rfl
 have e2 : elemS (7,7) = ⟨#[55]⟩:=by
  rw [elemS,show elemB (7,7) = Lib.itoa 7 from by unfold elemB; rw [if_neg (by decide)]]
  rw [itoa_pos (by decide),Lib.decDigits,dif_pos (by decide)]
  rfl
 rw [setTxt,hr,lpc,lpc,lpn,e1,e2]
 decide +kernel
set_option maxHeartbeats 1000000 in
theorem sane3_eq : V 8 [] [] = some (.p (.bool true),[]):=by
 refine V_wp (vf:=vf8) rfl ?_
 have h1:=sparse_eq ⟨#[48,45,50,44,55,44,49]⟩ 8 (by decide)
 rw [ex_parse] at h1
 have h2:=sformat_eq [0,1,2,7] (by decide) (by decide) (by decide)
 rw [ex_format] at h2
 simp only [intsP,lpc,lpn] at h1 h2
 simp -implicitDefEqProofs (disch:=omega) only [vf8,vb8,h1,h2,go_sem,↓reduceIte,rA,rS,rE,rL,reduceCtorEq]
 rfl
end Go.V
namespace Go.V
end Go.V
namespace Go.V
def insU (x : Int) : List Int -> List Int
 | []=>[x]
 | y :: ys=>if x < y then x :: y :: ys else if x = y then y :: ys else y :: insU x ys
def sortU (l : List Int) : List Int:=l.foldl (fun acc x=>insU x acc) []
theorem mem_insU {x z : Int} : ∀ (l : List Int),z ∈ insU x l ↔ z = x \/ z ∈ l
 | []=>by simp [insU]
 | y :: ys=>by
  unfold insU
  split
  ·simp
  ·split
   ·rename_i h
    subst h
    simp
   ·simp only [lmk,mem_insU ys]
    constructor
    ·rintro (h | h | h)
     .exact Or.inr (Or.inl h)
     .exact Or.inl h
     .exact Or.inr (Or.inr h)
    ·rintro (h | h | h)
     .exact Or.inr (Or.inl h)
     .exact Or.inl h
     .exact Or.inr (Or.inr h)
theorem insU_inc {x : Int} : ∀ (l : List Int),(l.Pairwise fun a b=>a < b) -> (insU x l).Pairwise fun a b=>a < b
 | [],_=>by simp [insU]
 | y :: ys,h=>by
  obtain ⟨h1,h2⟩:=lpw.1 h
  unfold insU
  split
  ·rename_i hlt
   refine lpw.2 ⟨fun z hz=>?_,h⟩
   rcases lmk.1 hz with rfl | hz
   ·exact hlt
   ·have:=h1 z hz
    omega
  ·split
   ·exact h
   ·refine lpw.2 ⟨fun z hz=>?_,insU_inc ys h2⟩
    rcases (mem_insU ys).1 hz with rfl | hz
    .omega
    .exact h1 z hz
theorem insU_length {x : Int} : ∀ (l : List Int),(insU x l).length <= l.length + 1
 | []=>by simp [insU]
 | y :: ys=>by
  have:=insU_length (x:=x) ys
  unfold insU
  split
  .simp
  .split <;> simp <;> omega
theorem sortU_snoc (l : List Int) (x : Int) : sortU (l ++ [x]) = insU x (sortU l):=by simp [sortU]
theorem sortU_foldl {z : Int} : ∀ (l acc : List Int),z ∈ l.foldl (fun acc x=>insU x acc) acc ↔ z ∈ l \/ z ∈ acc
 | [],acc=>by simp
 | x :: l,acc=>by
  rw [List.foldl_cons,sortU_foldl l,mem_insU,lmk]
  constructor
  ·rintro (h | h | h)
   .exact Or.inl (Or.inr h)
   .exact Or.inl (Or.inl h)
   .exact Or.inr h
  ·rintro ((h | h) | h)
   .exact Or.inr (Or.inl h)
   .exact Or.inl h
   .exact Or.inr (Or.inr h)
theorem mem_sortU {l : List Int} {z : Int} : z ∈ sortU l ↔ z ∈ l:=by
 rw [sortU,sortU_foldl]
 simp
theorem sortU_incl : ∀ (l acc : List Int),(acc.Pairwise fun a b=>a < b) -> (l.foldl (fun acc x=>insU x acc) acc).Pairwise fun a b=>a < b
 | [],_,h=>h
 | x :: l,acc,h=>sortU_incl l _ (insU_inc acc h)
theorem sortU_inc (l : List Int) : (sortU l).Pairwise fun a b=>a < b:=sortU_incl l [] List.Pairwise.nil
theorem sortU_len : ∀ (l acc : List Int),(l.foldl (fun acc x=>insU x acc) acc).length <= l.length + acc.length
 | [],acc=>by simp
 | x :: l,acc=>by
  have h1:=sortU_len l (insU x acc)
  have h2:=insU_length (x:=x) acc
  rw [List.foldl_cons,llc]
  omega
theorem sortU_length (l : List Int) : (sortU l).length <= l.length:=by
 have:=sortU_len l []
 simpa [sortU] using this
theorem insU_at {x : Int} : ∀ (out : List Int) (k : Nat),(out.Pairwise fun a b=>a < b) -> (∀ y ∈ out.take k,y < x) -> (∀ y ∈ out.drop k,x < y) -> insU x out = out.take k ++ x :: out.drop k
 | [],k,_,_,_=>by simp [insU]
 | y :: ys,0,h,_,h2=>by
  have:=h2 y (by simp)
  simp [insU,this]
 | y :: ys,k + 1,h,h1,h2=>by
  have hy:=h1 y (by simp)
  have ih:=insU_at ys k (lpw.1 h).2 (fun z hz=>h1 z (by simp [hz])) (fun z hz=>h2 z (by simpa using hz))
  unfold insU
  rw [if_neg (by omega),if_neg (by omega),ih]
  simp
theorem insU_in {x : Int} : ∀ (out : List Int),(out.Pairwise fun a b=>a < b) -> x ∈ out -> insU x out = out
 | [],_,h=>by simp at h
 | y :: ys,h,hx=>by
  obtain ⟨h1,h2⟩:=lpw.1 h
  unfold insU
  rcases lmk.1 hx with rfl | hx
  ·simp
  ·have:=h1 x hx
   rw [if_neg (by omega),if_neg (by omega),insU_in ys h2 hx]
theorem ins_mid (out : List Int) (p : Nat) (hp : p <= out.length) : ∃ z,(List.take (↑p + 1 : Int).toNat (List.map (PV.int IntKind.i64) out ++ [PV.int IntKind.i64 0]) ++ List.take (min (out.length + 1 - (↑p + 1 : Int).toNat) (min (out.length + 1 - p) (List.drop p (List.map (PV.int IntKind.i64) out ++ [PV.int IntKind.i64 0])).length)) (List.take (out.length + 1 - p) (List.drop p (List.map (PV.int IntKind.i64) out ++ [PV.int IntKind.i64 0]))) ++ List.drop ((↑p + 1 : Int).toNat + min (min (out.length + 1 - (↑p + 1 : Int).toNat) (min (out.length + 1 - p) (List.drop p (List.map (PV.int IntKind.i64) out ++ [PV.int IntKind.i64 0])).length)) (min (out.length + 1 - p) (List.drop p (List.map (PV.int IntKind.i64) out ++ [PV.int IntKind.i64 0])).length)) (List.map (PV.int IntKind.i64) out ++ [PV.int IntKind.i64 0])) = List.map (PV.int IntKind.i64) (out.take p ++ z :: out.drop p):=by
 have e0 : List.map (PV.int IntKind.i64) out ++ [PV.int IntKind.i64 0] = List.map (PV.int IntKind.i64) (out ++ [0]):=by simp
 have e1 : (↑p + 1 : Int).toNat = p + 1:=by omega
 have e2 : (List.drop p (List.map (PV.int IntKind.i64) (out ++ [0]))).length = out.length + 1 - p:=by simp
 have e3 : min (out.length + 1 - (p + 1)) (min (out.length + 1 - p) (out.length + 1 - p)) = out.length - p:=by omega
 have e4 : min (out.length - p) (min (out.length + 1 - p) (out.length + 1 - p)) = out.length - p:=by omega
 rw [e0,e1,e2,e3]
 have e5 : min (out.length - p) (out.length + 1 - p) = out.length - p:=by omega
 have e6 : p + 1 + min (out.length - p) (min (out.length + 1 - p) (out.length + 1 - p)) = out.length + 1:=by omega
 refine ⟨(out ++ [0])[p]'(by simp; omega),?_⟩
 rw [e6,List.take_take,e5,ldl (i:=out.length + 1) (by simp),lan,<- List.map_take,<- List.map_drop,<- List.map_take,<- lma]
 congr 1
 rw [List.take_succ_eq_append_getElem (by simp; omega),List.take_append_of_le_length hp,List.drop_append_of_le_length hp,List.take_left' (by simp)]
 simp
theorem ins_get (out : List Int) (p : Nat) (z : Int) (hp : p <= out.length) : (List.map (PV.int IntKind.i64) (out.take p ++ z :: out.drop p))[p]? = some (PV.int .i64 z):=by
 rw [List.getElem?_map,lgr (by simp; omega)]
 simp [Nat.min_eq_left hp]
theorem ins_set (out : List Int) (p : Nat) (x z : Int) (hp : p <= out.length) : (List.map (PV.int IntKind.i64) (out.take p ++ z :: out.drop p)).set p (PV.int .i64 x) = List.map (PV.int IntKind.i64) (out.take p ++ x :: out.drop p):=by
 rw [lma,List.set_append_right _ _ (by simp; omega)]
 simp [Nat.min_eq_left hp]
theorem ins_len (out : List Int) (p : Nat) (x : Int) (hp : p <= out.length) : (out.take p ++ x :: out.drop p).length = out.length + 1:=by
 simp
 omega
set_option maxHeartbeats 2000000 in
theorem rsorted_eq (l : List Int) (hl : l.length < 1000000) : V 15 [.p (intsP l)] [] = some (.fresh 1 ((sortU l).map (.int .i64)),[]):=by
 refine V_wp (vf:=vf15) rfl ?_
 simp -implicitDefEqProofs (disch:=omega) only [vf15,vb15,go_sem,↓reduceIte,rA,rS,rE,rL,reduceCtorEq]
 obtain ⟨I,hI⟩ : ∃ I : Nat -> St -> Prop,∀ k s,I k s ↔ ∃ (out : List Int) (ww : Nat),out = sortU (l.take k) /\ s.pe 0 = .p (intsP l) /\ s.pe 3 = .own (.slot 3 0) ww 0 out.length /\ s.pe 4 = .p (.int .i64 k) /\ s.h (.slot 3 0) = some (ww,Ob.arr 1 (out.map (.int .i64))):=⟨_,fun _ _=>Iff.rfl⟩
 refine wp_count (l.length) I ?_ ?_
 ·refine (hI _ _).2 ⟨[],0,?_,?_,?_,?_,?_⟩
  ·exact cl3
  all_goals exact cl0
 intro k s hk hIk
 obtain ⟨out,ww,hout,h0,h3,h4,hh3_0⟩:=(hI _ _).1 hIk
 clear hIk
 have hinc : out.Pairwise fun a b=>a < b:=hout ▸ sortU_inc _
 have holen : out.length <= k:=by
  have := sortU_length (l.take k)
  rw [List.length_take] at this
  rw [hout]
  omega
 simp -implicitDefEqProofs (disch:=omega) only [h0,h3,h4,hh3_0,go_sem,↓reduceIte,rA,rS,rE,rL,reduceCtorEq]
 refine wp_if_d (fun hlt=>?_) (fun hge=>?_)
 ·have hm : l[k]? = some l[k]:=lgg hlt
  have htk:=take_snoc hm
  generalize l[k] = x at hm htk
  have hst : sortU (l.take (k + 1)) = insU x out:=by rw [htk,sortU_snoc,hout]
  simp -implicitDefEqProofs (disch:=omega) only [h0,h3,h4,hh3_0,hlt,go_sem,↓reduceIte,rA,rS,rE,rL,reduceCtorEq]
  obtain ⟨J,hJ⟩ : ∃ I : Nat -> St -> Prop,∀ j s,I j s ↔ (∀ y ∈ out.drop (out.length - j),x < y) /\ s.pe 0 = .p (intsP l) /\ s.pe 3 = .own (.slot 3 0) ww 0 out.length /\ s.pe 4 = .p (.int .i64 ↑k) /\ s.pe 5 = .p (.int .i64 ((out.length - j : Nat) : Int)) /\ s.h (.slot 3 0) = some (ww,Ob.arr 1 (List.map (.int .i64) out)):=⟨_,fun _ _=>Iff.rfl⟩
  refine wp_count (out.length) J ?_ ?_
  ·refine (hJ _ _).2 ⟨?_,?_,?_,?_,?_,?_⟩
   ·exact by simp
   all_goals exact cl0
  intro j s hj hJk
  obtain ⟨hgt,h0,h3,h4,h5,hh3_0⟩:=(hJ _ _).1 hJk
  clear hJk
  generalize hp : out.length - j = p at hgt h5
  by_cases hp0 : 0 < p
  ·have hy : out[p - 1]? = some out[p - 1]:=lgg (by omega)
   have hdr : out.drop (p - 1) = out[p - 1] :: out.drop p:=by
    rw [ldg (by omega),show p - 1 + 1 = p by omega]
   have htp : out.take p = out.take (p - 1) ++ [out[p - 1]]:=by
    have:=take_snoc hy
    rwa [show p - 1 + 1 = p by omega] at this
   generalize out[p - 1] = y at hy hdr htp
   have hy' : out[((p : Int) - 1).toNat]? = some y:=by rw [<- hy]; congr 1; omega
   have hp1 : (0 : Int) < p:=by omega
   have hp2 : (0 : Int) <= (p : Int) - 1:=by omega
   by_cases hxy : x < y
   ·simp -implicitDefEqProofs (disch:=omega) only [h0,h3,h4,h5,hh3_0,hm,hp1,hp2,hy',hxy,go_sem,↓reduceIte,rA,rS,rE,rL,reduceCtorEq]
    have hj' : ∀ z ∈ out.drop (out.length - (j + 1)),x < z:=by
     intro z hz
     rw [show out.length - (j + 1) = p - 1 by omega,hdr] at hz
     rcases lmk.1 hz with rfl | hz
     ·exact hxy
     ·exact hgt z hz
    have e9 : ((out.length - (j + 1) : Nat) : Int) = (p : Int) - 1:=by omega
    have hjl : j < out.length:=by omega
    clear hp hout hst
    try refine And.intro (by omega) ?_
    refine (hJ _ _).2 ⟨?_,?_,?_,?_,?_,?_⟩
    ·exact hj'
    all_goals exact cl0
   ·by_cases he : y = x
    ·subst he
     have hyy : ¬ y < y:=by omega
     have hs' : out = sortU (l.take (k + 1)):=by
      rw [hst,insU_in out hinc (lmg hy)]
     simp -implicitDefEqProofs (disch:=omega) only [h0,h3,h4,h5,hh3_0,hm,hp1,hp2,hy',hyy,go_sem,↓reduceIte,rA,rS,rE,rL,reduceCtorEq]
     try refine And.intro (by omega) ?_
     refine (hI _ _).2 ⟨out,ww,?_,?_,?_,?_,?_⟩
     ·exact hs'
     all_goals exact cl0
    ·have hlow : ∀ w ∈ out.take p,w < x:=by
      intro w hw
      rw [htp] at hw
      have:=hinc.sublist (List.take_sublist p out)
      rw [htp] at this
      rcases lmp.1 hw with h | h
      ·have:=(List.pairwise_append.1 this).2.2 w h y (by simp)
       omega
      ·have : w = y:=by simpa using h
       omega
     obtain ⟨z,hz⟩:=ins_mid out p (by omega)
     obtain ⟨o',ho'⟩ : ∃ o',o' = out.take p ++ x :: out.drop p:=⟨_,rfl⟩
     have hlen : o'.length = out.length + 1:=by rw [ho']; exact ins_len out p x (by omega)
     have hset : ∀ z,(List.map (PV.int IntKind.i64) (out.take p ++ z :: out.drop p)).set p (PV.int .i64 x) = List.map (PV.int IntKind.i64) o':=by
      intro z
      rw [ho']
      exact ins_set out p x z (by omega)
     have hs' : o' = sortU (l.take (k + 1)):=by
      rw [ho',hst,insU_at out p hinc ?_ hgt]
      exact hlow
     simp -implicitDefEqProofs (disch:=omega) only [h0,h3,h4,h5,hh3_0,hm,hp1,hp2,hy',hxy,he,hz,ins_get,hset,List.headD_cons,go_sem,↓reduceIte,rA,rS,rE,rL,reduceCtorEq]
     try refine And.intro (by omega) ?_
     refine (hI _ _).2 ⟨o',ww + 1,?_,?_,?_,?_,?_⟩
     .exact hs'
     all_goals exact cl0
  ·have hp1 : ¬ (0 : Int) < p:=by omega
   obtain ⟨z,hz⟩:=ins_mid out p (by omega)
   obtain ⟨o',ho'⟩ : ∃ o',o' = out.take p ++ x :: out.drop p:=⟨_,rfl⟩
   have hlen : o'.length = out.length + 1:=by rw [ho']; exact ins_len out p x (by omega)
   have hset : ∀ z,(List.map (PV.int IntKind.i64) (out.take p ++ z :: out.drop p)).set p (PV.int .i64 x) = List.map (PV.int IntKind.i64) o':=by
    intro z
    rw [ho']
    exact ins_set out p x z (by omega)
   have hs' : o' = sortU (l.take (k + 1)):=by
    rw [ho',hst,insU_at out p hinc ?_ hgt]
    intro w hw
    rw [show p = 0 by omega] at hw
    simp at hw
   simp -implicitDefEqProofs (disch:=omega) only [h0,h3,h4,h5,hh3_0,hm,hp1,hz,ins_get,hset,List.headD_cons,go_sem,↓reduceIte,rA,rS,rE,rL,reduceCtorEq]
   try refine And.intro (by omega) ?_
   refine (hI _ _).2 ⟨o',ww + 1,?_,?_,?_,?_,?_⟩
   .exact hs'
   all_goals exact cl0
 ·rw [ltl (by omega)] at hout
  simp -implicitDefEqProofs (disch:=omega) only [h0,h3,h4,hh3_0,hge,go_sem,↓reduceIte,rA,rS,rE,rL,reduceCtorEq]
  rw [hout]
end Go.V
namespace Go.V
theorem asc_ext : ∀ {a b : List Int},Asc a -> Asc b -> (∀ x,x ∈ a ↔ x ∈ b) -> a = b
 | [],[],_,_,_=>rfl
 | [],y :: b,_,_,h=>absurd ((h y).2 (lms ..)) (by simp)
 | x :: a,[],_,_,h=>absurd ((h x).1 (lms ..)) (by simp)
 | x :: a,y :: b,ha,hb,h=>by
  obtain ⟨a1,a2⟩:=lpw.1 ha
  obtain ⟨b1,b2⟩:=lpw.1 hb
  have hxy : x = y:=by
   rcases lmk.1 ((h x).1 (lms ..)) with e | e
   ·exact e
   ·rcases lmk.1 ((h y).2 (lms ..)) with e' | e'
    .exact e'.symm
    .have:=a1 y e'; have:=b1 x e; omega
  subst hxy
  rw [asc_ext a2 b2 fun z=>?_]
  constructor
  ·intro hz
   rcases lmk.1 ((h z).1 (lmc _ hz)) with e | e
   .have:=a1 z hz; omega
   .exact e
  ·intro hz
   rcases lmk.1 ((h z).2 (lmc _ hz)) with e | e
   .have:=b1 z hz; omega
   .exact e
theorem rangeI_asc (a b : Int) : Asc (rangeI a b):=by
 rw [rangeI,Asc,List.pairwise_map]
 exact List.pairwise_lt_range.imp fun h=>by omega
theorem mem_spanL {x : Int} : ∀ {ps : List (Int × Int)} {next : Int},ps.Pairwise (fun a b=>a.1 <= b.1) -> (x ∈ spanL next ps ↔ next <= x /\ ∃ p ∈ ps,p.1 <= x /\ x <= p.2)
 | [],next,_=>by simp [spanL]
 | p :: r,next,h=>by
  obtain ⟨h1,h2⟩:=lpw.1 h
  simp only [spanL,lmp,mem_rangeI,mem_spanL h2]
  constructor
  ·rintro (⟨e1,e2⟩ | ⟨e1,q,hq,e2,e3⟩)
   ·exact ⟨by omega,p,lms ..,by omega,e2⟩
   ·exact ⟨by omega,q,lmc _ hq,e2,e3⟩
  ·rintro ⟨e1,q,hq,e2,e3⟩
   rcases lmk.1 hq with rfl | hq
   ·exact .inl ⟨by omega,e3⟩
   ·have:=h1 q hq
    by_cases hx : x <= p.2
    .exact .inl ⟨by omega,hx⟩
    .exact .inr ⟨by omega,q,hq,e2,e3⟩
theorem spanL_asc : ∀ {ps : List (Int × Int)} {next : Int},ps.Pairwise (fun a b=>a.1 <= b.1) -> Asc (spanL next ps)
 | [],next,_=>List.Pairwise.nil
 | p :: r,next,h=>by
  obtain ⟨h1,h2⟩:=lpw.1 h
  simp only [spanL]
  refine List.pairwise_append.2 ⟨rangeI_asc _ _,spanL_asc h2,fun x hx y hy=>?_⟩
  have e1:=mem_rangeI.1 hx
  have e2:=((mem_spanL h2).1 hy).1
  omega
abbrev wantL (ps : List (Int × Int)) : List Int:=ps.flatMap fun p=>rangeI p.1 p.2
theorem spanL_sort {ps qs : List (Int × Int)} (hp : ∀ p ∈ ps,0 <= p.1) (hq : ∀ p,p ∈ qs ↔ p ∈ ps) : spanL 0 (sortQ qs) = sortU (wantL ps):=by
 refine asc_ext (spanL_asc (sortQ_sorted _)) (sortU_inc _) fun x=>?_
 rw [mem_spanL (sortQ_sorted _),mem_sortU,List.mem_flatMap]
 constructor
 ·rintro ⟨_,p,hm,e1,e2⟩
  exact ⟨p,(hq p).1 ((sortQ_perm _).subset hm),mem_rangeI.2 ⟨e1,e2⟩⟩
 ·rintro ⟨p,hm,e⟩
  have e:=mem_rangeI.1 e
  have:=hp p hm
  exact ⟨by omega,p,(sortQ_perm _).symm.subset ((hq p).2 hm),e⟩
end Go.V
namespace Go.V
theorem digit_byte (n : Nat) (h : n < 10) : bytesI [48 + (n : Int)] = ⟨#[UInt8.ofNat (48 + n)]⟩:=by
 unfold bytesI
 simp only [lpc,lpn]
 rw [show ((48 : Int) + (n : Int)).toNat = 48 + n by omega]
theorem itoaS_small {n : Nat} (h : n < 10) : itoaS n = ⟨#[UInt8.ofNat (48 + n)]⟩:=by
 show (⟨(Lib.itoa n).toArray⟩ : ByteArray) = _
 rw [itoa_pos (by omega),Int.toNat_natCast,Lib.decDigits,dif_pos h]
theorem itoaS_big {n : Nat} (h : ¬ n < 10) : itoaS n = itoaS ((n / 10 : Nat) : Int) ++ ⟨#[UInt8.ofNat (48 + n % 10)]⟩:=by
 show (⟨(Lib.itoa n).toArray⟩ : ByteArray) = (⟨(Lib.itoa ((n / 10 : Nat) : Int)).toArray⟩ : ByteArray) ++ _
 rw [itoa_pos (by omega),itoa_pos (by omega),Int.toNat_natCast,Int.toNat_natCast,Lib.decDigits,dif_neg h]
 apply ByteArray.ext
 simp
set_option maxHeartbeats 1000000 in
theorem decimal_eq (n : Nat) (hn : n < 1000000000) : V 11 [.p (.int .i64 n)] [] = some (.p (.str (itoaS n)),[]):=by
 refine V_wp (vf:=vf11) rfl ?_
 simp -implicitDefEqProofs (disch:=omega) only [vf11,vb11,go_sem,↓reduceIte,rA,rS,rE,rL,reduceCtorEq]
 have hsz:=itoaS_size (n:=(n : Int)) (by omega) (by omega)
 obtain ⟨R,hR⟩ : ∃ I : Nat -> St -> Prop,∀ r s,I r s ↔ ∃ (m : Nat) (t : ByteArray),((t = ⟨#[]⟩ -> r = m + 1) /\ (t ≠ ⟨#[]⟩ -> r = m)) /\ ((0 < m \/ t = ⟨#[]⟩) /\ itoaS m ++ t = itoaS n \/ m = 0 /\ t ≠ ⟨#[]⟩ /\ t = itoaS n) /\ m < 1000000000 /\ s.pe 0 = .p (.int .i64 ↑m) /\ s.pe 3 = .p (PV.str t):=⟨_,fun _ _=>Iff.rfl⟩
 refine wp_meas R id ((n + 1)) ?_ ?_
 ·refine (hR _ _).2 ⟨n,⟨#[]⟩,?_,?_,?_,?_,?_⟩
  ·exact ⟨fun _=>rfl,fun h=>absurd rfl h⟩
  ·exact Or.inl ⟨Or.inr rfl,by rw [show (⟨#[]⟩ : ByteArray) = ByteArray.empty from rfl,ByteArray.append_empty]⟩
  ·exact cl3
  all_goals exact cl0
 intro r s hRk
 obtain ⟨m,t,hr,hA,hm9,h0,h3⟩:=(hR _ _).1 hRk
 clear hRk
 simp -implicitDefEqProofs (disch:=omega) only [h0,h3,go_sem,↓reduceIte,rA,rS,rE,rL,reduceCtorEq]
 rcases hA with ⟨hgo,hA⟩ | ⟨hm0,hne,hA⟩
 ·have htz : t.size <= 9:=by
   have:=congrArg ByteArray.size hA
   rw [ByteArray.size_append] at this
   omega
  have hmod : ((m : Int).tmod 10) = ((m % 10 : Nat) : Int):=by rw [Int.tmod_eq_emod_of_nonneg (by omega)]; omega
  have hdiv : ((m : Int).tdiv 10) = ((m / 10 : Nat) : Int):=by rw [Int.tdiv_eq_ediv_of_nonneg (by omega)]; omega
  have hw8 : IntKind.u8.wrap (48 + ((m % 10 : Nat) : Int)) = 48 + ((m % 10 : Nat) : Int):=wrap8 (by omega) (by omega)
  have hdb:=digit_byte (m % 10) (by omega)
  have hds : (⟨#[UInt8.ofNat (48 + m % 10)]⟩ : ByteArray).size = 1:=rfl
  have hne' : (⟨#[UInt8.ofNat (48 + m % 10)]⟩ : ByteArray) ++ t ≠ ⟨#[]⟩:=fun e=>by
   have:=congrArg ByteArray.size e
   rw [ByteArray.size_append,hds] at this
   have h0 : (⟨#[]⟩ : ByteArray).size = 0:=rfl
   omega
  have hnew : ((0 < m / 10 \/ (⟨#[UInt8.ofNat (48 + m % 10)]⟩ : ByteArray) ++ t = ⟨#[]⟩) /\ itoaS ((m / 10 : Nat) : Int) ++ ((⟨#[UInt8.ofNat (48 + m % 10)]⟩ : ByteArray) ++ t) = itoaS n \/ m / 10 = 0 /\ (⟨#[UInt8.ofNat (48 + m % 10)]⟩ : ByteArray) ++ t ≠ ⟨#[]⟩ /\ (⟨#[UInt8.ofNat (48 + m % 10)]⟩ : ByteArray) ++ t = itoaS n):=by
   by_cases h10 : m < 10
   ·right
    rw [itoaS_small h10] at hA
    rw [Nat.mod_eq_of_lt h10] at hne' ⊢
    exact ⟨by omega,hne',hA⟩
   ·left
    rw [itoaS_big h10,ByteArray.append_assoc] at hA
    exact ⟨.inl (by omega),hA⟩
  have hrm : m / 10 < r:=by
   by_cases ht : t = ⟨#[]⟩
   ·have:=hr.1 ht; omega
   ·have:=hr.2 ht
    rcases hgo with h | h
    .omega
    .exact absurd h ht
  generalize (⟨#[UInt8.ofNat (48 + m % 10)]⟩ : ByteArray) = b at hdb hds hne' hnew
  by_cases hm0 : 0 < m
  ·have hg : (m : Int) > 0:=by omega
   simp -implicitDefEqProofs (disch:=omega) only [h0,h3,hg,hmod,hdiv,hw8,hdb,go_sem,↓reduceIte,rA,rS,rE,rL,reduceCtorEq]
   refine ⟨(m / 10),by simp only [id]; omega,(hR _ _).2 ⟨m / 10,b ++ t,?_,?_,?_,?_,?_⟩⟩
   .exact ⟨fun e=>absurd e hne',fun _=>rfl⟩
   .exact hnew
   .omega
   all_goals exact cl0
  ·have hg : ¬ (m : Int) > 0:=by omega
   have hte : decide (t = ⟨#[]⟩) = true:=decide_eq_true (hgo.resolve_left hm0)
   simp -implicitDefEqProofs (disch:=omega) only [h0,h3,hg,hmod,hdiv,hw8,hdb,hte,go_sem,↓reduceIte,rA,rS,rE,rL,reduceCtorEq]
   refine ⟨(m / 10),by simp only [id]; omega,(hR _ _).2 ⟨m / 10,b ++ t,?_,?_,?_,?_,?_⟩⟩
   .exact ⟨fun e=>absurd e hne',fun _=>rfl⟩
   .exact hnew
   .omega
   all_goals exact cl0
 ·have hg : ¬ (m : Int) > 0:=by omega
  have hte : decide (t = ⟨#[]⟩) = false:=decide_eq_false hne
  rw [<- hA]
  simp -implicitDefEqProofs (disch:=omega) only [h0,h3,hg,hte,go_sem,↓reduceIte,rA,rS,rE,rL,reduceCtorEq]
end Go.V
namespace Go.V
theorem bytes_ext {a b : ByteArray} (h : a.data.toList = b.data.toList) : a = b:=by
 obtain ⟨⟨a⟩⟩:=a
 obtain ⟨⟨b⟩⟩:=b
 simp only at h
 rw [h]
theorem joinS_one (x : ByteArray) (c : UInt8) : joinS [x] ⟨#[c]⟩ = x:=by
 apply bytes_ext
 show Lib.join ([x].map (·.data.toList)) [c] = _
 rw [lpc,lpn,Lib.join_one]
theorem join_cons2 (x : List UInt8) (c : UInt8) : ∀ {r : List (List UInt8)},r ≠ [] -> Lib.join (x :: r) [c] = x ++ c :: Lib.join r [c]
 | [],h=>absurd rfl h
 | y :: r,_=>by
  rw [Lib.join_cons,Lib.join_cons]
  simp [Lib.joinTail]
theorem join_snoc (x : List UInt8) (c : UInt8) : ∀ {r : List (List UInt8)},r ≠ [] -> Lib.join (r ++ [x]) [c] = Lib.join r [c] ++ c :: x
 | [],h=>absurd rfl h
 | [y],_=>by
  rw [lca,lna,join_cons2 y c (by simp),Lib.join_one,Lib.join_one]
 | y :: z :: r,_=>by
  rw [lca,join_cons2 y c (by simp),join_snoc x c (r:=z :: r) (by simp),join_cons2 y c (r:=z :: r) (by simp)]
  simp
theorem joinS_snoc {xs : List ByteArray} (h : xs ≠ []) (x : ByteArray) : joinS (xs ++ [x]) ⟨#[44]⟩ = joinS xs ⟨#[44]⟩ ++ ⟨#[44]⟩ ++ x:=by
 apply bytes_ext
 show Lib.join ((xs ++ [x]).map (·.data.toList)) [44] = _
 rw [lma,lpc,lpn,join_snoc _ _ (by simpa using h)]
 simp
theorem joinS_cons {xs : List ByteArray} (h : xs ≠ []) (x : ByteArray) : joinS (x :: xs) ⟨#[44]⟩ = x ++ ⟨#[44]⟩ ++ joinS xs ⟨#[44]⟩:=by
 apply bytes_ext
 show Lib.join ((x :: xs).map (·.data.toList)) [44] = _
 rw [lpc,join_cons2 _ _ (by simpa using h)]
 simp
theorem joinS_size {xs : List ByteArray} (h : ∀ x ∈ xs,x.size <= 19) : (joinS xs ⟨#[44]⟩).size <= 20 * xs.length:=by
 have:=join_bound (B:=19) xs 44 h
 show (Lib.join (xs.map (·.data.toList)) [44]).length <= _
 omega
theorem joinS_ne {xs : List ByteArray} (h : xs ≠ []) (hx : ∀ x ∈ xs,x ≠ ⟨#[]⟩) : joinS xs ⟨#[44]⟩ ≠ ⟨#[]⟩:=by
 intro e
 have e2 : (joinS xs ⟨#[44]⟩).data.toList = []:=by rw [e]
 cases xs with
 | nil=>exact h rfl
 | cons x r =>
  rw [show (joinS (x :: r) ⟨#[44]⟩).data.toList = Lib.join ((x :: r).map (·.data.toList)) [44] from rfl,lpc,Lib.join_cons] at e2
  have:=(List.append_eq_nil_iff.1 e2).1
  exact hx x (lms ..) (bytes_ext this)
structure TxtOk (T : ByteArray) (a b : Int) : Prop where
 v : elemV T.data.toList = (a,b)
 c : (44 : UInt8) ∉ T.data.toList
 z : T.size <= 19
 n : T ≠ ⟨#[]⟩
theorem txt_two {a b : Int} (h : 0 <= a) (h2 : a <= b) (h3 : b < 1000000000) : TxtOk (itoaS a ++ (⟨#[45]⟩ ++ itoaS b)) a b:=by
 have e : (itoaS a ++ (⟨#[45]⟩ ++ itoaS b)).data.toList = decB a ++ 45 :: decB b:=by simp
 have s1:=itoaS_size (n:=a) h (by omega)
 have s2:=itoaS_size (n:=b) (by omega) h3
 have s3 : (⟨#[45]⟩ : ByteArray).size = 1:=rfl
 have s4 : (itoaS a ++ (⟨#[45]⟩ ++ itoaS b)).size = (itoaS a).size + (1 + (itoaS b).size):=by rw [ByteArray.size_append,ByteArray.size_append,s3]
 refine ⟨?_,?_,by omega,fun e0=>?_⟩
 ·rw [e]
  unfold elemV
  rw [cutS_at _ (dec_no h).2]
  simp only [if_true]
  rw [num_decB h (by omega),num_decB (by omega) h3]
 ·rw [e]
  intro hm
  rcases lmp.1 hm with hm | hm
  ·exact (dec_no h).1 hm
  ·rcases lmk.1 hm with hm | hm
   .cases hm
   .exact (dec_no (n:=b) (by omega)).1 hm
 ·rw [e0] at s4
  have : (⟨#[]⟩ : ByteArray).size = 0:=rfl
  omega
theorem txt_one {a : Int} (h : 0 <= a) (h3 : a < 1000000000) : TxtOk (itoaS a) a a:=by
 have s1:=itoaS_size (n:=a) h h3
 refine ⟨?_,(dec_no h).1,by omega,fun e0=>?_⟩
 ·show elemV (decB a) = _
  unfold elemV
  rw [cutS_no (dec_no h).2]
  simp only [bft,if_false]
  rw [num_decB h h3]
 ·have e2 : (itoaS a).data.toList = []:=by rw [e0]
  have e3 : Lib.itoa a = []:=e2
  rw [itoa_pos h] at e3
  exact (dec_ok _).2.2 e3
theorem elemsV_all : ∀ {xs : List ByteArray},(∀ x ∈ xs,elemOk (elemV x.data.toList) = true) -> elemsV xs = some (xs.map fun x=>elemV x.data.toList)
 | [],_=>rfl
 | x :: xs,h=>by
  rw [elemsV_cons,if_pos (h x (lms ..)),elemsV_all fun y hy=>h y (lmc _ hy)]
  rfl
theorem parse_txts {xs : List ByteArray} {ps : List (Int × Int)} {n : Int} (h0 : xs ≠ []) (hx : xs.map (fun x=>elemV x.data.toList) = ps) (hk : ∀ x ∈ xs,(44 : UInt8) ∉ x.data.toList /\ x.size <= 19 /\ x ≠ ⟨#[]⟩) (hp : ∀ p ∈ ps,0 <= p.1 /\ p.1 <= p.2) :
  parseT (joinS xs ⟨#[44]⟩) n = if ps.any (highB n) = true then ([],3) else (spanL 0 (sortQ ps),0):=by
 have he : elemsV xs = some ps:=by
  rw [elemsV_all,hx]
  intro x hxm
  have hm : elemV x.data.toList ∈ ps:=by rw [<- hx]; exact lmm.2 ⟨x,hxm,rfl⟩
  have:=hp _ hm
  simp [elemOk,this.1,this.2]
 rw [parseT,if_neg (joinS_ne h0 fun x hx=>(hk x hx).2.2),split_join h0 fun x hx=>(hk x hx).1,he]
theorem wantL_snoc (ps : List (Int × Int)) (p : Int × Int) : wantL (ps ++ [p]) = wantL ps ++ rangeI p.1 p.2:=by simp [wantL]
end Go.V
namespace Go.V
set_option maxHeartbeats 16000000 in
theorem setsOrder_eq (L : List Int) : V 3 [.p (intsP L)] [] = some (.p (.bool true),[]):=by
 refine V_wp (vf:=vf3) rfl ?_
 have hsane:=sane3_eq
 have hli:=light_eq (L.map (.int .i64))
 rw [List.length_map] at hli
 by_cases hlen : ¬ L.length <= 600
 ·simp -implicitDefEqProofs (disch:=omega) only [vf3,vb3,hli,hlen,hsane,go_sem,↓reduceIte,rA,rS,rE,rL,reduceCtorEq]
 have hlen:=Decidable.not_not.1 hlen
 have hL : L.length < 4611686018427387904:=by omega
 have hroll:=roll_eq L
 have hn0:=next_eq L 0 5 hL (by omega)
 have hn1:=nextV_nonneg L 0 5
 have hn2:=nextV_lt L 0 (n:=5) (by omega)
 rw [show diceB L 0 = Ob.box [.p (intsP L),.p (.int .i64 0)] from rfl] at hn0
 generalize nextA L 0 5 = a0 at hn0
 obtain ⟨n,hn⟩ : ∃ n : Nat,nextV L 0 5 = (n : Int):=⟨(nextV L 0 5).toNat,by omega⟩
 rw [hn] at hn0 hn1 hn2
 have hns : (1 : Int) + (n : Int) = ((n + 1 : Nat) : Int):=by omega
 simp -implicitDefEqProofs (disch:=omega) only [vf3,vb3,hli,hlen,hroll,hn0,hns,go_sem,↓reduceIte,rA,rS,rE,rL,reduceCtorEq]
 obtain ⟨I,hI⟩ : ∃ I : Nat -> St -> Prop,∀ k s,I k s ↔ ∃ (a : Nat) (xs : List ByteArray) (ps : List (Int × Int)) (s1 : ByteArray) (s2 : ByteArray) (out : List Int) (w : Nat),xs.map (fun x=>elemV x.data.toList) = ps /\ (∀ x ∈ xs,(44 : UInt8) ∉ x.data.toList /\ x.size <= 19 /\ x ≠ ⟨#[]⟩) /\ (∀ p ∈ ps,0 <= p.1 /\ p.1 <= p.2 /\ p.2 < 40) /\ xs.length = k /\ s1 = joinS xs ⟨#[44]⟩ /\ s2 = joinS xs.reverse ⟨#[44]⟩ /\ out = wantL ps /\ out.length <= 6 * k /\ s.pe 3 = .ptr (.slot 23 1) 0 0 /\ s.pe 4 = .p (PV.str s1) /\ s.pe 5 = .p (PV.str s2) /\ s.pe 6 = .own (.slot 6 0) w 0 out.length /\ s.pe 7 = .p (.int .i64 ((n : Int) + 1 - k)) /\ s.h (.slot 6 0) = some (w,Ob.arr 1 (out.map (.int .i64))) /\ s.h (.slot 23 1) = some (0,Ob.box [.p (intsP L),.p (.int .i64 ↑a)]):=⟨_,fun _ _=>Iff.rfl⟩
 refine wp_count ((n + 1)) I ?_ ?_
 ·refine (hI _ _).2 ⟨a0,[],[],⟨#[]⟩,⟨#[]⟩,[],0,?_,?_,?_,?_,?_,?_,?_,?_,?_,?_,?_,?_,?_,?_,?_⟩
  ·rfl
  ·exact by simp
  ·exact by simp
  ·rfl
  ·rfl
  ·rfl
  ·rfl
  ·exact lrf _
  all_goals exact cl0
 intro k s hk hIk
 obtain ⟨a,xs,ps,s1,s2,out,w,hxs,hxk,hps,hlk,hs1,hs2,hou,hol,h3,h4,h5,h6,h7,hh6_0,hh23_1⟩:=(hI _ _).1 hIk
 clear hIk
 have z1 : s1.size <= 20 * k:=by rw [hs1,<- hlk]; exact joinS_size fun x hx=>(hxk x hx).2.1
 have z2 : s2.size <= 20 * k:=by
  have:=joinS_size (xs:=xs.reverse) fun x hx=>(hxk x (List.mem_reverse.1 hx)).2.1
  rw [List.length_reverse,hlk] at this
  rw [hs2]; exact this
 have htk : List.take out.length (out.map (PV.int .i64)) = out.map (PV.int .i64):=ltl (by simp)
 simp -implicitDefEqProofs (disch:=omega) only [h3,h4,h5,h6,h7,hh6_0,hh23_1,go_sem,↓reduceIte,rA,rS,rE,rL,reduceCtorEq]
 refine wp_if_d (fun hlt=>?_) (fun hge=>?_)
 ·have h30:=next_eq L a 30 hL (by omega)
  have h31:=nextV_nonneg L a 30
  have h32:=nextV_lt L a (n:=30) (by omega)
  obtain ⟨na,hna⟩ : ∃ q : Nat,nextV L a 30 = (q : Int):=⟨(nextV L a 30).toNat,by omega⟩
  rw [hna] at h30 h31 h32
  generalize nextA L a 30 = a1 at h30
  have h60:=next_eq L a1 6 hL (by omega)
  have h61:=nextV_nonneg L a1 6
  have h62:=nextV_lt L a1 (n:=6) (by omega)
  obtain ⟨nd,hnd⟩ : ∃ q : Nat,nextV L a1 6 = (q : Int):=⟨(nextV L a1 6).toNat,by omega⟩
  rw [hnd] at h60 h61 h62
  generalize nextA L a1 6 = a2 at h60
  have hbq:=bool_eq3 L a2 2 hL (by omega) (by omega)
  generalize nextA L a2 2 = a3 at hbq
  generalize decide (nextV L a2 2 = 2 - 1) = bo at hbq
  obtain ⟨nb,hnb⟩ : ∃ nb : Nat,nb = na + nd:=⟨_,rfl⟩
  have hab : (na : Int) + (nd : Int) = (nb : Int):=by omega
  have hb5 : nb <= na + 5 /\ na <= nb:=by omega
  have hda:=decimal_eq na (by omega)
  have hdb:=decimal_eq nb (by omega)
  have t2:=txt_two (a:=(na : Int)) (b:=(nb : Int)) (by omega) (by omega) (by omega)
  have t1:=txt_one (a:=(na : Int)) (by omega) (by omega)
  have y1:=itoaS_size (n:=(na : Int)) (by omega) (by omega)
  have y2:=itoaS_size (n:=(nb : Int)) (by omega) (by omega)
  have y3 : (⟨#[45]⟩ : ByteArray).size = 1:=rfl
  have y4 : ((⟨#[45]⟩ : ByteArray) ++ itoaS (nb : Int)).size = 1 + (itoaS (nb : Int)).size:=ByteArray.size_append
  have y5 : (⟨#[44]⟩ : ByteArray).size = 1:=rfl
  have hse : decide (s1 = ⟨#[]⟩) = decide (xs = []):=by
   rw [decide_eq_decide]
   constructor
   ·intro e
    by_cases h : xs = []
    ·exact h
    ·rw [hs1] at e
     exact absurd e (joinS_ne h fun x hx=>(hxk x hx).2.2)
   ·rintro rfl
    rw [hs1]; rfl
  have hnew : ∀ T : ByteArray,TxtOk T na nb -> (xs ++ [T]).map (fun x=>elemV x.data.toList) = ps ++ [((na : Int),(nb : Int))] /\ (∀ x ∈ xs ++ [T],(44 : UInt8) ∉ x.data.toList /\ x.size <= 19 /\ x ≠ ⟨#[]⟩) /\ (xs ++ [T]).length = k + 1:=fun T hT=>by
   refine ⟨by rw [lma,hxs,lpc,lpn,hT.v],fun x hx=>?_,by rw [lla,hlk]; rfl⟩
   rcases lmp.1 hx with hx | hx
   ·exact hxk x hx
   ·rw [List.mem_singleton.1 hx]; exact ⟨hT.c,hT.z,hT.n⟩
  have hnp : ∀ p ∈ ps ++ [((na : Int),(nb : Int))],0 <= p.1 /\ p.1 <= p.2 /\ p.2 < 40:=fun p hp=>by
   rcases lmp.1 hp with hp | hp
   ·exact hps p hp
   ·rw [List.mem_singleton.1 hp]; exact ⟨by simp only; omega,by simp only; omega,by simp only; omega⟩
  have hwn:=wantL_snoc ps ((na : Int),(nb : Int))
  simp only at hwn
  rw [<- hou] at hwn
  clear hna hnd hn
  by_cases hgt : (nb : Int) > na
  ·by_cases hx0 : xs = []
   ·have hxe:=hx0
    have he1 : itoaS (na : Int) ++ (⟨#[45]⟩ ++ itoaS (nb : Int)) = joinS (xs ++ [itoaS (na : Int) ++ (⟨#[45]⟩ ++ itoaS (nb : Int))]) ⟨#[44]⟩:=by rw [hx0,lna,joinS_one]
    have he2 : itoaS (na : Int) ++ (⟨#[45]⟩ ++ itoaS (nb : Int)) = joinS (xs ++ [itoaS (na : Int) ++ (⟨#[45]⟩ ++ itoaS (nb : Int))]).reverse ⟨#[44]⟩:=by rw [hx0,lna,List.reverse_singleton,joinS_one]
    rw [decide_eq_true hx0] at hse
    have u1 : (itoaS (na : Int) ++ (⟨#[45]⟩ ++ itoaS (nb : Int))).size <= 19:=(t2).z
    have u2 : (s1 ++ ⟨#[44]⟩).size = s1.size + 1:=ByteArray.size_append
    have u3 : ((itoaS (na : Int) ++ (⟨#[45]⟩ ++ itoaS (nb : Int))) ++ ⟨#[44]⟩).size = (itoaS (na : Int) ++ (⟨#[45]⟩ ++ itoaS (nb : Int))).size + 1:=ByteArray.size_append
    simp -implicitDefEqProofs (disch:=omega) only [h3,h4,h5,h6,h7,hh6_0,hh23_1,h30,h60,hab,hda,hgt,hdb,hse,go_sem,↓reduceIte,rA,rS,rE,rL,reduceCtorEq]
    obtain ⟨q1,q2,q3⟩:=hnew _ t2
    generalize xs ++ [itoaS (na : Int) ++ (⟨#[45]⟩ ++ itoaS (nb : Int))] = xs' at q1 q2 q3 he1 he2
    have hnp2:=hnp
    have hwn2:=hwn
    generalize ps ++ [((na : Int),(nb : Int))] = ps' at q1 hnp2 hwn2
    generalize itoaS (na : Int) ++ (⟨#[45]⟩ ++ itoaS (nb : Int)) = S1 at he1 he2 ⊢
    clear u1 u2 u3 y1 y2 y3 y4 y5 hse hab hnb hxs hxk hps hlk hs1 hs2 hou hnew hnp hwn t1 t2 z1 z2 hx0 hda hdb hbq h30 h60
    try clear hxe
    try clear hbb
    obtain ⟨M,hM⟩ : ∃ I : Nat -> St -> Prop,∀ m s,I m s ↔ ∃ (c : Nat) (o2 : List Int) (w2 : Nat),m = nb + 1 - c /\ na <= c /\ wantL ps' = o2 ++ rangeI c nb /\ o2.length + na <= out.length + c /\ c <= nb + 1 /\ s.pe 3 = .ptr (.slot 23 1) 0 0 /\ s.pe 4 = .p (PV.str (S1)) /\ s.pe 5 = .p (PV.str (S1)) /\ s.pe 6 = .own (.slot 6 0) w2 0 o2.length /\ s.pe 7 = .p (.int .i64 ((n : Int) + 1 - k)) /\ s.pe 9 = .p (.int .i64 nb) /\ s.pe 11 = .p (.int .i64 c) /\ s.h (.slot 6 0) = some (w2,Ob.arr 1 (o2.map (.int .i64))) /\ s.h (.slot 23 1) = some (0,Ob.box [.p (intsP L),.p (.int .i64 ↑a2)]):=⟨_,fun _ _=>Iff.rfl⟩
    refine wp_meas M id ((nb + 1 - na)) ?_ ?_
    ·refine (hM _ _).2 ⟨na,out,w,?_,?_,?_,?_,?_,?_,?_,?_,?_,?_,?_,?_,?_,?_⟩
     ·rfl
     ·exact lrf _
     ·exact hwn2
     ·exact lrf _
     ·omega
     all_goals exact cl0
    intro m s hMk
    obtain ⟨c,o2,w2,hmm,hca,hrg,ho2,hcb,h3,h4,h5,h6,h7,h9,h11,hh6_0,hh23_1⟩:=(hM _ _).1 hMk
    clear hMk
    have htk2 : List.take o2.length (o2.map (PV.int .i64)) = o2.map (PV.int .i64):=ltl (by simp)
    by_cases hcn : c <= nb
    ·have hle : (c : Int) <= nb:=by omega
     rw [rangeI_cons hle] at hrg
     have hrg2 : wantL ps' = (o2 ++ [(c : Int)]) ++ rangeI ((c + 1 : Nat) : Int) nb:=by rw [hrg]; simp
     clear hrg hwn2
     simp -implicitDefEqProofs (disch:=omega) only [h3,h4,h5,h6,h7,h9,h11,hh6_0,hh23_1,hle,htk2,go_sem,↓reduceIte,rA,rS,rE,rL,reduceCtorEq]
     refine ⟨(nb + 1 - (c + 1)),by simp only [id]; omega,(hM _ _).2 ⟨c + 1,o2 ++ [(c : Int)],w2 + 1,?_,?_,?_,?_,?_,?_,?_,?_,?_,?_,?_,?_,?_,?_⟩⟩
     ·rfl
     ·omega
     ·exact hrg2
     ·exact by rw [lla]; simp only [llc,lln]; omega
     ·omega
     all_goals exact cl0
    ·have hle : ¬ (c : Int) <= nb:=by omega
     rw [rangeI_nil (by omega),lan] at hrg
     have hol2 : o2.length <= 6 * (k + 1):=by omega
     clear hwn2
     simp -implicitDefEqProofs (disch:=omega) only [h3,h4,h5,h6,h7,h9,h11,hh6_0,hh23_1,hle,htk2,go_sem,↓reduceIte,rA,rS,rE,rL,reduceCtorEq]
     try refine And.intro (by omega) ?_
     refine (hI _ _).2 ⟨a2,xs',ps',S1,S1,o2,w2,?_,?_,?_,?_,?_,?_,?_,?_,?_,?_,?_,?_,?_,?_,?_⟩
     ·exact q1
     ·exact q2
     ·exact hnp2
     ·exact q3
     ·exact he1
     ·exact he2
     ·exact hrg.symm
     ·exact hol2
     all_goals exact cl0
   ·have he1 : s1 ++ ⟨#[44]⟩ ++ (itoaS (na : Int) ++ (⟨#[45]⟩ ++ itoaS (nb : Int))) = joinS (xs ++ [itoaS (na : Int) ++ (⟨#[45]⟩ ++ itoaS (nb : Int))]) ⟨#[44]⟩:=by rw [joinS_snoc hx0,hs1]
    have he2 : (itoaS (na : Int) ++ (⟨#[45]⟩ ++ itoaS (nb : Int))) ++ ⟨#[44]⟩ ++ s2 = joinS (xs ++ [itoaS (na : Int) ++ (⟨#[45]⟩ ++ itoaS (nb : Int))]).reverse ⟨#[44]⟩:=by rw [List.reverse_append,List.reverse_singleton,lca,lna,joinS_cons (by simpa using hx0),hs2]
    rw [decide_eq_false hx0] at hse
    have u1 : (itoaS (na : Int) ++ (⟨#[45]⟩ ++ itoaS (nb : Int))).size <= 19:=(t2).z
    have u2 : (s1 ++ ⟨#[44]⟩).size = s1.size + 1:=ByteArray.size_append
    have u3 : ((itoaS (na : Int) ++ (⟨#[45]⟩ ++ itoaS (nb : Int))) ++ ⟨#[44]⟩).size = (itoaS (na : Int) ++ (⟨#[45]⟩ ++ itoaS (nb : Int))).size + 1:=ByteArray.size_append
    simp -implicitDefEqProofs (disch:=omega) only [h3,h4,h5,h6,h7,hh6_0,hh23_1,h30,h60,hab,hda,hgt,hdb,hse,go_sem,↓reduceIte,rA,rS,rE,rL,reduceCtorEq]
    obtain ⟨q1,q2,q3⟩:=hnew _ t2
    generalize xs ++ [itoaS (na : Int) ++ (⟨#[45]⟩ ++ itoaS (nb : Int))] = xs' at q1 q2 q3 he1 he2
    have hnp2:=hnp
    have hwn2:=hwn
    generalize ps ++ [((na : Int),(nb : Int))] = ps' at q1 hnp2 hwn2
    generalize s1 ++ ⟨#[44]⟩ ++ (itoaS (na : Int) ++ (⟨#[45]⟩ ++ itoaS (nb : Int))) = S1 at he1 ⊢
    generalize (itoaS (na : Int) ++ (⟨#[45]⟩ ++ itoaS (nb : Int))) ++ ⟨#[44]⟩ ++ s2 = S2 at he2 ⊢
    clear u1 u2 u3 y1 y2 y3 y4 y5 hse hab hnb hxs hxk hps hlk hs1 hs2 hou hnew hnp hwn t1 t2 z1 z2 hx0 hda hdb hbq h30 h60
    try clear hxe
    try clear hbb
    obtain ⟨Q,hQ⟩ : ∃ I : Nat -> St -> Prop,∀ q s,I q s ↔ ∃ (c : Nat) (o2 : List Int) (w2 : Nat),q = nb + 1 - c /\ na <= c /\ wantL ps' = o2 ++ rangeI c nb /\ o2.length + na <= out.length + c /\ c <= nb + 1 /\ s.pe 3 = .ptr (.slot 23 1) 0 0 /\ s.pe 4 = .p (PV.str (S1)) /\ s.pe 5 = .p (PV.str (S2)) /\ s.pe 6 = .own (.slot 6 0) w2 0 o2.length /\ s.pe 7 = .p (.int .i64 ((n : Int) + 1 - k)) /\ s.pe 9 = .p (.int .i64 nb) /\ s.pe 11 = .p (.int .i64 c) /\ s.h (.slot 6 0) = some (w2,Ob.arr 1 (o2.map (.int .i64))) /\ s.h (.slot 23 1) = some (0,Ob.box [.p (intsP L),.p (.int .i64 ↑a2)]):=⟨_,fun _ _=>Iff.rfl⟩
    refine wp_meas Q id ((nb + 1 - na)) ?_ ?_
    ·refine (hQ _ _).2 ⟨na,out,w,?_,?_,?_,?_,?_,?_,?_,?_,?_,?_,?_,?_,?_,?_⟩
     ·rfl
     ·exact lrf _
     ·exact hwn2
     ·exact lrf _
     ·omega
     all_goals exact cl0
    intro q s hQk
    obtain ⟨c,o2,w2,hmm,hca,hrg,ho2,hcb,h3,h4,h5,h6,h7,h9,h11,hh6_0,hh23_1⟩:=(hQ _ _).1 hQk
    clear hQk
    have htk2 : List.take o2.length (o2.map (PV.int .i64)) = o2.map (PV.int .i64):=ltl (by simp)
    by_cases hcn : c <= nb
    ·have hle : (c : Int) <= nb:=by omega
     rw [rangeI_cons hle] at hrg
     have hrg2 : wantL ps' = (o2 ++ [(c : Int)]) ++ rangeI ((c + 1 : Nat) : Int) nb:=by rw [hrg]; simp
     clear hrg hwn2
     simp -implicitDefEqProofs (disch:=omega) only [h3,h4,h5,h6,h7,h9,h11,hh6_0,hh23_1,hle,htk2,go_sem,↓reduceIte,rA,rS,rE,rL,reduceCtorEq]
     refine ⟨(nb + 1 - (c + 1)),by simp only [id]; omega,(hQ _ _).2 ⟨c + 1,o2 ++ [(c : Int)],w2 + 1,?_,?_,?_,?_,?_,?_,?_,?_,?_,?_,?_,?_,?_,?_⟩⟩
     ·rfl
     ·omega
     ·exact hrg2
     ·exact by rw [lla]; simp only [llc,lln]; omega
     ·omega
     all_goals exact cl0
    ·have hle : ¬ (c : Int) <= nb:=by omega
     rw [rangeI_nil (by omega),lan] at hrg
     have hol2 : o2.length <= 6 * (k + 1):=by omega
     clear hwn2
     simp -implicitDefEqProofs (disch:=omega) only [h3,h4,h5,h6,h7,h9,h11,hh6_0,hh23_1,hle,htk2,go_sem,↓reduceIte,rA,rS,rE,rL,reduceCtorEq]
     try refine And.intro (by omega) ?_
     refine (hI _ _).2 ⟨a2,xs',ps',S1,S2,o2,w2,?_,?_,?_,?_,?_,?_,?_,?_,?_,?_,?_,?_,?_,?_,?_⟩
     ·exact q1
     ·exact q2
     ·exact hnp2
     ·exact q3
     ·exact he1
     ·exact he2
     ·exact hrg.symm
     ·exact hol2
     all_goals exact cl0
  ·have hbb : nb = na:=by omega
   cases bo
   ·have t1 : TxtOk (itoaS (na : Int)) na nb:=by rw [hbb]; exact t1
    by_cases hx0 : xs = []
    ·have hxe:=hx0
     have he1 : itoaS (na : Int) = joinS (xs ++ [itoaS (na : Int)]) ⟨#[44]⟩:=by rw [hx0,lna,joinS_one]
     have he2 : itoaS (na : Int) = joinS (xs ++ [itoaS (na : Int)]).reverse ⟨#[44]⟩:=by rw [hx0,lna,List.reverse_singleton,joinS_one]
     rw [decide_eq_true hx0] at hse
     have u1 : (itoaS (na : Int)).size <= 19:=(t1).z
     have u2 : (s1 ++ ⟨#[44]⟩).size = s1.size + 1:=ByteArray.size_append
     have u3 : ((itoaS (na : Int)) ++ ⟨#[44]⟩).size = (itoaS (na : Int)).size + 1:=ByteArray.size_append
     simp -implicitDefEqProofs (disch:=omega) only [h3,h4,h5,h6,h7,hh6_0,hh23_1,h30,h60,hab,hda,hgt,hbq,hse,go_sem,↓reduceIte,rA,rS,rE,rL,reduceCtorEq]
     obtain ⟨q1,q2,q3⟩:=hnew _ t1
     generalize xs ++ [itoaS (na : Int)] = xs' at q1 q2 q3 he1 he2
     have hnp2:=hnp
     have hwn2:=hwn
     generalize ps ++ [((na : Int),(nb : Int))] = ps' at q1 hnp2 hwn2
     generalize itoaS (na : Int) = S1 at he1 he2 ⊢
     clear u1 u2 u3 y1 y2 y3 y4 y5 hse hab hnb hxs hxk hps hlk hs1 hs2 hou hnew hnp hwn t1 t2 z1 z2 hx0 hda hdb hbq h30 h60
     try clear hxe
     try clear hbb
     obtain ⟨T,hT⟩ : ∃ I : Nat -> St -> Prop,∀ t s,I t s ↔ ∃ (c : Nat) (o2 : List Int) (w2 : Nat),t = nb + 1 - c /\ na <= c /\ wantL ps' = o2 ++ rangeI c nb /\ o2.length + na <= out.length + c /\ c <= nb + 1 /\ s.pe 3 = .ptr (.slot 23 1) 0 0 /\ s.pe 4 = .p (PV.str (S1)) /\ s.pe 5 = .p (PV.str (S1)) /\ s.pe 6 = .own (.slot 6 0) w2 0 o2.length /\ s.pe 7 = .p (.int .i64 ((n : Int) + 1 - k)) /\ s.pe 9 = .p (.int .i64 nb) /\ s.pe 11 = .p (.int .i64 c) /\ s.h (.slot 6 0) = some (w2,Ob.arr 1 (o2.map (.int .i64))) /\ s.h (.slot 23 1) = some (0,Ob.box [.p (intsP L),.p (.int .i64 ↑a3)]):=⟨_,fun _ _=>Iff.rfl⟩
     refine wp_meas T id ((nb + 1 - na)) ?_ ?_
     ·refine (hT _ _).2 ⟨na,out,w,?_,?_,?_,?_,?_,?_,?_,?_,?_,?_,?_,?_,?_,?_⟩
      .rfl
      .exact lrf _
      .exact hwn2
      .exact lrf _
      .omega
      all_goals exact cl0
     intro t s hTk
     obtain ⟨c,o2,w2,hmm,hca,hrg,ho2,hcb,h3,h4,h5,h6,h7,h9,h11,hh6_0,hh23_1⟩:=(hT _ _).1 hTk
     clear hTk
     have htk2 : List.take o2.length (o2.map (PV.int .i64)) = o2.map (PV.int .i64):=ltl (by simp)
     by_cases hcn : c <= nb
     ·have hle : (c : Int) <= nb:=by omega
      rw [rangeI_cons hle] at hrg
      have hrg2 : wantL ps' = (o2 ++ [(c : Int)]) ++ rangeI ((c + 1 : Nat) : Int) nb:=by rw [hrg]; simp
      clear hrg hwn2
      simp -implicitDefEqProofs (disch:=omega) only [h3,h4,h5,h6,h7,h9,h11,hh6_0,hh23_1,hle,htk2,go_sem,↓reduceIte,rA,rS,rE,rL,reduceCtorEq]
      refine ⟨(nb + 1 - (c + 1)),by simp only [id]; omega,(hT _ _).2 ⟨c + 1,o2 ++ [(c : Int)],w2 + 1,?_,?_,?_,?_,?_,?_,?_,?_,?_,?_,?_,?_,?_,?_⟩⟩
      .rfl
      .omega
      .exact hrg2
      .exact by rw [lla]; simp only [llc,lln]; omega
      .omega
      all_goals exact cl0
     ·have hle : ¬ (c : Int) <= nb:=by omega
      rw [rangeI_nil (by omega),lan] at hrg
      have hol2 : o2.length <= 6 * (k + 1):=by omega
      clear hwn2
      simp -implicitDefEqProofs (disch:=omega) only [h3,h4,h5,h6,h7,h9,h11,hh6_0,hh23_1,hle,htk2,go_sem,↓reduceIte,rA,rS,rE,rL,reduceCtorEq]
      try refine And.intro (by omega) ?_
      refine (hI _ _).2 ⟨a3,xs',ps',S1,S1,o2,w2,?_,?_,?_,?_,?_,?_,?_,?_,?_,?_,?_,?_,?_,?_,?_⟩
      .exact q1
      .exact q2
      .exact hnp2
      .exact q3
      .exact he1
      .exact he2
      .exact hrg.symm
      .exact hol2
      all_goals exact cl0
    ·have he1 : s1 ++ ⟨#[44]⟩ ++ (itoaS (na : Int)) = joinS (xs ++ [itoaS (na : Int)]) ⟨#[44]⟩:=by rw [joinS_snoc hx0,hs1]
     have he2 : (itoaS (na : Int)) ++ ⟨#[44]⟩ ++ s2 = joinS (xs ++ [itoaS (na : Int)]).reverse ⟨#[44]⟩:=by rw [List.reverse_append,List.reverse_singleton,lca,lna,joinS_cons (by simpa using hx0),hs2]
     rw [decide_eq_false hx0] at hse
     have u1 : (itoaS (na : Int)).size <= 19:=(t1).z
     have u2 : (s1 ++ ⟨#[44]⟩).size = s1.size + 1:=ByteArray.size_append
     have u3 : ((itoaS (na : Int)) ++ ⟨#[44]⟩).size = (itoaS (na : Int)).size + 1:=ByteArray.size_append
     simp -implicitDefEqProofs (disch:=omega) only [h3,h4,h5,h6,h7,hh6_0,hh23_1,h30,h60,hab,hda,hgt,hbq,hse,go_sem,↓reduceIte,rA,rS,rE,rL,reduceCtorEq]
     obtain ⟨q1,q2,q3⟩:=hnew _ t1
     generalize xs ++ [itoaS (na : Int)] = xs' at q1 q2 q3 he1 he2
     have hnp2:=hnp
     have hwn2:=hwn
     generalize ps ++ [((na : Int),(nb : Int))] = ps' at q1 hnp2 hwn2
     generalize s1 ++ ⟨#[44]⟩ ++ (itoaS (na : Int)) = S1 at he1 ⊢
     generalize (itoaS (na : Int)) ++ ⟨#[44]⟩ ++ s2 = S2 at he2 ⊢
     clear u1 u2 u3 y1 y2 y3 y4 y5 hse hab hnb hxs hxk hps hlk hs1 hs2 hou hnew hnp hwn t1 t2 z1 z2 hx0 hda hdb hbq h30 h60
     try clear hxe
     try clear hbb
     obtain ⟨U,hU⟩ : ∃ I : Nat -> St -> Prop,∀ u s,I u s ↔ ∃ (c : Nat) (o2 : List Int) (w2 : Nat),u = nb + 1 - c /\ na <= c /\ wantL ps' = o2 ++ rangeI c nb /\ o2.length + na <= out.length + c /\ c <= nb + 1 /\ s.pe 3 = .ptr (.slot 23 1) 0 0 /\ s.pe 4 = .p (PV.str (S1)) /\ s.pe 5 = .p (PV.str (S2)) /\ s.pe 6 = .own (.slot 6 0) w2 0 o2.length /\ s.pe 7 = .p (.int .i64 ((n : Int) + 1 - k)) /\ s.pe 9 = .p (.int .i64 nb) /\ s.pe 11 = .p (.int .i64 c) /\ s.h (.slot 6 0) = some (w2,Ob.arr 1 (o2.map (.int .i64))) /\ s.h (.slot 23 1) = some (0,Ob.box [.p (intsP L),.p (.int .i64 ↑a3)]):=⟨_,fun _ _=>Iff.rfl⟩
     refine wp_meas U id ((nb + 1 - na)) ?_ ?_
     ·refine (hU _ _).2 ⟨na,out,w,?_,?_,?_,?_,?_,?_,?_,?_,?_,?_,?_,?_,?_,?_⟩
      .rfl
      .exact lrf _
      .exact hwn2
      .exact lrf _
      .omega
      all_goals exact cl0
     intro u s hUk
     obtain ⟨c,o2,w2,hmm,hca,hrg,ho2,hcb,h3,h4,h5,h6,h7,h9,h11,hh6_0,hh23_1⟩:=(hU _ _).1 hUk
     clear hUk
     have htk2 : List.take o2.length (o2.map (PV.int .i64)) = o2.map (PV.int .i64):=ltl (by simp)
     by_cases hcn : c <= nb
     ·have hle : (c : Int) <= nb:=by omega
      rw [rangeI_cons hle] at hrg
      have hrg2 : wantL ps' = (o2 ++ [(c : Int)]) ++ rangeI ((c + 1 : Nat) : Int) nb:=by rw [hrg]; simp
      clear hrg hwn2
      simp -implicitDefEqProofs (disch:=omega) only [h3,h4,h5,h6,h7,h9,h11,hh6_0,hh23_1,hle,htk2,go_sem,↓reduceIte,rA,rS,rE,rL,reduceCtorEq]
      refine ⟨(nb + 1 - (c + 1)),by simp only [id]; omega,(hU _ _).2 ⟨c + 1,o2 ++ [(c : Int)],w2 + 1,?_,?_,?_,?_,?_,?_,?_,?_,?_,?_,?_,?_,?_,?_⟩⟩
      .rfl
      .omega
      .exact hrg2
      .exact by rw [lla]; simp only [llc,lln]; omega
      .omega
      all_goals exact cl0
     ·have hle : ¬ (c : Int) <= nb:=by omega
      rw [rangeI_nil (by omega),lan] at hrg
      have hol2 : o2.length <= 6 * (k + 1):=by omega
      clear hwn2
      simp -implicitDefEqProofs (disch:=omega) only [h3,h4,h5,h6,h7,h9,h11,hh6_0,hh23_1,hle,htk2,go_sem,↓reduceIte,rA,rS,rE,rL,reduceCtorEq]
      try refine And.intro (by omega) ?_
      refine (hI _ _).2 ⟨a3,xs',ps',S1,S2,o2,w2,?_,?_,?_,?_,?_,?_,?_,?_,?_,?_,?_,?_,?_,?_,?_⟩
      .exact q1
      .exact q2
      .exact hnp2
      .exact q3
      .exact he1
      .exact he2
      .exact hrg.symm
      .exact hol2
      all_goals exact cl0
   ·by_cases hx0 : xs = []
    ·have hxe:=hx0
     have he1 : itoaS (na : Int) ++ (⟨#[45]⟩ ++ itoaS (nb : Int)) = joinS (xs ++ [itoaS (na : Int) ++ (⟨#[45]⟩ ++ itoaS (nb : Int))]) ⟨#[44]⟩:=by rw [hx0,lna,joinS_one]
     have he2 : itoaS (na : Int) ++ (⟨#[45]⟩ ++ itoaS (nb : Int)) = joinS (xs ++ [itoaS (na : Int) ++ (⟨#[45]⟩ ++ itoaS (nb : Int))]).reverse ⟨#[44]⟩:=by rw [hx0,lna,List.reverse_singleton,joinS_one]
     rw [decide_eq_true hx0] at hse
     have u1 : (itoaS (na : Int) ++ (⟨#[45]⟩ ++ itoaS (nb : Int))).size <= 19:=(t2).z
     have u2 : (s1 ++ ⟨#[44]⟩).size = s1.size + 1:=ByteArray.size_append
     have u3 : ((itoaS (na : Int) ++ (⟨#[45]⟩ ++ itoaS (nb : Int))) ++ ⟨#[44]⟩).size = (itoaS (na : Int) ++ (⟨#[45]⟩ ++ itoaS (nb : Int))).size + 1:=ByteArray.size_append
     simp -implicitDefEqProofs (disch:=omega) only [h3,h4,h5,h6,h7,hh6_0,hh23_1,h30,h60,hab,hda,hgt,hdb,hbq,hse,go_sem,↓reduceIte,rA,rS,rE,rL,reduceCtorEq]
     obtain ⟨q1,q2,q3⟩:=hnew _ t2
     generalize xs ++ [itoaS (na : Int) ++ (⟨#[45]⟩ ++ itoaS (nb : Int))] = xs' at q1 q2 q3 he1 he2
     have hnp2:=hnp
     have hwn2:=hwn
     generalize ps ++ [((na : Int),(nb : Int))] = ps' at q1 hnp2 hwn2
     generalize itoaS (na : Int) ++ (⟨#[45]⟩ ++ itoaS (nb : Int)) = S1 at he1 he2 ⊢
     clear u1 u2 u3 y1 y2 y3 y4 y5 hse hab hnb hxs hxk hps hlk hs1 hs2 hou hnew hnp hwn t1 t2 z1 z2 hx0 hda hdb hbq h30 h60
     try clear hxe
     try clear hbb
     obtain ⟨Y,hY⟩ : ∃ I : Nat -> St -> Prop,∀ y s,I y s ↔ ∃ (c : Nat) (o2 : List Int) (w2 : Nat),y = nb + 1 - c /\ na <= c /\ wantL ps' = o2 ++ rangeI c nb /\ o2.length + na <= out.length + c /\ c <= nb + 1 /\ s.pe 3 = .ptr (.slot 23 1) 0 0 /\ s.pe 4 = .p (PV.str (S1)) /\ s.pe 5 = .p (PV.str (S1)) /\ s.pe 6 = .own (.slot 6 0) w2 0 o2.length /\ s.pe 7 = .p (.int .i64 ((n : Int) + 1 - k)) /\ s.pe 9 = .p (.int .i64 nb) /\ s.pe 11 = .p (.int .i64 c) /\ s.h (.slot 6 0) = some (w2,Ob.arr 1 (o2.map (.int .i64))) /\ s.h (.slot 23 1) = some (0,Ob.box [.p (intsP L),.p (.int .i64 ↑a3)]):=⟨_,fun _ _=>Iff.rfl⟩
     refine wp_meas Y id ((nb + 1 - na)) ?_ ?_
     ·refine (hY _ _).2 ⟨na,out,w,?_,?_,?_,?_,?_,?_,?_,?_,?_,?_,?_,?_,?_,?_⟩
      .rfl
      .exact lrf _
      .exact hwn2
      .exact lrf _
      .omega
      all_goals exact cl0
     intro y s hYk
     obtain ⟨c,o2,w2,hmm,hca,hrg,ho2,hcb,h3,h4,h5,h6,h7,h9,h11,hh6_0,hh23_1⟩:=(hY _ _).1 hYk
     clear hYk
     have htk2 : List.take o2.length (o2.map (PV.int .i64)) = o2.map (PV.int .i64):=ltl (by simp)
     by_cases hcn : c <= nb
     ·have hle : (c : Int) <= nb:=by omega
      rw [rangeI_cons hle] at hrg
      have hrg2 : wantL ps' = (o2 ++ [(c : Int)]) ++ rangeI ((c + 1 : Nat) : Int) nb:=by rw [hrg]; simp
      clear hrg hwn2
      simp -implicitDefEqProofs (disch:=omega) only [h3,h4,h5,h6,h7,h9,h11,hh6_0,hh23_1,hle,htk2,go_sem,↓reduceIte,rA,rS,rE,rL,reduceCtorEq]
      refine ⟨(nb + 1 - (c + 1)),by simp only [id]; omega,(hY _ _).2 ⟨c + 1,o2 ++ [(c : Int)],w2 + 1,?_,?_,?_,?_,?_,?_,?_,?_,?_,?_,?_,?_,?_,?_⟩⟩
      .rfl
      .omega
      .exact hrg2
      .exact by rw [lla]; simp only [llc,lln]; omega
      .omega
      all_goals exact cl0
     ·have hle : ¬ (c : Int) <= nb:=by omega
      rw [rangeI_nil (by omega),lan] at hrg
      have hol2 : o2.length <= 6 * (k + 1):=by omega
      clear hwn2
      simp -implicitDefEqProofs (disch:=omega) only [h3,h4,h5,h6,h7,h9,h11,hh6_0,hh23_1,hle,htk2,go_sem,↓reduceIte,rA,rS,rE,rL,reduceCtorEq]
      try refine And.intro (by omega) ?_
      refine (hI _ _).2 ⟨a3,xs',ps',S1,S1,o2,w2,?_,?_,?_,?_,?_,?_,?_,?_,?_,?_,?_,?_,?_,?_,?_⟩
      .exact q1
      .exact q2
      .exact hnp2
      .exact q3
      .exact he1
      .exact he2
      .exact hrg.symm
      .exact hol2
      all_goals exact cl0
    ·have he1 : s1 ++ ⟨#[44]⟩ ++ (itoaS (na : Int) ++ (⟨#[45]⟩ ++ itoaS (nb : Int))) = joinS (xs ++ [itoaS (na : Int) ++ (⟨#[45]⟩ ++ itoaS (nb : Int))]) ⟨#[44]⟩:=by rw [joinS_snoc hx0,hs1]
     have he2 : (itoaS (na : Int) ++ (⟨#[45]⟩ ++ itoaS (nb : Int))) ++ ⟨#[44]⟩ ++ s2 = joinS (xs ++ [itoaS (na : Int) ++ (⟨#[45]⟩ ++ itoaS (nb : Int))]).reverse ⟨#[44]⟩:=by rw [List.reverse_append,List.reverse_singleton,lca,lna,joinS_cons (by simpa using hx0),hs2]
     rw [decide_eq_false hx0] at hse
     have u1 : (itoaS (na : Int) ++ (⟨#[45]⟩ ++ itoaS (nb : Int))).size <= 19:=(t2).z
     have u2 : (s1 ++ ⟨#[44]⟩).size = s1.size + 1:=ByteArray.size_append
     have u3 : ((itoaS (na : Int) ++ (⟨#[45]⟩ ++ itoaS (nb : Int))) ++ ⟨#[44]⟩).size = (itoaS (na : Int) ++ (⟨#[45]⟩ ++ itoaS (nb : Int))).size + 1:=ByteArray.size_append
     simp -implicitDefEqProofs (disch:=omega) only [h3,h4,h5,h6,h7,hh6_0,hh23_1,h30,h60,hab,hda,hgt,hdb,hbq,hse,go_sem,↓reduceIte,rA,rS,rE,rL,reduceCtorEq]
     obtain ⟨q1,q2,q3⟩:=hnew _ t2
     generalize xs ++ [itoaS (na : Int) ++ (⟨#[45]⟩ ++ itoaS (nb : Int))] = xs' at q1 q2 q3 he1 he2
     have hnp2:=hnp
     have hwn2:=hwn
     generalize ps ++ [((na : Int),(nb : Int))] = ps' at q1 hnp2 hwn2
     generalize s1 ++ ⟨#[44]⟩ ++ (itoaS (na : Int) ++ (⟨#[45]⟩ ++ itoaS (nb : Int))) = S1 at he1 ⊢
     generalize (itoaS (na : Int) ++ (⟨#[45]⟩ ++ itoaS (nb : Int))) ++ ⟨#[44]⟩ ++ s2 = S2 at he2 ⊢
     clear u1 u2 u3 y1 y2 y3 y4 y5 hse hab hnb hxs hxk hps hlk hs1 hs2 hou hnew hnp hwn t1 t2 z1 z2 hx0 hda hdb hbq h30 h60
     try clear hxe
     try clear hbb
     obtain ⟨Z,hZ⟩ : ∃ I : Nat -> St -> Prop,∀ z s,I z s ↔ ∃ (c : Nat) (o2 : List Int) (w2 : Nat),z = nb + 1 - c /\ na <= c /\ wantL ps' = o2 ++ rangeI c nb /\ o2.length + na <= out.length + c /\ c <= nb + 1 /\ s.pe 3 = .ptr (.slot 23 1) 0 0 /\ s.pe 4 = .p (PV.str (S1)) /\ s.pe 5 = .p (PV.str (S2)) /\ s.pe 6 = .own (.slot 6 0) w2 0 o2.length /\ s.pe 7 = .p (.int .i64 ((n : Int) + 1 - k)) /\ s.pe 9 = .p (.int .i64 nb) /\ s.pe 11 = .p (.int .i64 c) /\ s.h (.slot 6 0) = some (w2,Ob.arr 1 (o2.map (.int .i64))) /\ s.h (.slot 23 1) = some (0,Ob.box [.p (intsP L),.p (.int .i64 ↑a3)]):=⟨_,fun _ _=>Iff.rfl⟩
     refine wp_meas Z id ((nb + 1 - na)) ?_ ?_
     ·refine (hZ _ _).2 ⟨na,out,w,?_,?_,?_,?_,?_,?_,?_,?_,?_,?_,?_,?_,?_,?_⟩
      .rfl
      .exact lrf _
      .exact hwn2
      .exact lrf _
      .omega
      all_goals exact cl0
     intro z s hZk
     obtain ⟨c,o2,w2,hmm,hca,hrg,ho2,hcb,h3,h4,h5,h6,h7,h9,h11,hh6_0,hh23_1⟩:=(hZ _ _).1 hZk
     clear hZk
     have htk2 : List.take o2.length (o2.map (PV.int .i64)) = o2.map (PV.int .i64):=ltl (by simp)
     by_cases hcn : c <= nb
     ·have hle : (c : Int) <= nb:=by omega
      rw [rangeI_cons hle] at hrg
      have hrg2 : wantL ps' = (o2 ++ [(c : Int)]) ++ rangeI ((c + 1 : Nat) : Int) nb:=by rw [hrg]; simp
      clear hrg hwn2
      simp -implicitDefEqProofs (disch:=omega) only [h3,h4,h5,h6,h7,h9,h11,hh6_0,hh23_1,hle,htk2,go_sem,↓reduceIte,rA,rS,rE,rL,reduceCtorEq]
      refine ⟨(nb + 1 - (c + 1)),by simp only [id]; omega,(hZ _ _).2 ⟨c + 1,o2 ++ [(c : Int)],w2 + 1,?_,?_,?_,?_,?_,?_,?_,?_,?_,?_,?_,?_,?_,?_⟩⟩
      .rfl
      .omega
      .exact hrg2
      .exact by rw [lla]; simp only [llc,lln]; omega
      .omega
      all_goals exact cl0
     ·have hle : ¬ (c : Int) <= nb:=by omega
      rw [rangeI_nil (by omega),lan] at hrg
      have hol2 : o2.length <= 6 * (k + 1):=by omega
      clear hwn2
      simp -implicitDefEqProofs (disch:=omega) only [h3,h4,h5,h6,h7,h9,h11,hh6_0,hh23_1,hle,htk2,go_sem,↓reduceIte,rA,rS,rE,rL,reduceCtorEq]
      try refine And.intro (by omega) ?_
      refine (hI _ _).2 ⟨a3,xs',ps',S1,S2,o2,w2,?_,?_,?_,?_,?_,?_,?_,?_,?_,?_,?_,?_,?_,?_,?_⟩
      .exact q1
      .exact q2
      .exact hnp2
      .exact q3
      .exact he1
      .exact he2
      .exact hrg.symm
      .exact hol2
      all_goals exact cl0
 ·have hkn : k = n + 1:=by omega
  have hx0 : xs ≠ []:=fun e=>by rw [e] at hlk; simp at hlk; omega
  have hpl : ps.length = k:=by rw [<- hxs,llm,hlk]
  obtain ⟨p0,pr,hp0⟩ : ∃ p0 pr,ps = p0 :: pr:=by
   cases hps2 : ps with
   | nil=>rw [hps2] at hpl; simp at hpl; omega
   | cons p0 pr=>exact ⟨p0,pr,rfl⟩
  have hb0:=hps p0 (by rw [hp0]; exact lms ..)
  have hps1 : ∀ p ∈ ps,0 <= p.1 /\ p.1 <= p.2:=fun p hp=>⟨(hps p hp).1,(hps p hp).2.1⟩
  have hany : ps.any (highB 40) = false:=List.any_eq_false.2 fun p hp=>by
   have:=hps p hp
   simp only [highB,decide_eq_true_eq]
   omega
  have hany3 : ps.any (highB p0.1) = true:=List.any_eq_true.2 ⟨p0,by rw [hp0]; exact lms ..,by simp only [highB,decide_eq_true_eq]; omega⟩
  have hanyr : ps.reverse.any (highB 40) = false:=List.any_eq_false.2 fun p hp=>by
   have:=hps p (List.mem_reverse.1 hp)
   simp only [highB,decide_eq_true_eq]
   omega
  have e1 : parseT s1 40 = (sortU out,0):=by
   rw [hs1,parse_txts hx0 hxs hxk hps1,hany,hou]
   simp only [bft,if_false]
   rw [spanL_sort (qs:=ps) (fun p hp=>(hps p hp).1) fun p=>Iff.rfl]
  have e2 : parseT s2 40 = (sortU out,0):=by
   rw [hs2,parse_txts (ps:=ps.reverse) (by simpa using hx0) (by rw [List.map_reverse,hxs]) (fun x hx=>hxk x (List.mem_reverse.1 hx)) (fun p hp=>hps1 p (List.mem_reverse.1 hp)),hanyr,hou]
   simp only [bft,if_false]
   rw [spanL_sort (ps:=ps) (qs:=ps.reverse) (fun p hp=>(hps p hp).1) fun p=>List.mem_reverse]
  have e3 : parseT s1 p0.1 = ([],3):=by
   rw [hs1,parse_txts hx0 hxs hxk hps1,hany3]
   simp only [if_true]
  have hq1:=sparse_eq s1 40 (by omega)
  have hq2:=sparse_eq s2 40 (by omega)
  have hq3:=sparse_eq s1 p0.1 (by omega)
  rw [e1] at hq1
  rw [e2] at hq2
  rw [e3] at hq3
  simp only [lpn] at hq1 hq2 hq3
  have ho0 : out[0]? = some p0.1:=by
   rw [hou,hp0,wantL,lfc,rangeI_cons hb0.2.1]
   rfl
  have hz00 : Int.toNat 0 = 0:=rfl
  have hol0 : 0 < out.length:=(lgs.1 ho0).1
  have hrs:=rsorted_eq out (by omega)
  have hsl:=sortU_length out
  generalize sortU out = so at hq1 hq2 hrs hsl
  have hsm:=same3_eq so so (by omega) (by omega)
  rw [decide_eq_true rfl] at hsm
  have htk3 : List.take so.length (so.map (PV.int .i64)) = so.map (PV.int .i64):=ltl (by simp)
  simp -implicitDefEqProofs (disch:=omega) only [h3,h4,h5,h6,h7,hh6_0,hh23_1,hge,hq1,hq2,hz00,ho0,hq3,htk,hrs,htk3,hsm,hsane,go_sem,↓reduceIte,rA,rS,rE,rL,reduceCtorEq]
end Go.V
