/- Part 5 of the proof. -/
import Derived.Test.YtddgomjodbmohaaGreatDoorC2
import Derived.Sort.AssemblyPlain
import Derived.Lib.BitFns
import Derived.Test.YtddgomjodbmohaaGreatDoorC1
import Derived.Test.YtddgomjodbmohaaGreatDoorC3
import Derived.Test.YtddgomjodbmohaaGreatDoorC4
set_option linter.unusedSectionVars false
set_option linter.unusedSimpArgs false
set_option linter.unusedVariables false
open Nat renaming reduceAdd → rA, reduceSub → rS, reduceEqDiff → rE, reduceLeDiff → rL, le_refl → lrf
open List renaming getElem?_eq_getElem → lgg, getElem?_eq_some_iff → lgs, mem_of_getElem? → lmg, drop_eq_getElem_cons → ldg, mem_cons_of_mem → lmc, map_cons → lpc, drop_of_length_le → ldl, nil_append → lna, append_nil → lan, mem_map → lmm, mem_cons_self → lms, map_append → lma, take_of_length_le → ltl, length_cons → llc, length_append → lla, getElem?_append_right → lgr, mem_cons → lmk, map_nil → lpn, length_nil → lln, mem_append → lmp, length_map → llm, getElem_mem → lgk, length_take → llt, length_drop → lld, pairwise_cons → lpw, cons_append → lca
open Bool renaming and_eq_true → bat, false_eq_true → bft, true_and → bta, or_eq_true → bot
namespace Go.V
abbrev Sub (ps : List (Int × Int)):={ p : Int × Int // p ∈ ps }
def ltS {ps : List (Int × Int)} (x y : Sub ps) : Bool:=decide (x.1.1 - y.1.1 < 0)
theorem swoS {ps : List (Int × Int)} : Go.Sort.SWO (ltS (ps:=ps)) where
 irrefl x:=by simp [ltS]
 trans x y z h1 h2:=by simp [ltS] at *; omega
 ntrans x y z h1 h2:=by simp [ltS] at *; omega
noncomputable abbrev inhS {ps : List (Int × Int)} (h : ps ≠ []) : Inhabited (Sub ps):=⟨⟨ps.head h,List.head_mem h⟩⟩
noncomputable def sortA (ps : List (Int × Int)) (h : ps ≠ []) : Array (Sub ps):=letI:=inhS h; Go.Sort.pdq ltS ps.attach.toArray 0 ps.length (Lib.bitLen ps.length) true true
open Classical in
noncomputable def sortQ (ps : List (Int × Int)) : List (Int × Int):=if h : ps ≠ [] then (sortA ps h).toList.map Subtype.val else []
theorem sortA_ok (ps : List (Int × Int)) (h : ps ≠ []) : (sortA ps h).toList.Perm ps.attach /\ (sortA ps h).toList.Pairwise (fun x y=>x.1.1 <= y.1.1):=by
 letI:=inhS h
 have hs:=Go.Sort.pdq_sorts ltS swoS ps.attach.toArray 0 ps.length (Lib.bitLen ps.length) true true (Nat.zero_le _) (by simp) (Or.inl rfl)
 obtain ⟨⟨e1,_,e2⟩,e3⟩:=hs
 rw [show Go.Sort.pdq ltS ps.attach.toArray 0 ps.length (Lib.bitLen ps.length) true true = sortA ps h from rfl] at e1 e2 e3
 have hsz : (sortA ps h).size = ps.length:=by rw [e1]; simp
 have x1 : (sortA ps h).extract 0 ps.length = sortA ps h:=by rw [<- hsz]; exact Array.extract_size
 have x2 : (ps.attach.toArray).extract 0 ps.length = ps.attach.toArray:=by
  have : ps.attach.toArray.size = ps.length:=by simp
  rw [<- this]; exact Array.extract_size
 rw [x1,x2] at e2
 refine ⟨by simpa using e2,?_⟩
 rw [List.pairwise_iff_getElem]
 intro i j hi hj hij
 have hi' : i < (sortA ps h).size:=by simpa using hi
 have hj' : j < (sortA ps h).size:=by simpa using hj
 have:=e3 i j (Nat.zero_le _) hij (by omega)
 rw [getElem!_pos (sortA ps h) i hi',getElem!_pos (sortA ps h) j hj'] at this
 simp only [ltS,decide_eq_false_iff_not] at this
 simp only [Array.getElem_toList]
 omega
theorem sortQ_nil : sortQ [] = []:=by
 unfold sortQ
 rw [dif_neg (fun h=>h rfl)]
theorem sortQ_perm (ps : List (Int × Int)) : (sortQ ps).Perm ps:=by
 unfold sortQ
 split
 ·rename_i h
  have:=(sortA_ok ps h).1.map Subtype.val
  rwa [List.attach_map_subtype_val] at this
 ·rename_i h
  rw [Classical.not_not.1 h]
theorem sortQ_sorted (ps : List (Int × Int)) : (sortQ ps).Pairwise (fun x y=>x.1 <= y.1):=by
 unfold sortQ
 split
 ·rename_i h
  exact List.pairwise_map.2 (sortA_ok ps h).2
 .exact List.Pairwise.nil
noncomputable def XQ (g : FuncId) (args : List VVal) (H : List Ob) : Option (VVal × List Ob):=match args,H with
 | [.own (.arg 0 0) 0 0 n,.p (.fn g')],[.arr 2 xs]=>gd (g' = g) <| gd (n = xs.length) <| gd (n < 4611686018427387904) <| ob (mapO unPair xs) fun ps =>
   gd (∀ p ∈ ps,0 <= p.1 /\ p.1 < 4611686018427387904) (some (.tup [],[.arr 2 ((sortQ ps).map pairPV)]))
 | _,_=>none
end Go.V
namespace Go.V
noncomputable def XS : Sig:=fun f args H=>if f = 79 then XSplit args H else if f = 82 then XJoin args H else if f = 117 then XItoa args H else if f = 137 then XCut args H else if f = 115 then XQ 116 args H else if f = 119 then XI args H else if f = 120 then XC args H else if f = 118 then XClone 1 8 args H else if f = 121 then XGrow args H else none
noncomputable abbrev V : Sig:=vcall prog XS
theorem XS_none {f : FuncId} {vf : VFunc} (hf : prog f = some vf) (args : List VVal) (H : List Ob) : XS f args H = none:=by
 unfold XS
 have h0 : ¬ f = 79:=fun e=>by
  subst e
  exact absurd hf (by simp [prog])
 have h1 : ¬ f = 82:=fun e=>by
  subst e
  exact absurd hf (by simp [prog])
 have h2 : ¬ f = 117:=fun e=>by
  subst e
  exact absurd hf (by simp [prog])
 have h3 : ¬ f = 137:=fun e=>by
  subst e
  exact absurd hf (by simp [prog])
 have h4 : ¬ f = 115:=fun e=>by
  subst e
  exact absurd hf (by simp [prog])
 have h5 : ¬ f = 119:=fun e=>by
  subst e
  exact absurd hf (by simp [prog])
 have h6 : ¬ f = 120:=fun e=>by
  subst e
  exact absurd hf (by simp [prog])
 have h7 : ¬ f = 118:=fun e=>by
  subst e
  exact absurd hf (by simp [prog])
 have h8 : ¬ f = 121:=fun e=>by
  subst e
  exact absurd hf (by simp [prog])
 rw [if_neg h0,if_neg h1,if_neg h2,if_neg h3,if_neg h4,if_neg h5,if_neg h6,if_neg h7,if_neg h8]
theorem V_fix {f : FuncId} {vf : VFunc} (hf : prog f = some vf) {args : List VVal} {H : List Ob} {r : VVal × List Ob} (h : callF V vf args H = some r) : V f args H = some r:=vcall_fix (XS_none hf) hf h
theorem V_wp {f : FuncId} {vf : VFunc} (hf : prog f = some vf) {args : List VVal} {H : List Ob} {r : VVal × List Ob} (h : wp (callF V vf args H) (· = r)) : V f args H = some r:=V_fix hf (eq_of_wp h)
theorem V_x {f : FuncId} {args : List VVal} {H : List Ob} {r : VVal × List Ob} (h : XS f args H = some r) : V f args H = some r:=vcall_of (n:=0) h
theorem mapO_unS : ∀ (ss : List ByteArray),mapO unS (ss.map PV.str) = some ss
 | []=>rfl
 | s :: ss=>by
  simp only [lpc,mapO,unS,ob,mapO_unS ss]
theorem mapO_unPair : ∀ (ps : List (Int × Int)),mapO unPair (ps.map pairPV) = some ps
 | []=>rfl
 | p :: ps=>by
  simp only [lpc,mapO,unPair,ob,mapO_unPair ps]
theorem mapO_unI : ∀ (zs : List Int),mapO unI (zs.map (.int .i64)) = some zs
 | []=>rfl
 | z :: zs=>by
  simp only [lpc,mapO,unI,ob,mapO_unI zs]
theorem split_x {s sep : ByteArray} (hs : s.size < 4294967281) (h1 : 1 <= sep.size) : V 79 [.p (.str s),.p (.str sep)] [] = some (.fresh 1 ((splitS s sep).map PV.str),[]):=V_x (by
 simp only [XS,if_true,XSplit,gd,if_pos hs,if_pos h1])
theorem join_x {ss : List ByteArray} {sep : ByteArray} (hn : ss.length <= 140737488355328) (h : (Lib.join (ss.map (·.data.toList)) sep.data.toList).length <= 140737488355328) : V 82 [.own (.arg 0 0) 0 0 ss.length,.p (.str sep)] [.arr 1 (ss.map PV.str)] = some (.p (.str (joinS ss sep)),[.arr 1 (ss.map PV.str)]):=V_x (by
 have e0 : (82 : Nat) ≠ 79:=by decide
 simp only [XS,if_neg e0,if_true,XJoin,llm,mapO_unS,gd,ob,if_pos hn,if_pos h])
theorem itoa_x {n : Int} (h0 : -9223372036854775808 <= n) (h1 : n <= 9223372036854775807) : V 117 [.p (.int .i64 n)] [] = some (.p (.str (itoaS n)),[]):=V_x (by
 have e0 : (117 : Nat) ≠ 79:=by decide
 have e1 : (117 : Nat) ≠ 82:=by decide
 simp only [XS,if_neg e0,if_neg e1,if_true,XItoa,gd,h0,h1,and_self])
theorem cut_x {s sep : ByteArray} (hs : s.size < 4294967281) : V 137 [.p (.str s),.p (.str sep)] [] = some (.tup [.p (.str ⟨(cutS s sep).1.toArray⟩),.p (.str ⟨(cutS s sep).2.1.toArray⟩),.p (.bool (cutS s sep).2.2)],[]):=V_x (by
 have e0 : (137 : Nat) ≠ 79:=by decide
 have e1 : (137 : Nat) ≠ 82:=by decide
 have e2 : (137 : Nat) ≠ 117:=by decide
 simp only [XS,if_neg e0,if_neg e1,if_neg e2,if_true,XCut,gd,if_pos hs])
theorem sortF_x {ps : List (Int × Int)} (hn : ps.length < 4611686018427387904) (hb : ∀ p ∈ ps,0 <= p.1 /\ p.1 < 4611686018427387904) : V 115 [.own (.arg 0 0) 0 0 ps.length,.p (.fn 116)] [.arr 2 (ps.map pairPV)] = some (.tup [],[.arr 2 ((sortQ ps).map pairPV)]):=V_x (by
 have e0 : (115 : Nat) ≠ 79:=by decide
 have e1 : (115 : Nat) ≠ 82:=by decide
 have e2 : (115 : Nat) ≠ 117:=by decide
 have e3 : (115 : Nat) ≠ 137:=by decide
 simp only [XS,if_neg e0,if_neg e1,if_neg e2,if_neg e3,if_true,XQ,llm,mapO_unPair,gd,ob,if_pos hn,if_pos hb])
theorem sort_x {zs : List Int} (hn : zs.length < 4611686018427387904) : V 119 [.own (.arg 0 0) 0 0 zs.length] [.arr 1 (zs.map (.int .i64))] = some (.tup [],[.arr 1 ((zs.mergeSort fun x y=>decide (x <= y)).map (.int .i64))]):=V_x (by
 have e0 : (119 : Nat) ≠ 79:=by decide
 have e1 : (119 : Nat) ≠ 82:=by decide
 have e2 : (119 : Nat) ≠ 117:=by decide
 have e3 : (119 : Nat) ≠ 137:=by decide
 have e4 : (119 : Nat) ≠ 115:=by decide
 simp only [XS,if_neg e0,if_neg e1,if_neg e2,if_neg e3,if_neg e4,if_true,XI,llm,mapO_unI,gd,ob,if_pos hn])
theorem compact_x {zs : List Int} (hn : zs.length < 4611686018427387904) : V 120 [.own (.arg 0 0) 0 0 zs.length] [.arr 1 (zs.map (.int .i64))] = some (.own (.arg 0 0) 0 0 (compL zs).length,[.arr 1 ((compL zs ++ List.replicate (zs.length - (compL zs).length) 0).map (.int .i64))]):=V_x (by
 have e0 : (120 : Nat) ≠ 79:=by decide
 have e1 : (120 : Nat) ≠ 82:=by decide
 have e2 : (120 : Nat) ≠ 117:=by decide
 have e3 : (120 : Nat) ≠ 137:=by decide
 have e4 : (120 : Nat) ≠ 115:=by decide
 have e5 : (120 : Nat) ≠ 119:=by decide
 simp only [XS,if_neg e0,if_neg e1,if_neg e2,if_neg e3,if_neg e4,if_neg e5,if_true,XC,llm,mapO_unI,gd,ob,if_pos hn])
theorem cloneI_x {xs : List PV} (hn : xs.length < 1000000) : V 118 [.p (.slice 1 xs)] [] = some (.fresh 1 xs,[]):=V_x (by
 have e0 : (118 : Nat) ≠ 79:=by decide
 have e1 : (118 : Nat) ≠ 82:=by decide
 have e2 : (118 : Nat) ≠ 117:=by decide
 have e3 : (118 : Nat) ≠ 137:=by decide
 have e4 : (118 : Nat) ≠ 115:=by decide
 have e5 : (118 : Nat) ≠ 119:=by decide
 have e6 : (118 : Nat) ≠ 120:=by decide
 simp only [XS,if_neg e0,if_neg e1,if_neg e2,if_neg e3,if_neg e4,if_neg e5,if_neg e6,if_true,XClone,gd,if_pos (show xs.length * 8 <= 140737488355328 by omega),if_pos (show xs.length <= 9223372036854775807 by omega)])
theorem grow_x {n : Int} (h0 : 0 <= n) (h1 : n <= 1000000000) : V 121 [.p .nils,.p (.int .i64 n)] [] = some (.fresh 1 [],[]):=V_x (by
 have e0 : (121 : Nat) ≠ 79:=by decide
 have e1 : (121 : Nat) ≠ 82:=by decide
 have e2 : (121 : Nat) ≠ 117:=by decide
 have e3 : (121 : Nat) ≠ 137:=by decide
 have e4 : (121 : Nat) ≠ 115:=by decide
 have e5 : (121 : Nat) ≠ 119:=by decide
 have e6 : (121 : Nat) ≠ 120:=by decide
 have e7 : (121 : Nat) ≠ 118:=by decide
 simp only [XS,if_neg e0,if_neg e1,if_neg e2,if_neg e3,if_neg e4,if_neg e5,if_neg e6,if_neg e7,if_true,XGrow,gd,if_pos h0,if_pos h1])
end Go.V
namespace Go.V
def isD (c : UInt8) : Bool:=decide (48 <= c.toNat) && decide (c.toNat <= 57)
def valF (l : List UInt8) (n : Nat) : Nat:=l.foldl (fun n c=>10 * n + (c.toNat - 48)) n
abbrev valD (l : List UInt8) : Nat:=valF l 0
def okD (l : List UInt8) : Bool:=l.all isD && decide (1 <= l.length) && decide (l.length <= 9)
def numV (l : List UInt8) : Int:=if okD l = true then (valD l : Nat) else -1
theorem valF_snoc (l : List UInt8) (c : UInt8) (n : Nat) : valF (l ++ [c]) n = 10 * valF l n + (c.toNat - 48):=by simp [valF]
theorem valD_lt : ∀ (l : List UInt8) (n : Nat),l.all isD = true -> valF l n < (n + 1) * 10 ^ l.length
 | [],n,_=>by simp [valF]
 | c :: l,n,h=>by
  simp only [List.all_cons,bat] at h
  have ih:=valD_lt l (10 * n + (c.toNat - 48)) h.2
  have hc : c.toNat <= 57:=by
   have:=h.1
   simp only [isD,bat,decide_eq_true_eq] at this
   exact this.2
  rw [llc,Nat.pow_succ,<- Nat.mul_assoc,Nat.mul_right_comm]
  refine Nat.lt_of_lt_of_le ih (Nat.mul_le_mul_right _ (by omega))
theorem dec_len : ∀ (k u : Nat),u < 10 ^ (k + 1) -> (Lib.decDigits u).length <= k + 1
 | 0,u,h=>by
  rw [Lib.decDigits,dif_pos (by simpa using h)]
  simp
 | k + 1,u,h=>by
  rw [Lib.decDigits]
  split
  ·simp
  ·have:=dec_len k (u / 10) (by rw [Nat.pow_succ] at h; omega)
   simp only [lla,llc,lln]
   omega
def cutB (c : UInt8) : List UInt8 -> List (List UInt8)
 | []=>[[]]
 | b :: l=>if b = c then [] :: cutB c l else match cutB c l with
  | x :: xs=>(b :: x) :: xs
  | []=>[[b]]
theorem cutB_split (c : UInt8) : ∀ l : List UInt8,Lib.splitK [c] 0 (Lib.count l [c]) l = cutB c l
 | []=>rfl
 | b :: l=>by
  have ih:=cutB_split c l
  by_cases hb : b = c
  ·subst hb
   have hix : Lib.index (b :: l) [b] = 0:=by rw [Lib.index]; simp [List.isPrefixOf]
   rw [Lib.count_cons_eq,Nat.add_comm,Lib.splitK,hix]
   simp only [cutB,if_pos]
   rw [if_neg (by decide)]
   simp only [Int.toNat_zero,Nat.zero_add,List.take_zero,llc,lln,List.drop_succ_cons,List.drop_zero,ih]
  ·have hp : ([c] : List UInt8).isPrefixOf (b :: l) = false:=by simp [List.isPrefixOf,Ne.symm hb]
   have hix : Lib.index (b :: l) [c] = if Lib.index l [c] == -1 then -1 else Lib.index l [c] + 1:=by rw [Lib.index,hp]; simp
   rw [Lib.count_cons_ne b c l hb]
   simp only [cutB,if_neg hb]
   rw [<- ih]
   by_cases hm : Lib.index l [c] = -1
   ·rw [Lib.count_miss hm,Lib.splitK,Lib.splitK]
   ·have hge:=Lib.index_ge l [c]
    obtain ⟨j,hj⟩ : ∃ j : Nat,Lib.index l [c] = j:=⟨(Lib.index l [c]).toNat,by omega⟩
    have hix' : Lib.index (b :: l) [c] = ((j + 1 : Nat) : Int):=by rw [hix,if_neg (fun e=>hm (beq_iff_eq.1 e)),hj]; omega
    have hn : ¬ ((((j : Nat) : Int)) == -1) = true:=fun e=>by have:=beq_iff_eq.1 e; omega
    have hn' : ¬ ((((j + 1 : Nat) : Int)) == -1) = true:=fun e=>by have:=beq_iff_eq.1 e; omega
    rw [Lib.count_hit (by simp) hj,Nat.add_comm,Lib.splitK,Lib.splitK,hix',hj,if_neg hn,if_neg hn']
    simp only [Int.toNat_natCast,Nat.add_zero,llc,lln,List.take_succ_cons,List.drop_succ_cons]
theorem splitS_cutB (s : ByteArray) (c : UInt8) : (splitS s ⟨#[c]⟩).map (·.data.toList) = cutB c s.data.toList:=by
 rw [splitS,Lib.splitB_data]
 exact cutB_split c _
end Go.V
namespace Go.V
def runLen (x : Int) : List Int -> Nat
 | []=>0
 | b :: r=>if b = x + 1 then runLen b r + 1 else 0
theorem runLen_le (x : Int) : ∀ r : List Int,runLen x r <= r.length
 | []=>lrf _
 | b :: r=>by
  have:=runLen_le b r
  unfold runLen
  split <;> simp <;> omega
def runsR : List Int -> List (Int × Int)
 | []=>[]
 | x :: r=>(x,x + runLen x r) :: runsR (r.drop (runLen x r))
termination_by l=>l.length
decreasing_by simp; omega
theorem runsR_nil : runsR [] = []:=by rw [runsR]
theorem runsR_cons (x : Int) (r : List Int) : runsR (x :: r) = (x,x + runLen x r) :: runsR (r.drop (runLen x r)):=by rw [runsR]
def rangeI (a b : Int) : List Int:=(List.range (b + 1 - a).toNat).map fun k : Nat=>a + (k : Int)
theorem rangeI_nil {a b : Int} (h : b < a) : rangeI a b = []:=by
 rw [rangeI,show (b + 1 - a).toNat = 0 by omega]; rfl
theorem rangeI_cons {a b : Int} (h : a <= b) : rangeI a b = a :: rangeI (a + 1) b:=by
 rw [rangeI,show (b + 1 - a).toNat = (b + 1 - (a + 1)).toNat + 1 by omega,List.range_succ_eq_map,lpc,List.map_map]
 simp only [rangeI,Int.natCast_zero,Int.add_zero]
 congr 1
 apply List.map_congr_left
 intro k _
 simp only [Function.comp,Nat.succ_eq_add_one,Int.natCast_add,Int.natCast_one]
 omega
theorem mem_rangeI {a b x : Int} : x ∈ rangeI a b ↔ a <= x /\ x <= b:=by
 simp only [rangeI,lmm,List.mem_range]
 constructor
 .rintro ⟨k,hk,rfl⟩; omega
 .intro h; exact ⟨(x - a).toNat,by omega,by omega⟩
def spanL (next : Int) : List (Int × Int) -> List Int
 | []=>[]
 | p :: r=>rangeI (max next p.1) p.2 ++ spanL (max (max next p.1) (p.2 + 1)) r
abbrev Asc (l : List Int) : Prop:=l.Pairwise (· < ·)
theorem run_split : ∀ (r : List Int) (x : Int),x :: r = rangeI x (x + runLen x r) ++ r.drop (runLen x r)
 | [],x=>by
  rw [runLen,rangeI_cons (by omega),rangeI_nil (by omega)]; rfl
 | b :: r,x=>by
  unfold runLen
  split
  ·rename_i h
   subst h
   have ih:=run_split r (x + 1)
   rw [rangeI_cons (by omega),List.drop_succ_cons,lca,show x + ((runLen (x + 1) r + 1 : Nat) : Int) = x + 1 + runLen (x + 1) r by omega,<- ih]
  .rw [rangeI_cons (by omega),rangeI_nil (by omega)]; rfl
theorem runsR_asc : ∀ (n : Nat) (l : List Int),l.length <= n -> Asc l -> (∀ p ∈ runsR l,p.1 <= p.2 /\ p.1 ∈ l /\ p.2 ∈ l) /\ (runsR l).Pairwise (fun a b=>a.1 < b.1)
 | _,[],_,_=>by rw [runsR_nil]; exact ⟨by simp,List.Pairwise.nil⟩
 | 0,x :: r,h,_=>by simp at h
 | n + 1,x :: r,h,ha=>by
  have hk:=runLen_le x r
  have hs:=run_split r x
  have ha2:=ha
  rw [hs] at ha2
  have hp:=List.pairwise_append.1 ha2
  obtain ⟨i1,i2⟩:=runsR_asc n (r.drop (runLen x r)) (by simp at h ⊢; omega) hp.2.1
  rw [runsR_cons]
  refine ⟨fun p hp'=>?_,lpw.2 ⟨fun p hp'=>?_,i2⟩⟩
  ·rcases lmk.1 hp' with rfl | hp'
   ·refine ⟨by simp only; omega,lms ..,?_⟩
    rw [hs]
    exact List.mem_append_left _ (mem_rangeI.2 ⟨by omega,Int.le_refl _⟩)
   ·obtain ⟨j1,j2,j3⟩:=i1 p hp'
    exact ⟨j1,lmc _ (List.mem_of_mem_drop j2),lmc _ (List.mem_of_mem_drop j3)⟩
  .exact hp.2.2 x (mem_rangeI.2 ⟨by omega,by omega⟩) p.1 (i1 p hp').2.1
abbrev decB (n : Int) : List UInt8:=Lib.itoa n
def elemB (p : Int × Int) : List UInt8:=if p.1 < p.2 then decB p.1 ++ 45 :: decB p.2 else decB p.1
abbrev elemS (p : Int × Int) : ByteArray:=⟨(elemB p).toArray⟩
def elemV (l : List UInt8) : Int × Int:=(numV (Lib.cut l [45]).1,if (Lib.cut l [45]).2.2 = true then numV (Lib.cut l [45]).2.1 else numV (Lib.cut l [45]).1)
abbrev elemOk (p : Int × Int) : Bool:=decide (0 <= p.1) && decide (p.1 <= p.2)
def elemsV : List ByteArray -> Option (List (Int × Int))
 | []=>some []
 | s :: r=>if elemOk (elemV s.data.toList) = true then (elemsV r).map (elemV s.data.toList :: ·) else none
theorem itoa_pos {n : Int} (h : 0 <= n) : Lib.itoa n = Lib.decDigits n.toNat:=by rw [Lib.itoa,if_neg (by omega)]
end Go.V
namespace Go.V
structure Nd where
 id : Int
 parent : Int
 name : ByteArray
 control : Int
 kind : Int
 owner : Int
 deriving DecidableEq
def Nd.pv (n : Nd) : PV:=.agg [.int .i64 n.id,.int .i64 n.parent,.str n.name,.int .i64 n.control,.int .i64 n.kind,.int .i64 n.owner]
def Nd.vv (n : Nd) : VVal:=.agg [.p (.int .i64 n.id),.p (.int .i64 n.parent),.p (.str n.name),.p (.int .i64 n.control),.p (.int .i64 n.kind),.p (.int .i64 n.owner)]
abbrev nodesP (ns : List Nd) : PV:=.slice 6 (ns.map Nd.pv)
structure Tr where
 nodes : List Nd
 next : Int
abbrev Tr.vv (t : Tr) : VVal:=.agg [.p (nodesP t.nodes),.p (.int .i64 t.next)]
abbrev intsP (xs : List Int) : PV:=.slice 1 (xs.map (.int .i64))
attribute [go_sem] Nd.pv solid
theorem nodes_flat (ns : List Nd) : (ns.map Nd.pv).all PV.flat = true:=by
 rw [List.all_eq_true]
 intro x hx
 obtain ⟨n,_,rfl⟩:=lmm.1 hx
 rfl
theorem ints_flat (k : IntKind) (xs : List Int) : (xs.map (PV.int k)).all PV.flat = true:=by
 rw [List.all_eq_true]
 intro x hx
 obtain ⟨n,_,rfl⟩:=lmm.1 hx
 rfl
attribute [go_sem] nodes_flat ints_flat
theorem light_eq (xs : List PV) : V 8 [.p (.slice 1 xs)] [] = some (.p (.bool (decide (xs.length <= 600))),[]):=by
 refine V_fix (vf:=vf8) rfl ?_
 simp -implicitDefEqProofs (disch:=omega) only [vf8,vb8,go_sem,↓reduceIte,rA,rS,rE,rL,reduceCtorEq]
 simp only [show (600 : Int) = ((600 : Nat) : Int) from rfl,Int.ofNat_le]
abbrev diceB (L : List Int) (a : Nat) : Ob:=.box [.p (intsP L),.p (.int .i64 a)]
theorem roll_eq (L : List Int) : V 10 [.p (intsP L)] [] = some (.boxed [.p (intsP L),.p (.int .i64 0)],[]):=by
 refine V_fix (vf:=vf10) rfl ?_
 simp -implicitDefEqProofs (disch:=omega) only [vf10,vb10,go_sem,↓reduceIte,rA,rS,rE,rL,reduceCtorEq]
def nextV (L : List Int) (a : Nat) (n : Int) : Int:=if 1 <= n then (L.getD a 0) % n else 0
def nextA (L : List Int) (a : Nat) (n : Int) : Nat:=if a < L.length /\ 1 <= n then a + 1 else a
theorem emod_tmod {x n : Int} (h : 1 <= n) : x % n = if x.tmod n < 0 then x.tmod n + n else x.tmod n:=by
 have h3:=Int.emod_nonneg x (show n ≠ 0 by omega)
 have h4:=Int.emod_lt_of_pos x (show 0 < n by omega)
 have h5:=Int.tmod_eq_emod (a:=x) (b:=n)
 rw [h5]
 split <;> split <;> omega
theorem next_eq (L : List Int) (a : Nat) (n : Int) (hL : L.length < 4611686018427387904) (hn : n < 4611686018427387904) : V 15 [.ptr (.arg 0 0) 0 0,.p (.int .i64 n)] [diceB L a] = some (.p (.int .i64 (nextV L a n)),[diceB L (nextA L a n)]):=by
 refine V_wp (vf:=vf15) rfl ?_
 by_cases ha : L.length <= a
 ·simp -implicitDefEqProofs (disch:=omega) only [vf15,vb15,ha,go_sem,↓reduceIte,rA,rS,rE,rL,reduceCtorEq]
  simp [nextV,nextA,List.getD_eq_getElem?_getD,List.getElem?_eq_none ha,Nat.not_lt.2 ha]
 ·have hx : L[a]? = some (L.getD a 0):=by
   rw [List.getD_eq_getElem?_getD,lgg (by omega)]; rfl
  have ht : (((a : Int) + 1 - 1).toNat) = a:=by omega
  simp -implicitDefEqProofs (disch:=omega) only [vf15,vb15,ha,go_sem,↓reduceIte,rA,rS,rE,rL,reduceCtorEq]
  repeat' ((first | refine wp_grn_d (fun hb=>?_) (fun hb=>?_) | refine wp_gtn_d (fun hb=>?_) (fun hb=>?_) | refine wp_gr_d (fun hb=>?_) (fun hb=>?_) | refine wp_gt_d (fun hb=>?_) (fun hb=>?_) | refine wp_gr (fun hb=>?_) (fun hb=>?_) | refine wp_gt (fun hb=>?_) (fun hb=>?_) | refine wp_nt_d (fun hb=>?_) (fun hb=>?_) | refine wp_nt (fun hb=>?_) (fun hb=>?_) | refine wp_if_d (fun hb=>?_) (fun hb=>?_) | refine wp_if (fun hb=>?_) (fun hb=>?_)) <;> simp -implicitDefEqProofs (disch:=omega) only [hb,hx,ht,go_sem,↓reduceIte,rA,rS,rE,rL,reduceCtorEq])
  ·simp [nextV,nextA,show ¬ 1 <= n by omega]
  ·have:=emod_tmod (x:=L.getD a 0) (n:=n) (by omega)
   rw [if_pos (by assumption)] at this
   have h1:=Int.tmod_lt_of_pos (L.getD a 0) (show 0 < n by omega)
   have h2:=Int.emod_nonneg (L.getD a 0) (show n ≠ 0 by omega)
   rw [wrap64 (by omega) (by omega),<- this]
   simp only [nextV,nextA,show 1 <= n by omega,show a < L.length by omega,and_self,if_true,diceB,Int.natCast_add,Int.natCast_one]
  ·have:=emod_tmod (x:=L.getD a 0) (n:=n) (by omega)
   rw [if_neg (by assumption)] at this
   rw [<- this]
   simp only [nextV,nextA,show 1 <= n by omega,show a < L.length by omega,and_self,if_true,diceB,Int.natCast_add,Int.natCast_one]
theorem nextV_nonneg (L : List Int) (a : Nat) (n : Int) : 0 <= nextV L a n:=by
 unfold nextV
 split
 .exact Int.emod_nonneg _ (by omega)
 .omega
theorem nextV_lt (L : List Int) (a : Nat) {n : Int} (h : 1 <= n) : nextV L a n < n:=by
 unfold nextV
 rw [if_pos h]
 exact Int.emod_lt_of_pos _ (by omega)
theorem take_snoc {α : Type} {l : List α} {k : Nat} {x : α} (h : l[k]? = some x) : l.take (k + 1) = l.take k ++ [x]:=by
 rw [List.take_add_one,h]
 rfl
theorem take_map_self {α β : Type} (f : α -> β) (l : List α) : List.take l.length (l.map f) = l.map f:=by
 rw [ltl (by simp)]
theorem take_map_snoc {α β : Type} (f : α -> β) (l : List α) (x : β) : List.take (l.length + 1) (l.map f ++ [x]) = l.map f ++ [x]:=by
 rw [ltl (by simp)]
attribute [go_sem] take_map_self take_map_snoc
end Go.V
namespace Go.V
theorem isD_iff (c : UInt8) : (isD c = true) = (48 <= (c.toNat : Int) /\ (c.toNat : Int) <= 57):=by
 simp only [isD,bat,decide_eq_true_eq]
 apply propext
 omega
theorem wrap8 {n : Int} (h0 : 0 <= n) (h1 : n < 256) : IntKind.u8.wrap n = n:=by
 simp [IntKind.wrap,IntKind.bits,IntKind.signed]
 omega
theorem numV_bad {l : List UInt8} {k : Nat} {c : UInt8} (h : l[k]? = some c) (hc : ¬ isD c = true) : numV l = -1:=by
 have hm:=lmg h
 have : okD l = false:=by
  cases e : okD l with
  | false=>rfl
  | true =>
   simp only [okD,bat,List.all_eq_true] at e
   exact absurd (e.1.1 c hm) hc
 rw [numV,if_neg (by rw [this]; exact Bool.false_ne_true)]
set_option maxHeartbeats 1000000 in
theorem number_eq (x : ByteArray) (hs : x.size < 4294967281) : V 138 [.p (.str x)] [] = some (.p (.int .i64 (numV x.data.toList)),[]):=by
 refine V_wp (vf:=vf138) rfl ?_
 have hsl : x.data.toList.length = x.size:=rfl
 have he : decide (x = ⟨#[]⟩) = decide (x.data.toList.length = 0):=by
  rw [decide_eq_decide]
  constructor
  ·rintro rfl; rfl
  ·intro h
   obtain ⟨⟨d⟩⟩:=x
   cases d with
   | nil=>rfl
   | cons=>simp at h
 generalize hl : x.data.toList = l at hsl he
 simp -implicitDefEqProofs (disch:=omega) only [vf138,vb138,hl,go_sem,↓reduceIte,rA,rS,rE,rL,reduceCtorEq]
 obtain ⟨I,hI⟩ : ∃ I : Nat -> St -> Prop,∀ k s,I k s ↔ (l.take k).all isD = true /\ s.pe 0 = .p (PV.str x) /\ s.pe 3 = .p (.int .i64 ((min (valD (l.take k)) 1073741824 : Nat) : Int)) /\ s.pe 7 = .p (PV.slice 1 (List.map (fun b ↦ PV.int IntKind.u8 ↑b.toNat) l)) /\ s.pe 8 = .p (.int .i64 ↑l.length) /\ s.pe 9 = .p (.int .i64 k):=⟨_,fun _ _=>Iff.rfl⟩
 refine wp_count (l.length) I ?_ ?_
 ·refine (hI _ _).2 ⟨?_,?_,?_,?_,?_,?_⟩
  ·rfl
  all_goals exact cl0
 intro k s hk hIk
 obtain ⟨hd,h0,h3,h7,h8,h9⟩:=(hI _ _).1 hIk
 clear hIk
 generalize hv : valD (l.take k) = v at h3
 obtain ⟨m,hm⟩ : ∃ m : Nat,m = min v 1073741824:=⟨_,rfl⟩
 rw [<- hm] at h3
 have hm1 : m <= 1073741824:=by omega
 simp -implicitDefEqProofs (disch:=omega) only [h0,h3,h7,h8,h9,go_sem,↓reduceIte,rA,rS,rE,rL,reduceCtorEq]
 refine wp_if_d (fun hlt=>?_) (fun hge=>?_)
 ·have hc : l[k]? = some l[k]:=lgg (by omega)
  have htk:=take_snoc hc
  generalize l[k] = c at hc htk
  by_cases hD : isD c = true
  ·have hD2:=hD
   rw [isD_iff] at hD2
   have f1 : ¬ (c.toNat : Int) < 48:=by omega
   have f2 : ¬ (c.toNat : Int) > 57:=by omega
   have w1 : IntKind.u8.wrap ((c.toNat : Int) - 48) = (c.toNat : Int) - 48:=wrap8 (by omega) (by omega)
   have w2 : (10 * (m : Int) + ((c.toNat : Int) - 48)) = ((10 * m + (c.toNat - 48) : Nat) : Int):=by omega
   have htv : valD (l.take (k + 1)) = 10 * v + (c.toNat - 48):=by rw [htk,valD,valF_snoc,<- hv]
   have w3 : min ((10 * m + (c.toNat - 48) : Nat) : Int) 1073741824 = ((min (10 * v + (c.toNat - 48)) 1073741824 : Nat) : Int):=by omega
   simp -implicitDefEqProofs (disch:=omega) only [h0,h3,h7,h8,h9,hlt,hc,f1,f2,w1,w2,w3,go_sem,↓reduceIte,rA,rS,rE,rL,reduceCtorEq]
   have hd2 : (l.take (k + 1)).all isD = true:=by rw [htk,List.all_append,hd]; simp [hD]
   clear htk hm
   try refine And.intro (by omega) ?_
   refine (hI _ _).2 ⟨?_,?_,?_,?_,?_,?_⟩
   ·exact hd2
   all_goals exact cl0
  ·rw [numV_bad hc hD]
   rw [isD_iff] at hD
   by_cases f1 : (c.toNat : Int) < 48
   ·simp -implicitDefEqProofs (disch:=omega) only [h0,h3,h7,h8,h9,hlt,hc,f1,go_sem,↓reduceIte,rA,rS,rE,rL,reduceCtorEq]
   ·have f2 : (c.toNat : Int) > 57:=by omega
    simp -implicitDefEqProofs (disch:=omega) only [h0,h3,h7,h8,h9,hlt,hc,f1,f2,go_sem,↓reduceIte,rA,rS,rE,rL,reduceCtorEq]
 ·have hk : k = l.length:=by omega
  subst hk
  rw [List.take_length] at hd hv
  by_cases hz0 : l.length = 0
  ·have hn : numV l = -1:=by rw [numV,if_neg (by simp [okD,hz0])]
   have he1 : decide (x = ⟨#[]⟩) = true:=by rw [he,hz0]; rfl
   rw [hn]
   simp -implicitDefEqProofs (disch:=omega) only [h0,h3,h7,h8,h9,hge,he1,go_sem,↓reduceIte,rA,rS,rE,rL,reduceCtorEq]
  ·have he1 : decide (x = ⟨#[]⟩) = false:=by rw [he]; simpa using hz0
   by_cases h9 : (x.size : Int) > 9
   ·have hn : numV l = -1:=by rw [numV,if_neg (by simp [okD]; omega)]
    rw [hn]
    simp -implicitDefEqProofs (disch:=omega) only [h0,h3,h7,h8,h9,hge,he1,h9,go_sem,↓reduceIte,rA,rS,rE,rL,reduceCtorEq]
   ·have hn : numV l = (v : Int):=by
     rw [numV,if_pos (by simp only [okD,hd,bta,bat,decide_eq_true_eq]; omega),hv]
    have hlt:=valD_lt l 0 hd
    rw [Nat.zero_add,Nat.one_mul] at hlt
    have hpw : 10 ^ l.length <= 10 ^ 9:=Nat.pow_le_pow_right (by omega) (by omega)
    have hmv : m = v:=by
     have : v < 10 ^ 9:=by rw [<- hv]; exact Nat.lt_of_lt_of_le hlt hpw
     omega
    rw [hn,<- hmv]
    simp -implicitDefEqProofs (disch:=omega) only [h0,h3,h7,h8,h9,hge,he1,h9,go_sem,↓reduceIte,rA,rS,rE,rL,reduceCtorEq]
theorem cut_le (l sep : List UInt8) : (Lib.cut l sep).1.length <= l.length /\ (Lib.cut l sep).2.1.length <= l.length:=by
 unfold Lib.cut
 split
 ·simp only [llt,lld]
  omega
 .simp
abbrev pairVV (p : Int × Int) : VVal:=.agg [.p (.int .i64 p.1),.p (.int .i64 p.2)]
set_option maxHeartbeats 1000000 in
theorem element_eq (x : ByteArray) (hs : x.size < 4294967281) : V 112 [.p (.str x)] [] = some (.tup [pairVV (elemV x.data.toList),.p (.bool (elemOk (elemV x.data.toList)))],[]):=by
 refine V_wp (vf:=vf112) rfl ?_
 have hc:=cut_x (s:=x) (sep:=⟨#[45]⟩) hs
 obtain ⟨c1,c2⟩:=cut_le x.data.toList [45]
 have hsl : x.data.toList.length = x.size:=rfl
 have hn1:=number_eq ⟨(Lib.cut x.data.toList [45]).1.toArray⟩ (by show (Lib.cut x.data.toList [45]).1.length < _; omega)
 have hn2:=number_eq ⟨(Lib.cut x.data.toList [45]).2.1.toArray⟩ (by show (Lib.cut x.data.toList [45]).2.1.length < _; omega)
 simp only at hn1 hn2
 unfold elemV elemOk
 rw [show cutS x ⟨#[45]⟩ = Lib.cut x.data.toList [45] from rfl] at hc
 generalize Lib.cut x.data.toList [45] = q at hc hn1 hn2 ⊢
 obtain ⟨q1,q2,q3⟩:=q
 simp only at hc hn1 hn2 ⊢
 generalize numV q1 = a at hn1 ⊢
 generalize numV q2 = b at hn2 ⊢
 cases q3
 ·by_cases ha : 0 <= a
  .simp -implicitDefEqProofs (disch:=omega) only [vf112,vb112,hc,hn1,ha,go_sem,↓reduceIte,rA,rS,rE,rL,reduceCtorEq]
  .simp -implicitDefEqProofs (disch:=omega) only [vf112,vb112,hc,hn1,ha,go_sem,↓reduceIte,rA,rS,rE,rL,reduceCtorEq]
 ·by_cases ha : 0 <= a
  .simp -implicitDefEqProofs (disch:=omega) only [vf112,vb112,hc,hn1,hn2,ha,go_sem,↓reduceIte,rA,rS,rE,rL,reduceCtorEq]
  .simp -implicitDefEqProofs (disch:=omega) only [vf112,vb112,hc,hn1,hn2,ha,go_sem,↓reduceIte,rA,rS,rE,rL,reduceCtorEq]
end Go.V
namespace Go.V
def idxF (f : Int × Int -> Bool) : List (Int × Int) -> Nat -> Int
 | [],_=>-1
 | x :: r,k=>if f x = true then (k : Int) else idxF f r (k + 1)
theorem idxF_cons (f : Int × Int -> Bool) (x : Int × Int) (r : List (Int × Int)) (k : Nat) : idxF f (x :: r) k = if f x = true then (k : Int) else idxF f r (k + 1):=rfl
theorem idxF_nil (f : Int × Int -> Bool) (k : Nat) : idxF f [] k = -1:=rfl
theorem idxF_any (f : Int × Int -> Bool) : ∀ (l : List (Int × Int)) (k : Nat),decide (idxF f l k ≥ 0) = l.any f
 | [],k=>rfl
 | x :: r,k=>by
  unfold idxF
  rw [List.any_cons]
  split
  ·rename_i h
   rw [h,Bool.true_or]
   exact decide_eq_true (Int.natCast_nonneg _)
  ·rename_i h
   rw [idxF_any f r (k + 1)]
   simp [h]
abbrev spansP (ps : List (Int × Int)) : PV:=.slice 2 (ps.map pairPV)
abbrev highB (n : Int) (p : Int × Int) : Bool:=decide (p.2 ≥ min n 65536)
theorem high_eq (p : Int × Int) (n : Int) : V 114 [pairVV p,.ptr (.arg 0 0) 0 0] [.box [.p (.int .i64 n)]] = some (.p (.bool (highB n p)),[.box [.p (.int .i64 n)]]):=by
 refine V_wp (vf:=vf114) rfl ?_
 simp -implicitDefEqProofs (disch:=omega) only [vf114,vb114,go_sem,↓reduceIte,rA,rS,rE,rL,reduceCtorEq]
theorem spans_flat (ps : List (Int × Int)) : (ps.map pairPV).all PV.flat = true:=by
 rw [List.all_eq_true]
 intro x hx
 obtain ⟨n,_,rfl⟩:=lmm.1 hx
 rfl
attribute [go_sem] spans_flat
theorem indexSpan_eq (ps : List (Int × Int)) (n : Int) (hl : ps.length < 4611686018427387904) : V 139 [.p (spansP ps),.fn 114 [.ptr (.arg 0 0) 0 0]] [.box [.p (.int .i64 n)]] = some (.p (.int .i64 (idxF (highB n) ps 0)),[.box [.p (.int .i64 n)]]):=by
 refine V_wp (vf:=vf139) rfl ?_
 simp -implicitDefEqProofs (disch:=omega) only [vf139,vb139,go_sem,↓reduceIte,rA,rS,rE,rL,reduceCtorEq]
 refine wp_count ps.length (fun k s=>idxF (highB n) ps 0 = idxF (highB n) (ps.drop k) k /\ s.pe 0 = .p (spansP ps) /\ s.pe 1 = .fn 114 [.ptr (.arg 0 0) 0 0] /\ s.pe 7 = .p (.int .i64 ps.length) /\ s.pe 8 = .p (.int .i64 k) /\ s.h (.arg 0 0) = some (0,.box [.p (.int .i64 n)])) ?_ ?_
 ·exact ⟨rfl,rfl,rfl,rfl,rfl,rfl⟩
 ·rintro k s hk ⟨hall,h0,h1,h7,h8,hh⟩
  simp -implicitDefEqProofs (disch:=omega) only [h0,h1,h7,h8,hh,go_sem,↓reduceIte,rA,rS,rE,rL,reduceCtorEq]
  refine wp_if_d (fun hlt=>?_) (fun hge=>?_)
  ·have hm : ps[k]? = some ps[k]:=lgg hlt
   have hd : ps.drop k = ps[k] :: ps.drop (k + 1):=ldg (by omega)
   generalize ps[k] = m at hm hd
   rw [hd,idxF_cons] at hall
   have hc:=high_eq m n
   generalize highB n m = b at hc hall
   cases b
   ·rw [if_neg Bool.false_ne_true] at hall
    simp -implicitDefEqProofs (disch:=omega) only [h0,h1,h7,h8,hh,hm,hc,go_sem,↓reduceIte,rA,rS,rE,rL,reduceCtorEq]
    exact ⟨hlt,hall,by simp only [Int.natCast_add,Int.natCast_one]⟩
   ·rw [if_pos rfl] at hall
    simp -implicitDefEqProofs (disch:=omega) only [h0,h1,h7,h8,hh,hm,hc,go_sem,↓reduceIte,rA,rS,rE,rL,reduceCtorEq]
    rw [hall]
  ·rw [ldl (by omega)] at hall
   simp -implicitDefEqProofs (disch:=omega) only [h0,h1,h7,h8,hh,hge,go_sem,↓reduceIte,rA,rS,rE,rL,reduceCtorEq]
   rw [hall,idxF_nil]
theorem contains_eq (ps : List (Int × Int)) (n : Int) (hl : ps.length < 4611686018427387904) : V 113 [.p (spansP ps),.fn 114 [.ptr (.arg 0 0) 0 0]] [.box [.p (.int .i64 n)]] = some (.p (.bool (ps.any (highB n))),[.box [.p (.int .i64 n)]]):=by
 refine V_wp (vf:=vf113) rfl ?_
 have hc:=indexSpan_eq ps n hl
 have ha:=idxF_any (highB n) ps 0
 generalize idxF (highB n) ps 0 = i at hc ha
 generalize ps.any (highB n) = b at ha ⊢
 simp -implicitDefEqProofs (disch:=omega) only [vf113,vb113,hc,ha,go_sem,↓reduceIte,rA,rS,rE,rL,reduceCtorEq]
theorem cutB_len (c : UInt8) : ∀ l : List UInt8,(∀ p ∈ cutB c l,p.length <= l.length) /\ (cutB c l).length <= l.length + 1
 | []=>by simp [cutB]
 | b :: l=>by
  obtain ⟨i1,i2⟩:=cutB_len c l
  unfold cutB
  split
  ·refine ⟨fun p hp=>?_,by simp; omega⟩
   rcases lmk.1 hp with rfl | hp
   ·simp
   ·have:=i1 p hp; simp; omega
  ·split
   ·rename_i x xs h
    rw [h] at i1 i2
    refine ⟨fun p hp=>?_,by simp at i2 ⊢; omega⟩
    rcases lmk.1 hp with rfl | hp
    .have:=i1 x (lms ..); simp; omega
    .have:=i1 p (lmc _ hp); simp; omega
   .simp
theorem split_len (x : ByteArray) (c : UInt8) : (∀ w ∈ splitS x ⟨#[c]⟩,w.size <= x.size) /\ (splitS x ⟨#[c]⟩).length <= x.size + 1:=by
 have h:=splitS_cutB x c
 obtain ⟨h1,h2⟩:=cutB_len c x.data.toList
 rw [<- h] at h1 h2
 refine ⟨fun w hw=>h1 _ (List.mem_map_of_mem hw),by simpa using h2⟩
theorem numV_lt (l : List UInt8) : numV l < 1000000000:=by
 unfold numV
 split
 ·rename_i h
  simp only [okD,bat,decide_eq_true_eq] at h
  have h1:=valD_lt l 0 h.1.1
  rw [Nat.zero_add,Nat.one_mul] at h1
  have hpw : 10 ^ l.length <= 10 ^ 9:=Nat.pow_le_pow_right (by omega) (by omega)
  have : valD l < 10 ^ 9:=Nat.lt_of_lt_of_le h1 hpw
  omega
 .omega
theorem elemV_lt (l : List UInt8) : (elemV l).2 < 1000000000:=by
 unfold elemV
 simp only
 split <;> exact numV_lt _
abbrev okP (p : Int × Int) : Prop:=0 <= p.1 /\ p.1 <= p.2 /\ p.2 < 1000000000
theorem elemsV_cons (w : ByteArray) (r : List ByteArray) : elemsV (w :: r) = if elemOk (elemV w.data.toList) = true then (elemsV r).map (elemV w.data.toList :: ·) else none:=rfl
noncomputable def parseT (x : ByteArray) (n : Int) : List Int × Int :=
 if x = ⟨#[]⟩ then ([],0) else match elemsV (splitS x ⟨#[44]⟩) with
  | none=>([],2)
  | some ps=>if ps.any (highB n) = true then ([],3) else (spanL 0 (sortQ ps),0)
set_option maxHeartbeats 8000000 in
theorem sparse_eq (x : ByteArray) (n : Int) (hs : x.size < 4294967281) : V 68 [.p (.str x),.p (.int .i64 n)] [] = some (.tup [.fresh 1 ((parseT x n).1.map (.int .i64)),.p (.int .i64 (parseT x n).2)],[]):=by
 refine V_wp (vf:=vf68) rfl ?_
 unfold parseT
 by_cases he : x = ⟨#[]⟩
 ·have hd : decide (x = ⟨#[]⟩) = true:=decide_eq_true he
  rw [if_pos he]
  simp -implicitDefEqProofs (disch:=omega) only [vf68,vb68,hd,go_sem,↓reduceIte,rA,rS,rE,rL,reduceCtorEq]
 have hd : decide (x = ⟨#[]⟩) = false:=decide_eq_false he
 rw [if_neg he]
 have h1:=split_x (sep:=⟨#[44]⟩) hs (by decide)
 obtain ⟨hw1,hw2⟩:=split_len x 44
 generalize splitS x ⟨#[44]⟩ = ws at h1 hw1 hw2 ⊢
 simp -implicitDefEqProofs (disch:=omega) only [vf68,vb68,hd,h1,go_sem,↓reduceIte,rA,rS,rE,rL,reduceCtorEq]
 obtain ⟨I,hI⟩ : ∃ I : Nat -> St -> Prop,∀ k s,I k s ↔ ∃ (acc : List (Int × Int)) (ww : Nat),elemsV ws = (elemsV (ws.drop k)).map (acc ++ ·) /\ (∀ p ∈ acc,okP p) /\ acc.length = k /\ s.pe 3 = .ptr (.slot 3 0) 0 0 /\ s.pe 6 = .own (.slot 6 0) ww 0 acc.length /\ s.pe 18 = .own (.slot 18 1) 0 0 ws.length /\ s.pe 19 = .p (.int .i64 ↑ws.length) /\ s.pe 20 = .p (.int .i64 k) /\ s.h (.slot 3 0) = some (0,Ob.box [.p (.int .i64 n)]) /\ s.h (.slot 6 0) = some (ww,Ob.arr 2 (acc.map pairPV)) /\ s.h (.slot 18 1) = some (0,Ob.arr 1 (List.map PV.str ws)):=⟨_,fun _ _=>Iff.rfl⟩
 refine wp_count (ws.length) I ?_ ?_
 ·refine (hI _ _).2 ⟨[],0,?_,?_,?_,?_,?_,?_,?_,?_,?_,?_,?_⟩
  ·exact by rw [List.drop_zero]; cases elemsV ws <;> rfl
  ·exact by simp
  ·rfl
  all_goals exact cl0
 intro k s hk hIk
 obtain ⟨acc,ww,ha,hb,hl,h3,h6,h18,h19,h20,hh3_0,hh6_0,hh18_1⟩:=(hI _ _).1 hIk
 clear hIk
 simp -implicitDefEqProofs (disch:=omega) only [h3,h6,h18,h19,h20,hh3_0,hh6_0,hh18_1,go_sem,↓reduceIte,rA,rS,rE,rL,reduceCtorEq]
 refine wp_if_d (fun hlt=>?_) (fun hge=>?_)
 ·have hc : ws[k]? = some ws[k]:=lgg (by omega)
  have hdr : ws.drop k = ws[k] :: ws.drop (k + 1):=ldg (by omega)
  have hwk:=hw1 _ (lgk (show k < ws.length by omega))
  generalize ws[k] = w at hc hdr hwk
  rw [hdr,elemsV_cons] at ha
  have hel:=element_eq w (by omega)
  have hlt9:=elemV_lt w.data.toList
  generalize elemV w.data.toList = q at hel ha hlt9
  have htk : List.take acc.length (acc.map pairPV) = acc.map pairPV:=ltl (by simp)
  by_cases hq : elemOk q = true
  ·rw [hq] at hel
   rw [if_pos hq] at ha
   simp only [elemOk,bat,decide_eq_true_eq] at hq
   have ha2 : elemsV ws = (elemsV (ws.drop (k + 1))).map ((acc ++ [q]) ++ ·):=by
    rw [ha,Option.map_map]
    congr 1
    funext r
    simp
   have hb2 : ∀ p ∈ acc ++ [q],okP p:=fun p hp=>by
    rcases lmp.1 hp with hp | hp
    ·exact hb p hp
    ·rw [List.mem_singleton.1 hp]; exact ⟨hq.1,hq.2,hlt9⟩
   clear ha
   simp -implicitDefEqProofs (disch:=omega) only [h3,h6,h18,h19,h20,hh3_0,hh6_0,hh18_1,hlt,hc,hel,htk,go_sem,↓reduceIte,rA,rS,rE,rL,reduceCtorEq]
   try refine And.intro (by omega) ?_
   refine (hI _ _).2 ⟨acc ++ [q],ww + 1,?_,?_,?_,?_,?_,?_,?_,?_,?_,?_,?_⟩
   ·exact ha2
   ·exact hb2
   ·exact by rw [lla,hl]; rfl
   all_goals exact cl0
  ·rw [if_neg hq] at ha
   have hq2 : elemOk q = false:=by simpa using hq
   rw [hq2] at hel
   rw [ha]
   simp -implicitDefEqProofs (disch:=omega) only [h3,h6,h18,h19,h20,hh3_0,hh6_0,hh18_1,hlt,hc,hel,htk,go_sem,↓reduceIte,rA,rS,rE,rL,reduceCtorEq]
 ·have hkn : k = ws.length:=by omega
  have hnil : elemsV (ws.drop k) = some []:=by rw [ldl (by omega)]; rfl
  have ha3 : elemsV ws = some acc:=by rw [ha,hnil]; simp
  clear ha hnil
  rw [ha3]
  have hco:=contains_eq acc n (by omega)
  have htk : List.take acc.length (acc.map pairPV) = acc.map pairPV:=ltl (by simp)
  by_cases hany : acc.any (highB n) = true
  ·rw [hany] at hco
   simp -implicitDefEqProofs (disch:=omega) only [h3,h6,h18,h19,h20,hh3_0,hh6_0,hh18_1,hge,htk,hco,go_sem,↓reduceIte,rA,rS,rE,rL,reduceCtorEq]
   simp only [hany,if_true,lpn]
  ·have hany2 : acc.any (highB n) = false:=by simpa using hany
   rw [hany2] at hco
   simp only [hany2,bft,if_false]
   have hso:=sortF_x (ps:=acc) (by omega) fun p hp=>by have:=hb p hp; exact ⟨this.1,by omega⟩
   have hqn:=(sortQ_perm acc).length_eq
   have hhi : ∀ p ∈ sortQ acc,okP p /\ p.2 < 65536:=fun p hp=>by
    have hm:=(sortQ_perm acc).subset hp
    have h0:=List.any_eq_false.1 hany2 p hm
    simp only [highB,decide_eq_true_eq] at h0
    exact ⟨hb p hm,by omega⟩
   simp -implicitDefEqProofs (disch:=omega) only [h3,h6,h18,h19,h20,hh3_0,hh6_0,hh18_1,hge,htk,hco,hso,go_sem,↓reduceIte,rA,rS,rE,rL,reduceCtorEq]
   generalize sortQ acc = qs at hqn hhi ⊢
   rw [<- hqn]
   obtain ⟨J,hJ⟩ : ∃ I : Nat -> St -> Prop,∀ j s,I j s ↔ ∃ (vv : Nat) (out : List Int) (next : Int),spanL 0 qs = out ++ spanL next (qs.drop j) /\ 0 <= next /\ next <= 65536 /\ (out.length : Int) <= next /\ s.pe 11 = .own (.slot 11 0) vv 0 out.length /\ s.pe 12 = .p (.int .i64 next) /\ s.pe 41 = .own (.slot 6 0) ww 0 qs.length /\ s.pe 42 = .p (.int .i64 ↑qs.length) /\ s.pe 43 = .p (.int .i64 j) /\ s.h (.slot 6 0) = some (ww,Ob.arr 2 (List.map pairPV qs)) /\ s.h (.slot 11 0) = some (vv,Ob.arr 1 (out.map (.int .i64))):=⟨_,fun _ _=>Iff.rfl⟩
   refine wp_count (qs.length) J ?_ ?_
   ·refine (hJ _ _).2 ⟨nv (fzOb [4] s.h (.slot 11 0)),[],0,?_,?_,?_,?_,?_,?_,?_,?_,?_,?_,?_⟩
    ·rfl
    ·exact cl3
    ·exact cl3
    ·exact cl3
    all_goals exact cl0
   intro j s hj hJk
   obtain ⟨vv,out,next,hsp,hn0,hn1,hol,h11,h12,h41,h42,h43,hh6_0,hh11_0⟩:=(hJ _ _).1 hJk
   clear hJk
   simp -implicitDefEqProofs (disch:=omega) only [h11,h12,h41,h42,h43,hh6_0,hh11_0,go_sem,↓reduceIte,rA,rS,rE,rL,reduceCtorEq]
   refine wp_if_d (fun hlt2=>?_) (fun hge2=>?_)
   ·have hc : qs[j]? = some qs[j]:=lgg (by omega)
    have hdr : qs.drop j = qs[j] :: qs.drop (j + 1):=ldg (by omega)
    have hpp:=hhi _ (lgk (show j < qs.length by omega))
    generalize qs[j] = p at hc hdr hpp
    obtain ⟨p1,p2⟩:=p
    simp only at hpp
    rw [hdr] at hsp
    simp only [spanL] at hsp
    generalize hR : spanL (max (max next p1) (p2 + 1)) (qs.drop (j + 1)) = R at hsp
    simp -implicitDefEqProofs (disch:=omega) only [h11,h12,h41,h42,h43,hh6_0,hh11_0,hlt2,hc,go_sem,↓reduceIte,rA,rS,rE,rL,reduceCtorEq]
    generalize hmx : max next p1 = mx at hsp hR ⊢
    obtain ⟨M,hM⟩ : ∃ I : Nat -> St -> Prop,∀ m s,I m s ↔ ∃ (v2 : Nat) (out2 : List Int) (nx : Int) (v14_0 : Nat),m = (p2 + 1 - nx).toNat /\ spanL 0 qs = out2 ++ (rangeI nx p2 ++ R) /\ mx <= nx /\ (nx <= p2 + 1 \/ nx = mx) /\ (out2.length : Int) <= nx /\ s.pe 11 = .own (.slot 11 0) v2 0 out2.length /\ s.pe 12 = .p (.int .i64 nx) /\ s.pe 14 = .ptr (.slot 14 0) v14_0 0 /\ s.pe 41 = .own (.slot 6 0) ww 0 qs.length /\ s.pe 42 = .p (.int .i64 ↑qs.length) /\ s.pe 43 = .p (.int .i64 ↑j) /\ s.h (.slot 6 0) = some (ww,Ob.arr 2 (List.map pairPV qs)) /\ s.h (.slot 11 0) = some (v2,Ob.arr 1 (List.map (.int .i64) out2)) /\ s.h (.slot 14 0) = some (v14_0,Ob.box [.p (.int .i64 p1),.p (.int .i64 p2)]):=⟨_,fun _ _=>Iff.rfl⟩
    refine wp_meas M id ((p2 + 1 - mx).toNat) ?_ ?_
    ·refine (hM _ _).2 ⟨vv,out,mx,nv (s.h (.slot 14 0)),?_,?_,?_,?_,?_,?_,?_,?_,?_,?_,?_,?_,?_,?_⟩
     .rfl
     .exact hsp
     .exact cl3
     .exact Or.inr rfl
     .omega
     all_goals exact cl0
    intro m s hMk
    obtain ⟨v2,out2,nx,v14_0,hmm,hs2,hx0,hx1,ho2,h11,h12,h14,h41,h42,h43,hh6_0,hh11_0,hh14_0⟩:=(hM _ _).1 hMk
    clear hMk
    simp -implicitDefEqProofs (disch:=omega) only [h11,h12,h14,h41,h42,h43,hh6_0,hh11_0,hh14_0,go_sem,↓reduceIte,rA,rS,rE,rL,reduceCtorEq]
    refine wp_if_d (fun hle=>?_) (fun hgt=>?_)
    ·have htk2 : List.take out2.length (out2.map (PV.int .i64)) = out2.map (PV.int .i64):=ltl (by simp)
     rw [rangeI_cons hle] at hs2
     have hs3 : spanL 0 qs = (out2 ++ [nx]) ++ (rangeI (nx + 1) p2 ++ R):=by rw [hs2]; simp
     clear hs2
     simp -implicitDefEqProofs (disch:=omega) only [h11,h12,h14,h41,h42,h43,hh6_0,hh11_0,hh14_0,hle,htk2,go_sem,↓reduceIte,rA,rS,rE,rL,reduceCtorEq]
     refine ⟨(p2 + 1 - (nx + 1)).toNat,by simp only [id]; omega,(hM _ _).2 ⟨v2 + 1,out2 ++ [nx],nx + 1,v14_0,?_,?_,?_,?_,?_,?_,?_,?_,?_,?_,?_,?_,?_,?_⟩⟩
     .rfl
     .exact hs3
     .omega
     .omega
     .exact by rw [lla]; simp only [llc,lln]; omega
     all_goals exact cl0
    ·rw [rangeI_nil (by omega),lna,<- hR,show max mx (p2 + 1) = nx by omega] at hs2
     simp -implicitDefEqProofs (disch:=omega) only [h11,h12,h14,h41,h42,h43,hh6_0,hh11_0,hh14_0,hgt,go_sem,↓reduceIte,rA,rS,rE,rL,reduceCtorEq]
     try refine And.intro (by omega) ?_
     refine (hJ _ _).2 ⟨v2,out2,nx,?_,?_,?_,?_,?_,?_,?_,?_,?_,?_,?_⟩
     .exact hs2
     .omega
     .omega
     .exact ho2
     all_goals exact cl0
   ·rw [ldl (by omega),spanL,lan] at hsp
    have htk3 : List.take out.length (out.map (PV.int .i64)) = out.map (PV.int .i64):=ltl (by simp)
    rw [hsp]
    simp -implicitDefEqProofs (disch:=omega) only [h11,h12,h41,h42,h43,hh6_0,hh11_0,hge2,htk3,go_sem,↓reduceIte,rA,rS,rE,rL,reduceCtorEq]
    simp only [hany2,bft,if_false]
end Go.V
namespace Go.V
theorem itoaS_size {n : Int} (h : 0 <= n) (h2 : n < 1000000000) : (itoaS n).size <= 9:=by
 show (Lib.itoa n).length <= 9
 rw [itoa_pos h]
 exact dec_len 8 n.toNat (by omega)
theorem elemS_two {x y : Int} (h : x < y) : itoaS x ++ (⟨#[45]⟩ ++ itoaS y) = elemS (x,y):=by
 have e : elemB (x,y) = Lib.itoa x ++ 45 :: Lib.itoa y:=by unfold elemB; rw [if_pos h]
 apply ByteArray.ext
 rw [show (elemS (x,y)).data = (elemB (x,y)).toArray from rfl,e]
 simp
theorem elemS_one {x y : Int} (h : ¬ x < y) : itoaS x = elemS (x,y):=by
 have e : elemB (x,y) = Lib.itoa x:=by unfold elemB; rw [if_neg h]
 show (⟨(Lib.itoa x).toArray⟩ : ByteArray) = ⟨(elemB (x,y)).toArray⟩
 rw [e]
abbrev setTxt (l : List Int) : ByteArray:=joinS ((runsR l).map elemS) ⟨#[44]⟩
theorem runsR_len : ∀ (n : Nat) (l : List Int),l.length <= n -> (runsR l).length <= l.length
 | _,[],_=>by rw [runsR_nil]; exact lrf _
 | 0,x :: r,h=>by simp at h
 | n + 1,x :: r,h=>by
  have:=runsR_len n (r.drop (runLen x r)) (by simp at h ⊢; omega)
  rw [runsR_cons]
  simp at this ⊢
  omega
theorem lens_le {B : Nat} : ∀ r : List ByteArray,(∀ x ∈ r,x.size <= B) -> Lib.lens (r.map (·.data.toList)) <= B * r.length
 | [],_=>by simp [Lib.lens]
 | y :: r,hr=>by
  have:=lens_le r fun z hz=>hr z (lmc _ hz)
  have h3 : y.data.toList.length <= B:=hr y (lms ..)
  simp only [Lib.lens,lpc,List.sum_cons,llc] at this ⊢
  rw [Nat.mul_succ]
  omega
theorem join_bound {B : Nat} (xs : List ByteArray) (c : UInt8) (h : ∀ x ∈ xs,x.size <= B) : (Lib.join (xs.map (·.data.toList)) [c]).length <= B * xs.length + xs.length:=by
 cases xs with
 | nil=>exact Nat.zero_le _
 | cons x r =>
  rw [lpc,Lib.join_cons,lla,Lib.joinTail_length,llm]
  have h1 : x.data.toList.length <= B:=h x (lms ..)
  have h3:=lens_le r fun z hz=>h z (lmc _ hz)
  simp only [llc,lln] at *
  rw [Nat.mul_succ]
  omega
theorem elemS_size {p : Int × Int} (h : 0 <= p.1) (h2 : p.1 <= p.2) (h3 : p.2 < 1000000000) : (elemS p).size <= 19:=by
 have h1:=itoaS_size (n:=p.1) h (by omega)
 have h4:=itoaS_size (n:=p.2) (by omega) h3
 by_cases hlt : p.1 < p.2
 ·rw [<- elemS_two hlt,ByteArray.size_append,ByteArray.size_append]
  have : (⟨#[45]⟩ : ByteArray).size = 1:=rfl
  omega
 ·rw [show elemS p = itoaS p.1 from (elemS_one (x:=p.1) (y:=p.2) hlt).symm]
  omega
set_option maxHeartbeats 8000000 in
theorem sformat_eq (l : List Int) (hl : l.length < 1000000) (ha : Asc l) (hb : ∀ x ∈ l,0 <= x /\ x < 999999999) : V 69 [.p (intsP l)] [] = some (.tup [.p (.str (setTxt l)),.p (.int .i64 0)],[]):=by
 refine V_wp (vf:=vf69) rfl ?_
 simp -implicitDefEqProofs (disch:=omega) only [vf69,vb69,go_sem,↓reduceIte,rA,rS,rE,rL,reduceCtorEq]
 obtain ⟨R,hR⟩ : ∃ I : Nat -> St -> Prop,∀ r s,I r s ↔ ∃ (i : Nat) (acc : List (Int × Int)) (w : Nat),r = l.length - i /\ i <= l.length /\ runsR l = acc ++ runsR (l.drop i) /\ acc.length <= i /\ s.pe 0 = .p (intsP l) /\ s.pe 4 = .own (.slot 4 0) w 0 acc.length /\ s.pe 5 = .p (.int .i64 i) /\ s.h (.slot 4 0) = some (w,Ob.arr 1 ((acc.map elemS).map PV.str)):=⟨_,fun _ _=>Iff.rfl⟩
 refine wp_meas R id (l.length) ?_ ?_
 ·refine (hR _ _).2 ⟨0,[],0,?_,?_,?_,?_,?_,?_,?_,?_⟩
  ·rfl
  ·exact Nat.zero_le _
  ·rfl
  ·exact lrf _
  all_goals exact cl0
 intro r s hRk
 obtain ⟨i,acc,w,hr,hil,hrn,hac,h0,h4,h5,hh4_0⟩:=(hR _ _).1 hRk
 clear hRk
 simp -implicitDefEqProofs (disch:=omega) only [h0,h4,h5,hh4_0,go_sem,↓reduceIte,rA,rS,rE,rL,reduceCtorEq]
 refine wp_if_d (fun hlt=>?_) (fun hge=>?_)
 ·have hc : l[i]? = some l[i]:=lgg (by omega)
  have hdr : l.drop i = l[i] :: l.drop (i + 1):=ldg (by omega)
  have hbi:=hb _ (lgk (show i < l.length by omega))
  have hpre : 0 < i -> ∃ y,l[((i : Int) - 1).toNat]? = some y /\ y < l[i]:=fun h0=>by
   rw [Asc,List.pairwise_iff_getElem] at ha
   have:=ha (i - 1) i (by omega) (by omega) (by omega)
   exact ⟨l[i - 1],by rw [show ((i : Int) - 1).toNat = i - 1 by omega]; exact lgg (by omega),this⟩
  generalize l[i] = x at hc hdr hbi hpre
  have hx0 : ¬ x < 0:=by omega
  by_cases hi0 : 0 < i
  ·obtain ⟨y0,hy0,hyx0⟩:=hpre hi0
   have hgt : (i : Int) > 0:=by omega
   have hnl : ¬ x <= y0:=by omega
   simp -implicitDefEqProofs (disch:=omega) only [h0,h4,h5,hh4_0,hlt,hc,hx0,hgt,hy0,hnl,go_sem,↓reduceIte,rA,rS,rE,rL,reduceCtorEq]
   obtain ⟨K,hK⟩ : ∃ I : Nat -> St -> Prop,∀ k s,I k s ↔ ∃ (c : Nat) (j : Nat),k = l.length - j /\ j = i + c /\ j < l.length /\ runLen x (l.drop (i + 1)) = c + runLen (x + c) (l.drop (j + 1)) /\ l[j]? = some (x + c) /\ s.pe 0 = .p (intsP l) /\ s.pe 4 = .own (.slot 4 0) w 0 acc.length /\ s.pe 5 = .p (.int .i64 ↑i) /\ s.pe 6 = .p (.int .i64 j) /\ s.h (.slot 4 0) = some (w,Ob.arr 1 ((acc.map elemS).map PV.str)):=⟨_,fun _ _=>Iff.rfl⟩
   refine wp_meas K id ((l.length - i)) ?_ ?_
   ·refine (hK _ _).2 ⟨0,i,?_,?_,?_,?_,?_,?_,?_,?_,?_,?_⟩
    ·rfl
    ·rfl
    ·omega
    ·exact by simp
    ·exact by simpa using hc
    all_goals exact cl0
   intro k s hKk
   obtain ⟨c,j,hkm,hjc,hcl,hrl,hkc,h0,h4,h5,h6,hh4_0⟩:=(hK _ _).1 hKk
   clear hKk
   have hbc:=hb _ (lmg hkc)
   have hstep : ∀ y,l[j + 1]? = some y -> l.drop (j + 1) = y :: l.drop (j + 1 + 1):=fun y hy=>by
    have hlt':=(lgs.1 hy).1
    rw [ldg (l:=l) (i:=j + 1) hlt',(lgs.1 hy).2]
   have e1 : ((j : Int) + 1).toNat = j + 1:=by omega
   have hstop : (∀ y,l[j + 1]? = some y -> y ≠ x + c + 1) -> runLen (x + c) (l.drop (j + 1)) = 0:=fun hy=>by
    cases hq : l[j + 1]? with
    | none =>
     rw [ldl (by rw [List.getElem?_eq_none_iff] at hq; omega)]
     rfl
    | some y =>
     rw [hstep y hq,runLen,if_neg (hy y hq)]
   have hend : runLen (x + c) (l.drop (j + 1)) = 0 -> runsR l = (acc ++ [(x,x + (c : Int))]) ++ runsR (l.drop (j + 1)):=fun h0=>by
    rw [hrn,hdr,runsR_cons,hrl,h0,Nat.add_zero,List.drop_drop,show i + 1 + c = j + 1 by omega]
    simp
   by_cases hlen : j + 1 < l.length
   ·have hy : l[j + 1]? = some l[j + 1]:=lgg hlen
    generalize l[j + 1] = y at hy
    have hlt2 : (j : Int) + 1 < l.length:=by omega
    by_cases hye : y = x + c + 1
    ·have hrl2 : runLen x (l.drop (i + 1)) = (c + 1) + runLen (x + ((c + 1 : Nat) : Int)) (l.drop (j + 1 + 1)):=by
      rw [hrl,hstep _ hy,runLen,if_pos hye,hye,show x + ((c + 1 : Nat) : Int) = x + c + 1 by omega]
      omega
     have hkc2 : l[j + 1]? = some (x + ((c + 1 : Nat) : Int)):=by
      rw [hy,hye,show x + ((c + 1 : Nat) : Int) = x + c + 1 by omega]
     clear hrl hstop hend hstep
     simp -implicitDefEqProofs (disch:=omega) only [h0,h4,h5,h6,hh4_0,e1,hlt2,hy,hkc,hye,go_sem,↓reduceIte,rA,rS,rE,rL,reduceCtorEq]
     refine ⟨(l.length - (j + 1)),by simp only [id]; omega,(hK _ _).2 ⟨c + 1,j + 1,?_,?_,?_,?_,?_,?_,?_,?_,?_,?_⟩⟩
     ·rfl
     ·omega
     ·exact hlen
     ·exact hrl2
     ·exact hkc2
     all_goals exact cl0
    ·have hz:=hstop fun z hz=>by rw [hy] at hz; cases hz; exact hye
     have hrn2:=hend hz
     clear hstop hend hstep hrl hrn
     have htk : List.take acc.length ((acc.map elemS).map PV.str) = (acc.map elemS).map PV.str:=ltl (by simp)
     have hit1:=itoa_x (n:=x) (by omega) (by omega)
     have hit2:=itoa_x (n:=x + c) (by omega) (by omega)
     have hz1:=itoaS_size (n:=x) (by omega) (by omega)
     have hz2:=itoaS_size (n:=x + c) (by omega) (by omega)
     have hz3 : ((⟨#[45]⟩ : ByteArray) ++ itoaS (x + c)).size = 1 + (itoaS (x + c)).size:=ByteArray.size_append
     have hz4 : (⟨#[45]⟩ : ByteArray).size = 1:=rfl
     by_cases hc0 : c = 0
     ·have hng : ¬ (j : Int) > (i : Int):=by omega
      rw [elemS_one (x:=x) (y:=x + (c : Int)) (by rw [hc0]; simp)] at hit1
      simp -implicitDefEqProofs (disch:=omega) only [h0,h4,h5,h6,hh4_0,e1,hlt2,hy,hye,hkc,hc,hit1,hng,htk,go_sem,↓reduceIte,rA,rS,rE,rL,reduceCtorEq]
      clear hz1 hz2 hz3 hz4 hz e1
      try clear hye
      refine ⟨(l.length - (j + 1)),by simp only [id]; omega,(hR _ _).2 ⟨j + 1,acc ++ [(x,x + (c : Int))],w + 1,?_,?_,?_,?_,?_,?_,?_,?_⟩⟩
      .rfl
      .omega
      .exact hrn2
      .exact by rw [lla]; simp only [llc,lln]; omega
      all_goals exact cl0
     ·have hng : (j : Int) > (i : Int):=by omega
      have hxc : x < x + (c : Int):=Int.lt_add_of_pos_right x (Int.natCast_pos.2 (Nat.pos_of_ne_zero hc0))
      have e5:=elemS_two hxc
      generalize itoaS x = t1 at hit1 hz1 e5
      generalize itoaS (x + (c : Int)) = t2 at hit2 hz2 hz3 e5
      simp -implicitDefEqProofs (disch:=omega) only [h0,h4,h5,h6,hh4_0,e1,hlt2,hy,hye,hkc,hc,hit1,hit2,hng,htk,e5,go_sem,↓reduceIte,rA,rS,rE,rL,reduceCtorEq]
      clear hz1 hz2 hz3 hz4 hz e1
      try clear hye
      refine ⟨(l.length - (j + 1)),by simp only [id]; omega,(hR _ _).2 ⟨j + 1,acc ++ [(x,x + (c : Int))],w + 1,?_,?_,?_,?_,?_,?_,?_,?_⟩⟩
      .rfl
      .omega
      .exact hrn2
      .exact by rw [lla]; simp only [llc,lln]; omega
      all_goals exact cl0
   ·have hge2 : ¬ (j : Int) + 1 < l.length:=by omega
    have hz:=hstop fun z hz=>absurd (lgs.1 hz).1 hlen
    have hrn2:=hend hz
    clear hstop hend hstep hrl hrn
    have htk : List.take acc.length ((acc.map elemS).map PV.str) = (acc.map elemS).map PV.str:=ltl (by simp)
    have hit1:=itoa_x (n:=x) (by omega) (by omega)
    have hit2:=itoa_x (n:=x + c) (by omega) (by omega)
    have hz1:=itoaS_size (n:=x) (by omega) (by omega)
    have hz2:=itoaS_size (n:=x + c) (by omega) (by omega)
    have hz3 : ((⟨#[45]⟩ : ByteArray) ++ itoaS (x + c)).size = 1 + (itoaS (x + c)).size:=ByteArray.size_append
    have hz4 : (⟨#[45]⟩ : ByteArray).size = 1:=rfl
    by_cases hc0 : c = 0
    ·have hng : ¬ (j : Int) > (i : Int):=by omega
     rw [elemS_one (x:=x) (y:=x + (c : Int)) (by rw [hc0]; simp)] at hit1
     simp -implicitDefEqProofs (disch:=omega) only [h0,h4,h5,h6,hh4_0,e1,hge2,hkc,hc,hit1,hng,htk,go_sem,↓reduceIte,rA,rS,rE,rL,reduceCtorEq]
     clear hz1 hz2 hz3 hz4 hz e1
     try clear hye
     refine ⟨(l.length - (j + 1)),by simp only [id]; omega,(hR _ _).2 ⟨j + 1,acc ++ [(x,x + (c : Int))],w + 1,?_,?_,?_,?_,?_,?_,?_,?_⟩⟩
     ·rfl
     ·omega
     ·exact hrn2
     ·exact by rw [lla]; simp only [llc,lln]; omega
     all_goals exact cl0
    ·have hng : (j : Int) > (i : Int):=by omega
     have hxc : x < x + (c : Int):=Int.lt_add_of_pos_right x (Int.natCast_pos.2 (Nat.pos_of_ne_zero hc0))
     have e5:=elemS_two hxc
     generalize itoaS x = t1 at hit1 hz1 e5
     generalize itoaS (x + (c : Int)) = t2 at hit2 hz2 hz3 e5
     simp -implicitDefEqProofs (disch:=omega) only [h0,h4,h5,h6,hh4_0,e1,hge2,hkc,hc,hit1,hit2,hng,htk,e5,go_sem,↓reduceIte,rA,rS,rE,rL,reduceCtorEq]
     clear hz1 hz2 hz3 hz4 hz e1
     try clear hye
     refine ⟨(l.length - (j + 1)),by simp only [id]; omega,(hR _ _).2 ⟨j + 1,acc ++ [(x,x + (c : Int))],w + 1,?_,?_,?_,?_,?_,?_,?_,?_⟩⟩
     ·rfl
     ·omega
     ·exact hrn2
     ·exact by rw [lla]; simp only [llc,lln]; omega
     all_goals exact cl0
  ·have hgt : ¬ (i : Int) > 0:=by omega
   simp -implicitDefEqProofs (disch:=omega) only [h0,h4,h5,hh4_0,hlt,hc,hx0,hgt,go_sem,↓reduceIte,rA,rS,rE,rL,reduceCtorEq]
   obtain ⟨Q,hQ⟩ : ∃ I : Nat -> St -> Prop,∀ q s,I q s ↔ ∃ (c : Nat) (j : Nat),q = l.length - j /\ j = i + c /\ j < l.length /\ runLen x (l.drop (i + 1)) = c + runLen (x + c) (l.drop (j + 1)) /\ l[j]? = some (x + c) /\ s.pe 0 = .p (intsP l) /\ s.pe 4 = .own (.slot 4 0) w 0 acc.length /\ s.pe 5 = .p (.int .i64 ↑i) /\ s.pe 6 = .p (.int .i64 j) /\ s.h (.slot 4 0) = some (w,Ob.arr 1 ((acc.map elemS).map PV.str)):=⟨_,fun _ _=>Iff.rfl⟩
   refine wp_meas Q id ((l.length - i)) ?_ ?_
   ·refine (hQ _ _).2 ⟨0,i,?_,?_,?_,?_,?_,?_,?_,?_,?_,?_⟩
    ·rfl
    ·rfl
    ·omega
    ·exact by simp
    ·exact by simpa using hc
    all_goals exact cl0
   intro q s hQk
   obtain ⟨c,j,hkm,hjc,hcl,hrl,hkc,h0,h4,h5,h6,hh4_0⟩:=(hQ _ _).1 hQk
   clear hQk
   have hbc:=hb _ (lmg hkc)
   have hstep : ∀ y,l[j + 1]? = some y -> l.drop (j + 1) = y :: l.drop (j + 1 + 1):=fun y hy=>by
    have hlt':=(lgs.1 hy).1
    rw [ldg (l:=l) (i:=j + 1) hlt',(lgs.1 hy).2]
   have e1 : ((j : Int) + 1).toNat = j + 1:=by omega
   have hstop : (∀ y,l[j + 1]? = some y -> y ≠ x + c + 1) -> runLen (x + c) (l.drop (j + 1)) = 0:=fun hy=>by
    cases hq : l[j + 1]? with
    | none =>
     rw [ldl (by rw [List.getElem?_eq_none_iff] at hq; omega)]
     rfl
    | some y =>
     rw [hstep y hq,runLen,if_neg (hy y hq)]
   have hend : runLen (x + c) (l.drop (j + 1)) = 0 -> runsR l = (acc ++ [(x,x + (c : Int))]) ++ runsR (l.drop (j + 1)):=fun h0=>by
    rw [hrn,hdr,runsR_cons,hrl,h0,Nat.add_zero,List.drop_drop,show i + 1 + c = j + 1 by omega]
    simp
   by_cases hlen : j + 1 < l.length
   ·have hy : l[j + 1]? = some l[j + 1]:=lgg hlen
    generalize l[j + 1] = y at hy
    have hlt2 : (j : Int) + 1 < l.length:=by omega
    by_cases hye : y = x + c + 1
    ·have hrl2 : runLen x (l.drop (i + 1)) = (c + 1) + runLen (x + ((c + 1 : Nat) : Int)) (l.drop (j + 1 + 1)):=by
      rw [hrl,hstep _ hy,runLen,if_pos hye,hye,show x + ((c + 1 : Nat) : Int) = x + c + 1 by omega]
      omega
     have hkc2 : l[j + 1]? = some (x + ((c + 1 : Nat) : Int)):=by
      rw [hy,hye,show x + ((c + 1 : Nat) : Int) = x + c + 1 by omega]
     clear hrl hstop hend hstep
     simp -implicitDefEqProofs (disch:=omega) only [h0,h4,h5,h6,hh4_0,e1,hlt2,hy,hkc,hye,go_sem,↓reduceIte,rA,rS,rE,rL,reduceCtorEq]
     refine ⟨(l.length - (j + 1)),by simp only [id]; omega,(hQ _ _).2 ⟨c + 1,j + 1,?_,?_,?_,?_,?_,?_,?_,?_,?_,?_⟩⟩
     ·rfl
     ·omega
     ·exact hlen
     ·exact hrl2
     ·exact hkc2
     all_goals exact cl0
    ·have hz:=hstop fun z hz=>by rw [hy] at hz; cases hz; exact hye
     have hrn2:=hend hz
     clear hstop hend hstep hrl hrn
     have htk : List.take acc.length ((acc.map elemS).map PV.str) = (acc.map elemS).map PV.str:=ltl (by simp)
     have hit1:=itoa_x (n:=x) (by omega) (by omega)
     have hit2:=itoa_x (n:=x + c) (by omega) (by omega)
     have hz1:=itoaS_size (n:=x) (by omega) (by omega)
     have hz2:=itoaS_size (n:=x + c) (by omega) (by omega)
     have hz3 : ((⟨#[45]⟩ : ByteArray) ++ itoaS (x + c)).size = 1 + (itoaS (x + c)).size:=ByteArray.size_append
     have hz4 : (⟨#[45]⟩ : ByteArray).size = 1:=rfl
     by_cases hc0 : c = 0
     ·have hng : ¬ (j : Int) > (i : Int):=by omega
      rw [elemS_one (x:=x) (y:=x + (c : Int)) (by rw [hc0]; simp)] at hit1
      simp -implicitDefEqProofs (disch:=omega) only [h0,h4,h5,h6,hh4_0,e1,hlt2,hy,hye,hkc,hc,hit1,hng,htk,go_sem,↓reduceIte,rA,rS,rE,rL,reduceCtorEq]
      clear hz1 hz2 hz3 hz4 hz e1
      try clear hye
      refine ⟨(l.length - (j + 1)),by simp only [id]; omega,(hR _ _).2 ⟨j + 1,acc ++ [(x,x + (c : Int))],w + 1,?_,?_,?_,?_,?_,?_,?_,?_⟩⟩
      .rfl
      .omega
      .exact hrn2
      .exact by rw [lla]; simp only [llc,lln]; omega
      all_goals exact cl0
     ·have hng : (j : Int) > (i : Int):=by omega
      have hxc : x < x + (c : Int):=Int.lt_add_of_pos_right x (Int.natCast_pos.2 (Nat.pos_of_ne_zero hc0))
      have e5:=elemS_two hxc
      generalize itoaS x = t1 at hit1 hz1 e5
      generalize itoaS (x + (c : Int)) = t2 at hit2 hz2 hz3 e5
      simp -implicitDefEqProofs (disch:=omega) only [h0,h4,h5,h6,hh4_0,e1,hlt2,hy,hye,hkc,hc,hit1,hit2,hng,htk,e5,go_sem,↓reduceIte,rA,rS,rE,rL,reduceCtorEq]
      clear hz1 hz2 hz3 hz4 hz e1
      try clear hye
      refine ⟨(l.length - (j + 1)),by simp only [id]; omega,(hR _ _).2 ⟨j + 1,acc ++ [(x,x + (c : Int))],w + 1,?_,?_,?_,?_,?_,?_,?_,?_⟩⟩
      .rfl
      .omega
      .exact hrn2
      .exact by rw [lla]; simp only [llc,lln]; omega
      all_goals exact cl0
   ·have hge2 : ¬ (j : Int) + 1 < l.length:=by omega
    have hz:=hstop fun z hz=>absurd (lgs.1 hz).1 hlen
    have hrn2:=hend hz
    clear hstop hend hstep hrl hrn
    have htk : List.take acc.length ((acc.map elemS).map PV.str) = (acc.map elemS).map PV.str:=ltl (by simp)
    have hit1:=itoa_x (n:=x) (by omega) (by omega)
    have hit2:=itoa_x (n:=x + c) (by omega) (by omega)
    have hz1:=itoaS_size (n:=x) (by omega) (by omega)
    have hz2:=itoaS_size (n:=x + c) (by omega) (by omega)
    have hz3 : ((⟨#[45]⟩ : ByteArray) ++ itoaS (x + c)).size = 1 + (itoaS (x + c)).size:=ByteArray.size_append
    have hz4 : (⟨#[45]⟩ : ByteArray).size = 1:=rfl
    by_cases hc0 : c = 0
    ·have hng : ¬ (j : Int) > (i : Int):=by omega
     rw [elemS_one (x:=x) (y:=x + (c : Int)) (by rw [hc0]; simp)] at hit1
     simp -implicitDefEqProofs (disch:=omega) only [h0,h4,h5,h6,hh4_0,e1,hge2,hkc,hc,hit1,hng,htk,go_sem,↓reduceIte,rA,rS,rE,rL,reduceCtorEq]
     clear hz1 hz2 hz3 hz4 hz e1
     try clear hye
     refine ⟨(l.length - (j + 1)),by simp only [id]; omega,(hR _ _).2 ⟨j + 1,acc ++ [(x,x + (c : Int))],w + 1,?_,?_,?_,?_,?_,?_,?_,?_⟩⟩
     .rfl
     .omega
     .exact hrn2
     .exact by rw [lla]; simp only [llc,lln]; omega
     all_goals exact cl0
    ·have hng : (j : Int) > (i : Int):=by omega
     have hxc : x < x + (c : Int):=Int.lt_add_of_pos_right x (Int.natCast_pos.2 (Nat.pos_of_ne_zero hc0))
     have e5:=elemS_two hxc
     generalize itoaS x = t1 at hit1 hz1 e5
     generalize itoaS (x + (c : Int)) = t2 at hit2 hz2 hz3 e5
     simp -implicitDefEqProofs (disch:=omega) only [h0,h4,h5,h6,hh4_0,e1,hge2,hkc,hc,hit1,hit2,hng,htk,e5,go_sem,↓reduceIte,rA,rS,rE,rL,reduceCtorEq]
     clear hz1 hz2 hz3 hz4 hz e1
     try clear hye
     refine ⟨(l.length - (j + 1)),by simp only [id]; omega,(hR _ _).2 ⟨j + 1,acc ++ [(x,x + (c : Int))],w + 1,?_,?_,?_,?_,?_,?_,?_,?_⟩⟩
     .rfl
     .omega
     .exact hrn2
     .exact by rw [lla]; simp only [llc,lln]; omega
     all_goals exact cl0
 ·have hii : i = l.length:=by omega
  rw [ldl (by omega),runsR_nil,lan] at hrn
  have hok:=runsR_asc l.length l (lrf _) ha
  have hlen:=runsR_len l.length l (lrf _)
  have hjl : (Lib.join (((runsR l).map elemS).map (·.data.toList)) (⟨#[44]⟩ : ByteArray).data.toList).length <= 140737488355328:=by
   refine Nat.le_trans (join_bound (B:=19) _ 44 fun t ht=>?_) (by simp; omega)
   obtain ⟨p,hp,rfl⟩:=lmm.1 ht
   obtain ⟨p1,p2,p3⟩:=hok.1 p hp
   have b1:=hb _ p2
   have b2:=hb _ p3
   exact elemS_size b1.1 p1 (by omega)
  have hj:=join_x (ss:=(runsR l).map elemS) (sep:=⟨#[44]⟩) (by simp; omega) hjl
  unfold setTxt
  rw [hrn] at hj hlen ⊢
  rw [llm] at hj
  have htk : List.take acc.length ((acc.map elemS).map PV.str) = (acc.map elemS).map PV.str:=ltl (by simp)
  simp -implicitDefEqProofs (disch:=omega) only [h0,h4,h5,hh4_0,hge,hj,htk,go_sem,↓reduceIte,rA,rS,rE,rL,reduceCtorEq]
end Go.V
namespace Go.V
theorem bytes_inj : ∀ {a b : List ByteArray},a.map (·.data.toList) = b.map (·.data.toList) -> a = b
 | [],[],_=>rfl
 | x :: a,y :: b,h=>by
  simp only [lpc,List.cons.injEq] at h
  rw [bytes_inj h.2]
  congr 1
  obtain ⟨⟨x⟩⟩:=x
  obtain ⟨⟨y⟩⟩:=y
  simp only at h
  rw [h.1]
theorem sortQ_eq {ps qs : List (Int × Int)} (hp : qs.Perm ps) (h : qs.Pairwise (fun a b=>a.1 < b.1)) : sortQ ps = qs:=by
 have hpp : (sortQ ps).Perm qs:=(sortQ_perm ps).trans hp.symm
 refine List.Perm.eq_of_pairwise (le:=fun x y=>x.1 <= y.1) (fun a b ha hb h1 h2=>?_) (sortQ_sorted ps) (h.imp fun h=>Int.le_of_lt h) hpp
 have ha' : a ∈ qs:=hpp.subset ha
 obtain ⟨i,hi,rfl⟩:=List.getElem_of_mem ha'
 obtain ⟨j,hj,rfl⟩:=List.getElem_of_mem hb
 rw [List.pairwise_iff_getElem] at h
 rcases Nat.lt_trichotomy i j with hij | hij | hij
 .have:=h i j hi hj hij; omega
 .subst hij; rfl
 .have:=h j i hj hi hij; omega
def setK (L : List Int) (a0 : Nat) : Nat -> List Int × Nat
 | 0=>([],a0)
 | k + 1=>(if nextV L (setK L a0 k).2 3 = 2 then (setK L a0 k).1 ++ [(k : Int)] else (setK L a0 k).1,nextA L (setK L a0 k).2 3)
theorem setK_ok (L : List Int) (a0 : Nat) : ∀ k,Asc (setK L a0 k).1 /\ (∀ x ∈ (setK L a0 k).1,0 <= x /\ x < k) /\ (setK L a0 k).1.length <= k
 | 0=>⟨List.Pairwise.nil,by simp [setK],lrf _⟩
 | k + 1=>by
  obtain ⟨h1,h2,h3⟩:=setK_ok L a0 k
  unfold setK
  simp only
  split
  ·refine ⟨List.pairwise_append.2 ⟨h1,by simp,fun x hx y hy=>?_⟩,fun x hx=>?_,by simp; omega⟩
   ·rw [List.mem_singleton.1 hy]; exact (h2 x hx).2
   ·rcases lmp.1 hx with hx | hx
    .have:=h2 x hx; omega
    .rw [List.mem_singleton.1 hx]; omega
  .exact ⟨h1,fun x hx=>by have:=h2 x hx; omega,by omega⟩
theorem bool_eq3 (L : List Int) (a : Nat) (n : Int) (hL : L.length < 4611686018427387904) (h1 : 1 <= n) (hn : n < 4611686018427387904) : V 47 [.ptr (.arg 0 0) 0 0,.p (.int .i64 n)] [diceB L a] = some (.p (.bool (decide (nextV L a n = n - 1))),[diceB L (nextA L a n)]):=by
 refine V_wp (vf:=vf47) rfl ?_
 have hc:=next_eq L a n hL hn
 simp -implicitDefEqProofs (disch:=omega) only [vf47,vb47,hc,go_sem,↓reduceIte,rA,rS,rE,rL,reduceCtorEq]
set_option maxHeartbeats 1000000 in
theorem dset_eq (L : List Int) (a0 n : Nat) (hL : L.length < 4611686018427387904) (hn : n < 1000000) : V 29 [.ptr (.arg 0 0) 0 0,.p (.int .i64 n)] [diceB L a0] = some (.p (intsP (setK L a0 n).1),[diceB L (setK L a0 n).2]):=by
 refine V_wp (vf:=vf29) rfl ?_
 simp -implicitDefEqProofs (disch:=omega) only [vf29,vb29,go_sem,↓reduceIte,rA,rS,rE,rL,reduceCtorEq]
 obtain ⟨I,hI⟩ : ∃ I : Nat -> St -> Prop,∀ k s,I k s ↔ ∃ (w : Nat),s.pe 0 = .ptr (Id.arg 0 0) 0 0 /\ s.pe 1 = .p (.int .i64 ↑n) /\ s.pe 5 = .own (.slot 5 0) w 0 (setK L a0 k).1.length /\ s.pe 6 = .p (.int .i64 k) /\ s.h (.arg 0 0) = some (0,diceB L (setK L a0 k).2) /\ s.h (.slot 5 0) = some (w,Ob.arr 1 ((setK L a0 k).1.map (.int .i64))):=⟨_,fun _ _=>Iff.rfl⟩
 refine wp_count (n) I ?_ ?_
 ·refine (hI _ _).2 ⟨0,?_,?_,?_,?_,?_,?_⟩
  all_goals exact cl0
 intro k s hk hIk
 obtain ⟨w,h0,h1,h5,h6,ha0,hh5_0⟩:=(hI _ _).1 hIk
 clear hIk
 obtain ⟨s1,s2,s3⟩:=setK_ok L a0 k
 have hbo:=bool_eq3 L (setK L a0 k).2 3 hL (by omega) (by omega)
 have htk : List.take (setK L a0 k).1.length ((setK L a0 k).1.map (PV.int .i64)) = (setK L a0 k).1.map (PV.int .i64):=ltl (by simp)
 simp -implicitDefEqProofs (disch:=omega) only [h0,h1,h5,h6,ha0,hh5_0,go_sem,↓reduceIte,rA,rS,rE,rL,reduceCtorEq]
 refine wp_if_d (fun hlt=>?_) (fun hge=>?_)
 ·have hse : setK L a0 (k + 1) = (if nextV L (setK L a0 k).2 3 = 2 then (setK L a0 k).1 ++ [(k : Int)] else (setK L a0 k).1,nextA L (setK L a0 k).2 3):=rfl
  by_cases h2 : nextV L (setK L a0 k).2 3 = 2
  ·rw [if_pos h2] at hse
   have hd : decide (nextV L (setK L a0 k).2 3 = 3 - 1) = true:=decide_eq_true h2
   rw [hd] at hbo
   simp -implicitDefEqProofs (disch:=omega) only [h0,h1,h5,h6,ha0,hh5_0,hlt,hbo,htk,go_sem,↓reduceIte,rA,rS,rE,rL,reduceCtorEq]
   try refine And.intro (by omega) ?_
   refine (hI _ _).2 ⟨w + 1,?_,?_,?_,?_,?_,?_⟩
   all_goals exact cl0
  ·rw [if_neg h2] at hse
   have hd : decide (nextV L (setK L a0 k).2 3 = 3 - 1) = false:=decide_eq_false h2
   rw [hd] at hbo
   simp -implicitDefEqProofs (disch:=omega) only [h0,h1,h5,h6,ha0,hh5_0,hlt,hbo,htk,go_sem,↓reduceIte,rA,rS,rE,rL,reduceCtorEq]
   try refine And.intro (by omega) ?_
   refine (hI _ _).2 ⟨w,?_,?_,?_,?_,?_,?_⟩
   all_goals exact cl0
 ·have hk : k = n:=by omega
  subst hk
  simp -implicitDefEqProofs (disch:=omega) only [h0,h1,h5,h6,ha0,hh5_0,hge,htk,go_sem,↓reduceIte,rA,rS,rE,rL,reduceCtorEq]
theorem same3_eq (a b : List Int) (ha : a.length < 1000000) (hb : b.length < 1000000) : V 33 [.p (intsP a),.p (intsP b)] [] = some (.p (.bool (decide (a = b))),[]):=by
 refine V_wp (vf:=vf33) rfl ?_
 by_cases hlen : a.length = b.length
 ·simp -implicitDefEqProofs (disch:=omega) only [vf33,vb33,hlen,go_sem,↓reduceIte,rA,rS,rE,rL,reduceCtorEq]
  obtain ⟨I,hI⟩ : ∃ I : Nat -> St -> Prop,∀ k s,I k s ↔ a.take k = b.take k /\ s.pe 0 = .p (intsP a) /\ s.pe 1 = .p (intsP b) /\ s.pe 5 = .p (.int .i64 k):=⟨_,fun _ _=>Iff.rfl⟩
  refine wp_count (a.length) I ?_ ?_
  ·refine (hI _ _).2 ⟨?_,?_,?_,?_⟩
   ·rfl
   all_goals exact cl0
  intro k s hk hIk
  obtain ⟨ht,h0,h1,h5⟩:=(hI _ _).1 hIk
  clear hIk
  simp -implicitDefEqProofs (disch:=omega) only [h0,h1,h5,go_sem,↓reduceIte,rA,rS,rE,rL,reduceCtorEq]
  refine wp_if_d (fun hlt=>?_) (fun hge=>?_)
  ·have hca : a[k]? = some a[k]:=lgg (by omega)
   have hcb : b[k]? = some b[k]:=lgg (by omega)
   have hta:=take_snoc hca
   have htb:=take_snoc hcb
   generalize a[k] = x at hca hta
   generalize b[k] = y at hcb htb
   by_cases hxy : x = y
   ·subst hxy
    have hxx : ¬ x ≠ x:=fun h=>h rfl
    simp -implicitDefEqProofs (disch:=omega) only [h0,h1,h5,hlt,hca,hcb,hxx,go_sem,↓reduceIte,rA,rS,rE,rL,reduceCtorEq]
    try refine And.intro (by omega) ?_
    refine (hI _ _).2 ⟨?_,?_,?_,?_⟩
    .exact by rw [hta,htb,ht]
    all_goals exact cl0
   ·have hd : decide (a = b) = false:=decide_eq_false fun e=>hxy (by rw [e,hcb] at hca; exact (Option.some.inj hca).symm)
    rw [hd]
    simp -implicitDefEqProofs (disch:=omega) only [h0,h1,h5,hlt,hca,hcb,hxy,go_sem,↓reduceIte,rA,rS,rE,rL,reduceCtorEq]
  ·have hd : decide (a = b) = true:=decide_eq_true (by
    rw [ltl (by omega),ltl (by omega)] at ht
    exact ht)
   rw [hd]
   simp -implicitDefEqProofs (disch:=omega) only [h0,h1,h5,hge,go_sem,↓reduceIte,rA,rS,rE,rL,reduceCtorEq]
 ·have hd : decide (a = b) = false:=decide_eq_false fun e=>hlen (by rw [e])
  have hl2 : ¬ (a.length : Int) = b.length:=by omega
  rw [hd]
  simp -implicitDefEqProofs (disch:=omega) only [vf33,vb33,hl2,go_sem,↓reduceIte,rA,rS,rE,rL,reduceCtorEq]
end Go.V
namespace Go.V
theorem ex_split : elemsV (splitS ⟨#[48,45,50,44,55,44,49]⟩ ⟨#[44]⟩) = some [(0,2),(7,7),(1,1)]:=by decide +kernel
theorem ex_parse : parseT ⟨#[48,45,50,44,55,44,49]⟩ 8 = ([0,1,2,7],0):=by
 have hs : sortQ [(0,2),(7,7),(1,1)] = [(0,2),(1,1),(7,7)]:=sortQ_eq (by decide +kernel) (by decide +kernel)
 have ha : ([(0,2),(7,7),(1,1)] : List (Int × Int)).any (highB 8) = false:=by decide +kernel
 have hp : spanL 0 [(0,2),(1,1),(7,7)] = [0,1,2,7]:=by decide +kernel
 rw [parseT,if_neg (by decide),ex_split]
 simp only [ha,bft,if_false]
 rw [hs,hp]
theorem ex_format : setTxt [0,1,2,7] = ⟨#[48,45,50,44,55]⟩:=by
 have hr : runsR [0,1,2,7] = [(0,2),(7,7)]:=by
  rw [runsR_cons,show runLen 0 [1,2,7] = 2 from by decide +kernel]
  rw [show ([1,2,7] : List Int).drop 2 = [7] from rfl,runsR_cons,show runLen 7 [] = 0 from rfl,List.drop_nil,runsR_nil]
  rfl
 have e1 : elemS (0,2) = ⟨#[48,45,50]⟩:=by
  rw [elemS,show elemB (0,2) = Lib.itoa 0 ++ 45 :: Lib.itoa 2 from by unfold elemB; rw [if_pos (by decide)]]
  rw [itoa_pos (by decide),itoa_pos (by decide)]
  rw [Lib.decDigits,dif_pos (by decide),Lib.decDigits,dif_pos (by decide)]
  rfl
 have e2 : elemS (7,7) = ⟨#[55]⟩:=by
  rw [elemS,show elemB (7,7) = Lib.itoa 7 from by unfold elemB; rw [if_neg (by decide)]]
  rw [itoa_pos (by decide),Lib.decDigits,dif_pos (by decide)]
  rfl
 rw [setTxt,hr,lpc,lpc,lpn,e1,e2]
 decide +kernel
set_option maxHeartbeats 1000000 in
theorem sane3_eq : V 27 [] [] = some (.p (.bool true),[]):=by
 refine V_wp (vf:=vf27) rfl ?_
 have h1:=sparse_eq ⟨#[48,45,50,44,55,44,49]⟩ 8 (by decide)
 rw [ex_parse] at h1
 have h2:=sformat_eq [0,1,2,7] (by decide) (by decide) (by decide)
 rw [ex_format] at h2
 simp only [intsP,lpc,lpn] at h1 h2
 simp -implicitDefEqProofs (disch:=omega) only [vf27,vb27,h1,h2,go_sem,↓reduceIte,rA,rS,rE,rL,reduceCtorEq]
 rfl
end Go.V
namespace Go.V
def insU (x : Int) : List Int -> List Int
 | []=>[x]
 | y :: ys=>if x < y then x :: y :: ys else if x = y then y :: ys else y :: insU x ys
def sortU (l : List Int) : List Int:=l.foldl (fun acc x=>insU x acc) []
theorem mem_insU {x z : Int} : ∀ (l : List Int),z ∈ insU x l ↔ z = x \/ z ∈ l
 | []=>by simp [insU]
 | y :: ys=>by
  unfold insU
  split
  ·simp
  ·split
   ·rename_i h
    subst h
    simp
   ·simp only [lmk,mem_insU ys]
    constructor
    ·rintro (h | h | h)
     .exact Or.inr (Or.inl h)
     .exact Or.inl h
     .exact Or.inr (Or.inr h)
    ·rintro (h | h | h)
     .exact Or.inr (Or.inl h)
     .exact Or.inl h
     .exact Or.inr (Or.inr h)
theorem insU_inc {x : Int} : ∀ (l : List Int),(l.Pairwise fun a b=>a < b) -> (insU x l).Pairwise fun a b=>a < b
 | [],_=>by simp [insU]
 | y :: ys,h=>by
  obtain ⟨h1,h2⟩:=lpw.1 h
  unfold insU
  split
  ·rename_i hlt
   refine lpw.2 ⟨fun z hz=>?_,h⟩
   rcases lmk.1 hz with rfl | hz
   ·exact hlt
   ·have:=h1 z hz
    omega
  ·split
   ·exact h
   ·refine lpw.2 ⟨fun z hz=>?_,insU_inc ys h2⟩
    rcases (mem_insU ys).1 hz with rfl | hz
    .omega
    .exact h1 z hz
theorem insU_length {x : Int} : ∀ (l : List Int),(insU x l).length <= l.length + 1
 | []=>by simp [insU]
 | y :: ys=>by
  have:=insU_length (x:=x) ys
  unfold insU
  split
  .simp
  .split <;> simp <;> omega
theorem sortU_snoc (l : List Int) (x : Int) : sortU (l ++ [x]) = insU x (sortU l):=by simp [sortU]
theorem sortU_foldl {z : Int} : ∀ (l acc : List Int),z ∈ l.foldl (fun acc x=>insU x acc) acc ↔ z ∈ l \/ z ∈ acc
 | [],acc=>by simp
 | x :: l,acc=>by
  rw [List.foldl_cons,sortU_foldl l,mem_insU,lmk]
  constructor
  ·rintro (h | h | h)
   .exact Or.inl (Or.inr h)
   .exact Or.inl (Or.inl h)
   .exact Or.inr h
  ·rintro ((h | h) | h)
   .exact Or.inr (Or.inl h)
   .exact Or.inl h
   .exact Or.inr (Or.inr h)
theorem mem_sortU {l : List Int} {z : Int} : z ∈ sortU l ↔ z ∈ l:=by
 rw [sortU,sortU_foldl]
 simp
theorem sortU_incl : ∀ (l acc : List Int),(acc.Pairwise fun a b=>a < b) -> (l.foldl (fun acc x=>insU x acc) acc).Pairwise fun a b=>a < b
 | [],_,h=>h
 | x :: l,acc,h=>sortU_incl l _ (insU_inc acc h)
theorem sortU_inc (l : List Int) : (sortU l).Pairwise fun a b=>a < b:=sortU_incl l [] List.Pairwise.nil
theorem sortU_len : ∀ (l acc : List Int),(l.foldl (fun acc x=>insU x acc) acc).length <= l.length + acc.length
 | [],acc=>by simp
 | x :: l,acc=>by
  have h1:=sortU_len l (insU x acc)
  have h2:=insU_length (x:=x) acc
  rw [List.foldl_cons,llc]
  omega
theorem sortU_length (l : List Int) : (sortU l).length <= l.length:=by
 have:=sortU_len l []
 simpa [sortU] using this
theorem insU_at {x : Int} : ∀ (out : List Int) (k : Nat),(out.Pairwise fun a b=>a < b) -> (∀ y ∈ out.take k,y < x) -> (∀ y ∈ out.drop k,x < y) -> insU x out = out.take k ++ x :: out.drop k
 | [],k,_,_,_=>by simp [insU]
 | y :: ys,0,h,_,h2=>by
  have:=h2 y (by simp)
  simp [insU,this]
 | y :: ys,k + 1,h,h1,h2=>by
  have hy:=h1 y (by simp)
  have ih:=insU_at ys k (lpw.1 h).2 (fun z hz=>h1 z (by simp [hz])) (fun z hz=>h2 z (by simpa using hz))
  unfold insU
  rw [if_neg (by omega),if_neg (by omega),ih]
  simp
theorem insU_in {x : Int} : ∀ (out : List Int),(out.Pairwise fun a b=>a < b) -> x ∈ out -> insU x out = out
 | [],_,h=>by simp at h
 | y :: ys,h,hx=>by
  obtain ⟨h1,h2⟩:=lpw.1 h
  unfold insU
  rcases lmk.1 hx with rfl | hx
  ·simp
  ·have:=h1 x hx
   rw [if_neg (by omega),if_neg (by omega),insU_in ys h2 hx]
theorem ins_mid (out : List Int) (p : Nat) (hp : p <= out.length) : ∃ z,(List.take (↑p + 1 : Int).toNat (List.map (PV.int IntKind.i64) out ++ [PV.int IntKind.i64 0]) ++ List.take (min (out.length + 1 - (↑p + 1 : Int).toNat) (min (out.length + 1 - p) (List.drop p (List.map (PV.int IntKind.i64) out ++ [PV.int IntKind.i64 0])).length)) (List.take (out.length + 1 - p) (List.drop p (List.map (PV.int IntKind.i64) out ++ [PV.int IntKind.i64 0]))) ++ List.drop ((↑p + 1 : Int).toNat + min (min (out.length + 1 - (↑p + 1 : Int).toNat) (min (out.length + 1 - p) (List.drop p (List.map (PV.int IntKind.i64) out ++ [PV.int IntKind.i64 0])).length)) (min (out.length + 1 - p) (List.drop p (List.map (PV.int IntKind.i64) out ++ [PV.int IntKind.i64 0])).length)) (List.map (PV.int IntKind.i64) out ++ [PV.int IntKind.i64 0])) = List.map (PV.int IntKind.i64) (out.take p ++ z :: out.drop p):=by
 have e0 : List.map (PV.int IntKind.i64) out ++ [PV.int IntKind.i64 0] = List.map (PV.int IntKind.i64) (out ++ [0]):=by simp
 have e1 : (↑p + 1 : Int).toNat = p + 1:=by omega
 have e2 : (List.drop p (List.map (PV.int IntKind.i64) (out ++ [0]))).length = out.length + 1 - p:=by simp
 have e3 : min (out.length + 1 - (p + 1)) (min (out.length + 1 - p) (out.length + 1 - p)) = out.length - p:=by omega
 have e4 : min (out.length - p) (min (out.length + 1 - p) (out.length + 1 - p)) = out.length - p:=by omega
 rw [e0,e1,e2,e3]
 have e5 : min (out.length - p) (out.length + 1 - p) = out.length - p:=by omega
 have e6 : p + 1 + min (out.length - p) (min (out.length + 1 - p) (out.length + 1 - p)) = out.length + 1:=by omega
 refine ⟨(out ++ [0])[p]'(by simp; omega),?_⟩
 rw [e6,List.take_take,e5,ldl (i:=out.length + 1) (by simp),lan,<- List.map_take,<- List.map_drop,<- List.map_take,<- lma]
 congr 1
 rw [List.take_succ_eq_append_getElem (by simp; omega),List.take_append_of_le_length hp,List.drop_append_of_le_length hp,List.take_left' (by simp)]
 simp
theorem ins_get (out : List Int) (p : Nat) (z : Int) (hp : p <= out.length) : (List.map (PV.int IntKind.i64) (out.take p ++ z :: out.drop p))[p]? = some (PV.int .i64 z):=by
 rw [List.getElem?_map,lgr (by simp; omega)]
 simp [Nat.min_eq_left hp]
theorem ins_set (out : List Int) (p : Nat) (x z : Int) (hp : p <= out.length) : (List.map (PV.int IntKind.i64) (out.take p ++ z :: out.drop p)).set p (PV.int .i64 x) = List.map (PV.int IntKind.i64) (out.take p ++ x :: out.drop p):=by
 rw [lma,List.set_append_right _ _ (by simp; omega)]
 simp [Nat.min_eq_left hp]
theorem ins_len (out : List Int) (p : Nat) (x : Int) (hp : p <= out.length) : (out.take p ++ x :: out.drop p).length = out.length + 1:=by
 simp
 omega
set_option maxHeartbeats 2000000 in
theorem rsorted_eq (l : List Int) (hl : l.length < 1000000) : V 39 [.p (intsP l)] [] = some (.fresh 1 ((sortU l).map (.int .i64)),[]):=by
 refine V_wp (vf:=vf39) rfl ?_
 simp -implicitDefEqProofs (disch:=omega) only [vf39,vb39,go_sem,↓reduceIte,rA,rS,rE,rL,reduceCtorEq]
 obtain ⟨I,hI⟩ : ∃ I : Nat -> St -> Prop,∀ k s,I k s ↔ ∃ (out : List Int) (ww : Nat),out = sortU (l.take k) /\ s.pe 0 = .p (intsP l) /\ s.pe 3 = .own (.slot 3 0) ww 0 out.length /\ s.pe 4 = .p (.int .i64 k) /\ s.h (.slot 3 0) = some (ww,Ob.arr 1 (out.map (.int .i64))):=⟨_,fun _ _=>Iff.rfl⟩
 refine wp_count (l.length) I ?_ ?_
 ·refine (hI _ _).2 ⟨[],0,?_,?_,?_,?_,?_⟩
  ·exact cl3
  all_goals exact cl0
 intro k s hk hIk
 obtain ⟨out,ww,hout,h0,h3,h4,hh3_0⟩:=(hI _ _).1 hIk
 clear hIk
 have hinc : out.Pairwise fun a b=>a < b:=hout ▸ sortU_inc _
 have holen : out.length <= k:=by
  have := sortU_length (l.take k)
  rw [List.length_take] at this
  rw [hout]
  omega
 simp -implicitDefEqProofs (disch:=omega) only [h0,h3,h4,hh3_0,go_sem,↓reduceIte,rA,rS,rE,rL,reduceCtorEq]
 refine wp_if_d (fun hlt=>?_) (fun hge=>?_)
 ·have hm : l[k]? = some l[k]:=lgg hlt
  have htk:=take_snoc hm
  generalize l[k] = x at hm htk
  have hst : sortU (l.take (k + 1)) = insU x out:=by rw [htk,sortU_snoc,hout]
  simp -implicitDefEqProofs (disch:=omega) only [h0,h3,h4,hh3_0,hlt,go_sem,↓reduceIte,rA,rS,rE,rL,reduceCtorEq]
  obtain ⟨J,hJ⟩ : ∃ I : Nat -> St -> Prop,∀ j s,I j s ↔ (∀ y ∈ out.drop (out.length - j),x < y) /\ s.pe 0 = .p (intsP l) /\ s.pe 3 = .own (.slot 3 0) ww 0 out.length /\ s.pe 4 = .p (.int .i64 ↑k) /\ s.pe 5 = .p (.int .i64 ((out.length - j : Nat) : Int)) /\ s.h (.slot 3 0) = some (ww,Ob.arr 1 (List.map (.int .i64) out)):=⟨_,fun _ _=>Iff.rfl⟩
  refine wp_count (out.length) J ?_ ?_
  ·refine (hJ _ _).2 ⟨?_,?_,?_,?_,?_,?_⟩
   ·exact by simp
   all_goals exact cl0
  intro j s hj hJk
  obtain ⟨hgt,h0,h3,h4,h5,hh3_0⟩:=(hJ _ _).1 hJk
  clear hJk
  generalize hp : out.length - j = p at hgt h5
  by_cases hp0 : 0 < p
  ·have hy : out[p - 1]? = some out[p - 1]:=lgg (by omega)
   have hdr : out.drop (p - 1) = out[p - 1] :: out.drop p:=by
    rw [ldg (by omega),show p - 1 + 1 = p by omega]
   have htp : out.take p = out.take (p - 1) ++ [out[p - 1]]:=by
    have:=take_snoc hy
    rwa [show p - 1 + 1 = p by omega] at this
   generalize out[p - 1] = y at hy hdr htp
   have hy' : out[((p : Int) - 1).toNat]? = some y:=by rw [<- hy]; congr 1; omega
   have hp1 : (0 : Int) < p:=by omega
   have hp2 : (0 : Int) <= (p : Int) - 1:=by omega
   by_cases hxy : x < y
   ·simp -implicitDefEqProofs (disch:=omega) only [h0,h3,h4,h5,hh3_0,hm,hp1,hp2,hy',hxy,go_sem,↓reduceIte,rA,rS,rE,rL,reduceCtorEq]
    have hj' : ∀ z ∈ out.drop (out.length - (j + 1)),x < z:=by
     intro z hz
     rw [show out.length - (j + 1) = p - 1 by omega,hdr] at hz
     rcases lmk.1 hz with rfl | hz
     ·exact hxy
     ·exact hgt z hz
    have e9 : ((out.length - (j + 1) : Nat) : Int) = (p : Int) - 1:=by omega
    have hjl : j < out.length:=by omega
    clear hp hout hst
    try refine And.intro (by omega) ?_
    refine (hJ _ _).2 ⟨?_,?_,?_,?_,?_,?_⟩
    ·exact hj'
    all_goals exact cl0
   ·by_cases he : y = x
    ·subst he
     have hyy : ¬ y < y:=by omega
     have hs' : out = sortU (l.take (k + 1)):=by
      rw [hst,insU_in out hinc (lmg hy)]
     simp -implicitDefEqProofs (disch:=omega) only [h0,h3,h4,h5,hh3_0,hm,hp1,hp2,hy',hyy,go_sem,↓reduceIte,rA,rS,rE,rL,reduceCtorEq]
     try refine And.intro (by omega) ?_
     refine (hI _ _).2 ⟨out,ww,?_,?_,?_,?_,?_⟩
     ·exact hs'
     all_goals exact cl0
    ·have hlow : ∀ w ∈ out.take p,w < x:=by
      intro w hw
      rw [htp] at hw
      have:=hinc.sublist (List.take_sublist p out)
      rw [htp] at this
      rcases lmp.1 hw with h | h
      ·have:=(List.pairwise_append.1 this).2.2 w h y (by simp)
       omega
      ·have : w = y:=by simpa using h
       omega
     obtain ⟨z,hz⟩:=ins_mid out p (by omega)
     obtain ⟨o',ho'⟩ : ∃ o',o' = out.take p ++ x :: out.drop p:=⟨_,rfl⟩
     have hlen : o'.length = out.length + 1:=by rw [ho']; exact ins_len out p x (by omega)
     have hset : ∀ z,(List.map (PV.int IntKind.i64) (out.take p ++ z :: out.drop p)).set p (PV.int .i64 x) = List.map (PV.int IntKind.i64) o':=by
      intro z
      rw [ho']
      exact ins_set out p x z (by omega)
     have hs' : o' = sortU (l.take (k + 1)):=by
      rw [ho',hst,insU_at out p hinc ?_ hgt]
      exact hlow
     simp -implicitDefEqProofs (disch:=omega) only [h0,h3,h4,h5,hh3_0,hm,hp1,hp2,hy',hxy,he,hz,ins_get,hset,List.headD_cons,go_sem,↓reduceIte,rA,rS,rE,rL,reduceCtorEq]
     try refine And.intro (by omega) ?_
     refine (hI _ _).2 ⟨o',ww + 1,?_,?_,?_,?_,?_⟩
     .exact hs'
     all_goals exact cl0
  ·have hp1 : ¬ (0 : Int) < p:=by omega
   obtain ⟨z,hz⟩:=ins_mid out p (by omega)
   obtain ⟨o',ho'⟩ : ∃ o',o' = out.take p ++ x :: out.drop p:=⟨_,rfl⟩
   have hlen : o'.length = out.length + 1:=by rw [ho']; exact ins_len out p x (by omega)
   have hset : ∀ z,(List.map (PV.int IntKind.i64) (out.take p ++ z :: out.drop p)).set p (PV.int .i64 x) = List.map (PV.int IntKind.i64) o':=by
    intro z
    rw [ho']
    exact ins_set out p x z (by omega)
   have hs' : o' = sortU (l.take (k + 1)):=by
    rw [ho',hst,insU_at out p hinc ?_ hgt]
    intro w hw
    rw [show p = 0 by omega] at hw
    simp at hw
   simp -implicitDefEqProofs (disch:=omega) only [h0,h3,h4,h5,hh3_0,hm,hp1,hz,ins_get,hset,List.headD_cons,go_sem,↓reduceIte,rA,rS,rE,rL,reduceCtorEq]
   try refine And.intro (by omega) ?_
   refine (hI _ _).2 ⟨o',ww + 1,?_,?_,?_,?_,?_⟩
   .exact hs'
   all_goals exact cl0
 ·rw [ltl (by omega)] at hout
  simp -implicitDefEqProofs (disch:=omega) only [h0,h3,h4,hh3_0,hge,go_sem,↓reduceIte,rA,rS,rE,rL,reduceCtorEq]
  rw [hout]
end Go.V
namespace Go.V
theorem asc_ext : ∀ {a b : List Int},Asc a -> Asc b -> (∀ x,x ∈ a ↔ x ∈ b) -> a = b
 | [],[],_,_,_=>rfl
 | [],y :: b,_,_,h=>absurd ((h y).2 (lms ..)) (by simp)
 | x :: a,[],_,_,h=>absurd ((h x).1 (lms ..)) (by simp)
 | x :: a,y :: b,ha,hb,h=>by
  obtain ⟨a1,a2⟩:=lpw.1 ha
  obtain ⟨b1,b2⟩:=lpw.1 hb
  have hxy : x = y:=by
   rcases lmk.1 ((h x).1 (lms ..)) with e | e
   ·exact e
   ·rcases lmk.1 ((h y).2 (lms ..)) with e' | e'
    .exact e'.symm
    .have:=a1 y e'; have:=b1 x e; omega
  subst hxy
  rw [asc_ext a2 b2 fun z=>?_]
  constructor
  ·intro hz
   rcases lmk.1 ((h z).1 (lmc _ hz)) with e | e
   .have:=a1 z hz; omega
   .exact e
  ·intro hz
   rcases lmk.1 ((h z).2 (lmc _ hz)) with e | e
   .have:=b1 z hz; omega
   .exact e
end Go.V
namespace Go.V
def sortC (l : List Int) : List Int:=compL (l.mergeSort fun x y=>decide (x <= y))
theorem compR_asc : ∀ (r : List Int) (x : Int),((x :: r).Pairwise fun a b=>a <= b) -> (∀ z,z ∈ x :: compR x r ↔ z ∈ x :: r) /\ Asc (x :: compR x r)
 | [],x,_=>⟨fun z=>Iff.rfl,by simp [compR]⟩
 | y :: r,x,h=>by
  have hxy:=(lpw.1 h).1 y (lms ..)
  have h2:=(lpw.1 h).2
  obtain ⟨m1,m2⟩:=compR_asc r y h2
  by_cases e : y = x
  ·subst e
   have he : compR y (y :: r) = compR y r:=by simp [compR]
   rw [he]
   exact ⟨fun z=>by rw [m1 z]; simp,m2⟩
  ·have he : compR x (y :: r) = y :: compR y r:=by simp [compR,e]
   rw [he]
   refine ⟨fun z=>by rw [lmk,m1 z,<- lmk],lpw.2 ⟨fun z hz=>?_,m2⟩⟩
   rcases lmk.1 ((m1 z).1 hz) with rfl | hz'
   ·omega
   ·have:=(lpw.1 h2).1 z hz'
    omega
theorem sortC_ok (l : List Int) : (∀ z,z ∈ sortC l ↔ z ∈ l) /\ Asc (sortC l):=by
 have h1 : (l.mergeSort fun x y=>decide (x <= y)).Pairwise fun a b=>decide (a <= b) = true:=List.pairwise_mergeSort (fun a b c h1 h2=>by simp only [decide_eq_true_eq] at *; omega) (fun a b=>by simp only [bot,decide_eq_true_eq]; omega) l
 have h2 : ∀ z,z ∈ (l.mergeSort fun x y=>decide (x <= y)) ↔ z ∈ l:=fun z=>(List.mergeSort_perm l _).mem_iff
 unfold sortC
 generalize (l.mergeSort fun x y=>decide (x <= y)) = m at h1 h2
 have h3 : m.Pairwise fun a b=>a <= b:=h1.imp fun h=>of_decide_eq_true h
 cases m with
 | nil=>exact ⟨fun z=>h2 z,List.Pairwise.nil⟩
 | cons x r =>
  obtain ⟨m1,m2⟩:=compR_asc r x h3
  exact ⟨fun z=>(m1 z).trans (h2 z),m2⟩
theorem sortC_eq (l : List Int) : sortC l = sortU l:=asc_ext (sortC_ok l).2 (sortU_inc l) fun x=>by rw [(sortC_ok l).1,mem_sortU]
theorem csorted_eq (l : List Int) (hl : l.length < 1000000) : V 70 [.p (intsP l)] [] = some (.fresh 1 ((sortU l).map (.int .i64)),[]):=by
 refine V_wp (vf:=vf70) rfl ?_
 have h1:=cloneI_x (xs:=l.map (.int .i64)) (by rw [llm]; exact hl)
 have h2:=sort_x (zs:=l) (by omega)
 have hml : (l.mergeSort fun x y=>decide (x <= y)).length = l.length:=List.length_mergeSort _
 have h3:=compact_x (zs:=l.mergeSort fun x y=>decide (x <= y)) (by omega)
 have he:=sortC_eq l
 unfold sortC at he
 have hcl:=compL_len (l.mergeSort fun x y=>decide (x <= y))
 rw [hml] at h3 hcl
 have ht0 : List.take l.length (l.map (PV.int .i64)) = l.map (PV.int .i64):=ltl (by simp)
 have ht1 : List.take l.length ((l.mergeSort fun x y=>decide (x <= y)).map (PV.int .i64)) = (l.mergeSort fun x y=>decide (x <= y)).map (PV.int .i64):=ltl (by simp)
 generalize (l.mergeSort fun x y=>decide (x <= y)) = m at h2 h3 he ht1 hcl
 have ht2 : List.take (compL m).length ((compL m ++ List.replicate (l.length - (compL m).length) 0).map (PV.int .i64)) = (compL m).map (PV.int .i64):=by
  rw [lma,List.take_append_of_le_length (by simp),ltl (by simp)]
 have hsp : (compL m).length + (l.length - (compL m).length) = l.length:=by omega
 rw [<- he]
 simp -implicitDefEqProofs (disch:=omega) only [vf70,vb70,h1,h2,h3,ht0,ht1,ht2,hcl,List.length_replicate,hsp,go_sem,↓reduceIte,rA,rS,rE,rL,reduceCtorEq]
def catL (a b : List Int) : Nat -> List Int
 | 0=>[]
 | 1=>a
 | _=>a ++ b
theorem catL_0 (a b : List Int) : catL a b 0 = []:=rfl
attribute [go_sem] catL_0
theorem catL_len (a b : List Int) (k : Nat) : (catL a b k).length <= a.length + b.length:=by
 match k with
 | 0=>simp [catL]
 | 1=>simp [catL]
 | _ + 2=>simp [catL]
theorem catL_next {a b : List Int} (ha : a.length < 1000000) (hb : b.length < 1000000) {k : Nat} (h : k < 2) : ∃ c : List Int,([intsP a,intsP b] : List PV)[k]? = some (intsP c) /\ catL a b (k + 1) = catL a b k ++ c /\ c.length < 1000000:=by
 match k,h with
 | 0,_=>exact ⟨a,rfl,rfl,ha⟩
 | 1,_=>exact ⟨b,rfl,rfl,hb⟩
set_option maxHeartbeats 1000000 in
theorem concat_eq (a b : List Int) (ha : a.length < 1000000) (hb : b.length < 1000000) : V 71 [.p (.slice 1 [intsP a,intsP b])] [] = some (.fresh 1 ((a ++ b).map (.int .i64)),[]):=by
 refine V_wp (vf:=vf71) rfl ?_
 simp -implicitDefEqProofs (disch:=omega) only [vf71,vb71,go_sem,↓reduceIte,rA,rS,rE,rL,reduceCtorEq]
 obtain ⟨I,hI⟩ : ∃ I : Nat -> St -> Prop,∀ k s,I k s ↔ s.pe 0 = .p (.slice 1 [intsP a,intsP b]) /\ s.pe 3 = .p (.int .i64 ((catL a b k).length : Nat)) /\ s.pe 9 = .p (.slice 1 [intsP a,intsP b]) /\ s.pe 10 = .p (.int .i64 ((2 : Nat) : Int)) /\ s.pe 11 = .p (.int .i64 k) /\ s.h (.slot 24 1) = none:=⟨_,fun _ _=>Iff.rfl⟩
 refine wp_count (2) I ?_ ?_
 ·refine (hI _ _).2 ⟨?_,?_,?_,?_,?_,?_⟩
  all_goals exact cl0
 intro k s hk hIk
 obtain ⟨h0,h3,h9,h10,h11,hh24_1⟩:=(hI _ _).1 hIk
 clear hIk
 have hpl:=catL_len a b k
 simp -implicitDefEqProofs (disch:=omega) only [h0,h3,h9,h10,h11,hh24_1,go_sem,↓reduceIte,rA,rS,rE,rL,reduceCtorEq]
 refine wp_if_d (fun hlt=>?_) (fun hge=>?_)
 ·obtain ⟨c,hc,hp,hcl⟩:=catL_next ha hb (show k < 2 by omega)
  have hneg : ¬ (((catL a b k).length : Nat) : Int) + (c.length : Nat) < 0:=by omega
  simp -implicitDefEqProofs (disch:=omega) only [h0,h3,h9,h10,h11,hh24_1,hlt,hc,hneg,go_sem,↓reduceIte,rA,rS,rE,rL,reduceCtorEq]
  try refine And.intro (by omega) ?_
  refine (hI _ _).2 ⟨?_,?_,?_,?_,?_,?_⟩
  all_goals exact cl0
 ·have hk2 : k = 2:=by omega
  subst hk2
  have hg:=grow_x (n:=(((catL a b 2).length : Nat) : Int)) (by omega) (by omega)
  simp -implicitDefEqProofs (disch:=omega) only [h0,h3,h9,h10,h11,hh24_1,hge,hg,go_sem,↓reduceIte,rA,rS,rE,rL,reduceCtorEq]
  clear hg
  obtain ⟨J,hJ⟩ : ∃ I : Nat -> St -> Prop,∀ j s,I j s ↔ ∃ (w : Nat) (P : List Int),P = catL a b j /\ s.pe 6 = .own (.slot 24 1) w 0 P.length /\ s.pe 25 = .p (.slice 1 [intsP a,intsP b]) /\ s.pe 26 = .p (.int .i64 ((2 : Nat) : Int)) /\ s.pe 27 = .p (.int .i64 j) /\ s.h (.slot 24 1) = some (w,Ob.arr 1 (P.map (.int .i64))):=⟨_,fun _ _=>Iff.rfl⟩
  refine wp_count (2) J ?_ ?_
  ·refine (hJ _ _).2 ⟨0,[],?_,?_,?_,?_,?_,?_⟩
   .rfl
   all_goals exact cl0
  intro j s hj hJk
  obtain ⟨w,P,hP,h6,h25,h26,h27,hh24_1⟩:=(hJ _ _).1 hJk
  clear hJk
  have hpl2:=catL_len a b j
  rw [<- hP] at hpl2
  have htk : List.take P.length (P.map (PV.int .i64)) = P.map (PV.int .i64):=ltl (by simp)
  simp -implicitDefEqProofs (disch:=omega) only [h6,h25,h26,h27,hh24_1,go_sem,↓reduceIte,rA,rS,rE,rL,reduceCtorEq]
  refine wp_if_d (fun hlt2=>?_) (fun hge2=>?_)
  ·obtain ⟨c,hc,hp,hcl⟩:=catL_next ha hb (show j < 2 by omega)
   simp -implicitDefEqProofs (disch:=omega) only [h6,h25,h26,h27,hh24_1,hlt2,hc,htk,go_sem,↓reduceIte,rA,rS,rE,rL,reduceCtorEq]
   try refine And.intro (by omega) ?_
   refine (hJ _ _).2 ⟨w + 1,P ++ c,?_,?_,?_,?_,?_,?_⟩
   .exact by rw [hp,hP]
   all_goals exact cl0
  ·have hj2 : j = 2:=by omega
   subst hj2
   have hP2 : P = a ++ b:=hP
   rw [<- hP2]
   simp -implicitDefEqProofs (disch:=omega) only [h6,h25,h26,h27,hh24_1,hge2,htk,go_sem,↓reduceIte,rA,rS,rE,rL,reduceCtorEq]
theorem index_eq (l : List Int) (x : Int) (hl : l.length < 1000000) : ∃ i : Int,V 144 [.p (intsP l),.p (.int .i64 x)] [] = some (.p (.int .i64 i),[]) /\ (decide (0 <= i) = decide (x ∈ l)):=by
 suffices hw : wp (callF V vf144 [.p (intsP l),.p (.int .i64 x)] []) (fun r=>∃ i : Int,r = (.p (.int .i64 i),[]) /\ (decide (0 <= i) = decide (x ∈ l))) by
  obtain ⟨r,hr,i,rfl,hi⟩:=hw
  exact ⟨i,V_fix (f:=144) (vf:=vf144) rfl hr,hi⟩
 simp -implicitDefEqProofs (disch:=omega) only [vf144,vb144,go_sem,↓reduceIte,rA,rS,rE,rL,reduceCtorEq]
 obtain ⟨I,hI⟩ : ∃ I : Nat -> St -> Prop,∀ k s,I k s ↔ (∀ y ∈ l.take k,y ≠ x) /\ s.pe 0 = .p (intsP l) /\ s.pe 1 = .p (.int .i64 x) /\ s.pe 7 = .p (.int .i64 l.length) /\ s.pe 8 = .p (.int .i64 k):=⟨_,fun _ _=>Iff.rfl⟩
 refine wp_count (l.length) I ?_ ?_
 ·refine (hI _ _).2 ⟨?_,?_,?_,?_,?_⟩
  ·exact by simp
  all_goals exact cl0
 intro k s hk hIk
 obtain ⟨hno,h0,h1,h7,h8⟩:=(hI _ _).1 hIk
 clear hIk
 simp -implicitDefEqProofs (disch:=omega) only [h0,h1,h7,h8,go_sem,↓reduceIte,rA,rS,rE,rL,reduceCtorEq]
 refine wp_if_d (fun hlt=>?_) (fun hge=>?_)
 ·have hm : l[k]? = some l[k]:=lgg (by omega)
  have htk:=take_snoc hm
  have hin : l[k] ∈ l:=lgk _
  generalize l[k] = y at hm htk hin
  by_cases e : x = y
  ·simp -implicitDefEqProofs (disch:=omega) only [h0,h1,h7,h8,hlt,hm,e,go_sem,↓reduceIte,rA,rS,rE,rL,reduceCtorEq]
   exact ⟨_,rfl,by subst e; simp [hin]⟩
  ·simp -implicitDefEqProofs (disch:=omega) only [h0,h1,h7,h8,hlt,hm,e,go_sem,↓reduceIte,rA,rS,rE,rL,reduceCtorEq]
   have hno2 : ∀ z ∈ l.take (k + 1),z ≠ x:=fun z hz=>by
    rw [htk] at hz
    rcases lmp.1 hz with h | h
    .exact hno z h
    .rw [List.mem_singleton.1 h]; exact Ne.symm e
   try refine And.intro (by omega) ?_
   refine (hI _ _).2 ⟨?_,?_,?_,?_,?_⟩
   .exact hno2
   all_goals exact cl0
 ·have hnot : x ∉ l:=fun h=>by
   rw [ltl (by omega)] at hno
   exact hno x h rfl
  simp -implicitDefEqProofs (disch:=omega) only [h0,h1,h7,h8,hge,go_sem,↓reduceIte,rA,rS,rE,rL,reduceCtorEq]
  exact ⟨_,rfl,by simp [hnot]⟩
theorem has_eq (l : List Int) (x : Int) (hl : l.length < 1000000) : V 74 [.p (intsP l),.p (.int .i64 x)] [] = some (.p (.bool (decide (x ∈ l))),[]):=by
 obtain ⟨i,hi,hd⟩:=index_eq l x hl
 have hc : V 124 [.p (intsP l),.p (.int .i64 x)] [] = some (.p (.bool (decide (x ∈ l))),[]):=by
  refine V_wp (vf:=vf124) rfl ?_
  rw [<- hd]
  simp -implicitDefEqProofs (disch:=omega) only [vf124,vb124,hi,go_sem,↓reduceIte,rA,rS,rE,rL,reduceCtorEq]
 refine V_wp (vf:=vf74) rfl ?_
 simp -implicitDefEqProofs (disch:=omega) only [vf74,vb74,hc,go_sem,↓reduceIte,rA,rS,rE,rL,reduceCtorEq]
theorem rhas_eq (l : List Int) (x : Int) (hl : l.length < 1000000) : V 76 [.p (intsP l),.p (.int .i64 x)] [] = some (.p (.bool (decide (x ∈ l))),[]):=by
 refine V_wp (vf:=vf76) rfl ?_
 simp -implicitDefEqProofs (disch:=omega) only [vf76,vb76,go_sem,↓reduceIte,rA,rS,rE,rL,reduceCtorEq]
 obtain ⟨I,hI⟩ : ∃ I : Nat -> St -> Prop,∀ k s,I k s ↔ (∀ y ∈ l.take k,y ≠ x) /\ s.pe 0 = .p (intsP l) /\ s.pe 1 = .p (.int .i64 x) /\ s.pe 5 = .p (.int .i64 k):=⟨_,fun _ _=>Iff.rfl⟩
 refine wp_count (l.length) I ?_ ?_
 ·refine (hI _ _).2 ⟨?_,?_,?_,?_⟩
  ·exact by simp
  all_goals exact cl0
 intro k s hk hIk
 obtain ⟨hno,h0,h1,h5⟩:=(hI _ _).1 hIk
 clear hIk
 simp -implicitDefEqProofs (disch:=omega) only [h0,h1,h5,go_sem,↓reduceIte,rA,rS,rE,rL,reduceCtorEq]
 refine wp_if_d (fun hlt=>?_) (fun hge=>?_)
 ·have hm : l[k]? = some l[k]:=lgg (by omega)
  have htk:=take_snoc hm
  have hin : l[k] ∈ l:=lgk _
  generalize l[k] = y at hm htk hin
  by_cases e : y = x
  ·have hd : decide (x ∈ l) = true:=decide_eq_true (e ▸ hin)
   rw [hd]
   simp -implicitDefEqProofs (disch:=omega) only [h0,h1,h5,hlt,hm,e,go_sem,↓reduceIte,rA,rS,rE,rL,reduceCtorEq]
  ·simp -implicitDefEqProofs (disch:=omega) only [h0,h1,h5,hlt,hm,e,go_sem,↓reduceIte,rA,rS,rE,rL,reduceCtorEq]
   have hno2 : ∀ z ∈ l.take (k + 1),z ≠ x:=fun z hz=>by
    rw [htk] at hz
    rcases lmp.1 hz with h | h
    .exact hno z h
    .rw [List.mem_singleton.1 h]; exact e
   try refine And.intro (by omega) ?_
   refine (hI _ _).2 ⟨?_,?_,?_,?_⟩
   .exact hno2
   all_goals exact cl0
 ·have hd : decide (x ∈ l) = false:=decide_eq_false fun h=>by
   rw [ltl (by omega)] at hno
   exact hno x h rfl
  rw [hd]
  simp -implicitDefEqProofs (disch:=omega) only [h0,h1,h5,hge,go_sem,↓reduceIte,rA,rS,rE,rL,reduceCtorEq]
theorem in_eq (b : List Int) (x : Int) (hl : b.length < 1000000) : V 73 [.p (.int .i64 x),.ptr (.arg 0 0) 0 0] [.box [.p (intsP b)]] = some (.p (.bool (decide (x ∈ b))),[.box [.p (intsP b)]]):=by
 refine V_wp (vf:=vf73) rfl ?_
 have h1:=has_eq b x hl
 simp -implicitDefEqProofs (disch:=omega) only [vf73,vb73,h1,go_sem,↓reduceIte,rA,rS,rE,rL,reduceCtorEq]
theorem out_eq (b : List Int) (x : Int) (hl : b.length < 1000000) : V 75 [.p (.int .i64 x),.ptr (.arg 0 0) 0 0] [.box [.p (intsP b)]] = some (.p (.bool (!decide (x ∈ b))),[.box [.p (intsP b)]]):=by
 refine V_wp (vf:=vf75) rfl ?_
 have h1:=has_eq b x hl
 simp -implicitDefEqProofs (disch:=omega) only [vf75,vb75,h1,go_sem,↓reduceIte,rA,rS,rE,rL,reduceCtorEq]
theorem within1_eq (b : List Int) (x : Int) (hl : b.length < 1000000) : V 78 [.p (.int .i64 x),.ptr (.arg 0 0) 0 0] [.box [.p (intsP b)]] = some (.p (.bool (!decide (x ∈ b))),[.box [.p (intsP b)]]):=by
 refine V_wp (vf:=vf78) rfl ?_
 have h1:=has_eq b x hl
 simp -implicitDefEqProofs (disch:=omega) only [vf78,vb78,h1,go_sem,↓reduceIte,rA,rS,rE,rL,reduceCtorEq]
def idxI (f : Int -> Bool) : List Int -> Nat -> Int
 | [],_=>-1
 | x :: r,k=>if f x = true then (k : Int) else idxI f r (k + 1)
theorem idxI_cases (f : Int -> Bool) : ∀ (l : List Int) (k : Nat),(idxI f l k = -1 /\ ∀ x ∈ l,f x = false) \/ ∃ i,i < l.length /\ idxI f l k = ((k + i : Nat) : Int) /\ (∀ x ∈ l.take i,f x = false) /\ ∃ x,l[i]? = some x /\ f x = true
 | [],_=>.inl ⟨rfl,by simp⟩
 | x :: r,k=>by
  by_cases h : f x = true
  ·exact .inr ⟨0,by simp,by simp [idxI,h],by simp,x,rfl,h⟩
  ·have hx : f x = false:=by simpa using h
   have he : idxI f (x :: r) k = idxI f r (k + 1):=by simp [idxI,h]
   rw [he]
   rcases idxI_cases f r (k + 1) with ⟨h1,h2⟩ | ⟨i,h1,h2,h3,y,h4,h5⟩
   ·exact .inl ⟨h1,fun z hz=>by rcases lmk.1 hz with rfl | hz; exact hx; exact h2 z hz⟩
   ·refine .inr ⟨i + 1,by simp; omega,by rw [h2]; congr 1; omega,fun z hz=>?_,y,by simpa using h4,h5⟩
    rw [List.take_succ_cons] at hz
    rcases lmk.1 hz with rfl | hz
    .exact hx
    .exact h3 z hz
abbrev HD (f : Nat) (b xs : List Int) : List Ob:=[.arr 1 (xs.map (.int .i64)),.box [.fn f [.ptr (.arg 2 0) 0 0]],.box [.p (intsP b)]]
section
variable {f : Nat} {b : List Int} {p : Int -> Bool} (hf : ∀ x,V f [.p (.int .i64 x),.ptr (.arg 0 0) 0 0] [.box [.p (intsP b)]] = some (.p (.bool (p x)),[.box [.p (intsP b)]]))
include hf
theorem those1_eq (x : Int) : V 123 [.p (.int .i64 x),.ptr (.arg 0 0) 0 0] [.box [.fn f [.ptr (.arg 1 0) 0 0]],.box [.p (intsP b)]] = some (.p (.bool (!p x)),[.box [.fn f [.ptr (.arg 1 0) 0 0]],.box [.p (intsP b)]]):=by
 refine V_wp (vf:=vf123) rfl ?_
 have h1:=hf x
 simp -implicitDefEqProofs (disch:=omega) only [vf123,vb123,h1,go_sem,↓reduceIte,rA,rS,rE,rL,reduceCtorEq]
theorem indexOwn_eq (xs : List Int) (hl : xs.length < 1000000) : V 125 [.own (.arg 0 0) 0 0 xs.length,.fn 123 [.ptr (.arg 1 0) 0 0]] (HD f b xs) = some (.p (.int .i64 (idxI (fun x=>!p x) xs 0)),HD f b xs):=by
 refine V_wp (vf:=vf125) rfl ?_
 simp -implicitDefEqProofs (disch:=omega) only [vf125,vb125,go_sem,↓reduceIte,rA,rS,rE,rL,reduceCtorEq]
 obtain ⟨I,hI⟩ : ∃ I : Nat -> St -> Prop,∀ k s,I k s ↔ idxI (fun x=>!p x) xs 0 = idxI (fun x=>!p x) (xs.drop k) k /\ s.pe 0 = .own (.arg 0 0) 0 0 xs.length /\ s.pe 1 = .fn 123 [.ptr (.arg 1 0) 0 0] /\ s.pe 7 = .p (.int .i64 xs.length) /\ s.pe 8 = .p (.int .i64 k) /\ s.h (.arg 0 0) = some (0,Ob.arr 1 (xs.map (.int .i64))) /\ s.h (.arg 1 0) = some (0,Ob.box [.fn f [.ptr (.arg 2 0) 0 0]]) /\ s.h (.arg 2 0) = some (0,Ob.box [.p (intsP b)]):=⟨_,fun _ _=>Iff.rfl⟩
 refine wp_count (xs.length) I ?_ ?_
 ·refine (hI _ _).2 ⟨?_,?_,?_,?_,?_,?_,?_,?_⟩
  ·rfl
  all_goals exact cl0
 intro k s hk hIk
 obtain ⟨hall,h0,h1,h7,h8,ha0,ha1,ha2⟩:=(hI _ _).1 hIk
 clear hIk
 simp -implicitDefEqProofs (disch:=omega) only [h0,h1,h7,h8,ha0,ha1,ha2,go_sem,↓reduceIte,rA,rS,rE,rL,reduceCtorEq]
 refine wp_if_d (fun hlt=>?_) (fun hge=>?_)
 ·have hm : xs[k]? = some xs[k]:=lgg (by omega)
  have hd : xs.drop k = xs[k] :: xs.drop (k + 1):=ldg (by omega)
  generalize xs[k] = x at hm hd
  have h1f:=those1_eq hf x
  rw [hd] at hall
  by_cases hp : p x = true
  ·rw [hp] at h1f
   have hall2 : idxI (fun x=>!p x) xs 0 = idxI (fun x=>!p x) (xs.drop (k + 1)) (k + 1):=by rw [hall]; simp [idxI,hp]
   simp -implicitDefEqProofs (disch:=omega) only [h0,h1,h7,h8,ha0,ha1,ha2,hlt,hm,h1f,go_sem,↓reduceIte,rA,rS,rE,rL,reduceCtorEq]
   try refine And.intro (by omega) ?_
   refine (hI _ _).2 ⟨?_,?_,?_,?_,?_,?_,?_,?_⟩
   .exact hall2
   all_goals exact cl0
  ·have hp : p x = false:=by simpa using hp
   rw [hp] at h1f
   have hall2 : idxI (fun x=>!p x) xs 0 = k:=by rw [hall]; simp [idxI,hp]
   rw [hall2]
   simp -implicitDefEqProofs (disch:=omega) only [h0,h1,h7,h8,ha0,ha1,ha2,hlt,hm,h1f,go_sem,↓reduceIte,rA,rS,rE,rL,reduceCtorEq]
 ·rw [ldl (by omega)] at hall
  rw [hall]
  simp -implicitDefEqProofs (disch:=omega) only [h0,h1,h7,h8,ha0,ha1,ha2,hge,go_sem,↓reduceIte,rA,rS,rE,rL,reduceCtorEq]
  rfl
theorem delete_eq (xs : List Int) (hl : xs.length < 1000000) : V 122 [.own (.arg 0 0) 0 0 xs.length,.fn 123 [.ptr (.arg 1 0) 0 0]] (HD f b xs) = some (.own (.arg 0 0) 0 0 (xs.filter p).length,HD f b (xs.filter p ++ List.replicate (xs.length - (xs.filter p).length) 0)):=by
 refine V_wp (vf:=vf122) rfl ?_
 have hi:=indexOwn_eq hf xs hl
 rcases idxI_cases (fun x=>!p x) xs 0 with ⟨h1,h2⟩ | ⟨i,hil,h2,h3,x0,h4,h5⟩
 ·rw [h1] at hi
  have hfl : xs.filter p = xs:=List.filter_eq_self.2 fun x hx=>by have:=h2 x hx; simpa using this
  rw [hfl]
  have hz : xs.length - xs.length = 0:=by omega
  simp -implicitDefEqProofs (disch:=omega) only [vf122,vb122,hi,hz,go_sem,↓reduceIte,rA,rS,rE,rL,reduceCtorEq]
  simp
 ·rw [h2,Nat.zero_add] at hi
  have hne : ¬ ((i : Nat) : Int) = -1:=by omega
  have hfi : (xs.take (i + 1)).filter p = xs.take i:=by
   rw [take_snoc h4,List.filter_append,List.filter_eq_self.2 fun x hx=>by have:=h3 x hx; simpa using this]
   have : p x0 = false:=by simpa using h5
   simp [this]
  simp -implicitDefEqProofs (disch:=omega) only [vf122,vb122,hi,hne,go_sem,↓reduceIte,rA,rS,rE,rL,reduceCtorEq]
  obtain ⟨I,hI⟩ : ∃ I : Nat -> St -> Prop,∀ k s,I k s ↔ ∃ (m : Nat) (A : List Int),A.take m = (xs.take (i + 1 + k)).filter p /\ A.drop (i + 1 + k) = xs.drop (i + 1 + k) /\ A.length = xs.length /\ (m < i + 1 + k) /\ s.pe 0 = .own (.arg 0 0) 0 0 xs.length /\ s.pe 1 = .fn 123 [.ptr (.arg 1 0) 0 0] /\ s.pe 5 = .p (.int .i64 (m : Nat)) /\ s.pe 6 = .p (.int .i64 ((i + 1 + k : Nat) : Int)) /\ s.h (.arg 0 0) = some (0,Ob.arr 1 (A.map (.int .i64))) /\ s.h (.arg 1 0) = some (0,Ob.box [.fn f [.ptr (.arg 2 0) 0 0]]) /\ s.h (.arg 2 0) = some (0,Ob.box [.p (intsP b)]):=⟨_,fun _ _=>Iff.rfl⟩
  refine wp_count ((xs.length - (i + 1))) I ?_ ?_
  ·refine (hI _ _).2 ⟨i,xs,?_,?_,?_,?_,?_,?_,?_,?_,?_,?_,?_⟩
   ·exact hfi.symm
   ·rfl
   ·rfl
   ·omega
   all_goals exact cl0
  intro k s hk hIk
  obtain ⟨m,A,hm1,hm2,hal,hmk,h0,h1,h5,h6,ha0,ha1,ha2⟩:=(hI _ _).1 hIk
  clear hIk
  generalize hq : i + 1 + k = q at hm1 hm2 hmk h6
  simp -implicitDefEqProofs (disch:=omega) only [h0,h1,h5,h6,ha0,ha1,ha2,go_sem,↓reduceIte,rA,rS,rE,rL,reduceCtorEq]
  refine wp_if_d (fun hlt=>?_) (fun hge=>?_)
  ·have hql : q < xs.length:=by omega
   have hm : xs[q]? = some xs[q]:=lgg hql
   have htk:=take_snoc hm
   have hAx : A[q]? = xs[q]?:=by
    have:=congrArg (fun l=>l[0]?) hm2
    simpa using this
   rw [hm] at hAx
   have hdr : A.drop (q + 1) = xs.drop (q + 1):=by
    have:=congrArg (List.drop 1) hm2
    simpa [List.drop_drop] using this
   generalize xs[q] = x at hm htk hAx
   have h1f:=those1_eq hf x
   have hml : m < A.length:=by omega
   have hAm : A[m]? = some A[m]:=lgg hml
   generalize A[m] = y at hAm
   have hq2 : i + 1 + (k + 1) = q + 1:=by omega
   by_cases hp : p x = true
   ·rw [hp] at h1f
    have hset : (A.map (PV.int .i64)).set m (.int .i64 x) = (A.set m x).map (PV.int .i64):=by rw [List.map_set]
    have e1 : (A.set m x).take (m + 1) = (xs.take (q + 1)).filter p:=by
     rw [htk,List.filter_append,<- hm1,List.take_add_one,List.getElem?_set_self hml,List.take_set_of_le (lrf m)]
     simp [hp]
    have e2 : (A.set m x).drop (q + 1) = xs.drop (q + 1):=by rw [List.drop_set_of_lt (by omega),hdr]
    simp -implicitDefEqProofs (disch:=omega) only [h0,h1,h5,h6,ha0,ha1,ha2,hlt,hAx,h1f,hAm,hset,go_sem,↓reduceIte,rA,rS,rE,rL,reduceCtorEq]
    try refine And.intro (by omega) ?_
    refine (hI _ _).2 ⟨m + 1,A.set m x,?_,?_,?_,?_,?_,?_,?_,?_,?_,?_,?_⟩
    ·exact by rw [hq2]; exact e1
    ·exact by rw [hq2]; exact e2
    ·exact by rw [List.length_set]; exact hal
    ·omega
    all_goals exact cl0
   ·have hp : p x = false:=by simpa using hp
    rw [hp] at h1f
    have e1 : A.take m = (xs.take (q + 1)).filter p:=by
     rw [htk,List.filter_append,<- hm1]
     simp [hp]
    simp -implicitDefEqProofs (disch:=omega) only [h0,h1,h5,h6,ha0,ha1,ha2,hlt,hAx,h1f,go_sem,↓reduceIte,rA,rS,rE,rL,reduceCtorEq]
    try refine And.intro (by omega) ?_
    refine (hI _ _).2 ⟨m,A,?_,?_,?_,?_,?_,?_,?_,?_,?_,?_,?_⟩
    .exact by rw [hq2]; exact e1
    .exact by rw [hq2]; exact hdr
    .exact hal
    .omega
    all_goals exact cl0
  ·have hqe : q = xs.length:=by omega
   rw [hqe,ltl (lrf _)] at hm1
   have hml : m = (xs.filter p).length:=by
    have:=congrArg List.length hm1
    rw [llt] at this
    omega
   simp -implicitDefEqProofs (disch:=omega) only [h0,h1,h5,h6,ha0,ha1,ha2,hge,go_sem,↓reduceIte,rA,rS,rE,rL,reduceCtorEq]
   have e1 : List.take m (A.map (PV.int .i64)) = (xs.filter p).map (PV.int .i64):=by rw [<- List.map_take,hm1]
   have e2 : List.drop (m + (List.replicate (xs.length - m) (PV.int IntKind.i64 0)).length) (A.map (PV.int .i64)) = []:=ldl (by simp; omega)
   rw [e1,e2,lan,Nat.sub_zero,hml]
   simp
end
end Go.V
namespace Go.V
def UL (x y : List Int) : List Int:=sortU (x ++ y)
def IL (x y : List Int) : List Int:=(sortU x).filter fun z=>decide (z ∈ y)
def ML (x y : List Int) : List Int:=(sortU x).filter fun z=>!decide (z ∈ y)
theorem UL_len (x y : List Int) : (UL x y).length <= x.length + y.length:=by
 have:=sortU_length (x ++ y)
 rw [lla] at this
 exact this
theorem IL_len (x y : List Int) : (IL x y).length <= x.length:=Nat.le_trans (List.length_filter_le _ _) (sortU_length x)
theorem ML_len (x y : List Int) : (ML x y).length <= x.length:=Nat.le_trans (List.length_filter_le _ _) (sortU_length x)
theorem union_eq (x y : List Int) (hx : x.length < 100000) (hy : y.length < 100000) : V 30 [.p (intsP x),.p (intsP y)] [] = some (.fresh 1 ((UL x y).map (.int .i64)),[]):=by
 refine V_wp (vf:=vf30) rfl ?_
 have h1:=concat_eq x y (by omega) (by omega)
 have h2:=csorted_eq (x ++ y) (by rw [lla]; omega)
 have ht1 : List.take (x ++ y).length ((x ++ y).map (PV.int .i64)) = (x ++ y).map (PV.int .i64):=ltl (by simp)
 have ht2 : List.take (UL x y).length ((UL x y).map (PV.int .i64)) = (UL x y).map (PV.int .i64):=ltl (by simp)
 unfold UL at ht2 ⊢
 generalize x ++ y = l at *
 simp -implicitDefEqProofs (disch:=omega) only [vf30,vb30,h1,h2,ht1,ht2,go_sem,↓reduceIte,rA,rS,rE,rL,reduceCtorEq]
section
variable {f : Nat} {b : List Int} {p : Int -> Bool} (hf : ∀ x,V f [.p (.int .i64 x),.ptr (.arg 0 0) 0 0] [.box [.p (intsP b)]] = some (.p (.bool (p x)),[.box [.p (intsP b)]]))
include hf
theorem those3_eq (a : List Int) (hl : a.length < 100000) : V 72 [.p (intsP a),.fn f [.ptr (.arg 0 0) 0 0]] [.box [.p (intsP b)]] = some (.fresh 1 (((sortU a).filter p).map (.int .i64)),[.box [.p (intsP b)]]):=by
 refine V_wp (vf:=vf72) rfl ?_
 have h1:=csorted_eq a (by omega)
 have hsl:=sortU_length a
 have h2:=delete_eq hf (sortU a) (by omega)
 have hfl:=List.length_filter_le p (sortU a)
 have ht1 : List.take ((sortU a).filter p).length (((sortU a).filter p ++ List.replicate ((sortU a).length - ((sortU a).filter p).length) 0).map (PV.int .i64)) = ((sortU a).filter p).map (PV.int .i64):=by
  rw [lma,List.take_append_of_le_length (by simp),ltl (by simp)]
 generalize sortU a = s at *
 generalize List.filter p s = q at *
 unfold HD at h2
 have hsp : q.length + (s.length - q.length) = s.length:=by omega
 simp -implicitDefEqProofs (disch:=omega) only [vf72,vb72,h1,h2,ht1,hfl,List.length_replicate,hsp,go_sem,↓reduceIte,rA,rS,rE,rL,reduceCtorEq]
end
theorem inter_eq (x y : List Int) (hx : x.length < 100000) (hy : y.length < 100000) : V 31 [.p (intsP x),.p (intsP y)] [] = some (.fresh 1 ((IL x y).map (.int .i64)),[]):=by
 refine V_wp (vf:=vf31) rfl ?_
 have h1:=those3_eq (fun z=>in_eq y z (by omega)) x hx
 have ht2 : List.take (IL x y).length ((IL x y).map (PV.int .i64)) = (IL x y).map (PV.int .i64):=ltl (by simp)
 unfold IL at ht2 ⊢
 generalize List.filter (fun z=>decide (z ∈ y)) (sortU x) = q at *
 simp -implicitDefEqProofs (disch:=omega) only [vf31,vb31,h1,ht2,go_sem,↓reduceIte,rA,rS,rE,rL,reduceCtorEq]
theorem minus_eq (x y : List Int) (hx : x.length < 100000) (hy : y.length < 100000) : V 32 [.p (intsP x),.p (intsP y)] [] = some (.fresh 1 ((ML x y).map (.int .i64)),[]):=by
 refine V_wp (vf:=vf32) rfl ?_
 have h1:=those3_eq (fun z=>out_eq y z (by omega)) x hx
 have ht2 : List.take (ML x y).length ((ML x y).map (PV.int .i64)) = (ML x y).map (PV.int .i64):=ltl (by simp)
 unfold ML at ht2 ⊢
 generalize List.filter (fun z=>!decide (z ∈ y)) (sortU x) = q at *
 simp -implicitDefEqProofs (disch:=omega) only [vf32,vb32,h1,ht2,go_sem,↓reduceIte,rA,rS,rE,rL,reduceCtorEq]
theorem idxI_any (f : Int -> Bool) (l : List Int) : decide (idxI f l 0 ≥ 0) = l.any f:=by
 rcases idxI_cases f l 0 with ⟨h1,h2⟩ | ⟨i,hi,h2,h3,x,h4,h5⟩
 ·rw [h1]
  have : l.any f = false:=by rw [List.any_eq_false]; intro x hx; simp [h2 x hx]
  rw [this]
  rfl
 ·rw [h2]
  have : l.any f = true:=List.any_eq_true.2 ⟨x,lmg h4,h5⟩
  rw [this]
  exact decide_eq_true (by omega)
theorem indexW_eq (b xs : List Int) (hb : b.length < 1000000) (hl : xs.length < 1000000) : V 125 [.p (intsP xs),.fn 78 [.ptr (.arg 0 0) 0 0]] [.box [.p (intsP b)]] = some (.p (.int .i64 (idxI (fun x=>!decide (x ∈ b)) xs 0)),[.box [.p (intsP b)]]):=by
 refine V_wp (vf:=vf125) rfl ?_
 simp -implicitDefEqProofs (disch:=omega) only [vf125,vb125,go_sem,↓reduceIte,rA,rS,rE,rL,reduceCtorEq]
 obtain ⟨I,hI⟩ : ∃ I : Nat -> St -> Prop,∀ k s,I k s ↔ idxI (fun x=>!decide (x ∈ b)) xs 0 = idxI (fun x=>!decide (x ∈ b)) (xs.drop k) k /\ s.pe 0 = .p (intsP xs) /\ s.pe 1 = .fn 78 [.ptr (.arg 0 0) 0 0] /\ s.pe 7 = .p (.int .i64 xs.length) /\ s.pe 8 = .p (.int .i64 k) /\ s.h (.arg 0 0) = some (0,Ob.box [.p (intsP b)]):=⟨_,fun _ _=>Iff.rfl⟩
 refine wp_count (xs.length) I ?_ ?_
 ·refine (hI _ _).2 ⟨?_,?_,?_,?_,?_,?_⟩
  ·rfl
  all_goals exact cl0
 intro k s hk hIk
 obtain ⟨hall,h0,h1,h7,h8,ha0⟩:=(hI _ _).1 hIk
 clear hIk
 simp -implicitDefEqProofs (disch:=omega) only [h0,h1,h7,h8,ha0,go_sem,↓reduceIte,rA,rS,rE,rL,reduceCtorEq]
 refine wp_if_d (fun hlt=>?_) (fun hge=>?_)
 ·have hm : xs[k]? = some xs[k]:=lgg (by omega)
  have hd : xs.drop k = xs[k] :: xs.drop (k + 1):=ldg (by omega)
  generalize xs[k] = x at hm hd
  have h1f:=within1_eq b x hb
  rw [hd] at hall
  by_cases hp : x ∈ b
  ·rw [decide_eq_true hp] at h1f
   have hall2 : idxI (fun x=>!decide (x ∈ b)) xs 0 = idxI (fun x=>!decide (x ∈ b)) (xs.drop (k + 1)) (k + 1):=by rw [hall]; simp [idxI,hp]
   simp -implicitDefEqProofs (disch:=omega) only [h0,h1,h7,h8,ha0,hlt,hm,h1f,go_sem,↓reduceIte,rA,rS,rE,rL,reduceCtorEq]
   try refine And.intro (by omega) ?_
   refine (hI _ _).2 ⟨?_,?_,?_,?_,?_,?_⟩
   .exact hall2
   all_goals exact cl0
  ·rw [decide_eq_false hp] at h1f
   have hall2 : idxI (fun x=>!decide (x ∈ b)) xs 0 = k:=by rw [hall]; simp [idxI,hp]
   rw [hall2]
   simp -implicitDefEqProofs (disch:=omega) only [h0,h1,h7,h8,ha0,hlt,hm,h1f,go_sem,↓reduceIte,rA,rS,rE,rL,reduceCtorEq]
 ·rw [ldl (by omega)] at hall
  rw [hall]
  simp -implicitDefEqProofs (disch:=omega) only [h0,h1,h7,h8,ha0,hge,go_sem,↓reduceIte,rA,rS,rE,rL,reduceCtorEq]
  rfl
def WL (x y : List Int) : Bool:=x.all fun z=>decide (z ∈ y)
theorem within_eq (x y : List Int) (hx : x.length < 100000) (hy : y.length < 100000) : V 37 [.p (intsP x),.p (intsP y)] [] = some (.p (.bool (WL x y)),[]):=by
 have hc : V 77 [.p (intsP x),.fn 78 [.ptr (.arg 0 0) 0 0]] [.box [.p (intsP y)]] = some (.p (.bool (x.any fun z=>!decide (z ∈ y))),[.box [.p (intsP y)]]):=by
  refine V_wp (vf:=vf77) rfl ?_
  have h1:=indexW_eq y x (by omega) (by omega)
  have h2:=idxI_any (fun z=>!decide (z ∈ y)) x
  generalize idxI (fun z=>!decide (z ∈ y)) x 0 = i at h1 h2
  rw [<- h2]
  simp -implicitDefEqProofs (disch:=omega) only [vf77,vb77,h1,go_sem,↓reduceIte,rA,rS,rE,rL,reduceCtorEq]
 refine V_wp (vf:=vf37) rfl ?_
 have he : WL x y = !(x.any fun z=>!decide (z ∈ y)):=by
  unfold WL
  rw [List.all_eq_not_any_not]
 rw [he]
 generalize (x.any fun z=>!decide (z ∈ y)) = w at hc
 simp -implicitDefEqProofs (disch:=omega) only [vf37,vb37,hc,go_sem,↓reduceIte,rA,rS,rE,rL,reduceCtorEq]
theorem runion_eq (x y : List Int) (hx : x.length < 100000) (hy : y.length < 100000) : V 34 [.p (intsP x),.p (intsP y)] [] = some (.fresh 1 ((UL x y).map (.int .i64)),[]):=by
 refine V_wp (vf:=vf34) rfl ?_
 have h2 : V 39 [.p (.slice 1 (x.map (.int .i64) ++ y.map (.int .i64)))] [] = some (.fresh 1 ((sortU (x ++ y)).map (.int .i64)),[]):=by
  rw [<- lma]
  exact rsorted_eq (x ++ y) (by rw [lla]; omega)
 have ht0 : List.take x.length (x.map (PV.int .i64)) = x.map (PV.int .i64):=ltl (by simp)
 have ht1 : List.take (x.length + y.length) (x.map (PV.int .i64) ++ y.map (PV.int .i64)) = x.map (PV.int .i64) ++ y.map (PV.int .i64):=ltl (by simp)
 have ht2 : List.take (UL x y).length ((UL x y).map (PV.int .i64)) = (UL x y).map (PV.int .i64):=ltl (by simp)
 unfold UL at ht2 ⊢
 generalize sortU (x ++ y) = s at *
 simp -implicitDefEqProofs (disch:=omega) only [vf34,vb34,h2,ht0,ht1,ht2,go_sem,↓reduceIte,rA,rS,rE,rL,reduceCtorEq]
set_option maxHeartbeats 1000000 in
theorem rinter_eq (x y : List Int) (hx : x.length < 100000) (hy : y.length < 100000) : V 35 [.p (intsP x),.p (intsP y)] [] = some (.fresh 1 ((sortU (x.filter fun z=>decide (z ∈ y))).map (.int .i64)),[]):=by
 refine V_wp (vf:=vf35) rfl ?_
 simp -implicitDefEqProofs (disch:=omega) only [vf35,vb35,go_sem,↓reduceIte,rA,rS,rE,rL,reduceCtorEq]
 obtain ⟨I,hI⟩ : ∃ I : Nat -> St -> Prop,∀ k s,I k s ↔ ∃ (w : Nat) (A : List Int),A = (x.take k).filter (fun z=>decide (z ∈ y)) /\ s.pe 0 = .p (intsP x) /\ s.pe 1 = .p (intsP y) /\ s.pe 5 = .own (.slot 5 0) w 0 A.length /\ s.pe 6 = .p (.int .i64 k) /\ s.h (.slot 5 0) = some (w,Ob.arr 1 (A.map (.int .i64))):=⟨_,fun _ _=>Iff.rfl⟩
 refine wp_count (x.length) I ?_ ?_
 ·refine (hI _ _).2 ⟨0,[],?_,?_,?_,?_,?_,?_⟩
  ·exact by simp
  all_goals exact cl0
 intro k s hk hIk
 obtain ⟨w,A,hA,h0,h1,h5,h6,hh5_0⟩:=(hI _ _).1 hIk
 clear hIk
 have hAl : A.length <= x.length:=by
  rw [hA]
  exact Nat.le_trans (List.length_filter_le _ _) (by rw [llt]; omega)
 have htk : List.take A.length (A.map (PV.int .i64)) = A.map (PV.int .i64):=ltl (by simp)
 simp -implicitDefEqProofs (disch:=omega) only [h0,h1,h5,h6,hh5_0,go_sem,↓reduceIte,rA,rS,rE,rL,reduceCtorEq]
 refine wp_if_d (fun hlt=>?_) (fun hge=>?_)
 ·have hm : x[k]? = some x[k]:=lgg (by omega)
  have hsn:=take_snoc hm
  generalize x[k] = z at hm hsn
  have hh:=rhas_eq y z (by omega)
  by_cases hz : z ∈ y
  ·rw [decide_eq_true hz] at hh
   have hA2 : A ++ [z] = (x.take (k + 1)).filter (fun z=>decide (z ∈ y)):=by rw [hsn,List.filter_append,hA]; simp [hz]
   simp -implicitDefEqProofs (disch:=omega) only [h0,h1,h5,h6,hh5_0,hlt,hm,hh,htk,go_sem,↓reduceIte,rA,rS,rE,rL,reduceCtorEq]
   try refine And.intro (by omega) ?_
   refine (hI _ _).2 ⟨w + 1,A ++ [z],?_,?_,?_,?_,?_,?_⟩
   .exact hA2
   all_goals exact cl0
  ·rw [decide_eq_false hz] at hh
   have hA2 : A = (x.take (k + 1)).filter (fun z=>decide (z ∈ y)):=by rw [hsn,List.filter_append,hA]; simp [hz]
   simp -implicitDefEqProofs (disch:=omega) only [h0,h1,h5,h6,hh5_0,hlt,hm,hh,go_sem,↓reduceIte,rA,rS,rE,rL,reduceCtorEq]
   try refine And.intro (by omega) ?_
   refine (hI _ _).2 ⟨w,A,?_,?_,?_,?_,?_,?_⟩
   .exact hA2
   all_goals exact cl0
 ·rw [ltl (by omega)] at hA
  have hs:=rsorted_eq A (by omega)
  rw [<- hA]
  have ht2 : List.take (sortU A).length ((sortU A).map (PV.int .i64)) = (sortU A).map (PV.int .i64):=ltl (by simp)
  simp -implicitDefEqProofs (disch:=omega) only [h0,h1,h5,h6,hh5_0,hge,hs,htk,ht2,go_sem,↓reduceIte,rA,rS,rE,rL,reduceCtorEq]
set_option maxHeartbeats 1000000 in
theorem rminus_eq (x y : List Int) (hx : x.length < 100000) (hy : y.length < 100000) : V 36 [.p (intsP x),.p (intsP y)] [] = some (.fresh 1 ((sortU (x.filter fun z=>!decide (z ∈ y))).map (.int .i64)),[]):=by
 refine V_wp (vf:=vf36) rfl ?_
 simp -implicitDefEqProofs (disch:=omega) only [vf36,vb36,go_sem,↓reduceIte,rA,rS,rE,rL,reduceCtorEq]
 obtain ⟨I,hI⟩ : ∃ I : Nat -> St -> Prop,∀ k s,I k s ↔ ∃ (w : Nat) (A : List Int),A = (x.take k).filter (fun z=>!decide (z ∈ y)) /\ s.pe 0 = .p (intsP x) /\ s.pe 1 = .p (intsP y) /\ s.pe 5 = .own (.slot 5 0) w 0 A.length /\ s.pe 6 = .p (.int .i64 k) /\ s.h (.slot 5 0) = some (w,Ob.arr 1 (A.map (.int .i64))):=⟨_,fun _ _=>Iff.rfl⟩
 refine wp_count (x.length) I ?_ ?_
 ·refine (hI _ _).2 ⟨0,[],?_,?_,?_,?_,?_,?_⟩
  ·exact by simp
  all_goals exact cl0
 intro k s hk hIk
 obtain ⟨w,A,hA,h0,h1,h5,h6,hh5_0⟩:=(hI _ _).1 hIk
 clear hIk
 have hAl : A.length <= x.length:=by
  rw [hA]
  exact Nat.le_trans (List.length_filter_le _ _) (by rw [llt]; omega)
 have htk : List.take A.length (A.map (PV.int .i64)) = A.map (PV.int .i64):=ltl (by simp)
 simp -implicitDefEqProofs (disch:=omega) only [h0,h1,h5,h6,hh5_0,go_sem,↓reduceIte,rA,rS,rE,rL,reduceCtorEq]
 refine wp_if_d (fun hlt=>?_) (fun hge=>?_)
 ·have hm : x[k]? = some x[k]:=lgg (by omega)
  have hsn:=take_snoc hm
  generalize x[k] = z at hm hsn
  have hh:=rhas_eq y z (by omega)
  by_cases hz : z ∈ y
  ·rw [decide_eq_true hz] at hh
   have hA2 : A = (x.take (k + 1)).filter (fun z=>!decide (z ∈ y)):=by rw [hsn,List.filter_append,hA]; simp [hz]
   simp -implicitDefEqProofs (disch:=omega) only [h0,h1,h5,h6,hh5_0,hlt,hm,hh,go_sem,↓reduceIte,rA,rS,rE,rL,reduceCtorEq]
   try refine And.intro (by omega) ?_
   refine (hI _ _).2 ⟨w,A,?_,?_,?_,?_,?_,?_⟩
   .exact hA2
   all_goals exact cl0
  ·rw [decide_eq_false hz] at hh
   have hA2 : A ++ [z] = (x.take (k + 1)).filter (fun z=>!decide (z ∈ y)):=by rw [hsn,List.filter_append,hA]; simp [hz]
   simp -implicitDefEqProofs (disch:=omega) only [h0,h1,h5,h6,hh5_0,hlt,hm,hh,htk,go_sem,↓reduceIte,rA,rS,rE,rL,reduceCtorEq]
   try refine And.intro (by omega) ?_
   refine (hI _ _).2 ⟨w + 1,A ++ [z],?_,?_,?_,?_,?_,?_⟩
   .exact hA2
   all_goals exact cl0
 ·rw [ltl (by omega)] at hA
  have hs:=rsorted_eq A (by omega)
  rw [<- hA]
  have ht2 : List.take (sortU A).length ((sortU A).map (PV.int .i64)) = (sortU A).map (PV.int .i64):=ltl (by simp)
  simp -implicitDefEqProofs (disch:=omega) only [h0,h1,h5,h6,hh5_0,hge,hs,htk,ht2,go_sem,↓reduceIte,rA,rS,rE,rL,reduceCtorEq]
theorem rwithin_eq (x y : List Int) (hx : x.length < 100000) (hy : y.length < 100000) : V 38 [.p (intsP x),.p (intsP y)] [] = some (.p (.bool (decide ((sortU (x.filter fun z=>!decide (z ∈ y))).length = 0))),[]):=by
 refine V_wp (vf:=vf38) rfl ?_
 have h1:=rminus_eq x y hx hy
 generalize sortU (x.filter fun z=>!decide (z ∈ y)) = s at h1
 simp -implicitDefEqProofs (disch:=omega) only [vf38,vb38,h1,go_sem,↓reduceIte,rA,rS,rE,rL,reduceCtorEq]
 simp
theorem IL_ref (x y : List Int) : sortU (x.filter fun z=>decide (z ∈ y)) = IL x y:=asc_ext (sortU_inc _) ((sortU_inc x).filter _) fun z=>by simp [mem_sortU,IL]
theorem ML_ref (x y : List Int) : sortU (x.filter fun z=>!decide (z ∈ y)) = ML x y:=asc_ext (sortU_inc _) ((sortU_inc x).filter _) fun z=>by simp [mem_sortU,ML]
theorem mem_UL {x y : List Int} {z : Int} : z ∈ UL x y ↔ z ∈ x \/ z ∈ y:=by simp [UL,mem_sortU]
theorem mem_IL {x y : List Int} {z : Int} : z ∈ IL x y ↔ z ∈ x /\ z ∈ y:=by simp [IL,mem_sortU]
theorem mem_ML {x y : List Int} {z : Int} : z ∈ ML x y ↔ z ∈ x /\ z ∉ y:=by simp [ML,mem_sortU]
theorem asc_UL (x y : List Int) : Asc (UL x y):=sortU_inc _
theorem asc_IL (x y : List Int) : Asc (IL x y):=(sortU_inc x).filter _
theorem asc_ML (x y : List Int) : Asc (ML x y):=(sortU_inc x).filter _
theorem law_a (x y : List Int) : UL (IL x y) (ML x y) = sortU x:=asc_ext (asc_UL _ _) (sortU_inc _) fun z=>by
 rw [mem_UL,mem_IL,mem_ML,mem_sortU]
 by_cases h : z ∈ y <;> simp [h]
theorem law_b (x y z : List Int) : IL x (UL y z) = UL (IL x y) (IL x z):=asc_ext (asc_IL _ _) (asc_UL _ _) fun w=>by
 rw [mem_IL,mem_UL,mem_UL,mem_IL,mem_IL]
 by_cases h : w ∈ x <;> simp [h]
theorem law_c (x y z : List Int) : ML x (UL y z) = IL (ML x y) (ML x z):=asc_ext (asc_ML _ _) (asc_IL _ _) fun w=>by
 rw [mem_ML,mem_UL,mem_IL,mem_ML,mem_ML]
 by_cases h : w ∈ x <;> simp [h]
theorem law_d (x y : List Int) : WL x y = decide ((ML x y).length = 0):=by
 rw [Bool.eq_iff_iff,decide_eq_true_eq,List.length_eq_zero_iff]
 unfold WL
 rw [List.all_eq_true]
 constructor
 ·intro h
  refine List.eq_nil_iff_forall_not_mem.2 fun z hz=>?_
  obtain ⟨h1,h2⟩:=mem_ML.1 hz
  exact h2 (of_decide_eq_true (h z h1))
 ·intro h z hz
  refine decide_eq_true (Decidable.byContradiction fun hn=>?_)
  have:=mem_ML.2 ⟨hz,hn⟩
  rw [h] at this
  cases this
end Go.V
namespace Go.V
def SomeR (L : List Int) (r : VVal × List Ob) : Prop:=∃ (S : List Int) (a' : Nat),r = (.p (intsP S),[diceB L a']) /\ S.length <= 6
theorem dsome_ok (L : List Int) (a : Nat) (hL : L.length < 4611686018427387904) : ∃ (S : List Int) (a' : Nat),V 28 [.ptr (.arg 0 0) 0 0] [diceB L a] = some (.p (intsP S),[diceB L a']) /\ S.length <= 6:=by
 suffices hw : wp (callF V vf28 [.ptr (.arg 0 0) 0 0] [diceB L a]) (SomeR L) by
  obtain ⟨r,hr,S,a',rfl,hs⟩:=hw
  exact ⟨S,a',V_fix (f:=28) (vf:=vf28) rfl hr,hs⟩
 have hn:=next_eq L a 6 hL (by omega)
 have q0:=nextV_nonneg L a 6
 have q1:=nextV_lt L a (n:=6) (by omega)
 generalize nextA L a 6 = a1 at hn
 generalize nextV L a 6 = nz at hn q0 q1
 obtain ⟨n,rfl⟩ : ∃ n : Nat,nz = (n : Int):=⟨nz.toNat,by omega⟩
 simp -implicitDefEqProofs (disch:=omega) only [vf28,vb28,hn,go_sem,↓reduceIte,rA,rS,rE,rL,reduceCtorEq]
 refine wp_meas (σ:=Nat × Nat × Nat × List Int) (fun x s=>x.2.2.2.length + x.1 <= 6 /\ s.pe 0 = .ptr (.arg 0 0) 0 0 /\ s.pe 3 = .own (.slot 3 0) x.2.2.1 0 x.2.2.2.length /\ s.pe 4 = .p (.int .i64 (x.1 : Nat)) /\ s.h (.arg 0 0) = some (0,diceB L x.2.1) /\ s.h (.slot 3 0) = some (x.2.2.1,.arr 1 (x.2.2.2.map (.int .i64)))) (fun x=>x.1) (n,a1,0,[]) ?_ ?_
 ·exact ⟨by simp only [lln]; omega,rfl,rfl,rfl,rfl,rfl⟩
 ·rintro ⟨m,b,w,S⟩ s ⟨hl,h0,h3,h4,ha,hh⟩
  simp only at hl h3 h4 ha hh
  have htk : List.take S.length (S.map (PV.int .i64)) = S.map (PV.int .i64):=ltl (by simp)
  simp -implicitDefEqProofs (disch:=omega) only [h0,h3,h4,ha,hh,go_sem,↓reduceIte,rA,rS,rE,rL,reduceCtorEq]
  refine wp_if_d (fun hgt=>?_) (fun hle=>?_)
  ·obtain ⟨m',rfl⟩ : ∃ m',m = m' + 1:=⟨m - 1,by omega⟩
   have h12:=next_eq L b 12 hL (by omega)
   have v0:=nextV_nonneg L b 12
   have v1:=nextV_lt L b (n:=12) (by omega)
   generalize nextA L b 12 = b1 at h12
   generalize nextV L b 12 = v at h12 v0 v1
   have hw2 : IntKind.i64.wrap (v - 2) = v - 2:=wrap64 (by omega) (by omega)
   simp -implicitDefEqProofs (disch:=omega) only [h0,h3,h4,ha,hh,h12,hw2,htk,go_sem,↓reduceIte,rA,rS,rE,rL,reduceCtorEq]
   refine ⟨(m',b1,w + 1,S ++ [v - 2]),Nat.lt_succ_self _,by simp only [lla,llc,lln]; omega,?_⟩
   simp -implicitDefEqProofs (disch:=omega) only [h0,h3,h4,ha,hh,go_sem,↓reduceIte,rA,rS,rE,rL,reduceCtorEq]
   simp only [lma,lpc,lpn,lla,llc,lln,Nat.zero_add,and_true,true_and]
   exact congrArg (fun n : Int=>VVal.p (.int .i64 n)) (by omega)
  ·simp -implicitDefEqProofs (disch:=omega) only [h0,h3,h4,ha,hh,htk,go_sem,↓reduceIte,rA,rS,rE,rL,reduceCtorEq]
   exact ⟨S,b,rfl,by omega⟩
abbrev Tri:=List Int × List Int × List Int
def trP (t : Tri) : PV:=.agg [intsP t.1,intsP t.2.1,intsP t.2.2]
def EnvT (ts : List Tri) (k : Nat) (s : St) : Prop:=∃ v48,s.pe 48 = .own (.slot 48 0) v48 0 ts.length /\ s.h (.slot 48 0) = some (v48,.arr 3 (ts.map trP)) /\ s.pe 49 = .p (.int .i64 ts.length) /\ s.pe 50 = .p (.int .i64 k)
set_option maxHeartbeats 16000000 in
theorem setsLaws_eq (a b L : List Int) (hal : a.length <= 140737488351232) (hbl : b.length <= 140737488351232) : V 7 [.p (intsP a),.p (intsP b),.p (intsP L)] [] = some (.p (.bool true),[]):=by
 refine V_wp (vf:=vf7) rfl ?_
 have hlight:=light_eq (L.map (.int .i64))
 rw [llm] at hlight
 have hsane:=sane3_eq
 by_cases hab : a.length + b.length <= 200
 rotate_left
 ·have hgt : (200 : Int) < (a.length : Nat) + (b.length : Nat):=by omega
  have hwr : IntKind.i64.wrap (((a.length : Nat) : Int) + (b.length : Nat)) = ((a.length : Nat) : Int) + (b.length : Nat):=wrap64 (by omega) (by omega)
  simp -implicitDefEqProofs (disch:=omega) only [vf7,vb7,hwr,hgt,hsane,go_sem,↓reduceIte,rA,rS,rE,rL,reduceCtorEq]
 have hgt : ¬ (200 : Int) < (a.length : Nat) + (b.length : Nat):=by omega
 by_cases h6 : L.length <= 600
 rotate_left
 ·simp -implicitDefEqProofs (disch:=omega) only [vf7,vb7,hgt,hlight,h6,hsane,go_sem,↓reduceIte,rA,rS,rE,rL,reduceCtorEq]
 have hroll:=roll_eq L
 have hL : L.length < 4611686018427387904:=by omega
 obtain ⟨S1,a1,hs1,l1⟩:=dsome_ok L 0 hL
 have hs1' : V 28 [.ptr (.arg 0 0) 0 0] [.box [.p (intsP L),.p (.int .i64 0)]] = some (.p (intsP S1),[diceB L a1]):=hs1
 have hd1:=dset_eq L a1 9 hL (by omega)
 have k1:=(setK_ok L a1 9).2.2
 generalize (setK L a1 9).1 = D1 at hd1 k1
 generalize (setK L a1 9).2 = a2 at hd1
 have hd1' : V 29 [.ptr (.arg 0 0) 0 0,.p (.int .i64 9)] [diceB L a1] = some (.p (intsP D1),[diceB L a2]):=hd1
 have hd2:=dset_eq L a2 9 hL (by omega)
 have k2:=(setK_ok L a2 9).2.2
 generalize (setK L a2 9).1 = D2 at hd2 k2
 generalize (setK L a2 9).2 = a3 at hd2
 have hd2' : V 29 [.ptr (.arg 0 0) 0 0,.p (.int .i64 9)] [diceB L a2] = some (.p (intsP D2),[diceB L a3]):=hd2
 have hd3:=dset_eq L a3 9 hL (by omega)
 have k3:=(setK_ok L a3 9).2.2
 generalize (setK L a3 9).1 = D3 at hd3 k3
 generalize (setK L a3 9).2 = a4 at hd3
 have hd3' : V 29 [.ptr (.arg 0 0) 0 0,.p (.int .i64 9)] [diceB L a3] = some (.p (intsP D3),[diceB L a4]):=hd3
 obtain ⟨S2,a5,hs2,l2⟩:=dsome_ok L a4 hL
 have hd4:=dset_eq L a5 5 hL (by omega)
 have k4:=(setK_ok L a5 5).2.2
 generalize (setK L a5 5).1 = D4 at hd4 k4
 generalize (setK L a5 5).2 = a6 at hd4
 have hd4' : V 29 [.ptr (.arg 0 0) 0 0,.p (.int .i64 5)] [diceB L a5] = some (.p (intsP D4),[diceB L a6]):=hd4
 simp -implicitDefEqProofs (disch:=omega) only [vf7,vb7,hgt,hlight,h6,hroll,hs1',hd1',hd2',hd3',hs2,hd4',go_sem,↓reduceIte,rA,rS,rE,rL,reduceCtorEq]
 have htk : ∀ l : List Int,List.take l.length (l.map (PV.int .i64)) = l.map (PV.int .i64):=fun l=>ltl (by simp)
 obtain ⟨ts,hts⟩ : ∃ ts : List Tri,ts = [(a,b,S1),(D1,D2,D3),(S2,a,D4)]:=⟨_,rfl⟩
 have htl : ts.length = 3:=by rw [hts]; rfl
 have hbd : ∀ t ∈ ts,t.1.length <= 200 /\ t.2.1.length <= 200 /\ t.2.2.length <= 200:=by
  intro t ht
  rw [hts] at ht
  simp only [lmk,List.not_mem_nil,or_false] at ht
  rcases ht with rfl | rfl | rfl
  ·exact ⟨by show a.length <= _; omega,by show b.length <= _; omega,by show S1.length <= _; omega⟩
  ·exact ⟨by show D1.length <= _; omega,by show D2.length <= _; omega,by show D3.length <= _; omega⟩
  ·exact ⟨by show S2.length <= _; omega,by show a.length <= _; omega,by show D4.length <= _; omega⟩
 refine wp_count ts.length (EnvT ts) ?_ ?_
 ·refine ⟨0,?_⟩
  rw [htl,hts]
  simp -implicitDefEqProofs (disch:=omega) only [trP,go_sem,↓reduceIte,rA,rS,rE,rL,reduceCtorEq]
  rfl
 clear hs1 hs1' hd1 hd1' hd2 hd2' hd3 hd3' hs2 hd4 hd4' hlight hroll
 rintro k s hk ⟨v48,p48,q48,p49,p50⟩
 simp -implicitDefEqProofs (disch:=omega) only [p48,q48,p49,p50,go_sem,↓reduceIte,rA,rS,rE,rL,reduceCtorEq]
 refine wp_if_d (fun hlt=>?_) (fun hge=>?_)
 ·have hkl : k < ts.length:=by omega
  have hc : ts[k]? = some (ts[k]):=lgg hkl
  obtain ⟨b1,b2,b3⟩:=hbd _ (lgk hkl)
  generalize ts[k] = t at hc b1 b2 b3
  obtain ⟨x,y,z⟩:=t
  simp only at b1 b2 b3
  have hu:=union_eq x y (by omega) (by omega)
  have hi:=inter_eq x y (by omega) (by omega)
  have hm:=minus_eq x y (by omega) (by omega)
  have ru:=runion_eq x y (by omega) (by omega)
  have ri:=rinter_eq x y (by omega) (by omega)
  rw [IL_ref] at ri
  have rm:=rminus_eq x y (by omega) (by omega)
  rw [ML_ref] at rm
  have hw:=within_eq x y (by omega) (by omega)
  have rw_:=rwithin_eq x y (by omega) (by omega)
  rw [ML_ref,<- law_d] at rw_
  have hwd:=law_d x y
  have uu:=UL_len x y
  have ui:=IL_len x y
  have um:=ML_len x y
  have ux:=sortU_length x
  have uyz:=UL_len y z
  have uxz:=IL_len x z
  have umz:=ML_len x z
  have h1:=union_eq (IL x y) (ML x y) (by omega) (by omega)
  rw [law_a] at h1
  have r1:=rsorted_eq x (by omega)
  have h2:=union_eq y z (by omega) (by omega)
  have h3:=inter_eq x (UL y z) (by omega) (by omega)
  have h4:=inter_eq x z (by omega) (by omega)
  have h5:=union_eq (IL x y) (IL x z) (by omega) (by omega)
  rw [<- law_b] at h5
  have h6:=minus_eq x (UL y z) (by omega) (by omega)
  have h7:=minus_eq x z (by omega) (by omega)
  have h8:=inter_eq (ML x y) (ML x z) (by omega) (by omega)
  rw [<- law_c] at h8
  have uj:=IL_len x (UL y z)
  have uk:=ML_len x (UL y z)
  have e1:=same3_eq (UL x y) (UL x y) (by omega) (by omega)
  have e2:=same3_eq (IL x y) (IL x y) (by omega) (by omega)
  have e3:=same3_eq (ML x y) (ML x y) (by omega) (by omega)
  have e4:=same3_eq (sortU x) (sortU x) (by omega) (by omega)
  have e5:=same3_eq (IL x (UL y z)) (IL x (UL y z)) (by omega) (by omega)
  have e6:=same3_eq (ML x (UL y z)) (ML x (UL y z)) (by omega) (by omega)
  rw [decide_eq_true rfl] at e1 e2 e3 e4 e5 e6
  generalize WL x y = wb at hw rw_ hwd
  generalize IL x (UL y z) = J at *
  generalize ML x (UL y z) = K at *
  generalize UL y z = YZ at *
  generalize UL x y = U at *
  generalize IL x y = I1 at *
  generalize ML x y = M1 at *
  generalize IL x z = XZ at *
  generalize ML x z = MZ at *
  generalize sortU x = SX at *
  have fin : EnvT ts (k + 1) = EnvT ts (k + 1):=rfl
  cases wb
  ·have hM0 : ¬ ((M1.length : Nat) : Int) = 0:=fun e=>by
    have : (M1.length = 0):=by omega
    rw [decide_eq_true this] at hwd
    cases hwd
   simp -implicitDefEqProofs (disch:=omega) only [p48,q48,p49,p50,hc,hkl,trP,htk,hu,hi,hm,ru,ri,rm,hw,rw_,h1,r1,h2,h3,h4,h5,h6,h7,h8,e1,e2,e3,e4,e5,e6,hM0,go_sem,↓reduceIte,rA,rS,rE,rL,reduceCtorEq]
   refine ⟨v48,?_⟩
   simp -implicitDefEqProofs (disch:=omega) only [p48,q48,p49,p50,go_sem,↓reduceIte,rA,rS,rE,rL,reduceCtorEq]
   exact congrArg (fun n : Int=>VVal.p (.int .i64 n)) (by omega)
  ·have hM0 : ((M1.length : Nat) : Int) = 0:=by
    have:=of_decide_eq_true hwd.symm
    omega
   simp -implicitDefEqProofs (disch:=omega) only [p48,q48,p49,p50,hc,hkl,trP,htk,hu,hi,hm,ru,ri,rm,hw,rw_,h1,r1,h2,h3,h4,h5,h6,h7,h8,e1,e2,e3,e4,e5,e6,hM0,go_sem,↓reduceIte,rA,rS,rE,rL,reduceCtorEq]
   refine ⟨v48,?_⟩
   simp -implicitDefEqProofs (disch:=omega) only [p48,q48,p49,p50,go_sem,↓reduceIte,rA,rS,rE,rL,reduceCtorEq]
   exact congrArg (fun n : Int=>VVal.p (.int .i64 n)) (by omega)
 .simp -implicitDefEqProofs (disch:=omega) only [p48,q48,p49,p50,hsane,go_sem,↓reduceIte,rA,rS,rE,rL,reduceCtorEq]
end Go.V
