/- Part 6 of the proof. -/
import Derived.Test.YtkgkbbpakjdemaaGreatDoorA2
import Derived.Sort.AssemblyPlain
import Derived.Lib.BitFns
import Derived.Test.YtkgkbbpakjdemaaGreatDoorA1
import Derived.Test.YtkgkbbpakjdemaaGreatDoorA3
import Derived.Test.YtkgkbbpakjdemaaGreatDoorA4
import Derived.Test.YtkgkbbpakjdemaaGreatDoorA5
import Derived.Lib.Bytealg
import Derived.Lib.Strings
set_option linter.unusedSectionVars false
set_option linter.unusedSimpArgs false
set_option linter.unusedVariables false
open Nat renaming reduceAdd → rA, reduceSub → rS, reduceEqDiff → rE, reduceLeDiff → rL, le_refl → lrf
open List renaming getElem?_eq_getElem → lgg, getElem?_eq_some_iff → lgs, mem_of_getElem? → lmg, drop_eq_getElem_cons → ldg, mem_cons_of_mem → lmc, map_cons → lpc, drop_of_length_le → ldl, nil_append → lna, append_assoc → laa, append_nil → lan, mem_map → lmm, mem_cons_self → lms, take_of_length_le → ltl, length_cons → llc, length_append → lla, mem_cons → lmk, map_nil → lpn, length_nil → lln, mem_append → lmp, length_map → llm, getElem_mem → lgk, length_take → llt, length_drop → lld, pairwise_cons → lpw, cons_append → lca
open Option renaming some.injEq → osi
open Bool renaming and_eq_true → bat, false_eq_true → bft, true_and → bta, and_self → bas, or_eq_true → bot
open Prod renaming mk.injEq → pmi
namespace Go.V
abbrev Sub (ps : List (Int × Int)):={ p : Int × Int // p ∈ ps }
def ltS {ps : List (Int × Int)} (x y : Sub ps) : Bool:=decide (x.1.1 - y.1.1 < 0)
theorem swoS {ps : List (Int × Int)} : Go.Sort.SWO (ltS (ps:=ps)) where
 irrefl x:=by simp [ltS]
 trans x y z h1 h2:=by simp [ltS] at *; omega
 ntrans x y z h1 h2:=by simp [ltS] at *; omega
noncomputable abbrev inhS {ps : List (Int × Int)} (h : ps ≠ []) : Inhabited (Sub ps):=⟨⟨ps.head h,List.head_mem h⟩⟩
noncomputable def sortA (ps : List (Int × Int)) (h : ps ≠ []) : Array (Sub ps):=letI:=inhS h; Go.Sort.pdq ltS ps.attach.toArray 0 ps.length (Lib.bitLen ps.length) true true
open Classical in
noncomputable def sortQ (ps : List (Int × Int)) : List (Int × Int):=if h : ps ≠ [] then (sortA ps h).toList.map Subtype.val else []
theorem sortA_ok (ps : List (Int × Int)) (h : ps ≠ []) : (sortA ps h).toList.Perm ps.attach /\ (sortA ps h).toList.Pairwise (fun x y=>x.1.1 <= y.1.1):=by
 letI:=inhS h
 have hs:=Go.Sort.pdq_sorts ltS swoS ps.attach.toArray 0 ps.length (Lib.bitLen ps.length) true true (Nat.zero_le _) (by simp) (Or.inl rfl)
 obtain ⟨⟨e1,_,e2⟩,e3⟩:=hs
 rw [show Go.Sort.pdq ltS ps.attach.toArray 0 ps.length (Lib.bitLen ps.length) true true = sortA ps h from rfl] at e1 e2 e3
 have hsz : (sortA ps h).size = ps.length:=by rw [e1]; simp
 have x1 : (sortA ps h).extract 0 ps.length = sortA ps h:=by rw [<- hsz]; exact Array.extract_size
 have x2 : (ps.attach.toArray).extract 0 ps.length = ps.attach.toArray:=by
  have : ps.attach.toArray.size = ps.length:=by simp
  rw [<- this]; exact Array.extract_size
 rw [x1,x2] at e2
 refine ⟨by simpa using e2,?_⟩
 rw [List.pairwise_iff_getElem]
 intro i j hi hj hij
 have hi' : i < (sortA ps h).size:=by simpa using hi
 have hj' : j < (sortA ps h).size:=by simpa using hj
 have:=e3 i j (Nat.zero_le _) hij (by omega)
 rw [getElem!_pos (sortA ps h) i hi',getElem!_pos (sortA ps h) j hj'] at this
 simp only [ltS,decide_eq_false_iff_not] at this
 simp only [Array.getElem_toList]
 omega
theorem sortQ_nil : sortQ [] = []:=by
 unfold sortQ
 rw [dif_neg (fun h=>h rfl)]
theorem sortQ_perm (ps : List (Int × Int)) : (sortQ ps).Perm ps:=by
 unfold sortQ
 split
 ·rename_i h
  have:=(sortA_ok ps h).1.map Subtype.val
  rwa [List.attach_map_subtype_val] at this
 ·rename_i h
  rw [Classical.not_not.1 h]
theorem sortQ_sorted (ps : List (Int × Int)) : (sortQ ps).Pairwise (fun x y=>x.1 <= y.1):=by
 unfold sortQ
 split
 ·rename_i h
  exact List.pairwise_map.2 (sortA_ok ps h).2
 .exact List.Pairwise.nil
noncomputable def XQ (g : FuncId) (args : List VVal) (H : List Ob) : Option (VVal × List Ob):=match args,H with
 | [.own (.arg 0 0) 0 0 n,.p (.fn g')],[.arr 2 xs]=>gd (g' = g) <| gd (n = xs.length) <| gd (n < 4611686018427387904) <| ob (mapO unPair xs) fun ps =>
   gd (∀ p ∈ ps,0 <= p.1 /\ p.1 < 4611686018427387904) (some (.tup [],[.arr 2 ((sortQ ps).map pairPV)]))
 | _,_=>none
end Go.V
namespace Go.V
noncomputable def XS : Sig:=fun f args H=>if f = 67 then XSplit args H else if f = 83 then XJoin args H else if f = 77 then XItoa args H else if f = 82 then XCut args H else if f = 87 then XQ 88 args H else if f = 78 then XIdxB args H else if f = 39 then XTrim args H else if f = 45 then XClone 1 8 args H else if f = 46 then XClone 7 56 args H else none
noncomputable abbrev V : Sig:=vcall prog XS
theorem XS_none {f : FuncId} {vf : VFunc} (hf : prog f = some vf) (args : List VVal) (H : List Ob) : XS f args H = none:=by
 unfold XS
 have h0 : ¬ f = 67:=fun e=>by
  subst e
  exact absurd hf (by simp [prog])
 have h1 : ¬ f = 83:=fun e=>by
  subst e
  exact absurd hf (by simp [prog])
 have h2 : ¬ f = 77:=fun e=>by
  subst e
  exact absurd hf (by simp [prog])
 have h3 : ¬ f = 82:=fun e=>by
  subst e
  exact absurd hf (by simp [prog])
 have h4 : ¬ f = 87:=fun e=>by
  subst e
  exact absurd hf (by simp [prog])
 have h5 : ¬ f = 78:=fun e=>by
  subst e
  exact absurd hf (by simp [prog])
 have h6 : ¬ f = 39:=fun e=>by
  subst e
  exact absurd hf (by simp [prog])
 have h7 : ¬ f = 45:=fun e=>by
  subst e
  exact absurd hf (by simp [prog])
 have h8 : ¬ f = 46:=fun e=>by
  subst e
  exact absurd hf (by simp [prog])
 rw [if_neg h0,if_neg h1,if_neg h2,if_neg h3,if_neg h4,if_neg h5,if_neg h6,if_neg h7,if_neg h8]
theorem V_fix {f : FuncId} {vf : VFunc} (hf : prog f = some vf) {args : List VVal} {H : List Ob} {r : VVal × List Ob} (h : callF V vf args H = some r) : V f args H = some r:=vcall_fix (XS_none hf) hf h
theorem V_wp {f : FuncId} {vf : VFunc} (hf : prog f = some vf) {args : List VVal} {H : List Ob} {r : VVal × List Ob} (h : wp (callF V vf args H) (· = r)) : V f args H = some r:=V_fix hf (eq_of_wp h)
theorem V_x {f : FuncId} {args : List VVal} {H : List Ob} {r : VVal × List Ob} (h : XS f args H = some r) : V f args H = some r:=vcall_of (n:=0) h
theorem split_x {s sep : ByteArray} (hs : s.size < 4294967281) (h1 : 1 <= sep.size) : V 67 [.p (.str s),.p (.str sep)] [] = some (.fresh 1 ((splitS s sep).map PV.str),[]):=V_x (by
 simp only [XS,if_true,XSplit,gd,if_pos hs,if_pos h1])
theorem mapO_unS : ∀ (ss : List ByteArray),mapO unS (ss.map PV.str) = some ss
 | []=>rfl
 | s :: ss=>by
  simp only [lpc,mapO,unS,ob,mapO_unS ss]
theorem mapO_unPair : ∀ (ps : List (Int × Int)),mapO unPair (ps.map pairPV) = some ps
 | []=>rfl
 | p :: ps=>by
  simp only [lpc,mapO,unPair,ob,mapO_unPair ps]
theorem join_x {ss : List ByteArray} {sep : ByteArray} (hn : ss.length <= 140737488355328) (h : (Lib.join (ss.map (·.data.toList)) sep.data.toList).length <= 140737488355328) : V 83 [.own (.arg 0 0) 0 0 ss.length,.p (.str sep)] [.arr 1 (ss.map PV.str)] = some (.p (.str (joinS ss sep)),[.arr 1 (ss.map PV.str)]):=V_x (by
 have e0 : (83 : Nat) ≠ 67:=by decide
 simp only [XS,if_neg e0,if_true,XJoin,llm,mapO_unS,gd,ob,if_pos hn,if_pos h])
theorem itoa_x {n : Int} (h0 : -9223372036854775808 <= n) (h1 : n <= 9223372036854775807) : V 77 [.p (.int .i64 n)] [] = some (.p (.str (itoaS n)),[]):=V_x (by
 have e0 : (77 : Nat) ≠ 67:=by decide
 have e1 : (77 : Nat) ≠ 83:=by decide
 simp only [XS,if_neg e0,if_neg e1,if_true,XItoa,gd,h0,h1,and_self])
theorem cut_x {s sep : ByteArray} (hs : s.size < 4294967281) : V 82 [.p (.str s),.p (.str sep)] [] = some (.tup [.p (.str ⟨(cutS s sep).1.toArray⟩),.p (.str ⟨(cutS s sep).2.1.toArray⟩),.p (.bool (cutS s sep).2.2)],[]):=V_x (by
 have e0 : (82 : Nat) ≠ 67:=by decide
 have e1 : (82 : Nat) ≠ 83:=by decide
 have e2 : (82 : Nat) ≠ 77:=by decide
 simp only [XS,if_neg e0,if_neg e1,if_neg e2,if_true,XCut,gd,if_pos hs])
theorem sortF_x {ps : List (Int × Int)} (hn : ps.length < 4611686018427387904) (hb : ∀ p ∈ ps,0 <= p.1 /\ p.1 < 4611686018427387904) : V 87 [.own (.arg 0 0) 0 0 ps.length,.p (.fn 88)] [.arr 2 (ps.map pairPV)] = some (.tup [],[.arr 2 ((sortQ ps).map pairPV)]):=V_x (by
 have e0 : (87 : Nat) ≠ 67:=by decide
 have e1 : (87 : Nat) ≠ 83:=by decide
 have e2 : (87 : Nat) ≠ 77:=by decide
 have e3 : (87 : Nat) ≠ 82:=by decide
 simp only [XS,if_neg e0,if_neg e1,if_neg e2,if_neg e3,if_true,XQ,llm,mapO_unPair,gd,ob,if_pos hn,if_pos hb])
theorem idxb_x {s : ByteArray} {c : Int} : V 78 [.p (.str s),.p (.int .u8 c)] [] = some (.p (.int .i64 (Lib.indexByte s.data.toList c.toNat.toUInt8)),[]):=V_x (by
 have e0 : (78 : Nat) ≠ 67:=by decide
 have e1 : (78 : Nat) ≠ 83:=by decide
 have e2 : (78 : Nat) ≠ 77:=by decide
 have e3 : (78 : Nat) ≠ 82:=by decide
 have e4 : (78 : Nat) ≠ 87:=by decide
 simp only [XS,if_neg e0,if_neg e1,if_neg e2,if_neg e3,if_neg e4,if_true,XIdxB])
theorem trim_x {s p : ByteArray} (hs : s.size <= 9223372036854775807) : V 39 [.p (.str s),.p (.str p)] [] = some (.p (.str ⟨(Lib.trimSuffix s.data.toList p.data.toList).toArray⟩),[]):=V_x (by
 have e0 : (39 : Nat) ≠ 67:=by decide
 have e1 : (39 : Nat) ≠ 83:=by decide
 have e2 : (39 : Nat) ≠ 77:=by decide
 have e3 : (39 : Nat) ≠ 82:=by decide
 have e4 : (39 : Nat) ≠ 87:=by decide
 have e5 : (39 : Nat) ≠ 78:=by decide
 simp only [XS,if_neg e0,if_neg e1,if_neg e2,if_neg e3,if_neg e4,if_neg e5,if_true,XTrim,gd,if_pos hs])
theorem cloneI_x {xs : List PV} (hn : xs.length < 1000000) : V 45 [.p (.slice 1 xs)] [] = some (.fresh 1 xs,[]):=V_x (by
 have e0 : (45 : Nat) ≠ 67:=by decide
 have e1 : (45 : Nat) ≠ 83:=by decide
 have e2 : (45 : Nat) ≠ 77:=by decide
 have e3 : (45 : Nat) ≠ 82:=by decide
 have e4 : (45 : Nat) ≠ 87:=by decide
 have e5 : (45 : Nat) ≠ 78:=by decide
 have e6 : (45 : Nat) ≠ 39:=by decide
 simp only [XS,if_neg e0,if_neg e1,if_neg e2,if_neg e3,if_neg e4,if_neg e5,if_neg e6,if_true,XClone,gd,true_and]
 rw [if_pos (by omega),if_pos (by omega)])
theorem cloneD_x {xs : List PV} (hn : xs.length < 1000000) : V 46 [.p (.slice 7 xs)] [] = some (.fresh 7 xs,[]):=V_x (by
 have e0 : (46 : Nat) ≠ 67:=by decide
 have e1 : (46 : Nat) ≠ 83:=by decide
 have e2 : (46 : Nat) ≠ 77:=by decide
 have e3 : (46 : Nat) ≠ 82:=by decide
 have e4 : (46 : Nat) ≠ 87:=by decide
 have e5 : (46 : Nat) ≠ 78:=by decide
 have e6 : (46 : Nat) ≠ 39:=by decide
 have e7 : (46 : Nat) ≠ 45:=by decide
 simp only [XS,if_neg e0,if_neg e1,if_neg e2,if_neg e3,if_neg e4,if_neg e5,if_neg e6,if_neg e7,if_true,XClone,gd,true_and]
 rw [if_pos (by omega),if_pos (by omega)])
end Go.V
namespace Go.V
def isD (c : UInt8) : Bool:=decide (48 <= c.toNat) && decide (c.toNat <= 57)
def valF (l : List UInt8) (n : Nat) : Nat:=l.foldl (fun n c=>10 * n + (c.toNat - 48)) n
abbrev valD (l : List UInt8) : Nat:=valF l 0
def okD (l : List UInt8) : Bool:=l.all isD && decide (1 <= l.length) && decide (l.length <= 9)
def numV (l : List UInt8) : Int:=if okD l = true then (valD l : Nat) else -1
theorem valF_snoc (l : List UInt8) (c : UInt8) (n : Nat) : valF (l ++ [c]) n = 10 * valF l n + (c.toNat - 48):=by simp [valF]
theorem valD_lt : ∀ (l : List UInt8) (n : Nat),l.all isD = true -> valF l n < (n + 1) * 10 ^ l.length
 | [],n,_=>by simp [valF]
 | c :: l,n,h=>by
  simp only [List.all_cons,bat] at h
  have ih:=valD_lt l (10 * n + (c.toNat - 48)) h.2
  have hc : c.toNat <= 57:=by
   have:=h.1
   simp only [isD,bat,decide_eq_true_eq] at this
   exact this.2
  rw [llc,Nat.pow_succ,<- Nat.mul_assoc,Nat.mul_right_comm]
  refine Nat.lt_of_lt_of_le ih (Nat.mul_le_mul_right _ (by omega))
theorem ofNat_digit (n : Nat) (h : n < 10) : (UInt8.ofNat (48 + n)).toNat = 48 + n:=by
 rw [UInt8.toNat_ofNat']
 omega
theorem dec_ok (u : Nat) : (Lib.decDigits u).all isD = true /\ valD (Lib.decDigits u) = u /\ Lib.decDigits u ≠ []:=by
 induction u using Nat.strongRecOn with
 | _ u ih =>
  rw [Lib.decDigits]
  split
  ·rename_i h
   refine ⟨?_,?_,by simp⟩
   ·simp [isD,ofNat_digit u h]; omega
   ·show 10 * 0 + ((UInt8.ofNat (48 + u)).toNat - 48) = u
    rw [ofNat_digit u h]
    omega
  ·rename_i h
   obtain ⟨i1,i2,i3⟩:=ih (u / 10) (by omega)
   have hm : u % 10 < 10:=Nat.mod_lt _ (by omega)
   refine ⟨?_,?_,by simp⟩
   ·rw [List.all_append,i1]
    simp [isD,ofNat_digit _ hm]; omega
   ·have i2 : valF (Lib.decDigits (u / 10)) 0 = u / 10:=i2
    rw [valD,valF_snoc,i2,ofNat_digit _ hm]
    omega
theorem dec_len : ∀ (k u : Nat),u < 10 ^ (k + 1) -> (Lib.decDigits u).length <= k + 1
 | 0,u,h=>by
  rw [Lib.decDigits,dif_pos (by simpa using h)]
  simp
 | k + 1,u,h=>by
  rw [Lib.decDigits]
  split
  ·simp
  ·have:=dec_len k (u / 10) (by rw [Nat.pow_succ] at h; omega)
   simp only [lla,llc,lln]
   omega
theorem isD_ne {c : UInt8} (h : isD c = true) : c ≠ 44 /\ c ≠ 45:=by
 simp only [isD,bat,decide_eq_true_eq] at h
 refine ⟨fun e=>?_,fun e=>?_⟩ <;> · rw [e] at h; exact absurd h.1 (by decide)
theorem num_dec {u : Nat} (h : u < 1000000000) : numV (Lib.decDigits u) = (u : Int):=by
 obtain ⟨h1,h2,h3⟩:=dec_ok u
 have h4:=dec_len 8 u (by omega)
 have h5 : 1 <= (Lib.decDigits u).length:=List.length_pos_iff.2 h3
 rw [numV,if_pos (by simp only [okD,h1,bta,bat,decide_eq_true_eq]; omega),h2]
theorem cut_no {c : UInt8} : ∀ {l : List UInt8},c ∉ l -> Lib.index l [c] = -1
 | [],_=>by simp [Lib.index]
 | b :: l,h=>by
  have h1 : ¬ b = c:=fun e=>h (by rw [e]; exact lms ..)
  have ih:=cut_no (l:=l) (c:=c) fun hm=>h (lmc _ hm)
  have hp : ([c] : List UInt8).isPrefixOf (b :: l) = false:=by simp [List.isPrefixOf,Ne.symm h1]
  rw [Lib.index,hp,ih]
  simp
theorem cut_at {c : UInt8} : ∀ {a : List UInt8} (b : List UInt8),c ∉ a -> Lib.index (a ++ c :: b) [c] = (a.length : Nat)
 | [],b,_=>by rw [lna,Lib.index]; simp [List.isPrefixOf]
 | x :: a,b,h=>by
  have h1 : ¬ x = c:=fun e=>h (by rw [e]; exact lms ..)
  have ih:=cut_at (a:=a) (c:=c) b fun hm=>h (lmc _ hm)
  have hp : ([c] : List UInt8).isPrefixOf (x :: (a ++ c :: b)) = false:=by simp [List.isPrefixOf,Ne.symm h1]
  rw [lca,Lib.index,hp,ih]
  have hn : ¬ (((a.length : Nat) : Int) == -1) = true:=fun e=>by have:=beq_iff_eq.1 e; omega
  simp [hn]
theorem cutS_no {c : UInt8} {l : List UInt8} (h : c ∉ l) : Lib.cut l [c] = (l,[],false):=by
 rw [Lib.cut,cut_no h,if_neg (by decide)]
theorem cutS_at {c : UInt8} {a : List UInt8} (b : List UInt8) (h : c ∉ a) : Lib.cut (a ++ c :: b) [c] = (a,b,true):=by
 rw [Lib.cut,cut_at b h,if_pos (Int.natCast_nonneg _)]
 simp [List.drop_append]
def cutB (c : UInt8) : List UInt8 -> List (List UInt8)
 | []=>[[]]
 | b :: l=>if b = c then [] :: cutB c l else match cutB c l with
  | x :: xs=>(b :: x) :: xs
  | []=>[[b]]
theorem cutB_split (c : UInt8) : ∀ l : List UInt8,Lib.splitK [c] 0 (Lib.count l [c]) l = cutB c l
 | []=>rfl
 | b :: l=>by
  have ih:=cutB_split c l
  by_cases hb : b = c
  ·subst hb
   have hix : Lib.index (b :: l) [b] = 0:=by rw [Lib.index]; simp [List.isPrefixOf]
   rw [Lib.count_cons_eq,Nat.add_comm,Lib.splitK,hix]
   simp only [cutB,if_pos]
   rw [if_neg (by decide)]
   simp only [Int.toNat_zero,Nat.zero_add,List.take_zero,llc,lln,List.drop_succ_cons,List.drop_zero,ih]
  ·have hp : ([c] : List UInt8).isPrefixOf (b :: l) = false:=by simp [List.isPrefixOf,Ne.symm hb]
   have hix : Lib.index (b :: l) [c] = if Lib.index l [c] == -1 then -1 else Lib.index l [c] + 1:=by rw [Lib.index,hp]; simp
   rw [Lib.count_cons_ne b c l hb]
   simp only [cutB,if_neg hb]
   rw [<- ih]
   by_cases hm : Lib.index l [c] = -1
   ·rw [Lib.count_miss hm,Lib.splitK,Lib.splitK]
   ·have hge:=Lib.index_ge l [c]
    obtain ⟨j,hj⟩ : ∃ j : Nat,Lib.index l [c] = j:=⟨(Lib.index l [c]).toNat,by omega⟩
    have hix' : Lib.index (b :: l) [c] = ((j + 1 : Nat) : Int):=by rw [hix,if_neg (fun e=>hm (beq_iff_eq.1 e)),hj]; omega
    have hn : ¬ ((((j : Nat) : Int)) == -1) = true:=fun e=>by have:=beq_iff_eq.1 e; omega
    have hn' : ¬ ((((j + 1 : Nat) : Int)) == -1) = true:=fun e=>by have:=beq_iff_eq.1 e; omega
    rw [Lib.count_hit (by simp) hj,Nat.add_comm,Lib.splitK,Lib.splitK,hix',hj,if_neg hn,if_neg hn']
    simp only [Int.toNat_natCast,Nat.add_zero,llc,lln,List.take_succ_cons,List.drop_succ_cons]
theorem cutB_ne (c : UInt8) : ∀ l,cutB c l ≠ []
 | []=>by simp [cutB]
 | b :: l=>by
  unfold cutB
  split
  .simp
  .split <;> simp
theorem cutB_app (c : UInt8) : ∀ a b : List UInt8,cutB c (a ++ c :: b) = cutB c a ++ cutB c b
 | [],b=>by simp [cutB]
 | x :: a,b=>by
  have ih:=cutB_app c a b
  rw [lca]
  simp only [cutB]
  by_cases hx : x = c
  ·rw [if_pos hx,if_pos hx,ih]; rfl
  ·rw [if_neg hx,if_neg hx,ih]
   cases h : cutB c a with
   | nil=>exact absurd h (cutB_ne c a)
   | cons y ys=>rfl
theorem cutB_no (c : UInt8) : ∀ a : List UInt8,c ∉ a -> cutB c a = [a]
 | [],_=>rfl
 | x :: a,h=>by
  have h1 : ¬ x = c:=fun e=>h (by rw [e]; exact lms ..)
  simp only [cutB,if_neg h1,cutB_no c a fun hm=>h (lmc _ hm)]
theorem splitS_cutB (s : ByteArray) (c : UInt8) : (splitS s ⟨#[c]⟩).map (·.data.toList) = cutB c s.data.toList:=by
 rw [splitS,Lib.splitB_data]
 exact cutB_split c _
theorem cutB_join (c : UInt8) : ∀ xs : List (List UInt8),xs ≠ [] -> (∀ x ∈ xs,c ∉ x) -> cutB c (Lib.join xs [c]) = xs
 | [],h,_=>absurd rfl h
 | [x],_,h=>by
  rw [Lib.join_one,cutB_no c x (h x (lms ..))]
 | x :: y :: r,_,h=>by
  have ih:=cutB_join c (y :: r) (by simp) fun z hz=>h z (lmc _ hz)
  rw [Lib.join_cons] at ih
  have e : Lib.join (x :: y :: r) [c] = x ++ c :: (y ++ Lib.joinTail [c] r):=by
   rw [Lib.join_cons]
   simp [Lib.joinTail]
  rw [e,cutB_app,cutB_no c x (h x (lms ..)),ih]
  rfl
end Go.V
namespace Go.V
def runLen (x : Int) : List Int -> Nat
 | []=>0
 | b :: r=>if b = x + 1 then runLen b r + 1 else 0
theorem runLen_le (x : Int) : ∀ r : List Int,runLen x r <= r.length
 | []=>lrf _
 | b :: r=>by
  have:=runLen_le b r
  unfold runLen
  split <;> simp <;> omega
def runsR : List Int -> List (Int × Int)
 | []=>[]
 | x :: r=>(x,x + runLen x r) :: runsR (r.drop (runLen x r))
termination_by l=>l.length
decreasing_by simp; omega
theorem runsR_nil : runsR [] = []:=by rw [runsR]
theorem runsR_cons (x : Int) (r : List Int) : runsR (x :: r) = (x,x + runLen x r) :: runsR (r.drop (runLen x r)):=by rw [runsR]
def rangeI (a b : Int) : List Int:=(List.range (b + 1 - a).toNat).map fun k : Nat=>a + (k : Int)
theorem rangeI_nil {a b : Int} (h : b < a) : rangeI a b = []:=by
 rw [rangeI,show (b + 1 - a).toNat = 0 by omega]; rfl
theorem rangeI_cons {a b : Int} (h : a <= b) : rangeI a b = a :: rangeI (a + 1) b:=by
 rw [rangeI,show (b + 1 - a).toNat = (b + 1 - (a + 1)).toNat + 1 by omega,List.range_succ_eq_map,lpc,List.map_map]
 simp only [rangeI,Int.natCast_zero,Int.add_zero]
 congr 1
 apply List.map_congr_left
 intro k _
 simp only [Function.comp,Nat.succ_eq_add_one,Int.natCast_add,Int.natCast_one]
 omega
theorem mem_rangeI {a b x : Int} : x ∈ rangeI a b ↔ a <= x /\ x <= b:=by
 simp only [rangeI,lmm,List.mem_range]
 constructor
 .rintro ⟨k,hk,rfl⟩; omega
 .intro h; exact ⟨(x - a).toNat,by omega,by omega⟩
def spanL (next : Int) : List (Int × Int) -> List Int
 | []=>[]
 | p :: r=>rangeI (max next p.1) p.2 ++ spanL (max (max next p.1) (p.2 + 1)) r
abbrev Asc (l : List Int) : Prop:=l.Pairwise (· < ·)
theorem run_split : ∀ (r : List Int) (x : Int),x :: r = rangeI x (x + runLen x r) ++ r.drop (runLen x r)
 | [],x=>by
  rw [runLen,rangeI_cons (by omega),rangeI_nil (by omega)]; rfl
 | b :: r,x=>by
  unfold runLen
  split
  ·rename_i h
   subst h
   have ih:=run_split r (x + 1)
   rw [rangeI_cons (by omega),List.drop_succ_cons,lca,show x + ((runLen (x + 1) r + 1 : Nat) : Int) = x + 1 + runLen (x + 1) r by omega,<- ih]
  .rw [rangeI_cons (by omega),rangeI_nil (by omega)]; rfl
theorem spanL_runs : ∀ (n : Nat) (l : List Int) (next : Int),l.length <= n -> Asc l -> (∀ x ∈ l,next <= x) -> spanL next (runsR l) = l
 | _,[],next,_,_,_=>by rw [runsR_nil]; rfl
 | 0,x :: r,next,h,_,_=>by simp at h
 | n + 1,x :: r,next,h,ha,hn=>by
  have hk:=runLen_le x r
  have hx:=hn x (lms ..)
  have hs:=run_split r x
  have ha2:=ha
  rw [hs] at ha2
  have hp:=List.pairwise_append.1 ha2
  rw [runsR_cons]
  simp only [spanL]
  rw [show max next x = x by omega,show max x (x + (runLen x r : Nat) + 1) = x + (runLen x r : Nat) + 1 by omega]
  rw [spanL_runs n (r.drop (runLen x r)) _ (by simp at h ⊢; omega) hp.2.1 fun y hy=>by
   have:=hp.2.2 (x + (runLen x r : Nat)) (mem_rangeI.2 ⟨by omega,by omega⟩) y hy
   omega]
  exact hs.symm
theorem runsR_asc : ∀ (n : Nat) (l : List Int),l.length <= n -> Asc l -> (∀ p ∈ runsR l,p.1 <= p.2 /\ p.1 ∈ l /\ p.2 ∈ l) /\ (runsR l).Pairwise (fun a b=>a.1 < b.1)
 | _,[],_,_=>by rw [runsR_nil]; exact ⟨by simp,List.Pairwise.nil⟩
 | 0,x :: r,h,_=>by simp at h
 | n + 1,x :: r,h,ha=>by
  have hk:=runLen_le x r
  have hs:=run_split r x
  have ha2:=ha
  rw [hs] at ha2
  have hp:=List.pairwise_append.1 ha2
  obtain ⟨i1,i2⟩:=runsR_asc n (r.drop (runLen x r)) (by simp at h ⊢; omega) hp.2.1
  rw [runsR_cons]
  refine ⟨fun p hp'=>?_,lpw.2 ⟨fun p hp'=>?_,i2⟩⟩
  ·rcases lmk.1 hp' with rfl | hp'
   ·refine ⟨by simp only; omega,lms ..,?_⟩
    rw [hs]
    exact List.mem_append_left _ (mem_rangeI.2 ⟨by omega,Int.le_refl _⟩)
   ·obtain ⟨j1,j2,j3⟩:=i1 p hp'
    exact ⟨j1,lmc _ (List.mem_of_mem_drop j2),lmc _ (List.mem_of_mem_drop j3)⟩
  .exact hp.2.2 x (mem_rangeI.2 ⟨by omega,by omega⟩) p.1 (i1 p hp').2.1
theorem sortQ_self {ps : List (Int × Int)} (h : ps.Pairwise (fun a b=>a.1 < b.1)) : sortQ ps = ps:=by
 have hp:=sortQ_perm ps
 refine List.Perm.eq_of_pairwise (le:=fun x y=>x.1 <= y.1) (fun a b ha hb h1 h2=>?_) (sortQ_sorted ps) (h.imp fun h=>Int.le_of_lt h) hp
 have ha' : a ∈ ps:=hp.subset ha
 obtain ⟨i,hi,rfl⟩:=List.getElem_of_mem ha'
 obtain ⟨j,hj,rfl⟩:=List.getElem_of_mem hb
 rw [List.pairwise_iff_getElem] at h
 rcases Nat.lt_trichotomy i j with hij | hij | hij
 .have:=h i j hi hj hij; omega
 .subst hij; rfl
 .have:=h j i hj hi hij; omega
abbrev decB (n : Int) : List UInt8:=Lib.itoa n
def elemB (p : Int × Int) : List UInt8:=if p.1 < p.2 then decB p.1 ++ 45 :: decB p.2 else decB p.1
abbrev elemS (p : Int × Int) : ByteArray:=⟨(elemB p).toArray⟩
def elemV (l : List UInt8) : Int × Int:=(numV (Lib.cut l [45]).1,if (Lib.cut l [45]).2.2 = true then numV (Lib.cut l [45]).2.1 else numV (Lib.cut l [45]).1)
abbrev elemOk (p : Int × Int) : Bool:=decide (0 <= p.1) && decide (p.1 <= p.2)
def elemsV : List ByteArray -> Option (List (Int × Int))
 | []=>some []
 | s :: r=>if elemOk (elemV s.data.toList) = true then (elemsV r).map (elemV s.data.toList :: ·) else none
theorem itoa_pos {n : Int} (h : 0 <= n) : Lib.itoa n = Lib.decDigits n.toNat:=by rw [Lib.itoa,if_neg (by omega)]
theorem dec_no {n : Int} (h : 0 <= n) : (44 : UInt8) ∉ decB n /\ (45 : UInt8) ∉ decB n:=by
 rw [decB,itoa_pos h]
 have:=(dec_ok n.toNat).1
 rw [List.all_eq_true] at this
 exact ⟨fun hm=>(isD_ne (this _ hm)).1 rfl,fun hm=>(isD_ne (this _ hm)).2 rfl⟩
theorem num_decB {n : Int} (h : 0 <= n) (h2 : n < 1000000000) : numV (decB n) = n:=by
 rw [decB,itoa_pos h,num_dec (by omega)]
 omega
theorem elem_no {p : Int × Int} (h : 0 <= p.1) (h2 : p.1 <= p.2) : (44 : UInt8) ∉ elemB p:=by
 unfold elemB
 split
 ·intro hm
  rcases lmp.1 hm with hm | hm
  ·exact (dec_no h).1 hm
  ·rcases lmk.1 hm with hm | hm
   .cases hm
   .exact (dec_no (n:=p.2) (by omega)).1 hm
 .exact (dec_no h).1
theorem elem_back {p : Int × Int} (h : 0 <= p.1) (h2 : p.1 <= p.2) (h3 : p.2 < 1000000000) : elemV (elemB p) = p:=by
 obtain ⟨a,b⟩:=p
 simp only at h h2 h3
 unfold elemB elemV
 split
 ·rw [cutS_at _ (dec_no h).2]
  simp only [if_true]
  rw [num_decB h (by omega),num_decB (by omega) h3]
 ·rename_i hn
  simp only at hn
  rw [cutS_no (dec_no h).2]
  simp only [bft,if_false]
  rw [num_decB h (by omega)]
  congr 1
  omega
theorem elems_back : ∀ {ps : List (Int × Int)},(∀ p ∈ ps,0 <= p.1 /\ p.1 <= p.2 /\ p.2 < 1000000000) -> elemsV (ps.map elemS) = some ps
 | [],_=>rfl
 | p :: ps,h=>by
  obtain ⟨h1,h2,h3⟩:=h p (lms ..)
  have e:=elem_back h1 h2 h3
  simp only [lpc,elemsV]
  rw [elems_back fun q hq=>h q (lmc _ hq)]
  rw [e]
  simp [elemOk,h1,h2]
end Go.V
namespace Go.V
def digB (l : List UInt8) : Bool:=l.all isD && !l.isEmpty
abbrev capD (l : List UInt8) (m : Nat) : Nat:=min (valD l) m
abbrev factB : List UInt8:=[75,77,71,84]
def shiftOf (l : List UInt8) : List UInt8 × Nat:=match l.getLast? with
 | some c=>if 0 <= Lib.indexByte factB c then (l.dropLast,10 * ((Lib.indexByte factB c).toNat + 1)) else (l,0)
 | none=>(l,0)
def parseN (l : List UInt8) : Int × Int :=
 if l = [109,97,120] then (4611686018427387904,0)
 else if digB (shiftOf l).1 = false then (0,2)
 else if 1099511627776 / 2 ^ (shiftOf l).2 < capD (shiftOf l).1 1099511627777 then (0,3)
 else ((capD (shiftOf l).1 1099511627777 * 2 ^ (shiftOf l).2 : Nat),0)
def formatN (n : Int) : List UInt8 × Int :=
 if n = 4611686018427387904 then ([109,97,120],0) else if n < 0 \/ 1099511627776 < n then ([],3) else (decB n,0)
theorem dec_last {u : Nat} : ∃ c,(Lib.decDigits u).getLast? = some c /\ isD c = true:=by
 obtain ⟨h1,_,h3⟩:=dec_ok u
 cases h : (Lib.decDigits u).getLast? with
 | none=>rw [List.getLast?_eq_none_iff] at h; exact absurd h h3
 | some c=>exact ⟨c,rfl,List.all_eq_true.1 h1 c (List.mem_of_getLast? h)⟩
theorem fact_no {c : UInt8} (h : isD c = true) : Lib.indexByte factB c = -1:=by
 simp only [isD,bat,decide_eq_true_eq] at h
 have e : ∀ d : UInt8,57 < d.toNat -> (d == c) = false:=fun d hd=>by
  rw [beq_eq_false_iff_ne]
  rintro rfl
  omega
 simp [Lib.indexByte,e 75 (by decide),e 77 (by decide),e 71 (by decide),e 84 (by decide)]
theorem shift_dec (u : Nat) : shiftOf (Lib.decDigits u) = (Lib.decDigits u,0):=by
 obtain ⟨c,h1,h2⟩:=dec_last (u:=u)
 rw [shiftOf,h1]
 simp only [fact_no h2]
 rfl
theorem digB_dec (u : Nat) : digB (Lib.decDigits u) = true:=by
 obtain ⟨h1,_,h3⟩:=dec_ok u
 simp [digB,h1,h3]
theorem dec_ne {u : Nat} {c : UInt8} {l : List UInt8} (h : isD c = false) : Lib.decDigits u ≠ c :: l:=fun e=>by
 have:=(dec_ok u).1
 rw [e] at this
 simp [h] at this
theorem parse_format {n : Int} (h : (0 <= n /\ n <= 1099511627776) \/ n = 4611686018427387904) : (formatN n).2 = 0 /\ parseN (formatN n).1 = (n,0):=by
 rcases h with ⟨h0,h1⟩ | rfl
 ·have e : formatN n = (decB n,0):=by
   rw [formatN,if_neg (by omega),if_neg (by omega)]
  rw [e]
  refine ⟨rfl,?_⟩
  show parseN (decB n) = (n,0)
  rw [decB,itoa_pos h0,parseN,if_neg (dec_ne (by decide)),shift_dec]
  simp only [digB_dec]
  rw [if_neg (by decide),capD,(dec_ok n.toNat).2.1,Nat.pow_zero,Nat.div_one,if_neg (by omega)]
  rw [Nat.mul_one,Nat.min_eq_left (by omega)]
  congr 1
  omega
 .exact ⟨rfl,by decide⟩
def hund2 (l : List UInt8) : List UInt8:=(l ++ [48,48]).take 2
def parseH (l : List UInt8) : Int × Int :=
 if l = [109,97,120] then (10000,0)
 else if (!digB (Lib.cut l [46]).1 || (Lib.cut l [46]).2.2 && (!digB (Lib.cut l [46]).2.1 || decide (2 < (Lib.cut l [46]).2.1.length))) = true then (0,2)
 else if 10000 < capD (Lib.cut l [46]).1 10000 * 100 + capD (hund2 (Lib.cut l [46]).2.1) 10000 then (0,3)
 else ((capD (Lib.cut l [46]).1 10000 * 100 + capD (hund2 (Lib.cut l [46]).2.1) 10000 : Nat),0)
def formatH (n : Int) : List UInt8 × Int :=
 if n = 10000 then ([109,97,120],0) else if n < 0 \/ 10000 < n then ([],3) else (decB (n.tdiv 100) ++ [46] ++ (decB (100 + n.tmod 100)).drop 1,0)
theorem dec_small {u : Nat} (h : u < 10) : Lib.decDigits u = [UInt8.ofNat (48 + u)]:=by
 rw [Lib.decDigits,dif_pos h]
theorem dec_step {u : Nat} (h : 10 <= u) : Lib.decDigits u = Lib.decDigits (u / 10) ++ [UInt8.ofNat (48 + u % 10)]:=by
 rw [Lib.decDigits,dif_neg (by omega)]
theorem dec_hund {r : Nat} (h : r < 100) : (Lib.decDigits (100 + r)).drop 1 = [UInt8.ofNat (48 + r / 10),UInt8.ofNat (48 + r % 10)]:=by
 rw [dec_step (by omega),dec_step (u:=(100 + r) / 10) (by omega),dec_small (u:=(100 + r) / 10 / 10) (by omega)]
 have e1 : (100 + r) / 10 % 10 = r / 10:=by omega
 have e2 : (100 + r) % 10 = r % 10:=by omega
 rw [e1,e2]
 rfl
theorem isD_digit {k : Nat} (h : k < 10) : isD (UInt8.ofNat (48 + k)) = true:=by
 simp [isD,ofNat_digit k h]
 omega
theorem format_hund {n : Int} (h0 : 0 <= n) (h1 : n < 10000) : formatH n = (Lib.decDigits (n / 100).toNat ++ 46 :: [UInt8.ofNat (48 + (n % 100).toNat / 10),UInt8.ofNat (48 + (n % 100).toNat % 10)],0):=by
 rw [formatH,if_neg (by omega),if_neg (by omega),Int.tdiv_eq_ediv_of_nonneg h0,Int.tmod_eq_emod_of_nonneg h0,decB,decB,itoa_pos (by omega),itoa_pos (by omega)]
 have e : (100 + n % 100).toNat = 100 + (n % 100).toNat:=by omega
 rw [e,dec_hund (by omega),laa]
 rfl
theorem parse_hund {n : Int} (h0 : 0 <= n) (h1 : n <= 10000) : (formatH n).2 = 0 /\ parseH (formatH n).1 = (n,0):=by
 by_cases h2 : n = 10000
 ·subst h2
  exact ⟨rfl,by decide⟩
 ·rw [format_hund h0 (by omega)]
  refine ⟨rfl,?_⟩
  simp only
  obtain ⟨a1,a2,a3⟩:=dec_ok (n / 100).toNat
  have hno : (46 : UInt8) ∉ Lib.decDigits (n / 100).toNat:=fun hm=>by
   have:=List.all_eq_true.1 a1 _ hm
   exact absurd this (by decide)
  have hcut:=cutS_at [UInt8.ofNat (48 + (n % 100).toNat / 10),UInt8.ofNat (48 + (n % 100).toNat % 10)] hno
  have hq : (n % 100).toNat / 10 < 10:=by omega
  have hr : (n % 100).toNat % 10 < 10:=by omega
  rw [parseH,if_neg,hcut]
  ·simp only [digB_dec,Bool.not_true,Bool.false_or,bta]
   have hd : digB [UInt8.ofNat (48 + (n % 100).toNat / 10),UInt8.ofNat (48 + (n % 100).toNat % 10)] = true:=by
    simp only [digB,List.all_cons,List.all_nil,isD_digit hq,isD_digit hr]
    rfl
   rw [hd]
   have hv : valD [UInt8.ofNat (48 + (n % 100).toNat / 10),UInt8.ofNat (48 + (n % 100).toNat % 10)] = (n % 100).toNat:=by
    simp only [valD,valF,List.foldl_cons,List.foldl_nil,ofNat_digit _ hq,ofNat_digit _ hr]
    omega
   have hh : hund2 [UInt8.ofNat (48 + (n % 100).toNat / 10),UInt8.ofNat (48 + (n % 100).toNat % 10)] = [UInt8.ofNat (48 + (n % 100).toNat / 10),UInt8.ofNat (48 + (n % 100).toNat % 10)]:=rfl
   rw [hh,capD,capD,hv,a2,Nat.min_eq_left (by omega),Nat.min_eq_left (by omega)]
   simp only [Bool.not_true,Bool.false_or,llc,lln,rA,Nat.lt_irrefl,decide_false,bft,if_false]
   rw [if_neg (by omega)]
   congr 1
   omega
  ·intro e
   have:=congrArg (fun l=>List.contains l (46 : UInt8)) e
   simp at this
end Go.V
namespace Go.V
structure Nd where
 id : Int
 parent : Int
 name : ByteArray
 control : Int
 kind : Int
 owner : Int
 deriving DecidableEq
def Nd.pv (n : Nd) : PV:=.agg [.int .i64 n.id,.int .i64 n.parent,.str n.name,.int .i64 n.control,.int .i64 n.kind,.int .i64 n.owner]
def Nd.vv (n : Nd) : VVal:=.agg [.p (.int .i64 n.id),.p (.int .i64 n.parent),.p (.str n.name),.p (.int .i64 n.control),.p (.int .i64 n.kind),.p (.int .i64 n.owner)]
abbrev nodesP (ns : List Nd) : PV:=.slice 6 (ns.map Nd.pv)
structure Tr where
 nodes : List Nd
 next : Int
abbrev Tr.vv (t : Tr) : VVal:=.agg [.p (nodesP t.nodes),.p (.int .i64 t.next)]
abbrev intsP (xs : List Int) : PV:=.slice 1 (xs.map (.int .i64))
attribute [go_sem] Nd.pv solid
theorem nodes_flat (ns : List Nd) : (ns.map Nd.pv).all PV.flat = true:=by
 rw [List.all_eq_true]
 intro x hx
 obtain ⟨n,_,rfl⟩:=lmm.1 hx
 rfl
theorem ints_flat (k : IntKind) (xs : List Int) : (xs.map (PV.int k)).all PV.flat = true:=by
 rw [List.all_eq_true]
 intro x hx
 obtain ⟨n,_,rfl⟩:=lmm.1 hx
 rfl
attribute [go_sem] nodes_flat ints_flat
theorem light_eq (xs : List PV) : V 7 [.p (.slice 1 xs)] [] = some (.p (.bool (decide (xs.length <= 600))),[]):=by
 refine V_fix (vf:=vf7) rfl ?_
 simp -implicitDefEqProofs (disch:=omega) only [vf7,vb7,go_sem,↓reduceIte,rA,rS,rE,rL,reduceCtorEq]
 simp only [show (600 : Int) = ((600 : Nat) : Int) from rfl,Int.ofNat_le]
abbrev diceB (L : List Int) (a : Nat) : Ob:=.box [.p (intsP L),.p (.int .i64 a)]
theorem roll_eq (L : List Int) : V 9 [.p (intsP L)] [] = some (.boxed [.p (intsP L),.p (.int .i64 0)],[]):=by
 refine V_fix (vf:=vf9) rfl ?_
 simp -implicitDefEqProofs (disch:=omega) only [vf9,vb9,go_sem,↓reduceIte,rA,rS,rE,rL,reduceCtorEq]
def nextV (L : List Int) (a : Nat) (n : Int) : Int:=if 1 <= n then (L.getD a 0) % n else 0
def nextA (L : List Int) (a : Nat) (n : Int) : Nat:=if a < L.length /\ 1 <= n then a + 1 else a
theorem emod_tmod {x n : Int} (h : 1 <= n) : x % n = if x.tmod n < 0 then x.tmod n + n else x.tmod n:=by
 have h3:=Int.emod_nonneg x (show n ≠ 0 by omega)
 have h4:=Int.emod_lt_of_pos x (show 0 < n by omega)
 have h5:=Int.tmod_eq_emod (a:=x) (b:=n)
 rw [h5]
 split <;> split <;> omega
theorem next_eq (L : List Int) (a : Nat) (n : Int) (hL : L.length < 4611686018427387904) (hn : n < 4611686018427387904) : V 23 [.ptr (.arg 0 0) 0 0,.p (.int .i64 n)] [diceB L a] = some (.p (.int .i64 (nextV L a n)),[diceB L (nextA L a n)]):=by
 refine V_wp (vf:=vf23) rfl ?_
 by_cases ha : L.length <= a
 ·simp -implicitDefEqProofs (disch:=omega) only [vf23,vb23,ha,go_sem,↓reduceIte,rA,rS,rE,rL,reduceCtorEq]
  simp [nextV,nextA,List.getD_eq_getElem?_getD,List.getElem?_eq_none ha,Nat.not_lt.2 ha]
 ·have hx : L[a]? = some (L.getD a 0):=by
   rw [List.getD_eq_getElem?_getD,lgg (by omega)]; rfl
  have ht : (((a : Int) + 1 - 1).toNat) = a:=by omega
  simp -implicitDefEqProofs (disch:=omega) only [vf23,vb23,ha,go_sem,↓reduceIte,rA,rS,rE,rL,reduceCtorEq]
  repeat' ((first | refine wp_grn_d (fun hb=>?_) (fun hb=>?_) | refine wp_gtn_d (fun hb=>?_) (fun hb=>?_) | refine wp_gr_d (fun hb=>?_) (fun hb=>?_) | refine wp_gt_d (fun hb=>?_) (fun hb=>?_) | refine wp_gr (fun hb=>?_) (fun hb=>?_) | refine wp_gt (fun hb=>?_) (fun hb=>?_) | refine wp_nt_d (fun hb=>?_) (fun hb=>?_) | refine wp_nt (fun hb=>?_) (fun hb=>?_) | refine wp_if_d (fun hb=>?_) (fun hb=>?_) | refine wp_if (fun hb=>?_) (fun hb=>?_)) <;> simp -implicitDefEqProofs (disch:=omega) only [hb,hx,ht,go_sem,↓reduceIte,rA,rS,rE,rL,reduceCtorEq])
  ·simp [nextV,nextA,show ¬ 1 <= n by omega]
  ·have:=emod_tmod (x:=L.getD a 0) (n:=n) (by omega)
   rw [if_pos (by assumption)] at this
   have h1:=Int.tmod_lt_of_pos (L.getD a 0) (show 0 < n by omega)
   have h2:=Int.emod_nonneg (L.getD a 0) (show n ≠ 0 by omega)
   rw [wrap64 (by omega) (by omega),<- this]
   simp only [nextV,nextA,show 1 <= n by omega,show a < L.length by omega,and_self,if_true,diceB,Int.natCast_add,Int.natCast_one]
  ·have:=emod_tmod (x:=L.getD a 0) (n:=n) (by omega)
   rw [if_neg (by assumption)] at this
   rw [<- this]
   simp only [nextV,nextA,show 1 <= n by omega,show a < L.length by omega,and_self,if_true,diceB,Int.natCast_add,Int.natCast_one]
theorem nextV_nonneg (L : List Int) (a : Nat) (n : Int) : 0 <= nextV L a n:=by
 unfold nextV
 split
 .exact Int.emod_nonneg _ (by omega)
 .omega
theorem nextV_lt (L : List Int) (a : Nat) {n : Int} (h : 1 <= n) : nextV L a n < n:=by
 unfold nextV
 rw [if_pos h]
 exact Int.emod_lt_of_pos _ (by omega)
theorem take_snoc {α : Type} {l : List α} {k : Nat} {x : α} (h : l[k]? = some x) : l.take (k + 1) = l.take k ++ [x]:=by
 rw [List.take_add_one,h]
 rfl
theorem take_map_self {α β : Type} (f : α -> β) (l : List α) : List.take l.length (l.map f) = l.map f:=by
 rw [ltl (by simp)]
theorem take_map_snoc {α β : Type} (f : α -> β) (l : List α) (x : β) : List.take (l.length + 1) (l.map f ++ [x]) = l.map f ++ [x]:=by
 rw [ltl (by simp)]
attribute [go_sem] take_map_self take_map_snoc
end Go.V
namespace Go.V
theorem isD_iff (c : UInt8) : (isD c = true) = (48 <= (c.toNat : Int) /\ (c.toNat : Int) <= 57):=by
 simp only [isD,bat,decide_eq_true_eq]
 apply propext
 omega
theorem wrap8 {n : Int} (h0 : 0 <= n) (h1 : n < 256) : IntKind.u8.wrap n = n:=by
 simp [IntKind.wrap,IntKind.bits,IntKind.signed]
 omega
theorem numV_bad {l : List UInt8} {k : Nat} {c : UInt8} (h : l[k]? = some c) (hc : ¬ isD c = true) : numV l = -1:=by
 have hm:=lmg h
 have : okD l = false:=by
  cases e : okD l with
  | false=>rfl
  | true =>
   simp only [okD,bat,List.all_eq_true] at e
   exact absurd (e.1.1 c hm) hc
 rw [numV,if_neg (by rw [this]; exact Bool.false_ne_true)]
set_option maxHeartbeats 1000000 in
theorem number_eq (x : ByteArray) (hs : x.size < 4294967281) : V 98 [.p (.str x)] [] = some (.p (.int .i64 (numV x.data.toList)),[]):=by
 refine V_wp (vf:=vf98) rfl ?_
 have hsl : x.data.toList.length = x.size:=rfl
 have he : decide (x = ⟨#[]⟩) = decide (x.data.toList.length = 0):=by
  rw [decide_eq_decide]
  constructor
  ·rintro rfl; rfl
  ·intro h
   obtain ⟨⟨d⟩⟩:=x
   cases d with
   | nil=>rfl
   | cons=>simp at h
 generalize hl : x.data.toList = l at hsl he
 simp -implicitDefEqProofs (disch:=omega) only [vf98,vb98,hl,go_sem,↓reduceIte,rA,rS,rE,rL,reduceCtorEq]
 obtain ⟨I,hI⟩ : ∃ I : Nat -> St -> Prop,∀ k s,I k s ↔ (l.take k).all isD = true /\ s.pe 0 = .p (PV.str x) /\ s.pe 3 = .p (.int .i64 ((min (valD (l.take k)) 1073741824 : Nat) : Int)) /\ s.pe 7 = .p (PV.slice 1 (List.map (fun b ↦ PV.int IntKind.u8 ↑b.toNat) l)) /\ s.pe 8 = .p (.int .i64 ↑l.length) /\ s.pe 9 = .p (.int .i64 k):=⟨_,fun _ _=>Iff.rfl⟩
 refine wp_count (l.length) I ?_ ?_
 ·refine (hI _ _).2 ⟨?_,?_,?_,?_,?_,?_⟩
  ·rfl
  all_goals exact cl0
 intro k s hk hIk
 obtain ⟨hd,h0,h3,h7,h8,h9⟩:=(hI _ _).1 hIk
 clear hIk
 generalize hv : valD (l.take k) = v at h3
 obtain ⟨m,hm⟩ : ∃ m : Nat,m = min v 1073741824:=⟨_,rfl⟩
 rw [<- hm] at h3
 have hm1 : m <= 1073741824:=by omega
 simp -implicitDefEqProofs (disch:=omega) only [h0,h3,h7,h8,h9,go_sem,↓reduceIte,rA,rS,rE,rL,reduceCtorEq]
 refine wp_if_d (fun hlt=>?_) (fun hge=>?_)
 ·have hc : l[k]? = some l[k]:=lgg (by omega)
  have htk:=take_snoc hc
  generalize l[k] = c at hc htk
  by_cases hD : isD c = true
  ·have hD2:=hD
   rw [isD_iff] at hD2
   have f1 : ¬ (c.toNat : Int) < 48:=by omega
   have f2 : ¬ (c.toNat : Int) > 57:=by omega
   have w1 : IntKind.u8.wrap ((c.toNat : Int) - 48) = (c.toNat : Int) - 48:=wrap8 (by omega) (by omega)
   have w2 : (10 * (m : Int) + ((c.toNat : Int) - 48)) = ((10 * m + (c.toNat - 48) : Nat) : Int):=by omega
   have htv : valD (l.take (k + 1)) = 10 * v + (c.toNat - 48):=by rw [htk,valD,valF_snoc,<- hv]
   have w3 : min ((10 * m + (c.toNat - 48) : Nat) : Int) 1073741824 = ((min (10 * v + (c.toNat - 48)) 1073741824 : Nat) : Int):=by omega
   simp -implicitDefEqProofs (disch:=omega) only [h0,h3,h7,h8,h9,hlt,hc,f1,f2,w1,w2,w3,go_sem,↓reduceIte,rA,rS,rE,rL,reduceCtorEq]
   have hd2 : (l.take (k + 1)).all isD = true:=by rw [htk,List.all_append,hd]; simp [hD]
   clear htk hm
   try refine And.intro (by omega) ?_
   refine (hI _ _).2 ⟨?_,?_,?_,?_,?_,?_⟩
   ·exact hd2
   all_goals exact cl0
  ·rw [numV_bad hc hD]
   rw [isD_iff] at hD
   by_cases f1 : (c.toNat : Int) < 48
   ·simp -implicitDefEqProofs (disch:=omega) only [h0,h3,h7,h8,h9,hlt,hc,f1,go_sem,↓reduceIte,rA,rS,rE,rL,reduceCtorEq]
   ·have f2 : (c.toNat : Int) > 57:=by omega
    simp -implicitDefEqProofs (disch:=omega) only [h0,h3,h7,h8,h9,hlt,hc,f1,f2,go_sem,↓reduceIte,rA,rS,rE,rL,reduceCtorEq]
 ·have hk : k = l.length:=by omega
  subst hk
  rw [List.take_length] at hd hv
  by_cases hz0 : l.length = 0
  ·have hn : numV l = -1:=by rw [numV,if_neg (by simp [okD,hz0])]
   have he1 : decide (x = ⟨#[]⟩) = true:=by rw [he,hz0]; rfl
   rw [hn]
   simp -implicitDefEqProofs (disch:=omega) only [h0,h3,h7,h8,h9,hge,he1,go_sem,↓reduceIte,rA,rS,rE,rL,reduceCtorEq]
  ·have he1 : decide (x = ⟨#[]⟩) = false:=by rw [he]; simpa using hz0
   by_cases h9 : (x.size : Int) > 9
   ·have hn : numV l = -1:=by rw [numV,if_neg (by simp [okD]; omega)]
    rw [hn]
    simp -implicitDefEqProofs (disch:=omega) only [h0,h3,h7,h8,h9,hge,he1,h9,go_sem,↓reduceIte,rA,rS,rE,rL,reduceCtorEq]
   ·have hn : numV l = (v : Int):=by
     rw [numV,if_pos (by simp only [okD,hd,bta,bat,decide_eq_true_eq]; omega),hv]
    have hlt:=valD_lt l 0 hd
    rw [Nat.zero_add,Nat.one_mul] at hlt
    have hpw : 10 ^ l.length <= 10 ^ 9:=Nat.pow_le_pow_right (by omega) (by omega)
    have hmv : m = v:=by
     have : v < 10 ^ 9:=by rw [<- hv]; exact Nat.lt_of_lt_of_le hlt hpw
     omega
    rw [hn,<- hmv]
    simp -implicitDefEqProofs (disch:=omega) only [h0,h3,h7,h8,h9,hge,he1,h9,go_sem,↓reduceIte,rA,rS,rE,rL,reduceCtorEq]
theorem cut_le (l sep : List UInt8) : (Lib.cut l sep).1.length <= l.length /\ (Lib.cut l sep).2.1.length <= l.length:=by
 unfold Lib.cut
 split
 ·simp only [llt,lld]
  omega
 .simp
abbrev pairVV (p : Int × Int) : VVal:=.agg [.p (.int .i64 p.1),.p (.int .i64 p.2)]
set_option maxHeartbeats 1000000 in
theorem element_eq (x : ByteArray) (hs : x.size < 4294967281) : V 84 [.p (.str x)] [] = some (.tup [pairVV (elemV x.data.toList),.p (.bool (elemOk (elemV x.data.toList)))],[]):=by
 refine V_wp (vf:=vf84) rfl ?_
 have hc:=cut_x (s:=x) (sep:=⟨#[45]⟩) hs
 obtain ⟨c1,c2⟩:=cut_le x.data.toList [45]
 have hsl : x.data.toList.length = x.size:=rfl
 have hn1:=number_eq ⟨(Lib.cut x.data.toList [45]).1.toArray⟩ (by show (Lib.cut x.data.toList [45]).1.length < _; omega)
 have hn2:=number_eq ⟨(Lib.cut x.data.toList [45]).2.1.toArray⟩ (by show (Lib.cut x.data.toList [45]).2.1.length < _; omega)
 simp only at hn1 hn2
 unfold elemV elemOk
 rw [show cutS x ⟨#[45]⟩ = Lib.cut x.data.toList [45] from rfl] at hc
 generalize Lib.cut x.data.toList [45] = q at hc hn1 hn2 ⊢
 obtain ⟨q1,q2,q3⟩:=q
 simp only at hc hn1 hn2 ⊢
 generalize numV q1 = a at hn1 ⊢
 generalize numV q2 = b at hn2 ⊢
 cases q3
 ·by_cases ha : 0 <= a
  .simp -implicitDefEqProofs (disch:=omega) only [vf84,vb84,hc,hn1,ha,go_sem,↓reduceIte,rA,rS,rE,rL,reduceCtorEq]
  .simp -implicitDefEqProofs (disch:=omega) only [vf84,vb84,hc,hn1,ha,go_sem,↓reduceIte,rA,rS,rE,rL,reduceCtorEq]
 ·by_cases ha : 0 <= a
  .simp -implicitDefEqProofs (disch:=omega) only [vf84,vb84,hc,hn1,hn2,ha,go_sem,↓reduceIte,rA,rS,rE,rL,reduceCtorEq]
  .simp -implicitDefEqProofs (disch:=omega) only [vf84,vb84,hc,hn1,hn2,ha,go_sem,↓reduceIte,rA,rS,rE,rL,reduceCtorEq]
end Go.V
namespace Go.V
def idxF (f : Int × Int -> Bool) : List (Int × Int) -> Nat -> Int
 | [],_=>-1
 | x :: r,k=>if f x = true then (k : Int) else idxF f r (k + 1)
theorem idxF_cons (f : Int × Int -> Bool) (x : Int × Int) (r : List (Int × Int)) (k : Nat) : idxF f (x :: r) k = if f x = true then (k : Int) else idxF f r (k + 1):=rfl
theorem idxF_nil (f : Int × Int -> Bool) (k : Nat) : idxF f [] k = -1:=rfl
theorem idxF_any (f : Int × Int -> Bool) : ∀ (l : List (Int × Int)) (k : Nat),decide (idxF f l k ≥ 0) = l.any f
 | [],k=>rfl
 | x :: r,k=>by
  unfold idxF
  rw [List.any_cons]
  split
  ·rename_i h
   rw [h,Bool.true_or]
   exact decide_eq_true (Int.natCast_nonneg _)
  ·rename_i h
   rw [idxF_any f r (k + 1)]
   simp [h]
abbrev spansP (ps : List (Int × Int)) : PV:=.slice 2 (ps.map pairPV)
abbrev highB (n : Int) (p : Int × Int) : Bool:=decide (p.2 ≥ min n 65536)
theorem high_eq (p : Int × Int) (n : Int) : V 86 [pairVV p,.ptr (.arg 0 0) 0 0] [.box [.p (.int .i64 n)]] = some (.p (.bool (highB n p)),[.box [.p (.int .i64 n)]]):=by
 refine V_wp (vf:=vf86) rfl ?_
 simp -implicitDefEqProofs (disch:=omega) only [vf86,vb86,go_sem,↓reduceIte,rA,rS,rE,rL,reduceCtorEq]
theorem spans_flat (ps : List (Int × Int)) : (ps.map pairPV).all PV.flat = true:=by
 rw [List.all_eq_true]
 intro x hx
 obtain ⟨n,_,rfl⟩:=lmm.1 hx
 rfl
attribute [go_sem] spans_flat
theorem indexSpan_eq (ps : List (Int × Int)) (n : Int) (hl : ps.length < 4611686018427387904) : V 99 [.p (spansP ps),.fn 86 [.ptr (.arg 0 0) 0 0]] [.box [.p (.int .i64 n)]] = some (.p (.int .i64 (idxF (highB n) ps 0)),[.box [.p (.int .i64 n)]]):=by
 refine V_wp (vf:=vf99) rfl ?_
 simp -implicitDefEqProofs (disch:=omega) only [vf99,vb99,go_sem,↓reduceIte,rA,rS,rE,rL,reduceCtorEq]
 refine wp_count ps.length (fun k s=>idxF (highB n) ps 0 = idxF (highB n) (ps.drop k) k /\ s.pe 0 = .p (spansP ps) /\ s.pe 1 = .fn 86 [.ptr (.arg 0 0) 0 0] /\ s.pe 7 = .p (.int .i64 ps.length) /\ s.pe 8 = .p (.int .i64 k) /\ s.h (.arg 0 0) = some (0,.box [.p (.int .i64 n)])) ?_ ?_
 ·exact ⟨rfl,rfl,rfl,rfl,rfl,rfl⟩
 ·rintro k s hk ⟨hall,h0,h1,h7,h8,hh⟩
  simp -implicitDefEqProofs (disch:=omega) only [h0,h1,h7,h8,hh,go_sem,↓reduceIte,rA,rS,rE,rL,reduceCtorEq]
  refine wp_if_d (fun hlt=>?_) (fun hge=>?_)
  ·have hm : ps[k]? = some ps[k]:=lgg hlt
   have hd : ps.drop k = ps[k] :: ps.drop (k + 1):=ldg (by omega)
   generalize ps[k] = m at hm hd
   rw [hd,idxF_cons] at hall
   have hc:=high_eq m n
   generalize highB n m = b at hc hall
   cases b
   ·rw [if_neg Bool.false_ne_true] at hall
    simp -implicitDefEqProofs (disch:=omega) only [h0,h1,h7,h8,hh,hm,hc,go_sem,↓reduceIte,rA,rS,rE,rL,reduceCtorEq]
    exact ⟨hlt,hall,by simp only [Int.natCast_add,Int.natCast_one]⟩
   ·rw [if_pos rfl] at hall
    simp -implicitDefEqProofs (disch:=omega) only [h0,h1,h7,h8,hh,hm,hc,go_sem,↓reduceIte,rA,rS,rE,rL,reduceCtorEq]
    rw [hall]
  ·rw [ldl (by omega)] at hall
   simp -implicitDefEqProofs (disch:=omega) only [h0,h1,h7,h8,hh,hge,go_sem,↓reduceIte,rA,rS,rE,rL,reduceCtorEq]
   rw [hall,idxF_nil]
theorem contains_eq (ps : List (Int × Int)) (n : Int) (hl : ps.length < 4611686018427387904) : V 85 [.p (spansP ps),.fn 86 [.ptr (.arg 0 0) 0 0]] [.box [.p (.int .i64 n)]] = some (.p (.bool (ps.any (highB n))),[.box [.p (.int .i64 n)]]):=by
 refine V_wp (vf:=vf85) rfl ?_
 have hc:=indexSpan_eq ps n hl
 have ha:=idxF_any (highB n) ps 0
 generalize idxF (highB n) ps 0 = i at hc ha
 generalize ps.any (highB n) = b at ha ⊢
 simp -implicitDefEqProofs (disch:=omega) only [vf85,vb85,hc,ha,go_sem,↓reduceIte,rA,rS,rE,rL,reduceCtorEq]
theorem cutB_len (c : UInt8) : ∀ l : List UInt8,(∀ p ∈ cutB c l,p.length <= l.length) /\ (cutB c l).length <= l.length + 1
 | []=>by simp [cutB]
 | b :: l=>by
  obtain ⟨i1,i2⟩:=cutB_len c l
  unfold cutB
  split
  ·refine ⟨fun p hp=>?_,by simp; omega⟩
   rcases lmk.1 hp with rfl | hp
   ·simp
   ·have:=i1 p hp; simp; omega
  ·split
   ·rename_i x xs h
    rw [h] at i1 i2
    refine ⟨fun p hp=>?_,by simp at i2 ⊢; omega⟩
    rcases lmk.1 hp with rfl | hp
    .have:=i1 x (lms ..); simp; omega
    .have:=i1 p (lmc _ hp); simp; omega
   .simp
theorem split_len (x : ByteArray) (c : UInt8) : (∀ w ∈ splitS x ⟨#[c]⟩,w.size <= x.size) /\ (splitS x ⟨#[c]⟩).length <= x.size + 1:=by
 have h:=splitS_cutB x c
 obtain ⟨h1,h2⟩:=cutB_len c x.data.toList
 rw [<- h] at h1 h2
 refine ⟨fun w hw=>h1 _ (List.mem_map_of_mem hw),by simpa using h2⟩
theorem numV_lt (l : List UInt8) : numV l < 1000000000:=by
 unfold numV
 split
 ·rename_i h
  simp only [okD,bat,decide_eq_true_eq] at h
  have h1:=valD_lt l 0 h.1.1
  rw [Nat.zero_add,Nat.one_mul] at h1
  have hpw : 10 ^ l.length <= 10 ^ 9:=Nat.pow_le_pow_right (by omega) (by omega)
  have : valD l < 10 ^ 9:=Nat.lt_of_lt_of_le h1 hpw
  omega
 .omega
theorem elemV_lt (l : List UInt8) : (elemV l).2 < 1000000000:=by
 unfold elemV
 simp only
 split <;> exact numV_lt _
abbrev okP (p : Int × Int) : Prop:=0 <= p.1 /\ p.1 <= p.2 /\ p.2 < 1000000000
theorem elemsV_cons (w : ByteArray) (r : List ByteArray) : elemsV (w :: r) = if elemOk (elemV w.data.toList) = true then (elemsV r).map (elemV w.data.toList :: ·) else none:=rfl
noncomputable def parseT (x : ByteArray) (n : Int) : List Int × Int :=
 if x = ⟨#[]⟩ then ([],0) else match elemsV (splitS x ⟨#[44]⟩) with
  | none=>([],2)
  | some ps=>if ps.any (highB n) = true then ([],3) else (spanL 0 (sortQ ps),0)
set_option maxHeartbeats 8000000 in
theorem sparse_eq (x : ByteArray) (n : Int) (hs : x.size < 4294967281) : V 75 [.p (.str x),.p (.int .i64 n)] [] = some (.tup [.fresh 1 ((parseT x n).1.map (.int .i64)),.p (.int .i64 (parseT x n).2)],[]):=by
 refine V_wp (vf:=vf75) rfl ?_
 unfold parseT
 by_cases he : x = ⟨#[]⟩
 ·have hd : decide (x = ⟨#[]⟩) = true:=decide_eq_true he
  rw [if_pos he]
  simp -implicitDefEqProofs (disch:=omega) only [vf75,vb75,hd,go_sem,↓reduceIte,rA,rS,rE,rL,reduceCtorEq]
 have hd : decide (x = ⟨#[]⟩) = false:=decide_eq_false he
 rw [if_neg he]
 have h1:=split_x (sep:=⟨#[44]⟩) hs (by decide)
 obtain ⟨hw1,hw2⟩:=split_len x 44
 generalize splitS x ⟨#[44]⟩ = ws at h1 hw1 hw2 ⊢
 simp -implicitDefEqProofs (disch:=omega) only [vf75,vb75,hd,h1,go_sem,↓reduceIte,rA,rS,rE,rL,reduceCtorEq]
 obtain ⟨I,hI⟩ : ∃ I : Nat -> St -> Prop,∀ k s,I k s ↔ ∃ (acc : List (Int × Int)) (ww : Nat),elemsV ws = (elemsV (ws.drop k)).map (acc ++ ·) /\ (∀ p ∈ acc,okP p) /\ acc.length = k /\ s.pe 3 = .ptr (.slot 3 0) 0 0 /\ s.pe 6 = .own (.slot 6 0) ww 0 acc.length /\ s.pe 18 = .own (.slot 18 1) 0 0 ws.length /\ s.pe 19 = .p (.int .i64 ↑ws.length) /\ s.pe 20 = .p (.int .i64 k) /\ s.h (.slot 3 0) = some (0,Ob.box [.p (.int .i64 n)]) /\ s.h (.slot 6 0) = some (ww,Ob.arr 2 (acc.map pairPV)) /\ s.h (.slot 18 1) = some (0,Ob.arr 1 (List.map PV.str ws)):=⟨_,fun _ _=>Iff.rfl⟩
 refine wp_count (ws.length) I ?_ ?_
 ·refine (hI _ _).2 ⟨[],0,?_,?_,?_,?_,?_,?_,?_,?_,?_,?_,?_⟩
  ·exact by rw [List.drop_zero]; cases elemsV ws <;> rfl
  ·exact by simp
  ·rfl
  all_goals exact cl0
 intro k s hk hIk
 obtain ⟨acc,ww,ha,hb,hl,h3,h6,h18,h19,h20,hh3_0,hh6_0,hh18_1⟩:=(hI _ _).1 hIk
 clear hIk
 simp -implicitDefEqProofs (disch:=omega) only [h3,h6,h18,h19,h20,hh3_0,hh6_0,hh18_1,go_sem,↓reduceIte,rA,rS,rE,rL,reduceCtorEq]
 refine wp_if_d (fun hlt=>?_) (fun hge=>?_)
 ·have hc : ws[k]? = some ws[k]:=lgg (by omega)
  have hdr : ws.drop k = ws[k] :: ws.drop (k + 1):=ldg (by omega)
  have hwk:=hw1 _ (lgk (show k < ws.length by omega))
  generalize ws[k] = w at hc hdr hwk
  rw [hdr,elemsV_cons] at ha
  have hel:=element_eq w (by omega)
  have hlt9:=elemV_lt w.data.toList
  generalize elemV w.data.toList = q at hel ha hlt9
  have htk : List.take acc.length (acc.map pairPV) = acc.map pairPV:=ltl (by simp)
  by_cases hq : elemOk q = true
  ·rw [hq] at hel
   rw [if_pos hq] at ha
   simp only [elemOk,bat,decide_eq_true_eq] at hq
   have ha2 : elemsV ws = (elemsV (ws.drop (k + 1))).map ((acc ++ [q]) ++ ·):=by
    rw [ha,Option.map_map]
    congr 1
    funext r
    simp
   have hb2 : ∀ p ∈ acc ++ [q],okP p:=fun p hp=>by
    rcases lmp.1 hp with hp | hp
    ·exact hb p hp
    ·rw [List.mem_singleton.1 hp]; exact ⟨hq.1,hq.2,hlt9⟩
   clear ha
   simp -implicitDefEqProofs (disch:=omega) only [h3,h6,h18,h19,h20,hh3_0,hh6_0,hh18_1,hlt,hc,hel,htk,go_sem,↓reduceIte,rA,rS,rE,rL,reduceCtorEq]
   try refine And.intro (by omega) ?_
   refine (hI _ _).2 ⟨acc ++ [q],ww + 1,?_,?_,?_,?_,?_,?_,?_,?_,?_,?_,?_⟩
   ·exact ha2
   ·exact hb2
   ·exact by rw [lla,hl]; rfl
   all_goals exact cl0
  ·rw [if_neg hq] at ha
   have hq2 : elemOk q = false:=by simpa using hq
   rw [hq2] at hel
   rw [ha]
   simp -implicitDefEqProofs (disch:=omega) only [h3,h6,h18,h19,h20,hh3_0,hh6_0,hh18_1,hlt,hc,hel,htk,go_sem,↓reduceIte,rA,rS,rE,rL,reduceCtorEq]
 ·have hkn : k = ws.length:=by omega
  have hnil : elemsV (ws.drop k) = some []:=by rw [ldl (by omega)]; rfl
  have ha3 : elemsV ws = some acc:=by rw [ha,hnil]; simp
  clear ha hnil
  rw [ha3]
  have hco:=contains_eq acc n (by omega)
  have htk : List.take acc.length (acc.map pairPV) = acc.map pairPV:=ltl (by simp)
  by_cases hany : acc.any (highB n) = true
  ·rw [hany] at hco
   simp -implicitDefEqProofs (disch:=omega) only [h3,h6,h18,h19,h20,hh3_0,hh6_0,hh18_1,hge,htk,hco,go_sem,↓reduceIte,rA,rS,rE,rL,reduceCtorEq]
   simp only [hany,if_true,lpn]
  ·have hany2 : acc.any (highB n) = false:=by simpa using hany
   rw [hany2] at hco
   simp only [hany2,bft,if_false]
   have hso:=sortF_x (ps:=acc) (by omega) fun p hp=>by have:=hb p hp; exact ⟨this.1,by omega⟩
   have hqn:=(sortQ_perm acc).length_eq
   have hhi : ∀ p ∈ sortQ acc,okP p /\ p.2 < 65536:=fun p hp=>by
    have hm:=(sortQ_perm acc).subset hp
    have h0:=List.any_eq_false.1 hany2 p hm
    simp only [highB,decide_eq_true_eq] at h0
    exact ⟨hb p hm,by omega⟩
   simp -implicitDefEqProofs (disch:=omega) only [h3,h6,h18,h19,h20,hh3_0,hh6_0,hh18_1,hge,htk,hco,hso,go_sem,↓reduceIte,rA,rS,rE,rL,reduceCtorEq]
   generalize sortQ acc = qs at hqn hhi ⊢
   rw [<- hqn]
   obtain ⟨J,hJ⟩ : ∃ I : Nat -> St -> Prop,∀ j s,I j s ↔ ∃ (vv : Nat) (out : List Int) (next : Int),spanL 0 qs = out ++ spanL next (qs.drop j) /\ 0 <= next /\ next <= 65536 /\ (out.length : Int) <= next /\ s.pe 11 = .own (.slot 11 0) vv 0 out.length /\ s.pe 12 = .p (.int .i64 next) /\ s.pe 41 = .own (.slot 6 0) ww 0 qs.length /\ s.pe 42 = .p (.int .i64 ↑qs.length) /\ s.pe 43 = .p (.int .i64 j) /\ s.h (.slot 6 0) = some (ww,Ob.arr 2 (List.map pairPV qs)) /\ s.h (.slot 11 0) = some (vv,Ob.arr 1 (out.map (.int .i64))):=⟨_,fun _ _=>Iff.rfl⟩
   refine wp_count (qs.length) J ?_ ?_
   ·refine (hJ _ _).2 ⟨nv (fzOb [4] s.h (.slot 11 0)),[],0,?_,?_,?_,?_,?_,?_,?_,?_,?_,?_,?_⟩
    ·rfl
    ·exact cl3
    ·exact cl3
    ·exact cl3
    all_goals exact cl0
   intro j s hj hJk
   obtain ⟨vv,out,next,hsp,hn0,hn1,hol,h11,h12,h41,h42,h43,hh6_0,hh11_0⟩:=(hJ _ _).1 hJk
   clear hJk
   simp -implicitDefEqProofs (disch:=omega) only [h11,h12,h41,h42,h43,hh6_0,hh11_0,go_sem,↓reduceIte,rA,rS,rE,rL,reduceCtorEq]
   refine wp_if_d (fun hlt2=>?_) (fun hge2=>?_)
   ·have hc : qs[j]? = some qs[j]:=lgg (by omega)
    have hdr : qs.drop j = qs[j] :: qs.drop (j + 1):=ldg (by omega)
    have hpp:=hhi _ (lgk (show j < qs.length by omega))
    generalize qs[j] = p at hc hdr hpp
    obtain ⟨p1,p2⟩:=p
    simp only at hpp
    rw [hdr] at hsp
    simp only [spanL] at hsp
    generalize hR : spanL (max (max next p1) (p2 + 1)) (qs.drop (j + 1)) = R at hsp
    simp -implicitDefEqProofs (disch:=omega) only [h11,h12,h41,h42,h43,hh6_0,hh11_0,hlt2,hc,go_sem,↓reduceIte,rA,rS,rE,rL,reduceCtorEq]
    generalize hmx : max next p1 = mx at hsp hR ⊢
    obtain ⟨M,hM⟩ : ∃ I : Nat -> St -> Prop,∀ m s,I m s ↔ ∃ (v2 : Nat) (out2 : List Int) (nx : Int) (v14_0 : Nat),m = (p2 + 1 - nx).toNat /\ spanL 0 qs = out2 ++ (rangeI nx p2 ++ R) /\ mx <= nx /\ (nx <= p2 + 1 \/ nx = mx) /\ (out2.length : Int) <= nx /\ s.pe 11 = .own (.slot 11 0) v2 0 out2.length /\ s.pe 12 = .p (.int .i64 nx) /\ s.pe 14 = .ptr (.slot 14 0) v14_0 0 /\ s.pe 41 = .own (.slot 6 0) ww 0 qs.length /\ s.pe 42 = .p (.int .i64 ↑qs.length) /\ s.pe 43 = .p (.int .i64 ↑j) /\ s.h (.slot 6 0) = some (ww,Ob.arr 2 (List.map pairPV qs)) /\ s.h (.slot 11 0) = some (v2,Ob.arr 1 (List.map (.int .i64) out2)) /\ s.h (.slot 14 0) = some (v14_0,Ob.box [.p (.int .i64 p1),.p (.int .i64 p2)]):=⟨_,fun _ _=>Iff.rfl⟩
    refine wp_meas M id ((p2 + 1 - mx).toNat) ?_ ?_
    ·refine (hM _ _).2 ⟨vv,out,mx,nv (s.h (.slot 14 0)),?_,?_,?_,?_,?_,?_,?_,?_,?_,?_,?_,?_,?_,?_⟩
     .rfl
     .exact hsp
     .exact cl3
     .exact Or.inr rfl
     .omega
     all_goals exact cl0
    intro m s hMk
    obtain ⟨v2,out2,nx,v14_0,hmm,hs2,hx0,hx1,ho2,h11,h12,h14,h41,h42,h43,hh6_0,hh11_0,hh14_0⟩:=(hM _ _).1 hMk
    clear hMk
    simp -implicitDefEqProofs (disch:=omega) only [h11,h12,h14,h41,h42,h43,hh6_0,hh11_0,hh14_0,go_sem,↓reduceIte,rA,rS,rE,rL,reduceCtorEq]
    refine wp_if_d (fun hle=>?_) (fun hgt=>?_)
    ·have htk2 : List.take out2.length (out2.map (PV.int .i64)) = out2.map (PV.int .i64):=ltl (by simp)
     rw [rangeI_cons hle] at hs2
     have hs3 : spanL 0 qs = (out2 ++ [nx]) ++ (rangeI (nx + 1) p2 ++ R):=by rw [hs2]; simp
     clear hs2
     simp -implicitDefEqProofs (disch:=omega) only [h11,h12,h14,h41,h42,h43,hh6_0,hh11_0,hh14_0,hle,htk2,go_sem,↓reduceIte,rA,rS,rE,rL,reduceCtorEq]
     refine ⟨(p2 + 1 - (nx + 1)).toNat,by simp only [id]; omega,(hM _ _).2 ⟨v2 + 1,out2 ++ [nx],nx + 1,v14_0,?_,?_,?_,?_,?_,?_,?_,?_,?_,?_,?_,?_,?_,?_⟩⟩
     .rfl
     .exact hs3
     .omega
     .omega
     .exact by rw [lla]; simp only [llc,lln]; omega
     all_goals exact cl0
    ·rw [rangeI_nil (by omega),lna,<- hR,show max mx (p2 + 1) = nx by omega] at hs2
     simp -implicitDefEqProofs (disch:=omega) only [h11,h12,h14,h41,h42,h43,hh6_0,hh11_0,hh14_0,hgt,go_sem,↓reduceIte,rA,rS,rE,rL,reduceCtorEq]
     try refine And.intro (by omega) ?_
     refine (hJ _ _).2 ⟨v2,out2,nx,?_,?_,?_,?_,?_,?_,?_,?_,?_,?_,?_⟩
     .exact hs2
     .omega
     .omega
     .exact ho2
     all_goals exact cl0
   ·rw [ldl (by omega),spanL,lan] at hsp
    have htk3 : List.take out.length (out.map (PV.int .i64)) = out.map (PV.int .i64):=ltl (by simp)
    rw [hsp]
    simp -implicitDefEqProofs (disch:=omega) only [h11,h12,h41,h42,h43,hh6_0,hh11_0,hge2,htk3,go_sem,↓reduceIte,rA,rS,rE,rL,reduceCtorEq]
    simp only [hany2,bft,if_false]
end Go.V
namespace Go.V
theorem itoaS_size {n : Int} (h : 0 <= n) (h2 : n < 1000000000) : (itoaS n).size <= 9:=by
 show (Lib.itoa n).length <= 9
 rw [itoa_pos h]
 exact dec_len 8 n.toNat (by omega)
theorem elemS_two {x y : Int} (h : x < y) : itoaS x ++ (⟨#[45]⟩ ++ itoaS y) = elemS (x,y):=by
 have e : elemB (x,y) = Lib.itoa x ++ 45 :: Lib.itoa y:=by unfold elemB; rw [if_pos h]
 apply ByteArray.ext
 rw [show (elemS (x,y)).data = (elemB (x,y)).toArray from rfl,e]
 simp
theorem elemS_one {x y : Int} (h : ¬ x < y) : itoaS x = elemS (x,y):=by
 have e : elemB (x,y) = Lib.itoa x:=by unfold elemB; rw [if_neg h]
 show (⟨(Lib.itoa x).toArray⟩ : ByteArray) = ⟨(elemB (x,y)).toArray⟩
 rw [e]
abbrev setTxt (l : List Int) : ByteArray:=joinS ((runsR l).map elemS) ⟨#[44]⟩
theorem runsR_len : ∀ (n : Nat) (l : List Int),l.length <= n -> (runsR l).length <= l.length
 | _,[],_=>by rw [runsR_nil]; exact lrf _
 | 0,x :: r,h=>by simp at h
 | n + 1,x :: r,h=>by
  have:=runsR_len n (r.drop (runLen x r)) (by simp at h ⊢; omega)
  rw [runsR_cons]
  simp at this ⊢
  omega
theorem lens_le {B : Nat} : ∀ r : List ByteArray,(∀ x ∈ r,x.size <= B) -> Lib.lens (r.map (·.data.toList)) <= B * r.length
 | [],_=>by simp [Lib.lens]
 | y :: r,hr=>by
  have:=lens_le r fun z hz=>hr z (lmc _ hz)
  have h3 : y.data.toList.length <= B:=hr y (lms ..)
  simp only [Lib.lens,lpc,List.sum_cons,llc] at this ⊢
  rw [Nat.mul_succ]
  omega
theorem join_bound {B : Nat} (xs : List ByteArray) (c : UInt8) (h : ∀ x ∈ xs,x.size <= B) : (Lib.join (xs.map (·.data.toList)) [c]).length <= B * xs.length + xs.length:=by
 cases xs with
 | nil=>exact Nat.zero_le _
 | cons x r =>
  rw [lpc,Lib.join_cons,lla,Lib.joinTail_length,llm]
  have h1 : x.data.toList.length <= B:=h x (lms ..)
  have h3:=lens_le r fun z hz=>h z (lmc _ hz)
  simp only [llc,lln] at *
  rw [Nat.mul_succ]
  omega
theorem elemS_size {p : Int × Int} (h : 0 <= p.1) (h2 : p.1 <= p.2) (h3 : p.2 < 1000000000) : (elemS p).size <= 19:=by
 have h1:=itoaS_size (n:=p.1) h (by omega)
 have h4:=itoaS_size (n:=p.2) (by omega) h3
 by_cases hlt : p.1 < p.2
 ·rw [<- elemS_two hlt,ByteArray.size_append,ByteArray.size_append]
  have : (⟨#[45]⟩ : ByteArray).size = 1:=rfl
  omega
 ·rw [show elemS p = itoaS p.1 from (elemS_one (x:=p.1) (y:=p.2) hlt).symm]
  omega
set_option maxHeartbeats 8000000 in
theorem sformat_eq (l : List Int) (hl : l.length < 1000000) (ha : Asc l) (hb : ∀ x ∈ l,0 <= x /\ x < 999999999) : V 73 [.p (intsP l)] [] = some (.tup [.p (.str (setTxt l)),.p (.int .i64 0)],[]):=by
 refine V_wp (vf:=vf73) rfl ?_
 simp -implicitDefEqProofs (disch:=omega) only [vf73,vb73,go_sem,↓reduceIte,rA,rS,rE,rL,reduceCtorEq]
 obtain ⟨R,hR⟩ : ∃ I : Nat -> St -> Prop,∀ r s,I r s ↔ ∃ (i : Nat) (acc : List (Int × Int)) (w : Nat),r = l.length - i /\ i <= l.length /\ runsR l = acc ++ runsR (l.drop i) /\ acc.length <= i /\ s.pe 0 = .p (intsP l) /\ s.pe 4 = .own (.slot 4 0) w 0 acc.length /\ s.pe 5 = .p (.int .i64 i) /\ s.h (.slot 4 0) = some (w,Ob.arr 1 ((acc.map elemS).map PV.str)):=⟨_,fun _ _=>Iff.rfl⟩
 refine wp_meas R id (l.length) ?_ ?_
 ·refine (hR _ _).2 ⟨0,[],0,?_,?_,?_,?_,?_,?_,?_,?_⟩
  ·rfl
  ·exact Nat.zero_le _
  ·rfl
  ·exact lrf _
  all_goals exact cl0
 intro r s hRk
 obtain ⟨i,acc,w,hr,hil,hrn,hac,h0,h4,h5,hh4_0⟩:=(hR _ _).1 hRk
 clear hRk
 simp -implicitDefEqProofs (disch:=omega) only [h0,h4,h5,hh4_0,go_sem,↓reduceIte,rA,rS,rE,rL,reduceCtorEq]
 refine wp_if_d (fun hlt=>?_) (fun hge=>?_)
 ·have hc : l[i]? = some l[i]:=lgg (by omega)
  have hdr : l.drop i = l[i] :: l.drop (i + 1):=ldg (by omega)
  have hbi:=hb _ (lgk (show i < l.length by omega))
  have hpre : 0 < i -> ∃ y,l[((i : Int) - 1).toNat]? = some y /\ y < l[i]:=fun h0=>by
   rw [Asc,List.pairwise_iff_getElem] at ha
   have:=ha (i - 1) i (by omega) (by omega) (by omega)
   exact ⟨l[i - 1],by rw [show ((i : Int) - 1).toNat = i - 1 by omega]; exact lgg (by omega),this⟩
  generalize l[i] = x at hc hdr hbi hpre
  have hx0 : ¬ x < 0:=by omega
  by_cases hi0 : 0 < i
  ·obtain ⟨y0,hy0,hyx0⟩:=hpre hi0
   have hgt : (i : Int) > 0:=by omega
   have hnl : ¬ x <= y0:=by omega
   simp -implicitDefEqProofs (disch:=omega) only [h0,h4,h5,hh4_0,hlt,hc,hx0,hgt,hy0,hnl,go_sem,↓reduceIte,rA,rS,rE,rL,reduceCtorEq]
   obtain ⟨K,hK⟩ : ∃ I : Nat -> St -> Prop,∀ k s,I k s ↔ ∃ (c : Nat) (j : Nat),k = l.length - j /\ j = i + c /\ j < l.length /\ runLen x (l.drop (i + 1)) = c + runLen (x + c) (l.drop (j + 1)) /\ l[j]? = some (x + c) /\ s.pe 0 = .p (intsP l) /\ s.pe 4 = .own (.slot 4 0) w 0 acc.length /\ s.pe 5 = .p (.int .i64 ↑i) /\ s.pe 6 = .p (.int .i64 j) /\ s.h (.slot 4 0) = some (w,Ob.arr 1 ((acc.map elemS).map PV.str)):=⟨_,fun _ _=>Iff.rfl⟩
   refine wp_meas K id ((l.length - i)) ?_ ?_
   ·refine (hK _ _).2 ⟨0,i,?_,?_,?_,?_,?_,?_,?_,?_,?_,?_⟩
    ·rfl
    ·rfl
    ·omega
    ·exact by simp
    ·exact by simpa using hc
    all_goals exact cl0
   intro k s hKk
   obtain ⟨c,j,hkm,hjc,hcl,hrl,hkc,h0,h4,h5,h6,hh4_0⟩:=(hK _ _).1 hKk
   clear hKk
   have hbc:=hb _ (lmg hkc)
   have hstep : ∀ y,l[j + 1]? = some y -> l.drop (j + 1) = y :: l.drop (j + 1 + 1):=fun y hy=>by
    have hlt':=(lgs.1 hy).1
    rw [ldg (l:=l) (i:=j + 1) hlt',(lgs.1 hy).2]
   have e1 : ((j : Int) + 1).toNat = j + 1:=by omega
   have hstop : (∀ y,l[j + 1]? = some y -> y ≠ x + c + 1) -> runLen (x + c) (l.drop (j + 1)) = 0:=fun hy=>by
    cases hq : l[j + 1]? with
    | none =>
     rw [ldl (by rw [List.getElem?_eq_none_iff] at hq; omega)]
     rfl
    | some y =>
     rw [hstep y hq,runLen,if_neg (hy y hq)]
   have hend : runLen (x + c) (l.drop (j + 1)) = 0 -> runsR l = (acc ++ [(x,x + (c : Int))]) ++ runsR (l.drop (j + 1)):=fun h0=>by
    rw [hrn,hdr,runsR_cons,hrl,h0,Nat.add_zero,List.drop_drop,show i + 1 + c = j + 1 by omega]
    simp
   by_cases hlen : j + 1 < l.length
   ·have hy : l[j + 1]? = some l[j + 1]:=lgg hlen
    generalize l[j + 1] = y at hy
    have hlt2 : (j : Int) + 1 < l.length:=by omega
    by_cases hye : y = x + c + 1
    ·have hrl2 : runLen x (l.drop (i + 1)) = (c + 1) + runLen (x + ((c + 1 : Nat) : Int)) (l.drop (j + 1 + 1)):=by
      rw [hrl,hstep _ hy,runLen,if_pos hye,hye,show x + ((c + 1 : Nat) : Int) = x + c + 1 by omega]
      omega
     have hkc2 : l[j + 1]? = some (x + ((c + 1 : Nat) : Int)):=by
      rw [hy,hye,show x + ((c + 1 : Nat) : Int) = x + c + 1 by omega]
     clear hrl hstop hend hstep
     simp -implicitDefEqProofs (disch:=omega) only [h0,h4,h5,h6,hh4_0,e1,hlt2,hy,hkc,hye,go_sem,↓reduceIte,rA,rS,rE,rL,reduceCtorEq]
     refine ⟨(l.length - (j + 1)),by simp only [id]; omega,(hK _ _).2 ⟨c + 1,j + 1,?_,?_,?_,?_,?_,?_,?_,?_,?_,?_⟩⟩
     ·rfl
     ·omega
     ·exact hlen
     ·exact hrl2
     ·exact hkc2
     all_goals exact cl0
    ·have hz:=hstop fun z hz=>by rw [hy] at hz; cases hz; exact hye
     have hrn2:=hend hz
     clear hstop hend hstep hrl hrn
     have htk : List.take acc.length ((acc.map elemS).map PV.str) = (acc.map elemS).map PV.str:=ltl (by simp)
     have hit1:=itoa_x (n:=x) (by omega) (by omega)
     have hit2:=itoa_x (n:=x + c) (by omega) (by omega)
     have hz1:=itoaS_size (n:=x) (by omega) (by omega)
     have hz2:=itoaS_size (n:=x + c) (by omega) (by omega)
     have hz3 : ((⟨#[45]⟩ : ByteArray) ++ itoaS (x + c)).size = 1 + (itoaS (x + c)).size:=ByteArray.size_append
     have hz4 : (⟨#[45]⟩ : ByteArray).size = 1:=rfl
     by_cases hc0 : c = 0
     ·have hng : ¬ (j : Int) > (i : Int):=by omega
      rw [elemS_one (x:=x) (y:=x + (c : Int)) (by rw [hc0]; simp)] at hit1
      simp -implicitDefEqProofs (disch:=omega) only [h0,h4,h5,h6,hh4_0,e1,hlt2,hy,hye,hkc,hc,hit1,hng,htk,go_sem,↓reduceIte,rA,rS,rE,rL,reduceCtorEq]
      clear hz1 hz2 hz3 hz4 hz e1
      try clear hye
      refine ⟨(l.length - (j + 1)),by simp only [id]; omega,(hR _ _).2 ⟨j + 1,acc ++ [(x,x + (c : Int))],w + 1,?_,?_,?_,?_,?_,?_,?_,?_⟩⟩
      .rfl
      .omega
      .exact hrn2
      .exact by rw [lla]; simp only [llc,lln]; omega
      all_goals exact cl0
     ·have hng : (j : Int) > (i : Int):=by omega
      have hxc : x < x + (c : Int):=Int.lt_add_of_pos_right x (Int.natCast_pos.2 (Nat.pos_of_ne_zero hc0))
      have e5:=elemS_two hxc
      generalize itoaS x = t1 at hit1 hz1 e5
      generalize itoaS (x + (c : Int)) = t2 at hit2 hz2 hz3 e5
      simp -implicitDefEqProofs (disch:=omega) only [h0,h4,h5,h6,hh4_0,e1,hlt2,hy,hye,hkc,hc,hit1,hit2,hng,htk,e5,go_sem,↓reduceIte,rA,rS,rE,rL,reduceCtorEq]
      clear hz1 hz2 hz3 hz4 hz e1
      try clear hye
      refine ⟨(l.length - (j + 1)),by simp only [id]; omega,(hR _ _).2 ⟨j + 1,acc ++ [(x,x + (c : Int))],w + 1,?_,?_,?_,?_,?_,?_,?_,?_⟩⟩
      .rfl
      .omega
      .exact hrn2
      .exact by rw [lla]; simp only [llc,lln]; omega
      all_goals exact cl0
   ·have hge2 : ¬ (j : Int) + 1 < l.length:=by omega
    have hz:=hstop fun z hz=>absurd (lgs.1 hz).1 hlen
    have hrn2:=hend hz
    clear hstop hend hstep hrl hrn
    have htk : List.take acc.length ((acc.map elemS).map PV.str) = (acc.map elemS).map PV.str:=ltl (by simp)
    have hit1:=itoa_x (n:=x) (by omega) (by omega)
    have hit2:=itoa_x (n:=x + c) (by omega) (by omega)
    have hz1:=itoaS_size (n:=x) (by omega) (by omega)
    have hz2:=itoaS_size (n:=x + c) (by omega) (by omega)
    have hz3 : ((⟨#[45]⟩ : ByteArray) ++ itoaS (x + c)).size = 1 + (itoaS (x + c)).size:=ByteArray.size_append
    have hz4 : (⟨#[45]⟩ : ByteArray).size = 1:=rfl
    by_cases hc0 : c = 0
    ·have hng : ¬ (j : Int) > (i : Int):=by omega
     rw [elemS_one (x:=x) (y:=x + (c : Int)) (by rw [hc0]; simp)] at hit1
     simp -implicitDefEqProofs (disch:=omega) only [h0,h4,h5,h6,hh4_0,e1,hge2,hkc,hc,hit1,hng,htk,go_sem,↓reduceIte,rA,rS,rE,rL,reduceCtorEq]
     clear hz1 hz2 hz3 hz4 hz e1
     try clear hye
     refine ⟨(l.length - (j + 1)),by simp only [id]; omega,(hR _ _).2 ⟨j + 1,acc ++ [(x,x + (c : Int))],w + 1,?_,?_,?_,?_,?_,?_,?_,?_⟩⟩
     ·rfl
     ·omega
     ·exact hrn2
     ·exact by rw [lla]; simp only [llc,lln]; omega
     all_goals exact cl0
    ·have hng : (j : Int) > (i : Int):=by omega
     have hxc : x < x + (c : Int):=Int.lt_add_of_pos_right x (Int.natCast_pos.2 (Nat.pos_of_ne_zero hc0))
     have e5:=elemS_two hxc
     generalize itoaS x = t1 at hit1 hz1 e5
     generalize itoaS (x + (c : Int)) = t2 at hit2 hz2 hz3 e5
     simp -implicitDefEqProofs (disch:=omega) only [h0,h4,h5,h6,hh4_0,e1,hge2,hkc,hc,hit1,hit2,hng,htk,e5,go_sem,↓reduceIte,rA,rS,rE,rL,reduceCtorEq]
     clear hz1 hz2 hz3 hz4 hz e1
     try clear hye
     refine ⟨(l.length - (j + 1)),by simp only [id]; omega,(hR _ _).2 ⟨j + 1,acc ++ [(x,x + (c : Int))],w + 1,?_,?_,?_,?_,?_,?_,?_,?_⟩⟩
     ·rfl
     ·omega
     ·exact hrn2
     ·exact by rw [lla]; simp only [llc,lln]; omega
     all_goals exact cl0
  ·have hgt : ¬ (i : Int) > 0:=by omega
   simp -implicitDefEqProofs (disch:=omega) only [h0,h4,h5,hh4_0,hlt,hc,hx0,hgt,go_sem,↓reduceIte,rA,rS,rE,rL,reduceCtorEq]
   obtain ⟨Q,hQ⟩ : ∃ I : Nat -> St -> Prop,∀ q s,I q s ↔ ∃ (c : Nat) (j : Nat),q = l.length - j /\ j = i + c /\ j < l.length /\ runLen x (l.drop (i + 1)) = c + runLen (x + c) (l.drop (j + 1)) /\ l[j]? = some (x + c) /\ s.pe 0 = .p (intsP l) /\ s.pe 4 = .own (.slot 4 0) w 0 acc.length /\ s.pe 5 = .p (.int .i64 ↑i) /\ s.pe 6 = .p (.int .i64 j) /\ s.h (.slot 4 0) = some (w,Ob.arr 1 ((acc.map elemS).map PV.str)):=⟨_,fun _ _=>Iff.rfl⟩
   refine wp_meas Q id ((l.length - i)) ?_ ?_
   ·refine (hQ _ _).2 ⟨0,i,?_,?_,?_,?_,?_,?_,?_,?_,?_,?_⟩
    ·rfl
    ·rfl
    ·omega
    ·exact by simp
    ·exact by simpa using hc
    all_goals exact cl0
   intro q s hQk
   obtain ⟨c,j,hkm,hjc,hcl,hrl,hkc,h0,h4,h5,h6,hh4_0⟩:=(hQ _ _).1 hQk
   clear hQk
   have hbc:=hb _ (lmg hkc)
   have hstep : ∀ y,l[j + 1]? = some y -> l.drop (j + 1) = y :: l.drop (j + 1 + 1):=fun y hy=>by
    have hlt':=(lgs.1 hy).1
    rw [ldg (l:=l) (i:=j + 1) hlt',(lgs.1 hy).2]
   have e1 : ((j : Int) + 1).toNat = j + 1:=by omega
   have hstop : (∀ y,l[j + 1]? = some y -> y ≠ x + c + 1) -> runLen (x + c) (l.drop (j + 1)) = 0:=fun hy=>by
    cases hq : l[j + 1]? with
    | none =>
     rw [ldl (by rw [List.getElem?_eq_none_iff] at hq; omega)]
     rfl
    | some y =>
     rw [hstep y hq,runLen,if_neg (hy y hq)]
   have hend : runLen (x + c) (l.drop (j + 1)) = 0 -> runsR l = (acc ++ [(x,x + (c : Int))]) ++ runsR (l.drop (j + 1)):=fun h0=>by
    rw [hrn,hdr,runsR_cons,hrl,h0,Nat.add_zero,List.drop_drop,show i + 1 + c = j + 1 by omega]
    simp
   by_cases hlen : j + 1 < l.length
   ·have hy : l[j + 1]? = some l[j + 1]:=lgg hlen
    generalize l[j + 1] = y at hy
    have hlt2 : (j : Int) + 1 < l.length:=by omega
    by_cases hye : y = x + c + 1
    ·have hrl2 : runLen x (l.drop (i + 1)) = (c + 1) + runLen (x + ((c + 1 : Nat) : Int)) (l.drop (j + 1 + 1)):=by
      rw [hrl,hstep _ hy,runLen,if_pos hye,hye,show x + ((c + 1 : Nat) : Int) = x + c + 1 by omega]
      omega
     have hkc2 : l[j + 1]? = some (x + ((c + 1 : Nat) : Int)):=by
      rw [hy,hye,show x + ((c + 1 : Nat) : Int) = x + c + 1 by omega]
     clear hrl hstop hend hstep
     simp -implicitDefEqProofs (disch:=omega) only [h0,h4,h5,h6,hh4_0,e1,hlt2,hy,hkc,hye,go_sem,↓reduceIte,rA,rS,rE,rL,reduceCtorEq]
     refine ⟨(l.length - (j + 1)),by simp only [id]; omega,(hQ _ _).2 ⟨c + 1,j + 1,?_,?_,?_,?_,?_,?_,?_,?_,?_,?_⟩⟩
     ·rfl
     ·omega
     ·exact hlen
     ·exact hrl2
     ·exact hkc2
     all_goals exact cl0
    ·have hz:=hstop fun z hz=>by rw [hy] at hz; cases hz; exact hye
     have hrn2:=hend hz
     clear hstop hend hstep hrl hrn
     have htk : List.take acc.length ((acc.map elemS).map PV.str) = (acc.map elemS).map PV.str:=ltl (by simp)
     have hit1:=itoa_x (n:=x) (by omega) (by omega)
     have hit2:=itoa_x (n:=x + c) (by omega) (by omega)
     have hz1:=itoaS_size (n:=x) (by omega) (by omega)
     have hz2:=itoaS_size (n:=x + c) (by omega) (by omega)
     have hz3 : ((⟨#[45]⟩ : ByteArray) ++ itoaS (x + c)).size = 1 + (itoaS (x + c)).size:=ByteArray.size_append
     have hz4 : (⟨#[45]⟩ : ByteArray).size = 1:=rfl
     by_cases hc0 : c = 0
     ·have hng : ¬ (j : Int) > (i : Int):=by omega
      rw [elemS_one (x:=x) (y:=x + (c : Int)) (by rw [hc0]; simp)] at hit1
      simp -implicitDefEqProofs (disch:=omega) only [h0,h4,h5,h6,hh4_0,e1,hlt2,hy,hye,hkc,hc,hit1,hng,htk,go_sem,↓reduceIte,rA,rS,rE,rL,reduceCtorEq]
      clear hz1 hz2 hz3 hz4 hz e1
      try clear hye
      refine ⟨(l.length - (j + 1)),by simp only [id]; omega,(hR _ _).2 ⟨j + 1,acc ++ [(x,x + (c : Int))],w + 1,?_,?_,?_,?_,?_,?_,?_,?_⟩⟩
      .rfl
      .omega
      .exact hrn2
      .exact by rw [lla]; simp only [llc,lln]; omega
      all_goals exact cl0
     ·have hng : (j : Int) > (i : Int):=by omega
      have hxc : x < x + (c : Int):=Int.lt_add_of_pos_right x (Int.natCast_pos.2 (Nat.pos_of_ne_zero hc0))
      have e5:=elemS_two hxc
      generalize itoaS x = t1 at hit1 hz1 e5
      generalize itoaS (x + (c : Int)) = t2 at hit2 hz2 hz3 e5
      simp -implicitDefEqProofs (disch:=omega) only [h0,h4,h5,h6,hh4_0,e1,hlt2,hy,hye,hkc,hc,hit1,hit2,hng,htk,e5,go_sem,↓reduceIte,rA,rS,rE,rL,reduceCtorEq]
      clear hz1 hz2 hz3 hz4 hz e1
      try clear hye
      refine ⟨(l.length - (j + 1)),by simp only [id]; omega,(hR _ _).2 ⟨j + 1,acc ++ [(x,x + (c : Int))],w + 1,?_,?_,?_,?_,?_,?_,?_,?_⟩⟩
      .rfl
      .omega
      .exact hrn2
      .exact by rw [lla]; simp only [llc,lln]; omega
      all_goals exact cl0
   ·have hge2 : ¬ (j : Int) + 1 < l.length:=by omega
    have hz:=hstop fun z hz=>absurd (lgs.1 hz).1 hlen
    have hrn2:=hend hz
    clear hstop hend hstep hrl hrn
    have htk : List.take acc.length ((acc.map elemS).map PV.str) = (acc.map elemS).map PV.str:=ltl (by simp)
    have hit1:=itoa_x (n:=x) (by omega) (by omega)
    have hit2:=itoa_x (n:=x + c) (by omega) (by omega)
    have hz1:=itoaS_size (n:=x) (by omega) (by omega)
    have hz2:=itoaS_size (n:=x + c) (by omega) (by omega)
    have hz3 : ((⟨#[45]⟩ : ByteArray) ++ itoaS (x + c)).size = 1 + (itoaS (x + c)).size:=ByteArray.size_append
    have hz4 : (⟨#[45]⟩ : ByteArray).size = 1:=rfl
    by_cases hc0 : c = 0
    ·have hng : ¬ (j : Int) > (i : Int):=by omega
     rw [elemS_one (x:=x) (y:=x + (c : Int)) (by rw [hc0]; simp)] at hit1
     simp -implicitDefEqProofs (disch:=omega) only [h0,h4,h5,h6,hh4_0,e1,hge2,hkc,hc,hit1,hng,htk,go_sem,↓reduceIte,rA,rS,rE,rL,reduceCtorEq]
     clear hz1 hz2 hz3 hz4 hz e1
     try clear hye
     refine ⟨(l.length - (j + 1)),by simp only [id]; omega,(hR _ _).2 ⟨j + 1,acc ++ [(x,x + (c : Int))],w + 1,?_,?_,?_,?_,?_,?_,?_,?_⟩⟩
     .rfl
     .omega
     .exact hrn2
     .exact by rw [lla]; simp only [llc,lln]; omega
     all_goals exact cl0
    ·have hng : (j : Int) > (i : Int):=by omega
     have hxc : x < x + (c : Int):=Int.lt_add_of_pos_right x (Int.natCast_pos.2 (Nat.pos_of_ne_zero hc0))
     have e5:=elemS_two hxc
     generalize itoaS x = t1 at hit1 hz1 e5
     generalize itoaS (x + (c : Int)) = t2 at hit2 hz2 hz3 e5
     simp -implicitDefEqProofs (disch:=omega) only [h0,h4,h5,h6,hh4_0,e1,hge2,hkc,hc,hit1,hit2,hng,htk,e5,go_sem,↓reduceIte,rA,rS,rE,rL,reduceCtorEq]
     clear hz1 hz2 hz3 hz4 hz e1
     try clear hye
     refine ⟨(l.length - (j + 1)),by simp only [id]; omega,(hR _ _).2 ⟨j + 1,acc ++ [(x,x + (c : Int))],w + 1,?_,?_,?_,?_,?_,?_,?_,?_⟩⟩
     .rfl
     .omega
     .exact hrn2
     .exact by rw [lla]; simp only [llc,lln]; omega
     all_goals exact cl0
 ·have hii : i = l.length:=by omega
  rw [ldl (by omega),runsR_nil,lan] at hrn
  have hok:=runsR_asc l.length l (lrf _) ha
  have hlen:=runsR_len l.length l (lrf _)
  have hjl : (Lib.join (((runsR l).map elemS).map (·.data.toList)) (⟨#[44]⟩ : ByteArray).data.toList).length <= 140737488355328:=by
   refine Nat.le_trans (join_bound (B:=19) _ 44 fun t ht=>?_) (by simp; omega)
   obtain ⟨p,hp,rfl⟩:=lmm.1 ht
   obtain ⟨p1,p2,p3⟩:=hok.1 p hp
   have b1:=hb _ p2
   have b2:=hb _ p3
   exact elemS_size b1.1 p1 (by omega)
  have hj:=join_x (ss:=(runsR l).map elemS) (sep:=⟨#[44]⟩) (by simp; omega) hjl
  unfold setTxt
  rw [hrn] at hj hlen ⊢
  rw [llm] at hj
  have htk : List.take acc.length ((acc.map elemS).map PV.str) = (acc.map elemS).map PV.str:=ltl (by simp)
  simp -implicitDefEqProofs (disch:=omega) only [h0,h4,h5,hh4_0,hge,hj,htk,go_sem,↓reduceIte,rA,rS,rE,rL,reduceCtorEq]
end Go.V
namespace Go.V
theorem bytes_inj : ∀ {a b : List ByteArray},a.map (·.data.toList) = b.map (·.data.toList) -> a = b
 | [],[],_=>rfl
 | x :: a,y :: b,h=>by
  simp only [lpc,List.cons.injEq] at h
  rw [bytes_inj h.2]
  congr 1
  obtain ⟨⟨x⟩⟩:=x
  obtain ⟨⟨y⟩⟩:=y
  simp only at h
  rw [h.1]
theorem split_join {xs : List ByteArray} {c : UInt8} (h : xs ≠ []) (hc : ∀ x ∈ xs,c ∉ x.data.toList) : splitS (joinS xs ⟨#[c]⟩) ⟨#[c]⟩ = xs:=by
 apply bytes_inj
 rw [splitS_cutB]
 show cutB c (Lib.join (xs.map (·.data.toList)) [c]) = _
 rw [cutB_join c _ (by simpa using h)]
 intro x hx
 obtain ⟨y,hy,rfl⟩:=lmm.1 hx
 exact hc y hy
theorem sortQ_eq {ps qs : List (Int × Int)} (hp : qs.Perm ps) (h : qs.Pairwise (fun a b=>a.1 < b.1)) : sortQ ps = qs:=by
 have hpp : (sortQ ps).Perm qs:=(sortQ_perm ps).trans hp.symm
 refine List.Perm.eq_of_pairwise (le:=fun x y=>x.1 <= y.1) (fun a b ha hb h1 h2=>?_) (sortQ_sorted ps) (h.imp fun h=>Int.le_of_lt h) hpp
 have ha' : a ∈ qs:=hpp.subset ha
 obtain ⟨i,hi,rfl⟩:=List.getElem_of_mem ha'
 obtain ⟨j,hj,rfl⟩:=List.getElem_of_mem hb
 rw [List.pairwise_iff_getElem] at h
 rcases Nat.lt_trichotomy i j with hij | hij | hij
 .have:=h i j hi hj hij; omega
 .subst hij; rfl
 .have:=h j i hj hi hij; omega
theorem elemB_ne (p : Int × Int) (h : 0 <= p.1) : elemB p ≠ []:=by
 have h0 : Lib.itoa p.1 ≠ []:=by rw [itoa_pos h]; exact (dec_ok _).2.2
 unfold elemB
 split
 .simp
 .exact h0
theorem setTxt_ne {x : Int} {r : List Int} (h : 0 <= x) : setTxt (x :: r) ≠ ⟨#[]⟩:=by
 intro e
 have e2 : (setTxt (x :: r)).data.toList = []:=by rw [e]
 rw [show (setTxt (x :: r)).data.toList = Lib.join (((runsR (x :: r)).map elemS).map (·.data.toList)) [44] from rfl,runsR_cons,lpc,lpc,Lib.join_cons] at e2
 have:=(List.append_eq_nil_iff.1 e2).1
 exact elemB_ne (x,x + (runLen x r : Nat)) h this
theorem parse_set {l : List Int} {n : Int} (ha : Asc l) (hb : ∀ x ∈ l,0 <= x /\ x < min n 65536) : parseT (setTxt l) n = (l,0):=by
 cases l with
 | nil =>
  have : setTxt [] = ⟨#[]⟩:=by rw [setTxt,runsR_nil]; rfl
  rw [parseT,if_pos this]
 | cons x r =>
  have hx:=hb x (lms ..)
  obtain ⟨hok,hasc⟩:=runsR_asc (x :: r).length (x :: r) (lrf _) ha
  have hps : ∀ p ∈ runsR (x :: r),okP p:=fun p hp=>by
   obtain ⟨p1,p2,p3⟩:=hok p hp
   have b1:=hb _ p2
   have b2:=hb _ p3
   exact ⟨b1.1,p1,by omega⟩
  have hne : (runsR (x :: r)).map elemS ≠ []:=by rw [runsR_cons]; simp
  have hsp : splitS (setTxt (x :: r)) ⟨#[44]⟩ = (runsR (x :: r)).map elemS:=split_join hne fun t ht=>by
   obtain ⟨p,hp,rfl⟩:=lmm.1 ht
   have:=hps p hp
   exact elem_no this.1 this.2.1
  have hany : (runsR (x :: r)).any (highB n) = false:=List.any_eq_false.2 fun p hp=>by
   have:=(hb _ (hok p hp).2.2).2
   simp only [highB,decide_eq_true_eq]
   omega
  have hq:=elems_back hps
  rw [parseT,if_neg (setTxt_ne hx.1),hsp,hq]
  simp only [hany,bft,if_false]
  rw [sortQ_self hasc,spanL_runs _ _ 0 (lrf _) ha fun y hy=>(hb y hy).1]
def setK (L : List Int) (a0 : Nat) : Nat -> List Int × Nat
 | 0=>([],a0)
 | k + 1=>(if nextV L (setK L a0 k).2 3 = 2 then (setK L a0 k).1 ++ [(k : Int)] else (setK L a0 k).1,nextA L (setK L a0 k).2 3)
theorem setK_ok (L : List Int) (a0 : Nat) : ∀ k,Asc (setK L a0 k).1 /\ (∀ x ∈ (setK L a0 k).1,0 <= x /\ x < k) /\ (setK L a0 k).1.length <= k
 | 0=>⟨List.Pairwise.nil,by simp [setK],lrf _⟩
 | k + 1=>by
  obtain ⟨h1,h2,h3⟩:=setK_ok L a0 k
  unfold setK
  simp only
  split
  ·refine ⟨List.pairwise_append.2 ⟨h1,by simp,fun x hx y hy=>?_⟩,fun x hx=>?_,by simp; omega⟩
   ·rw [List.mem_singleton.1 hy]; exact (h2 x hx).2
   ·rcases lmp.1 hx with hx | hx
    .have:=h2 x hx; omega
    .rw [List.mem_singleton.1 hx]; omega
  .exact ⟨h1,fun x hx=>by have:=h2 x hx; omega,by omega⟩
theorem bool_eq3 (L : List Int) (a : Nat) (n : Int) (hL : L.length < 4611686018427387904) (h1 : 1 <= n) (hn : n < 4611686018427387904) : V 22 [.ptr (.arg 0 0) 0 0,.p (.int .i64 n)] [diceB L a] = some (.p (.bool (decide (nextV L a n = n - 1))),[diceB L (nextA L a n)]):=by
 refine V_wp (vf:=vf22) rfl ?_
 have hc:=next_eq L a n hL hn
 simp -implicitDefEqProofs (disch:=omega) only [vf22,vb22,hc,go_sem,↓reduceIte,rA,rS,rE,rL,reduceCtorEq]
set_option maxHeartbeats 1000000 in
theorem dset_eq (L : List Int) (a0 n : Nat) (hL : L.length < 4611686018427387904) (hn : n < 1000000) : V 25 [.ptr (.arg 0 0) 0 0,.p (.int .i64 n)] [diceB L a0] = some (.p (intsP (setK L a0 n).1),[diceB L (setK L a0 n).2]):=by
 refine V_wp (vf:=vf25) rfl ?_
 simp -implicitDefEqProofs (disch:=omega) only [vf25,vb25,go_sem,↓reduceIte,rA,rS,rE,rL,reduceCtorEq]
 obtain ⟨I,hI⟩ : ∃ I : Nat -> St -> Prop,∀ k s,I k s ↔ ∃ (w : Nat),s.pe 0 = .ptr (Id.arg 0 0) 0 0 /\ s.pe 1 = .p (.int .i64 ↑n) /\ s.pe 5 = .own (.slot 5 0) w 0 (setK L a0 k).1.length /\ s.pe 6 = .p (.int .i64 k) /\ s.h (.arg 0 0) = some (0,diceB L (setK L a0 k).2) /\ s.h (.slot 5 0) = some (w,Ob.arr 1 ((setK L a0 k).1.map (.int .i64))):=⟨_,fun _ _=>Iff.rfl⟩
 refine wp_count (n) I ?_ ?_
 ·refine (hI _ _).2 ⟨0,?_,?_,?_,?_,?_,?_⟩
  all_goals exact cl0
 intro k s hk hIk
 obtain ⟨w,h0,h1,h5,h6,ha0,hh5_0⟩:=(hI _ _).1 hIk
 clear hIk
 obtain ⟨s1,s2,s3⟩:=setK_ok L a0 k
 have hbo:=bool_eq3 L (setK L a0 k).2 3 hL (by omega) (by omega)
 have htk : List.take (setK L a0 k).1.length ((setK L a0 k).1.map (PV.int .i64)) = (setK L a0 k).1.map (PV.int .i64):=ltl (by simp)
 simp -implicitDefEqProofs (disch:=omega) only [h0,h1,h5,h6,ha0,hh5_0,go_sem,↓reduceIte,rA,rS,rE,rL,reduceCtorEq]
 refine wp_if_d (fun hlt=>?_) (fun hge=>?_)
 ·have hse : setK L a0 (k + 1) = (if nextV L (setK L a0 k).2 3 = 2 then (setK L a0 k).1 ++ [(k : Int)] else (setK L a0 k).1,nextA L (setK L a0 k).2 3):=rfl
  by_cases h2 : nextV L (setK L a0 k).2 3 = 2
  ·rw [if_pos h2] at hse
   have hd : decide (nextV L (setK L a0 k).2 3 = 3 - 1) = true:=decide_eq_true h2
   rw [hd] at hbo
   simp -implicitDefEqProofs (disch:=omega) only [h0,h1,h5,h6,ha0,hh5_0,hlt,hbo,htk,go_sem,↓reduceIte,rA,rS,rE,rL,reduceCtorEq]
   try refine And.intro (by omega) ?_
   refine (hI _ _).2 ⟨w + 1,?_,?_,?_,?_,?_,?_⟩
   all_goals exact cl0
  ·rw [if_neg h2] at hse
   have hd : decide (nextV L (setK L a0 k).2 3 = 3 - 1) = false:=decide_eq_false h2
   rw [hd] at hbo
   simp -implicitDefEqProofs (disch:=omega) only [h0,h1,h5,h6,ha0,hh5_0,hlt,hbo,htk,go_sem,↓reduceIte,rA,rS,rE,rL,reduceCtorEq]
   try refine And.intro (by omega) ?_
   refine (hI _ _).2 ⟨w,?_,?_,?_,?_,?_,?_⟩
   all_goals exact cl0
 ·have hk : k = n:=by omega
  subst hk
  simp -implicitDefEqProofs (disch:=omega) only [h0,h1,h5,h6,ha0,hh5_0,hge,htk,go_sem,↓reduceIte,rA,rS,rE,rL,reduceCtorEq]
theorem same3_eq (a b : List Int) (ha : a.length < 1000000) (hb : b.length < 1000000) : V 35 [.p (intsP a),.p (intsP b)] [] = some (.p (.bool (decide (a = b))),[]):=by
 refine V_wp (vf:=vf35) rfl ?_
 by_cases hlen : a.length = b.length
 ·simp -implicitDefEqProofs (disch:=omega) only [vf35,vb35,hlen,go_sem,↓reduceIte,rA,rS,rE,rL,reduceCtorEq]
  obtain ⟨I,hI⟩ : ∃ I : Nat -> St -> Prop,∀ k s,I k s ↔ a.take k = b.take k /\ s.pe 0 = .p (intsP a) /\ s.pe 1 = .p (intsP b) /\ s.pe 5 = .p (.int .i64 k):=⟨_,fun _ _=>Iff.rfl⟩
  refine wp_count (a.length) I ?_ ?_
  ·refine (hI _ _).2 ⟨?_,?_,?_,?_⟩
   ·rfl
   all_goals exact cl0
  intro k s hk hIk
  obtain ⟨ht,h0,h1,h5⟩:=(hI _ _).1 hIk
  clear hIk
  simp -implicitDefEqProofs (disch:=omega) only [h0,h1,h5,go_sem,↓reduceIte,rA,rS,rE,rL,reduceCtorEq]
  refine wp_if_d (fun hlt=>?_) (fun hge=>?_)
  ·have hca : a[k]? = some a[k]:=lgg (by omega)
   have hcb : b[k]? = some b[k]:=lgg (by omega)
   have hta:=take_snoc hca
   have htb:=take_snoc hcb
   generalize a[k] = x at hca hta
   generalize b[k] = y at hcb htb
   by_cases hxy : x = y
   ·subst hxy
    have hxx : ¬ x ≠ x:=fun h=>h rfl
    simp -implicitDefEqProofs (disch:=omega) only [h0,h1,h5,hlt,hca,hcb,hxx,go_sem,↓reduceIte,rA,rS,rE,rL,reduceCtorEq]
    try refine And.intro (by omega) ?_
    refine (hI _ _).2 ⟨?_,?_,?_,?_⟩
    .exact by rw [hta,htb,ht]
    all_goals exact cl0
   ·have hd : decide (a = b) = false:=decide_eq_false fun e=>hxy (by rw [e,hcb] at hca; exact (Option.some.inj hca).symm)
    rw [hd]
    simp -implicitDefEqProofs (disch:=omega) only [h0,h1,h5,hlt,hca,hcb,hxy,go_sem,↓reduceIte,rA,rS,rE,rL,reduceCtorEq]
  ·have hd : decide (a = b) = true:=decide_eq_true (by
    rw [ltl (by omega),ltl (by omega)] at ht
    exact ht)
   rw [hd]
   simp -implicitDefEqProofs (disch:=omega) only [h0,h1,h5,hge,go_sem,↓reduceIte,rA,rS,rE,rL,reduceCtorEq]
 ·have hd : decide (a = b) = false:=decide_eq_false fun e=>hlen (by rw [e])
  have hl2 : ¬ (a.length : Int) = b.length:=by omega
  rw [hd]
  simp -implicitDefEqProofs (disch:=omega) only [vf35,vb35,hl2,go_sem,↓reduceIte,rA,rS,rE,rL,reduceCtorEq]
end Go.V
namespace Go.V
structure Stg where
 pids : Int
 weight : Int
 quota : Int
 period : Int
 burst : Int
 cmin : Int
 cmax : Int
 cpus : List Int
 mems : List Int
 part : Int
abbrev maxI : Int:=4611686018427387904
def inI (n lo hi : Int) : Bool:=decide (lo <= n) && decide (n <= hi)
def ascOk (l : List Int) (n : Int) : Bool:=decide (Asc l) && l.all fun x=>decide (0 <= x) && decide (x < n)
def bandOk (s : Stg) : Bool:=inI s.period 1 1000000 && (if s.quota = maxI then decide (s.burst = 0) else inI s.quota 1 1000000 && inI s.burst 0 s.quota)
def checkS (s : Stg) : Bool:=(decide (s.pids = maxI) || inI s.pids 0 1099511627776) && inI s.weight 1 10000 && bandOk s && inI s.cmin 0 10000 && inI s.cmax 0 10000 && ascOk s.cpus 16 && ascOk s.mems 8 && inI s.part 0 1
abbrev bsL (l : List UInt8) : ByteArray:=⟨l.toArray⟩
def rdF (k : Nat) (s : Stg) : ByteArray × Int:=match k with
 | 0=>(bsL (formatN s.pids).1,(formatN s.pids).2)
 | 1=>(bsL (formatN s.weight).1,(formatN s.weight).2)
 | 2=>if (formatN s.quota).2 ≠ 0 then (⟨#[]⟩,(formatN s.quota).2) else (bsL (formatN s.quota).1 ++ ⟨#[32]⟩ ++ bsL (formatN s.period).1,(formatN s.period).2)
 | 3=>(bsL (formatN s.burst).1,(formatN s.burst).2)
 | 4=>(bsL (formatH s.cmin).1,(formatH s.cmin).2)
 | 5=>(bsL (formatH s.cmax).1,(formatH s.cmax).2)
 | 6=>(setTxt s.cpus,0)
 | 7=>(setTxt s.mems,0)
 | _=>(if s.part = 1 then ⟨#[114,111,111,116]⟩ else ⟨#[109,101,109,98,101,114]⟩,0)
noncomputable def wrMax (s : Stg) (ps : List ByteArray) : Stg × Int :=
 let q:=parseN (ps.headD ⟨#[]⟩).data.toList
 let p:=parseN ((ps.drop 1).headD ⟨#[]⟩).data.toList
 if 2 < ps.length \/ (ps.length = 2 /\ (ps.headD ⟨#[]⟩ = ⟨#[]⟩ \/ (ps.drop 1).headD ⟨#[]⟩ = ⟨#[]⟩)) then (s,2)
 else if q.2 ≠ 0 then (s,q.2)
 else if ps.length = 2 /\ p.2 ≠ 0 then (s,p.2)
 else if ps.length = 2 /\ p.1 = maxI then (s,2)
 else ({ s with quota:=q.1,period:=if ps.length = 2 then p.1 else s.period,burst:=if q.1 = maxI \/ q.1 < s.burst then 0 else s.burst },0)
noncomputable def wrF (k : Nat) (s : Stg) (x : ByteArray) : Stg × Int:=match k with
 | 0=>if (parseN x.data.toList).2 ≠ 0 then (s,(parseN x.data.toList).2) else ({ s with pids:=(parseN x.data.toList).1 },0)
 | 1=>if (parseN x.data.toList).2 ≠ 0 then (s,(parseN x.data.toList).2) else if (parseN x.data.toList).1 = maxI then (s,2) else ({ s with weight:=(parseN x.data.toList).1 },0)
 | 2=>wrMax s (splitS x ⟨#[32]⟩)
 | 3=>if (parseN x.data.toList).2 ≠ 0 then (s,(parseN x.data.toList).2) else if (parseN x.data.toList).1 = maxI then (s,2) else ({ s with burst:=(parseN x.data.toList).1 },0)
 | 4=>if (parseH x.data.toList).2 ≠ 0 then (s,(parseH x.data.toList).2) else ({ s with cmin:=(parseH x.data.toList).1 },0)
 | 5=>if (parseH x.data.toList).2 ≠ 0 then (s,(parseH x.data.toList).2) else ({ s with cmax:=(parseH x.data.toList).1 },0)
 | 6=>if (parseT x 16).2 ≠ 0 then (s,(parseT x 16).2) else ({ s with cpus:=(parseT x 16).1 },0)
 | 7=>if (parseT x 8).2 ≠ 0 then (s,(parseT x 8).2) else ({ s with mems:=(parseT x 8).1 },0)
 | _=>if x = ⟨#[114,111,111,116]⟩ then ({ s with part:=1 },0) else if x = ⟨#[109,101,109,98,101,114]⟩ then ({ s with part:=0 },0) else (s,2)
abbrev lineB (x : ByteArray) : ByteArray:=bsL (Lib.trimSuffix x.data.toList [10])
def rdA (k : Nat) (s : Stg) : ByteArray × Int:=if checkS s = false then (⟨#[]⟩,1) else if (rdF k s).2 ≠ 0 then (⟨#[]⟩,(rdF k s).2) else ((rdF k s).1 ++ ⟨#[10]⟩,0)
noncomputable def wrA (k : Nat) (s : Stg) (x : ByteArray) : Option Stg × Int :=
 if checkS s = false then (none,1) else if 4096 < x.size then (none,7)
 else if (wrF k s (lineB x)).2 ≠ 0 then (none,(wrF k s (lineB x)).2)
 else if checkS (wrF k s (lineB x)).1 = false then (none,3) else (some (wrF k s (lineB x)).1,0)
theorem wrA_some {k : Nat} {s a : Stg} {x : ByteArray} (h : wrA k s x = (some a,0)) : checkS s = true /\ checkS a = true /\ wrF k s (lineB x) = (a,0):=by
 unfold wrA at h
 split at h
 ·cases h
 ·rename_i h1
  split at h
  ·cases h
  ·split at h
   ·cases h
   ·rename_i h2
    split at h
    ·cases h
    ·rename_i h3
     simp only [pmi,osi,and_true] at h
     have h2':=Decidable.not_not.1 h2
     exact ⟨by simpa using h1,by rw [<- h]; simpa using h3,by rw [<- h,<- h2']⟩
theorem wrMax_apart {s a : Stg} {ps : List ByteArray} (h : wrMax s ps = (a,0)) : a = { s with quota:=a.quota,period:=a.period,burst:=a.burst } /\ (a.burst = s.burst \/ a.burst = 0):=by
 unfold wrMax at h
 simp only at h
 split at h
 ·cases h
 ·split at h
  ·rename_i h1; exact absurd (Prod.mk.inj h).2 h1
  ·split at h
   ·rename_i h1; exact absurd (Prod.mk.inj h).2 h1.2
   ·split at h
    ·cases h
    ·cases h
     refine ⟨rfl,?_⟩
     simp only
     split
     .exact .inr rfl
     .exact .inl rfl
theorem apart {k g : Nat} {s a : Stg} {x : ByteArray} (hk : k < 9) (hg : g < 9) (hne : g ≠ k) (h : wrF k s x = (a,0)) : rdF g a = rdF g s \/ (k = 2 /\ g = 3 /\ a.burst = 0):=by
 have hc : (k = 0 \/ k = 1 \/ k = 2 \/ k = 3 \/ k = 4 \/ k = 5 \/ k = 6 \/ k = 7 \/ k = 8):=by omega
 have hd : (g = 0 \/ g = 1 \/ g = 2 \/ g = 3 \/ g = 4 \/ g = 5 \/ g = 6 \/ g = 7 \/ g = 8):=by omega
 by_cases h2 : k = 2
 ·subst h2
  obtain ⟨e,hb⟩:=wrMax_apart (s:=s) (a:=a) h
  by_cases h3 : g = 3
  ·subst h3
   rcases hb with hb | hb
   .left; simp only [rdF,hb]
   .exact .inr ⟨rfl,rfl,hb⟩
  ·left
   rw [e]
   rcases hd with rfl | rfl | rfl | rfl | rfl | rfl | rfl | rfl | rfl <;> first | rfl | exact absurd rfl hne | exact absurd rfl h3
 ·left
  rcases hc with rfl | rfl | rfl | rfl | rfl | rfl | rfl | rfl | rfl
  all_goals first | exact absurd rfl h2 | skip
  all_goals
   simp only [wrF] at h
   repeat' (split at h)
   all_goals first | (rename_i h1; exact absurd (Prod.mk.inj h).2 h1) | (cases h; done) | (cases h; rcases hd with rfl | rfl | rfl | rfl | rfl | rfl | rfl | rfl | rfl <;> first | rfl | exact absurd rfl hne)
theorem trim_snoc (l : List UInt8) : Lib.trimSuffix (l ++ [10]) [10] = l:=by
 have : Lib.hasSuffix (l ++ [10]) [10] = true:=by simp [Lib.hasSuffix]
 rw [Lib.trimSuffix,if_pos this]
 simp
theorem trim_no {l : List UInt8} (h : l.getLast? ≠ some 10) : Lib.trimSuffix l [10] = l:=by
 rw [Lib.trimSuffix]
 split
 ·rename_i hs
  exfalso
  apply h
  rw [Lib.hasSuffix,List.isSuffixOf_iff_suffix] at hs
  obtain ⟨a,rfl⟩:=hs
  simp
 .rfl
end Go.V
namespace Go.V
theorem isD_10 {c : UInt8} (h : isD c = true) : c ≠ 10 /\ c ≠ 32:=by
 simp only [isD,bat,decide_eq_true_eq] at h
 refine ⟨fun e=>?_,fun e=>?_⟩ <;> · rw [e] at h; exact absurd h.1 (by decide)
def Line (l : List UInt8) : Prop:=(10 : UInt8) ∉ l /\ l.length <= 1000
theorem fmt_line {n : Int} (h : (0 <= n /\ n <= 1099511627776) \/ n = maxI) : Line (formatN n).1 /\ (32 : UInt8) ∉ (formatN n).1 /\ (formatN n).1 ≠ [] /\ (formatN n).1.length <= 13:=by
 rcases h with ⟨h0,h1⟩ | rfl
 ·have e : formatN n = (decB n,0):=by
   rw [formatN,if_neg (by omega),if_neg (by omega)]
  rw [e]
  simp only [decB,itoa_pos h0]
  obtain ⟨a1,_,a3⟩:=dec_ok n.toNat
  have a4:=dec_len 12 n.toNat (by omega)
  refine ⟨⟨fun hm=>?_,by omega⟩,fun hm=>?_,a3,a4⟩
  .exact (isD_10 (List.all_eq_true.1 a1 _ hm)).1 rfl
  .exact (isD_10 (List.all_eq_true.1 a1 _ hm)).2 rfl
 .exact ⟨⟨by decide,by decide⟩,by decide,by decide,by decide⟩
theorem fmtH_line {n : Int} (h0 : 0 <= n) (h1 : n <= 10000) : Line (formatH n).1:=by
 by_cases h2 : n = 10000
 ·subst h2
  exact ⟨by decide,by decide⟩
 ·rw [format_hund h0 (by omega)]
  obtain ⟨a1,_,a3⟩:=dec_ok (n / 100).toNat
  have a4:=dec_len 12 (n / 100).toNat (by omega)
  have d1:=isD_10 (isD_digit (k:=(n % 100).toNat / 10) (by omega))
  have d2:=isD_10 (isD_digit (k:=(n % 100).toNat % 10) (by omega))
  refine ⟨fun hm=>?_,by simp only [lla,llc,lln]; omega⟩
  rcases lmp.1 hm with hm | hm
  ·exact (isD_10 (List.all_eq_true.1 a1 _ hm)).1 rfl
  ·simp only [lmk,List.not_mem_nil,or_false] at hm
   rcases hm with hm | hm | hm
   .exact absurd hm (by decide)
   .exact d1.1 hm.symm
   .exact d2.1 hm.symm
theorem elem_10 {p : Int × Int} (h : 0 <= p.1) (h2 : p.1 <= p.2) : (10 : UInt8) ∉ elemB p:=by
 have key : ∀ n : Int,0 <= n -> (10 : UInt8) ∉ decB n:=fun n hn hm=>by
  rw [decB,itoa_pos hn] at hm
  exact (isD_10 (List.all_eq_true.1 (dec_ok n.toNat).1 _ hm)).1 rfl
 unfold elemB
 split
 ·intro hm
  rcases lmp.1 hm with hm | hm
  ·exact key _ h hm
  ·simp only [lmk] at hm
   rcases hm with hm | hm
   .exact absurd hm (by decide)
   .exact key _ (by omega) hm
 .exact key _ h
theorem mem_join {c : UInt8} {sep : List UInt8} : ∀ {xs : List (List UInt8)},c ∈ Lib.join xs sep -> c ∈ sep \/ ∃ x ∈ xs,c ∈ x
 | [],h=>by simp [Lib.join] at h
 | [x],h=>by
  simp [Lib.join] at h
  exact .inr ⟨x,by simp,h⟩
 | x :: y :: r,h=>by
  have e : Lib.join (x :: y :: r) sep = x ++ (sep ++ Lib.join (y :: r) sep):=by simp [Lib.join,List.intercalate,List.intersperse]
  rw [e] at h
  rcases lmp.1 h with h | h
  ·exact .inr ⟨x,by simp,h⟩
  ·rcases lmp.1 h with h | h
   ·exact .inl h
   ·rcases mem_join h with h | ⟨z,hz,h⟩
    .exact .inl h
    .exact .inr ⟨z,lmc _ hz,h⟩
theorem ascOk_iff {l : List Int} {n : Int} (h : ascOk l n = true) : Asc l /\ ∀ x ∈ l,0 <= x /\ x < n:=by
 simp only [ascOk,bat,decide_eq_true_eq,List.all_eq_true] at h
 exact h
theorem asc_len : ∀ {l : List Int} {a n : Int},Asc l -> (∀ x ∈ l,a <= x /\ x < n) -> (l.length : Int) <= max 0 (n - a)
 | [],a,n,_,_=>by simp; omega
 | x :: r,a,n,ha,hb=>by
  have hx:=hb x (lms ..)
  rw [Asc,lpw] at ha
  have:=asc_len (l:=r) (a:=x + 1) (n:=n) ha.2 fun y hy=>⟨by have:=ha.1 y hy; omega,(hb y (lmc _ hy)).2⟩
  simp only [llc,Int.natCast_add]
  omega
theorem set_line {l : List Int} {n : Int} (h : ascOk l n = true) (hn : n <= 16) : Line (setTxt l).data.toList:=by
 obtain ⟨ha,hb⟩:=ascOk_iff h
 have hl:=asc_len ha hb
 obtain ⟨hok,_⟩:=runsR_asc l.length l (lrf _) ha
 have hr:=runsR_len l.length l (lrf _)
 have hps : ∀ p ∈ runsR l,0 <= p.1 /\ p.1 <= p.2 /\ p.2 < 1000000000:=fun p hp=>by
  obtain ⟨p1,p2,p3⟩:=hok p hp
  have b1:=hb _ p2
  have b2:=hb _ p3
  exact ⟨b1.1,p1,by omega⟩
 refine ⟨fun hm=>?_,?_⟩
 ·rcases mem_join hm with hm | ⟨x,hx,hm⟩
  ·simp at hm
  ·simp only [List.map_map,lmm,Function.comp_apply] at hx
   obtain ⟨p,hp,rfl⟩:=hx
   have:=hps p hp
   exact elem_10 this.1 this.2.1 (by simpa using hm)
 ·have:=join_bound (B:=19) ((runsR l).map elemS) 44 fun x hx=>by
   obtain ⟨p,hp,rfl⟩:=lmm.1 hx
   have:=hps p hp
   exact elemS_size this.1 this.2.1 this.2.2
  simp only [llm] at this
  show (Lib.join (((runsR l).map elemS).map (·.data.toList)) [44]).length <= 1000
  omega
theorem line_no {l : List UInt8} (h : Line l) : lineB (bsL l) = bsL l:=by
 have e : (bsL l).data.toList = l:=by simp
 rw [lineB,e,trim_no fun e=>h.1 (List.mem_of_getLast? e)]
theorem line_snoc (x : ByteArray) : lineB (x ++ ⟨#[10]⟩) = x:=by
 have e : (x ++ ⟨#[10]⟩ : ByteArray).data.toList = x.data.toList ++ [10]:=by simp
 rw [lineB,e,trim_snoc]
theorem split_max {q p : List UInt8} (hq : (32 : UInt8) ∉ q) (hp : (32 : UInt8) ∉ p) : splitS (bsL q ++ ⟨#[32]⟩ ++ bsL p) ⟨#[32]⟩ = [bsL q,bsL p]:=by
 apply bytes_inj
 rw [splitS_cutB]
 have e : (bsL q ++ ⟨#[32]⟩ ++ bsL p : ByteArray).data.toList = q ++ 32 :: p:=by simp
 rw [e,cutB_app,cutB_no _ _ hq,cutB_no _ _ hp]
 rfl
theorem back {k : Nat} {s : Stg} (hk : k < 9) (hs : checkS s = true) : (rdF k s).2 = 0 /\ wrF k s (rdF k s).1 = (s,0) /\ Line (rdF k s).1.data.toList:=by
 obtain ⟨pids,weight,quota,period,burst,cmin,cmax,cpus,mems,part⟩:=s
 simp only [checkS,inI,bat,bot,decide_eq_true_eq] at hs
 obtain ⟨⟨⟨⟨⟨⟨⟨h0,h1⟩,h2⟩,h3⟩,h4⟩,h5⟩,h6⟩,h7⟩:=hs
 simp only [bandOk,inI,bat,decide_eq_true_eq] at h2
 obtain ⟨h2p,h2⟩:=h2
 have hc : (k = 0 \/ k = 1 \/ k = 2 \/ k = 3 \/ k = 4 \/ k = 5 \/ k = 6 \/ k = 7 \/ k = 8):=by omega
 have hqr : ((0 <= quota /\ quota <= 1099511627776) \/ quota = maxI) /\ (0 <= burst /\ burst <= 1099511627776) /\ (quota = maxI -> burst = 0) /\ (quota ≠ maxI -> burst <= quota):=by
  split at h2
  ·rename_i hq
   simp only [decide_eq_true_eq] at h2
   exact ⟨.inr hq,by omega,fun _=>h2,fun h=>absurd hq h⟩
  ·rename_i hq
   simp only [bat,decide_eq_true_eq] at h2
   exact ⟨.inl (by omega),by omega,fun h=>absurd h hq,fun _=>h2.2.2⟩
 obtain ⟨hq,hb,hq1,hq2⟩:=hqr
 have hM : maxI = 4611686018427387904:=rfl
 rcases hc with rfl | rfl | rfl | rfl | rfl | rfl | rfl | rfl | rfl
 ·have hv : (0 <= pids /\ pids <= 1099511627776) \/ pids = maxI:=h0.symm
  obtain ⟨a1,a2⟩:=parse_format hv
  refine ⟨a1,?_,(fmt_line hv).1⟩
  simp only [rdF,wrF,a2]
  simp
 ·have hv : (0 <= weight /\ weight <= 1099511627776) \/ weight = maxI:=.inl (by omega)
  obtain ⟨a1,a2⟩:=parse_format hv
  refine ⟨a1,?_,(fmt_line hv).1⟩
  simp only [rdF,wrF,a2]
  rw [if_neg (by simp),if_neg (by omega)]
 ·have hv : (0 <= period /\ period <= 1099511627776) \/ period = maxI:=.inl (by omega)
  obtain ⟨a1,a2⟩:=parse_format hq
  obtain ⟨b1,b2⟩:=parse_format hv
  obtain ⟨c1,c2,c3,c4⟩:=fmt_line hq
  obtain ⟨d1,d2,d3,d4⟩:=fmt_line hv
  have e : rdF 2 ⟨pids,weight,quota,period,burst,cmin,cmax,cpus,mems,part⟩ = (bsL (formatN quota).1 ++ ⟨#[32]⟩ ++ bsL (formatN period).1,(formatN period).2):=by
   simp only [rdF]
   rw [if_neg (by omega)]
  rw [e]
  refine ⟨b1,?_,?_⟩
  ·simp only [wrF,split_max c2 d2,wrMax,List.headD_cons,List.drop_succ_cons,List.drop_zero,llc,lln,a2,b2]
   have n1 : ¬ (bsL (formatN quota).1 = ⟨#[]⟩):=fun e=>c3 (by simpa using congrArg (fun x : ByteArray=>x.data.toList) e)
   have n2 : ¬ (bsL (formatN period).1 = ⟨#[]⟩):=fun e=>d3 (by simpa using congrArg (fun x : ByteArray=>x.data.toList) e)
   rw [if_neg (by simp [n1,n2]),if_neg (by simp),if_neg (by simp),if_neg (by omega)]
   simp only [rA,if_true]
   congr 1
   by_cases hm : quota = maxI
   ·rw [if_pos (.inl hm),hq1 hm]
   ·rw [if_neg (by have:=hq2 hm; omega)]
  ·have e2 : (bsL (formatN quota).1 ++ ⟨#[32]⟩ ++ bsL (formatN period).1 : ByteArray).data.toList = (formatN quota).1 ++ 32 :: (formatN period).1:=by simp
   simp only [e2]
   refine ⟨fun hm=>?_,by simp only [lla,llc]; omega⟩
   rcases lmp.1 hm with hm | hm
   ·exact c1.1 hm
   ·simp only [lmk] at hm
    rcases hm with hm | hm
    .exact absurd hm (by decide)
    .exact d1.1 hm
 ·have hv : (0 <= burst /\ burst <= 1099511627776) \/ burst = maxI:=.inl hb
  obtain ⟨a1,a2⟩:=parse_format hv
  refine ⟨a1,?_,(fmt_line hv).1⟩
  simp only [rdF,wrF,a2]
  rw [if_neg (by simp),if_neg (by omega)]
 ·obtain ⟨a1,a2⟩:=parse_hund h3.1 h3.2
  refine ⟨a1,?_,fmtH_line h3.1 h3.2⟩
  simp only [rdF,wrF,a2]
  simp
 ·obtain ⟨a1,a2⟩:=parse_hund h4.1 h4.2
  refine ⟨a1,?_,fmtH_line h4.1 h4.2⟩
  simp only [rdF,wrF,a2]
  simp
 ·obtain ⟨b1,b2⟩:=ascOk_iff h5
  have a2:=parse_set (n:=16) b1 fun x hx=>by have:=b2 x hx; omega
  refine ⟨rfl,?_,set_line h5 (by omega)⟩
  simp only [rdF,wrF,a2]
  simp
 ·obtain ⟨b1,b2⟩:=ascOk_iff h6
  have a2:=parse_set (n:=8) b1 fun x hx=>by have:=b2 x hx; omega
  refine ⟨rfl,?_,set_line h6 (by omega)⟩
  simp only [rdF,wrF,a2]
  simp
 ·have hp : part = 0 \/ part = 1:=by omega
  rcases hp with rfl | rfl
  ·refine ⟨rfl,rfl,?_⟩
   show Line [109,101,109,98,101,114]
   exact ⟨by decide,by decide⟩
  ·refine ⟨rfl,rfl,?_⟩
   show Line [114,111,111,116]
   exact ⟨by decide,by decide⟩
end Go.V
namespace Go.V
end Go.V
namespace Go.V
theorem wrA_of {k : Nat} {s a : Stg} {x : ByteArray} (hs : checkS s = true) (hx : x.size <= 4096) (hw : wrF k s (lineB x) = (a,0)) (ha : checkS a = true) : wrA k s x = (some a,0):=by
 rw [wrA,hw,if_neg (by simp [hs]),if_neg (by omega)]
 simp [ha]
theorem byt_ext {a b : ByteArray} (h : a.data.toList = b.data.toList) : a = b:=by
 obtain ⟨⟨a⟩⟩:=a
 obtain ⟨⟨b⟩⟩:=b
 simpa using h
theorem size_bs (l : List UInt8) : (bsL l).size = l.length:=by simp [bsL,ByteArray.size]
theorem back_all {k : Nat} {s : Stg} (hk : k < 9) (hs : checkS s = true) : rdA k s = ((rdF k s).1 ++ ⟨#[10]⟩,0) /\ wrA k s ((rdF k s).1 ++ ⟨#[10]⟩) = (some s,0) /\ wrA k s (lineB ((rdF k s).1 ++ ⟨#[10]⟩)) = (some s,0):=by
 obtain ⟨h1,h2,h3⟩:=back hk hs
 have hl : (rdF k s).1.size <= 1000:=h3.2
 have e : bsL (rdF k s).1.data.toList = (rdF k s).1:=by simp
 have h4:=line_no h3
 rw [e] at h4
 refine ⟨?_,wrA_of hs ?_ (by rw [line_snoc]; exact h2) hs,?_⟩
 ·rw [rdA,if_neg (by simp [hs]),if_neg (by simp [h1])]
 ·rw [ByteArray.size_append]
  show _ + 1 <= 4096
  omega
 ·rw [line_snoc]
  exact wrA_of hs (by omega) (by rw [h4]; exact h2) hs
theorem parse_dec {k : Nat} (h : k <= 1099511627776) : parseN (Lib.decDigits k) = ((k : Int),0):=by
 have:=(parse_format (n:=(k : Int)) (.inl ⟨by omega,by omega⟩)).2
 rw [formatN,if_neg (by omega),if_neg (by omega)] at this
 simpa only [decB,itoa_pos (Int.natCast_nonneg k),Int.toNat_natCast] using this
theorem last_cons {c : UInt8} {l : List UInt8} (h : l ≠ []) : (c :: l).getLast? = l.getLast?:=by
 cases l with
 | nil=>exact absurd rfl h
 | cons=>rfl
theorem parse_zero {k : Nat} (h : k <= 1099511627776) : parseN (48 :: Lib.decDigits k) = ((k : Int),0):=by
 obtain ⟨a1,a2,a3⟩:=dec_ok k
 have hs : shiftOf (48 :: Lib.decDigits k) = (48 :: Lib.decDigits k,0):=by
  obtain ⟨c,h1,h2⟩:=dec_last (u:=k)
  rw [shiftOf,last_cons a3,h1]
  simp only [fact_no h2]
  rfl
 have hd : digB (48 :: Lib.decDigits k) = true:=by simp [digB,a1]; decide
 have hv : valD (48 :: Lib.decDigits k) = k:=by
  have : valD (48 :: Lib.decDigits k) = valD (Lib.decDigits k):=rfl
  rw [this,a2]
 rw [parseN,if_neg (by intro e; injection e with e1 _; exact absurd e1 (by decide)),hs]
 simp only [hd]
 rw [if_neg (by decide),capD,hv,Nat.pow_zero,Nat.div_one,if_neg (by omega),Nat.mul_one,Nat.min_eq_left (by omega)]
theorem parse_K {k : Nat} (h : k <= 1000000) : parseN (Lib.decDigits k ++ [75]) = (((1024 * k : Nat) : Int),0):=by
 obtain ⟨a1,a2,a3⟩:=dec_ok k
 have hs : shiftOf (Lib.decDigits k ++ [75]) = (Lib.decDigits k,10):=by
  rw [shiftOf,List.getLast?_append]
  simp [Lib.indexByte]
 rw [parseN,if_neg,hs]
 ·simp only [digB_dec]
  rw [if_neg (by decide),capD,a2,if_neg (by omega),Nat.min_eq_left (by omega),Nat.mul_comm]
 ·intro e
  have:=congrArg List.getLast? e
  simp at this
theorem check_pids {s : Stg} (h : checkS s = true) {n : Int} (hn : 0 <= n /\ n <= 1099511627776) : checkS { s with pids:=n } = true:=by
 simp only [checkS,inI,bandOk,bat,bot,decide_eq_true_eq] at h ⊢
 obtain ⟨⟨⟨⟨⟨⟨⟨h0,h1⟩,h2⟩,h3⟩,h4⟩,h5⟩,h6⟩,h7⟩:=h
 exact ⟨⟨⟨⟨⟨⟨⟨.inr hn,h1⟩,h2⟩,h3⟩,h4⟩,h5⟩,h6⟩,h7⟩
theorem check_weight {s : Stg} (h : checkS s = true) {n : Int} (hn : 1 <= n /\ n <= 10000) : checkS { s with weight:=n } = true:=by
 simp only [checkS,inI,bandOk,bat,bot,decide_eq_true_eq] at h ⊢
 obtain ⟨⟨⟨⟨⟨⟨⟨h0,h1⟩,h2⟩,h3⟩,h4⟩,h5⟩,h6⟩,h7⟩:=h
 exact ⟨⟨⟨⟨⟨⟨⟨h0,hn⟩,h2⟩,h3⟩,h4⟩,h5⟩,h6⟩,h7⟩
theorem check_cpus {s : Stg} (h : checkS s = true) {l : List Int} (hl : ascOk l 16 = true) : checkS { s with cpus:=l } = true:=by
 simp only [checkS,inI,bandOk,bat,bot,decide_eq_true_eq] at h ⊢
 obtain ⟨⟨⟨⟨⟨⟨⟨h0,h1⟩,h2⟩,h3⟩,h4⟩,h5⟩,h6⟩,h7⟩:=h
 exact ⟨⟨⟨⟨⟨⟨⟨h0,h1⟩,h2⟩,h3⟩,h4⟩,hl⟩,h6⟩,h7⟩
theorem check_burst {s : Stg} (h : checkS s = true) : 0 <= s.burst /\ 1 <= s.period /\ s.period <= 1000000:=by
 simp only [checkS,inI,bandOk,bat,bot,decide_eq_true_eq] at h
 obtain ⟨⟨⟨⟨⟨⟨⟨h0,h1⟩,h2p,h2⟩,h3⟩,h4⟩,h5⟩,h6⟩,h7⟩:=h
 refine ⟨?_,h2p.1,h2p.2⟩
 split at h2
 .simp only [decide_eq_true_eq] at h2; omega
 .simp only [bat,decide_eq_true_eq] at h2; omega
theorem check_band {s : Stg} (h : checkS s = true) {q p b : Int} (hp : 1 <= p /\ p <= 1000000) (hb : (q = maxI /\ b = 0) \/ (1 <= q /\ q <= 1000000 /\ 0 <= b /\ b <= q)) : checkS { s with quota:=q,period:=p,burst:=b } = true:=by
 simp only [checkS,inI,bandOk,bat,bot,decide_eq_true_eq] at h ⊢
 obtain ⟨⟨⟨⟨⟨⟨⟨h0,h1⟩,h2⟩,h3⟩,h4⟩,h5⟩,h6⟩,h7⟩:=h
 have hM : maxI = 4611686018427387904:=rfl
 refine ⟨⟨⟨⟨⟨⟨⟨h0,h1⟩,hp,?_⟩,h3⟩,h4⟩,h5⟩,h6⟩,h7⟩
 rcases hb with ⟨h,h'⟩ | ⟨b1,b2,b3,b4⟩
 ·rw [if_pos h]; simpa using h'
 ·rw [if_neg (by omega)]
  simp only [bat,decide_eq_true_eq]
  exact ⟨⟨b1,b2⟩,b3,b4⟩
abbrev txtD (k : Nat) : ByteArray:=bsL (Lib.decDigits k)
theorem dec_line (k : Nat) (h : k <= 1000000) : Line (Lib.decDigits k) /\ (Lib.decDigits k).length <= 7:=by
 obtain ⟨a1,_,a3⟩:=dec_ok k
 have a4:=dec_len 6 k (by omega)
 exact ⟨⟨fun hm=>(isD_10 (List.all_eq_true.1 a1 _ hm)).1 rfl,by omega⟩,by omega⟩
theorem forms_pids {s : Stg} (hs : checkS s = true) {k : Nat} (h1 : 1 <= k) (h2 : k <= 900) :
  wrA 0 s (txtD k) = (some { s with pids:=k },0) /\ wrA 0 s (⟨#[48]⟩ ++ txtD k ++ ⟨#[10]⟩) = (some { s with pids:=k },0) /\ rdA 0 { s with pids:=k } = (txtD k ++ ⟨#[10]⟩,0) /\
  wrA 0 s (txtD k ++ ⟨#[75]⟩) = (some { s with pids:=(1024 * k : Nat) },0):=by
 obtain ⟨hl,hn⟩:=dec_line k (by omega)
 have hc:=check_pids hs (n:=(k : Int)) (by omega)
 have hw : ∀ l : List UInt8,parseN l = ((k : Int),0) -> wrF 0 s (bsL l) = ({ s with pids:=k },0):=fun l e=>by
  have e2 : (bsL l).data.toList = l:=by simp
  simp only [wrF,e2,e]
  simp
 have hk:=parse_dec (k:=k) (by omega)
 refine ⟨wrA_of hs (by rw [size_bs]; omega) (by rw [line_no hl]; exact hw _ hk) hc,wrA_of hs ?_ ?_ hc,?_,wrA_of hs ?_ ?_ (check_pids hs (by omega))⟩
 ·rw [ByteArray.size_append,ByteArray.size_append,size_bs]
  show 1 + (Lib.decDigits k).length + 1 <= 4096
  omega
 ·rw [line_snoc]
  have e : (⟨#[48]⟩ ++ txtD k : ByteArray) = bsL (48 :: Lib.decDigits k):=by
   apply byt_ext
   simp
  rw [e]
  exact hw _ (parse_zero (by omega))
 ·rw [rdA,if_neg (by simp [hc])]
  simp only [rdF]
  have e : formatN ((k : Nat) : Int) = (Lib.decDigits k,0):=by
   rw [formatN,if_neg (by omega),if_neg (by omega),decB,itoa_pos (Int.natCast_nonneg k),Int.toNat_natCast]
  rw [e]
  simp
 ·rw [ByteArray.size_append,size_bs]
  show _ + 1 <= 4096
  omega
 ·have e : (txtD k ++ ⟨#[75]⟩ : ByteArray) = bsL (Lib.decDigits k ++ [75]):=by
   apply byt_ext
   simp
  have hl2 : Line (Lib.decDigits k ++ [75]):=⟨fun hm=>by
   rcases lmp.1 hm with hm | hm
   .exact hl.1 hm
   .simp at hm,by simp only [lla,llc,lln]; omega⟩
  rw [e,line_no hl2]
  have e2 : (bsL (Lib.decDigits k ++ [75])).data.toList = Lib.decDigits k ++ [75]:=by simp
  simp only [wrF,e2,parse_K (k:=k) (by omega)]
  simp
theorem forms_weight {s : Stg} (hs : checkS s = true) {k : Nat} (h1 : 1 <= k) (h2 : k <= 900) :
  wrA 1 s (txtD k) = (some { s with weight:=k },0) /\ wrA 1 s (⟨#[48]⟩ ++ txtD k ++ ⟨#[10]⟩) = (some { s with weight:=k },0) /\ rdA 1 { s with weight:=k } = (txtD k ++ ⟨#[10]⟩,0):=by
 obtain ⟨hl,hn⟩:=dec_line k (by omega)
 have hM : maxI = 4611686018427387904:=rfl
 have hc:=check_weight hs (n:=(k : Int)) (by omega)
 have hw : ∀ l : List UInt8,parseN l = ((k : Int),0) -> wrF 1 s (bsL l) = ({ s with weight:=k },0):=fun l e=>by
  have e2 : (bsL l).data.toList = l:=by simp
  simp only [wrF,e2,e]
  rw [if_neg (by simp),if_neg (by omega)]
 have hk:=parse_dec (k:=k) (by omega)
 refine ⟨wrA_of hs (by rw [size_bs]; omega) (by rw [line_no hl]; exact hw _ hk) hc,wrA_of hs ?_ ?_ hc,?_⟩
 ·rw [ByteArray.size_append,ByteArray.size_append,size_bs]
  show 1 + (Lib.decDigits k).length + 1 <= 4096
  omega
 ·rw [line_snoc]
  have e : (⟨#[48]⟩ ++ txtD k : ByteArray) = bsL (48 :: Lib.decDigits k):=by
   apply byt_ext
   simp
  rw [e]
  exact hw _ (parse_zero (by omega))
 ·rw [rdA,if_neg (by simp [hc])]
  simp only [rdF]
  have e : formatN ((k : Nat) : Int) = (Lib.decDigits k,0):=by
   rw [formatN,if_neg (by omega),if_neg (by omega),decB,itoa_pos (Int.natCast_nonneg k),Int.toNat_natCast]
  rw [e]
  simp
end Go.V
namespace Go.V
theorem ex12_split : elemsV (splitS ⟨#[51,44,49,45,50,44,48]⟩ ⟨#[44]⟩) = some [(3,3),(1,2),(0,0)]:=by decide +kernel
theorem ex12_parse : parseT ⟨#[51,44,49,45,50,44,48]⟩ 16 = ([0,1,2,3],0):=by
 have e : sortQ [(3,3),(1,2),(0,0)] = [(0,0),(1,2),(3,3)]:=sortQ_eq (by decide) (by decide)
 rw [parseT,if_neg (by decide),ex12_split]
 simp only [e]
 rw [if_neg (by decide)]
 decide
theorem ex12_format : setTxt [0,1,2,3] = ⟨#[48,45,51]⟩:=by
 have e : runsR [0,1,2,3] = [(0,3)]:=by
  rw [runsR_cons]
  have h : runLen 0 [1,2,3] = 3:=by decide
  rw [h]
  simp [runsR_nil]
 rw [setTxt,e]
 decide +kernel
theorem forms_cpus {s : Stg} (hs : checkS s = true) : wrA 6 s ⟨#[51,44,49,45,50,44,48]⟩ = (some { s with cpus:=[0,1,2,3] },0) /\ rdA 6 { s with cpus:=[0,1,2,3] } = (⟨#[48,45,51,10]⟩,0):=by
 have hc : checkS { s with cpus:=[0,1,2,3] } = true:=check_cpus hs (by decide)
 refine ⟨wrA_of hs (by decide) ?_ hc,?_⟩
 ·have e : lineB ⟨#[51,44,49,45,50,44,48]⟩ = ⟨#[51,44,49,45,50,44,48]⟩:=by decide
  rw [e]
  simp only [wrF,ex12_parse]
  simp
 ·rw [rdA,if_neg (by simp [hc])]
  simp only [rdF,ex12_format]
  rfl
theorem split_one {q : List UInt8} (hq : (32 : UInt8) ∉ q) : splitS (bsL q) ⟨#[32]⟩ = [bsL q]:=by
 apply bytes_inj
 rw [splitS_cutB]
 have e : (bsL q).data.toList = q:=by simp
 rw [e,cutB_no _ _ hq]
 simp
theorem dec_txt (k : Nat) (h : k <= 1000000) : (32 : UInt8) ∉ Lib.decDigits k /\ ¬ (txtD k = ⟨#[]⟩):=by
 obtain ⟨a1,_,a3⟩:=dec_ok k
 exact ⟨fun hm=>(isD_10 (List.all_eq_true.1 a1 _ hm)).2 rfl,fun e=>a3 (by simpa using congrArg (fun x : ByteArray=>x.data.toList) e)⟩
abbrev burstQ (s : Stg) (q : Int) : Int:=if q < s.burst then 0 else s.burst
theorem band_two {s : Stg} (hs : checkS s = true) {q p : Nat} (hq : 1 <= q /\ q <= 65536) (hp : 1 <= p /\ p <= 65536) :
  wrA 2 s (txtD q ++ ⟨#[32]⟩ ++ txtD p) = (some { s with quota:=q,period:=p,burst:=burstQ s q },0) /\ checkS { s with quota:=q,period:=p,burst:=burstQ s q } = true:=by
 have hM : maxI = 4611686018427387904:=rfl
 have hb:=check_burst hs
 have hc : checkS { s with quota:=(q : Int),period:=(p : Int),burst:=burstQ s q } = true:=check_band hs (by omega) (.inr ⟨by omega,by omega,by unfold burstQ; split <;> omega,by unfold burstQ; split <;> omega⟩)
 refine ⟨wrA_of hs ?_ ?_ hc,hc⟩
 ·obtain ⟨_,n1⟩:=dec_line q (by omega)
  obtain ⟨_,n2⟩:=dec_line p (by omega)
  rw [ByteArray.size_append,ByteArray.size_append,size_bs,size_bs]
  show (Lib.decDigits q).length + 1 + (Lib.decDigits p).length <= 4096
  omega
 ·obtain ⟨hl1,n1⟩:=dec_line q (by omega)
  obtain ⟨hl2,n2⟩:=dec_line p (by omega)
  obtain ⟨s1,e1⟩:=dec_txt q (by omega)
  obtain ⟨s2,e2⟩:=dec_txt p (by omega)
  have e : (txtD q ++ ⟨#[32]⟩ ++ txtD p : ByteArray) = bsL (Lib.decDigits q ++ 32 :: Lib.decDigits p):=by
   apply byt_ext
   simp
  have hl : Line (Lib.decDigits q ++ 32 :: Lib.decDigits p):=⟨fun hm=>by
   rcases lmp.1 hm with hm | hm
   ·exact hl1.1 hm
   ·simp only [lmk] at hm
    rcases hm with hm | hm
    .exact absurd hm (by decide)
    .exact hl2.1 hm,by simp only [lla,llc]; omega⟩
  rw [e,line_no hl,<- e]
  have d1 : (txtD q).data.toList = Lib.decDigits q:=by simp
  have d2 : (txtD p).data.toList = Lib.decDigits p:=by simp
  simp only [wrF,split_max s1 s2,wrMax,List.headD_cons,List.drop_succ_cons,List.drop_zero,llc,lln,d1,d2,parse_dec (k:=q) (by omega),parse_dec (k:=p) (by omega)]
  rw [if_neg (by simp [e1,e2]),if_neg (by simp),if_neg (by simp),if_neg (by omega)]
  simp only [rA,if_true]
  congr 2
  have : ¬ (q : Int) = maxI:=by omega
  simp only [this,false_or]
theorem band_one {s : Stg} (hs : checkS s = true) {q : Nat} (hq : 1 <= q /\ q <= 65536) :
  wrA 2 s (txtD q) = (some { s with quota:=q,burst:=burstQ s q },0) /\ checkS { s with quota:=q,burst:=burstQ s q } = true:=by
 have hM : maxI = 4611686018427387904:=rfl
 have hb:=check_burst hs
 have hc : checkS { s with quota:=(q : Int),period:=s.period,burst:=burstQ s q } = true:=check_band hs (by omega) (.inr ⟨by omega,by omega,by unfold burstQ; split <;> omega,by unfold burstQ; split <;> omega⟩)
 refine ⟨wrA_of hs ?_ ?_ hc,hc⟩
 ·obtain ⟨_,n1⟩:=dec_line q (by omega)
  rw [size_bs]
  omega
 ·obtain ⟨hl1,n1⟩:=dec_line q (by omega)
  obtain ⟨s1,e1⟩:=dec_txt q (by omega)
  rw [line_no hl1]
  have d1 : (txtD q).data.toList = Lib.decDigits q:=by simp
  simp only [wrF,split_one s1,wrMax,List.headD_cons,List.drop_succ_cons,List.drop_nil,llc,lln,d1,parse_dec (k:=q) (by omega)]
  rw [if_neg (by simp),if_neg (by simp),if_neg (by simp),if_neg (by simp)]
  congr 2
  have : ¬ (q : Int) = maxI:=by omega
  simp only [this,false_or]
theorem band_max {s : Stg} (hs : checkS s = true) : wrA 2 s ⟨#[109,97,120]⟩ = (some { s with quota:=maxI,burst:=0 },0) /\ checkS { s with quota:=maxI,burst:=0 } = true:=by
 have hb:=check_burst hs
 have hc : checkS { s with quota:=maxI,period:=s.period,burst:=0 } = true:=check_band hs (by omega) (.inl ⟨rfl,rfl⟩)
 refine ⟨wrA_of hs (by decide) ?_ hc,hc⟩
 have e : lineB ⟨#[109,97,120]⟩ = bsL [109,97,120]:=by decide
 rw [e]
 simp only [wrF,split_one (q:=[109,97,120]) (by decide),wrMax,List.headD_cons,List.drop_succ_cons,List.drop_nil,llc,lln]
 rw [if_neg (by simp),if_neg (by decide),if_neg (by simp),if_neg (by simp)]
 have e2 : (parseN (bsL [109,97,120]).data.toList).1 = maxI:=by decide
 rw [e2]
 simp
end Go.V
namespace Go.V
def wtL (x : Int) : List Int:=[1,100,300,10000,50,200,7,1 + x]
def wtN (L : List Int) (a : Nat) : Int:=(wtL (nextV L a 1000)).getD (nextV L (nextA L a 1000) 8).toNat 0
def dPids (L : List Int) (a : Nat) : Int × Nat:=if nextV L a 2 = 1 then (nextV L (nextA L a 2) 6,nextA L (nextA L a 2) 6) else (maxI,nextA L a 2)
def dQuota (L : List Int) (a : Nat) : Int × Int × Nat :=
 if nextV L a 2 = 1 then (1 + nextV L (nextA L a 2) 9,nextV L (nextA L (nextA L a 2) 9) (1 + nextV L (nextA L a 2) 9 + 1),nextA L (nextA L (nextA L a 2) 9) (1 + nextV L (nextA L a 2) 9 + 1))
 else (maxI,0,nextA L a 2)
def dSome (L : List Int) (a n : Nat) : List Int × Nat:=if nextV L a 2 = 1 then setK L (nextA L a 2) n else ([],nextA L a 2)
def dStg (L : List Int) (a : Nat) : Stg × Nat :=
 let p:=dPids L a
 let a2:=nextA L (nextA L p.2 1000) 8
 let q:=dQuota L a2
 let a3:=nextA L q.2.2 9
 let a4:=nextA L a3 10001
 let a5:=nextA L a4 10001
 let c:=dSome L a5 6
 let m:=dSome L c.2 4
 (⟨p.1,wtN L p.2,q.1,1 + nextV L q.2.2 9,q.2.1,nextV L a3 10001,nextV L a4 10001,c.1,m.1,if nextV L m.2 3 = 2 then 1 else 0⟩,nextA L m.2 3)
theorem wtN_ok (L : List Int) (a : Nat) : 1 <= wtN L a /\ wtN L a <= 10000:=by
 have h0:=nextV_nonneg L a 1000
 have h1:=nextV_lt L a (n:=1000) (by omega)
 have h2:=nextV_nonneg L (nextA L a 1000) 8
 have h3:=nextV_lt L (nextA L a 1000) (n:=8) (by omega)
 unfold wtN wtL
 generalize nextV L a 1000 = x at *
 generalize nextV L (nextA L a 1000) 8 = y at *
 have : y = 0 \/ y = 1 \/ y = 2 \/ y = 3 \/ y = 4 \/ y = 5 \/ y = 6 \/ y = 7:=by omega
 rcases this with rfl | rfl | rfl | rfl | rfl | rfl | rfl | rfl <;> simp <;> omega
theorem dSome_ok (L : List Int) (a n : Nat) (hn : n <= 6) {m : Int} (hm : (n : Int) <= m) : ascOk (dSome L a n).1 m = true /\ (dSome L a n).1.length <= 6:=by
 unfold dSome
 split
 ·obtain ⟨h1,h2,h3⟩:=setK_ok L (nextA L a 2) n
  refine ⟨?_,by omega⟩
  simp only [ascOk,bat,decide_eq_true_eq,List.all_eq_true]
  exact ⟨h1,fun x hx=>by have:=h2 x hx; omega⟩
 .exact ⟨by simp [ascOk,Asc],by simp⟩
theorem check_mk {s : Stg} (h0 : s.pids = maxI \/ (0 <= s.pids /\ s.pids <= 1099511627776)) (h1 : 1 <= s.weight /\ s.weight <= 10000) (hp : 1 <= s.period /\ s.period <= 1000000)
  (hb : (s.quota = maxI /\ s.burst = 0) \/ (1 <= s.quota /\ s.quota <= 1000000 /\ 0 <= s.burst /\ s.burst <= s.quota)) (h3 : 0 <= s.cmin /\ s.cmin <= 10000) (h4 : 0 <= s.cmax /\ s.cmax <= 10000)
  (h5 : ascOk s.cpus 16 = true) (h6 : ascOk s.mems 8 = true) (h7 : 0 <= s.part /\ s.part <= 1) : checkS s = true:=by
 simp only [checkS,inI,bandOk,bat,bot,decide_eq_true_eq]
 have hM : maxI = 4611686018427387904:=rfl
 refine ⟨⟨⟨⟨⟨⟨⟨h0,h1⟩,hp,?_⟩,h3⟩,h4⟩,h5⟩,h6⟩,h7⟩
 rcases hb with ⟨h,h'⟩ | ⟨b1,b2,b3,b4⟩
 ·rw [if_pos h]; simpa using h'
 ·rw [if_neg (by omega)]
  simp only [bat,decide_eq_true_eq]
  exact ⟨⟨b1,b2⟩,b3,b4⟩
theorem dStg_ok (L : List Int) (a : Nat) : checkS (dStg L a).1 = true:=by
 have n0:=fun a n=>nextV_nonneg L a n
 have n1:=fun a (n : Int) (h : 1 <= n)=>nextV_lt L a h
 have hp : (dPids L a).1 = maxI \/ (0 <= (dPids L a).1 /\ (dPids L a).1 <= 1099511627776):=by
  unfold dPids
  split
  ·have h1:=n0 (nextA L a 2) 6
   have h2:=n1 (nextA L a 2) 6 (by omega)
   exact .inr ⟨h1,by simp only; omega⟩
  ·exact .inl rfl
 have hw:=wtN_ok L (dPids L a).2
 have hq : ∀ b,((dQuota L b).1 = maxI /\ (dQuota L b).2.1 = 0) \/ (1 <= (dQuota L b).1 /\ (dQuota L b).1 <= 1000000 /\ 0 <= (dQuota L b).2.1 /\ (dQuota L b).2.1 <= (dQuota L b).1):=fun b=>by
  unfold dQuota
  split
  ·have h1:=n0 (nextA L b 2) 9
   have h2:=n1 (nextA L b 2) 9 (by omega)
   simp only
   generalize nextV L (nextA L b 2) 9 = x at *
   have h3:=n0 (nextA L (nextA L b 2) 9) (1 + x + 1)
   have h4:=n1 (nextA L (nextA L b 2) 9) (1 + x + 1) (by omega)
   omega
  .exact .inl ⟨rfl,rfl⟩
 have hx : ∀ b (n : Int),1 <= n -> 0 <= nextV L b n /\ nextV L b n <= n - 1:=fun b n h=>⟨n0 b n,by have:=n1 b n h; omega⟩
 refine check_mk hp hw ?_ (hq _) (hx _ 10001 (by omega)) (hx _ 10001 (by omega)) (dSome_ok L _ 6 (by omega) (by omega)).1 (dSome_ok L _ 4 (by omega) (by omega)).1 ?_
 ·have:=hx (dQuota L (nextA L (nextA L (dPids L a).2 1000) 8)).2.2 9 (by omega)
  show 1 <= 1 + _ /\ 1 + _ <= _
  omega
 ·simp only [dStg]
  split <;> omega
end Go.V
namespace Go.V
def asciiB (l : List UInt8) : Bool:=l.all fun c=>decide (c.toNat < 128)
theorem get_byte (x : ByteArray) (k : Nat) : x[k]? = x.data.toList[k]?:=by
 by_cases h : k < x.size
 ·have h2 : k < x.data.toList.length:=h
  rw [lgg h2]
  simp [h]
  rfl
 ·have h2 : ¬ k < x.data.toList.length:=h
  rw [List.getElem?_eq_none (Nat.le_of_not_lt h2)]
  simp [h]
set_option maxHeartbeats 1000000 in
theorem digits_eq (x : ByteArray) (ha : asciiB x.data.toList = true) : V 79 [.p (.str x)] [] = some (.p (.bool (digB x.data.toList)),[]):=by
 refine V_wp (vf:=vf79) rfl ?_
 have hg:=get_byte x
 have he : decide (x = ⟨#[]⟩) = x.data.toList.isEmpty:=by
  obtain ⟨⟨d⟩⟩:=x
  cases d with
  | nil=>rfl
  | cons=>simp
 generalize hl : x.data.toList = l at ha hg he
 simp -implicitDefEqProofs (disch:=omega) only [vf79,vb79,go_sem,↓reduceIte,rA,rS,rE,rL,reduceCtorEq]
 obtain ⟨R,hR⟩ : ∃ I : Nat -> St -> Prop,∀ r s,I r s ↔ ∃ (p : Nat),r + p = l.length /\ (l.take p).all isD = true /\ s.pe 0 = .p (PV.str x) /\ s.pe 6 = .ptr (.slot 6 0) 0 0 /\ s.h (.slot 6 0) = some (0,Ob.iter x p):=⟨_,fun _ _=>Iff.rfl⟩
 refine wp_meas R id (l.length) ?_ ?_
 ·refine (hR _ _).2 ⟨0,?_,?_,?_,?_,?_⟩
  ·rfl
  ·rfl
  all_goals exact cl0
 intro r s hRk
 obtain ⟨p,hp,hd,h0,h6,hh6_0⟩:=(hR _ _).1 hRk
 clear hRk
 by_cases hlt : p < l.length
 ·have hm : l[p]? = some l[p]:=lgg hlt
  have htk:=take_snoc hm
  have hca : l[p].toNat < 128:=by simpa using List.all_eq_true.1 ha _ (lmg hm)
  generalize l[p] = c at hm htk hca
  have hc : x[p]? = some c:=by rw [hg]; exact hm
  by_cases hD : isD c = true
  ·have hD2:=hD
   rw [isD_iff] at hD2
   have f1 : ¬ (c.toNat : Int) < 48:=by omega
   have f2 : ¬ (c.toNat : Int) > 57:=by omega
   simp -implicitDefEqProofs (disch:=omega) only [h0,h6,hh6_0,hc,hca,f1,f2,go_sem,↓reduceIte,rA,rS,rE,rL,reduceCtorEq]
   refine ⟨r - 1,by simp only [id]; omega,(hR _ _).2 ⟨p + 1,?_,?_,?_,?_,?_⟩⟩
   ·omega
   ·exact by rw [htk,List.all_append,hd]; simp [hD]
   all_goals exact cl0
  ·have hno : digB l = false:=by
    cases e : digB l with
    | false=>rfl
    | true =>
     simp only [digB,bat,List.all_eq_true] at e
     exact absurd (e.1 c (lmg hm)) hD
   rw [isD_iff] at hD
   rw [hno]
   by_cases f1 : (c.toNat : Int) < 48
   ·simp -implicitDefEqProofs (disch:=omega) only [h0,h6,hh6_0,hc,hca,f1,go_sem,↓reduceIte,rA,rS,rE,rL,reduceCtorEq]
   ·have f2 : (c.toNat : Int) > 57:=by omega
    simp -implicitDefEqProofs (disch:=omega) only [h0,h6,hh6_0,hc,hca,f1,f2,go_sem,↓reduceIte,rA,rS,rE,rL,reduceCtorEq]
 ·have hc : x[p]? = none:=by rw [hg]; exact List.getElem?_eq_none (by omega)
  have hfin : digB l = !l.isEmpty:=by
   rw [ltl (by omega)] at hd
   rw [digB,hd,bta]
  rw [hfin]
  simp -implicitDefEqProofs (disch:=omega) only [h0,h6,hh6_0,hc,he,go_sem,↓reduceIte,rA,rS,rE,rL,reduceCtorEq]
end Go.V
namespace Go.V
theorem wrap32s {n : Int} (h0 : -2147483648 <= n) (h1 : n <= 2147483647) : IntKind.i32.wrap n = n:=by
 simp [IntKind.wrap,IntKind.bits,IntKind.signed]
 omega
set_option maxHeartbeats 1000000 in
theorem value_eq (x : ByteArray) (m : Nat) (hm : m <= 1099511627777) (ha : x.data.toList.all isD = true) : V 80 [.p (.str x),.p (.int .i64 m)] [] = some (.p (.int .i64 (capD x.data.toList m : Nat)),[]):=by
 refine V_wp (vf:=vf80) rfl ?_
 have hg:=get_byte x
 generalize hl : x.data.toList = l at ha hg
 simp -implicitDefEqProofs (disch:=omega) only [vf80,vb80,go_sem,↓reduceIte,rA,rS,rE,rL,reduceCtorEq]
 obtain ⟨R,hR⟩ : ∃ I : Nat -> St -> Prop,∀ r s,I r s ↔ ∃ (p : Nat) (v : Nat),r + p = l.length /\ v = capD (l.take p) m /\ s.pe 1 = .p (.int .i64 m) /\ s.pe 5 = .p (.int .i64 v) /\ s.pe 9 = .ptr (.slot 9 0) 0 0 /\ s.h (.slot 9 0) = some (0,Ob.iter x p):=⟨_,fun _ _=>Iff.rfl⟩
 refine wp_meas R id (l.length) ?_ ?_
 ·refine (hR _ _).2 ⟨0,0,?_,?_,?_,?_,?_,?_⟩
  .rfl
  .exact by simp [valF]
  all_goals exact cl0
 intro r s hRk
 obtain ⟨p,v,hp,hv,h1,h5,h9,hh9_0⟩:=(hR _ _).1 hRk
 clear hRk
 by_cases hlt : p < l.length
 ·have hmm : l[p]? = some l[p]:=lgg hlt
  have htk:=take_snoc hmm
  have hD:=List.all_eq_true.1 ha _ (lmg hmm)
  generalize l[p] = c at hmm htk hD
  have hc : x[p]? = some c:=by rw [hg]; exact hmm
  rw [isD_iff] at hD
  have hca : c.toNat < 128:=by omega
  have w1 : IntKind.i32.wrap ((c.toNat : Int) - 48) = (c.toNat : Int) - 48:=wrap32s (by omega) (by omega)
  have w2 : IntKind.i64.wrap ((c.toNat : Int) - 48) = (c.toNat : Int) - 48:=wrap64 (by omega) (by omega)
  have hvm : v <= m:=by rw [hv]; exact Nat.min_le_right _ _
  have w3 : IntKind.i64.wrap (10 * (v : Int)) = 10 * (v : Int):=wrap64 (by omega) (by omega)
  have w4 : IntKind.i64.wrap (10 * (v : Int) + ((c.toNat : Int) - 48)) = 10 * (v : Int) + ((c.toNat : Int) - 48):=wrap64 (by omega) (by omega)
  have w5 : min (10 * (v : Int) + ((c.toNat : Int) - 48)) (m : Int) = ((min (10 * v + (c.toNat - 48)) m : Nat) : Int):=by omega
  simp -implicitDefEqProofs (disch:=omega) only [h1,h5,h9,hh9_0,hc,hca,w1,w2,w3,w4,w5,go_sem,↓reduceIte,rA,rS,rE,rL,reduceCtorEq]
  refine ⟨r - 1,by simp only [id]; omega,(hR _ _).2 ⟨p + 1,min (10 * v + (c.toNat - 48)) m,?_,?_,?_,?_,?_,?_⟩⟩
  .omega
  .exact by rw [htk]; show _ = min (valF (l.take p ++ [c]) 0) m; rw [valF_snoc]; have hv' : v = min (valF (l.take p) 0) m:=hv; generalize valF (l.take p) 0 = u at hv'; clear hv; omega
  all_goals exact cl0
 ·have hc : x[p]? = none:=by rw [hg]; exact List.getElem?_eq_none (by omega)
  rw [ltl (by omega)] at hv
  simp -implicitDefEqProofs (disch:=omega) only [h1,h5,h9,hh9_0,hc,hv,go_sem,↓reduceIte,rA,rS,rE,rL,reduceCtorEq]
theorem format_eq (n : Int) (h : -9223372036854775808 <= n /\ n <= 9223372036854775807) : V 64 [.p (.int .i64 n)] [] = some (.tup [.p (.str (bsL (formatN n).1)),.p (.int .i64 (formatN n).2)],[]):=by
 refine V_wp (vf:=vf64) rfl ?_
 have hi:=itoa_x h.1 h.2
 unfold formatN
 by_cases h1 : n = 4611686018427387904
 ·subst h1
  simp -implicitDefEqProofs (disch:=omega) only [vf64,vb64,go_sem,↓reduceIte,rA,rS,rE,rL,reduceCtorEq]
 ·rw [if_neg h1]
  by_cases h2 : n < 0
  ·rw [if_pos (.inl h2)]
   simp -implicitDefEqProofs (disch:=omega) only [vf64,vb64,h1,h2,go_sem,↓reduceIte,rA,rS,rE,rL,reduceCtorEq]
  ·by_cases h3 : 1099511627776 < n
   ·rw [if_pos (.inr h3)]
    simp -implicitDefEqProofs (disch:=omega) only [vf64,vb64,h1,h2,h3,go_sem,↓reduceIte,rA,rS,rE,rL,reduceCtorEq]
   ·rw [if_neg (by omega)]
    simp -implicitDefEqProofs (disch:=omega) only [vf64,vb64,h1,h2,h3,hi,go_sem,↓reduceIte,rA,rS,rE,rL,reduceCtorEq]
end Go.V
namespace Go.V
def shOk (sh : Nat) : Prop:=sh = 0 \/ sh = 10 \/ sh = 20 \/ sh = 30 \/ sh = 40
theorem shr_ok {sh : Nat} (h : shOk sh) : shrI .i64 1099511627776 (sh : Int) = ((1099511627776 / 2 ^ sh : Nat) : Int):=by
 rcases h with rfl | rfl | rfl | rfl | rfl <;> decide
theorem shl_ok {n sh : Nat} (h : shOk sh) (hn : n <= 1099511627776 / 2 ^ sh) : shlI .i64 (n : Int) (sh : Int) = ((n * 2 ^ sh : Nat) : Int):=by
 rcases h with rfl | rfl | rfl | rfl | rfl <;> (unfold shlI; simp [IntKind.bits]; exact wrap64 (by omega) (by omega))
theorem idx_fact (c : UInt8) : Lib.indexByte factB c = -1 \/ ∃ k : Nat,k < 4 /\ Lib.indexByte factB c = (k : Int):=by
 simp only [Lib.indexByte]
 by_cases h1 : (75 : UInt8) == c
 ·exact .inr ⟨0,by omega,by simp [h1]⟩
 ·by_cases h2 : (77 : UInt8) == c
  ·exact .inr ⟨1,by omega,by simp [h1,h2]⟩
  ·by_cases h3 : (71 : UInt8) == c
   ·exact .inr ⟨2,by omega,by simp [h1,h2,h3]⟩
   ·by_cases h4 : (84 : UInt8) == c
    .exact .inr ⟨3,by omega,by simp [h1,h2,h3,h4]⟩
    .exact .inl (by simp [h1,h2,h3,h4])
theorem ascii_drop {l : List UInt8} (h : asciiB l = true) : asciiB l.dropLast = true:=by
 simp only [asciiB,List.all_eq_true] at h ⊢
 exact fun c hc=>h c (List.dropLast_subset _ hc)
def parseS (l : List UInt8) (sh : Nat) : Int × Int :=
 if digB l = false then (0,2) else if 1099511627776 / 2 ^ sh < capD l 1099511627777 then (0,3) else ((capD l 1099511627777 * 2 ^ sh : Nat),0)
theorem digB_all {l : List UInt8} (h : digB l = true) : l.all isD = true:=by
 simp only [digB,bat] at h
 exact h.1
set_option maxHeartbeats 4000000 in
theorem parse_eq (x : ByteArray) (hs : x.size < 1000000) (ha : asciiB x.data.toList = true) : V 66 [.p (.str x)] [] = some (.tup [.p (.int .i64 (parseN x.data.toList).1),.p (.int .i64 (parseN x.data.toList).2)],[]):=by
 refine V_wp (vf:=vf66) rfl ?_
 have hmx : (x = ⟨#[109,97,120]⟩) = (x.data.toList = [109,97,120]):=by
  apply propext
  exact ⟨fun e=>by rw [e],fun e=>byt_ext e⟩
 have hem : (x = ⟨#[]⟩) = (x.data.toList = []):=by
  apply propext
  exact ⟨fun e=>by rw [e],fun e=>byt_ext e⟩
 by_cases h1 : x.data.toList = [109,97,120]
 ·have e : x = ⟨#[109,97,120]⟩:=byt_ext h1
  subst e
  simp -implicitDefEqProofs (disch:=omega) only [vf66,vb66,go_sem,↓reduceIte,rA,rS,rE,rL,reduceCtorEq]
  rfl
 ·have hp : parseN x.data.toList = parseS (shiftOf x.data.toList).1 (shiftOf x.data.toList).2:=by rw [parseN,if_neg h1]; rfl
  rw [hp]
  have h1' : ¬ x = ⟨#[109,97,120]⟩:=by rw [hmx]; exact h1
  by_cases h2 : x.data.toList = []
  ·have e : x = ⟨#[]⟩:=byt_ext h2
   subst e
   have hd:=digits_eq ⟨#[]⟩ rfl
   have hdb : digB (⟨#[]⟩ : ByteArray).data.toList = false:=rfl
   rw [hdb] at hd
   simp -implicitDefEqProofs (disch:=omega) only [vf66,vb66,h1',hd,go_sem,↓reduceIte,rA,rS,rE,rL,reduceCtorEq]
   rfl
  ·have h2' : ¬ x = ⟨#[]⟩:=by rw [hem]; exact h2
   have hpos : 0 < x.size:=List.length_pos_iff.2 h2
   obtain ⟨c,hc⟩ : ∃ c,x.data.toList.getLast? = some c:=by
    cases e : x.data.toList.getLast? with
    | none=>rw [List.getLast?_eq_none_iff] at e; exact absurd e h2
    | some c=>exact ⟨c,rfl⟩
   have hgc : x[((x.size : Int) - 1).toNat]? = some c:=by
    rw [get_byte,<- hc,List.getLast?_eq_getElem?]
    congr 1
    show ((x.size : Int) - 1).toNat = x.size - 1
    omega
   have w1 : IntKind.i64.wrap ((x.size : Int) - 1) = (x.size : Int) - 1:=wrap64 (by omega) (by omega)
   have g0 : (0 : Int) <= (x.size : Int) - 1:=by omega
   have hix:=@idxb_x ⟨#[75,77,71,84]⟩ (c.toNat : Int)
   have hcc : (Int.toNat (c.toNat : Int)).toUInt8 = c:=by simp
   rw [hcc] at hix
   have hfb : Lib.indexByte (⟨#[75,77,71,84]⟩ : ByteArray).data.toList c = Lib.indexByte factB c:=rfl
   rw [hfb] at hix
   rcases idx_fact c with hk | ⟨k,hk4,hk⟩
   ·have hsf : shiftOf x.data.toList = (x.data.toList,0):=by rw [shiftOf,hc]; simp [hk]
    rw [hk] at hix
    rw [hsf]
    simp only
    have gm : ¬ (0 : Int) <= -1:=by omega
    have hd:=digits_eq x ha
    by_cases h3 : digB x.data.toList = true
    ·have hv : V 80 [.p (.str x),.p (.int .i64 1099511627777)] [] = _:=value_eq x 1099511627777 (by omega) (digB_all h3)
     have hsr : shrI .i64 1099511627776 0 = 1099511627776:=by decide
     rw [parseS,if_neg (by simp [h3])]
     rw [h3] at hd
     have hcap : (1099511627776 : Nat) / 2 ^ 0 = 1099511627776:=by decide
     have hs2:=fun hn=>shl_ok (n:=capD x.data.toList 1099511627777) (sh:=0) (.inl rfl) hn
     rw [hcap] at hs2 ⊢
     generalize capD x.data.toList 1099511627777 = K at hv hs2 ⊢
     obtain ⟨Q,hQ⟩ : ∃ Q : Nat,Q = 1099511627776:=⟨_,rfl⟩
     have hsr' : shrI .i64 1099511627776 0 = (Q : Int):=by rw [hQ]; exact hsr
     rw [<- hQ] at hs2 ⊢
     clear hsr
     by_cases h4 : Q < K
     ·rw [if_pos h4]
      have h4' : (Q : Int) < (K : Int):=by exact_mod_cast h4
      simp -implicitDefEqProofs (disch:=omega) only [vf66,vb66,h1',h2',w1,g0,hgc,hix,gm,hd,hv,hsr',h4',go_sem,↓reduceIte,rA,rS,rE,rL,reduceCtorEq]
     ·rw [if_neg h4]
      have h4' : ¬ (Q : Int) < (K : Int):=by exact_mod_cast h4
      have hsl : shlI .i64 (K : Int) 0 = ((K * 2 ^ 0 : Nat) : Int):=hs2 (Nat.le_of_not_lt h4)
      simp -implicitDefEqProofs (disch:=omega) only [vf66,vb66,h1',h2',w1,g0,hgc,hix,gm,hd,hv,hsr',h4',hsl,go_sem,↓reduceIte,rA,rS,rE,rL,reduceCtorEq]
    ·have h3' : digB x.data.toList = false:=by simpa using h3
     rw [parseS,if_pos h3']
     rw [h3'] at hd
     simp -implicitDefEqProofs (disch:=omega) only [vf66,vb66,h1',h2',w1,g0,hgc,hix,gm,hd,go_sem,↓reduceIte,rA,rS,rE,rL,reduceCtorEq]
   ·have hsf : shiftOf x.data.toList = (x.data.toList.dropLast,10 * (k + 1)):=by rw [shiftOf,hc]; simp [hk]
    rw [hk] at hix
    rw [hsf]
    simp only
    have hy : (x.extract 0 ((x.size : Int) - 1).toNat).data.toList = x.data.toList.dropLast:=by
     rw [Lib.extract_data,List.drop_zero,List.dropLast_eq_take]
     congr 1
     show ((x.size : Int) - 1).toNat - 0 = x.size - 1
     omega
    have hay:=ascii_drop ha
    rw [<- hy] at hay ⊢
    have hle : ((x.size : Int) - 1).toNat <= x.size:=by omega
    have g1 : (0 : Int) <= (k : Int):=by omega
    have w2 : IntKind.i64.wrap ((k : Int) + 1) = (k : Int) + 1:=wrap64 (by omega) (by omega)
    have w3 : IntKind.i64.wrap (10 * ((k : Int) + 1)) = ((10 * (k + 1) : Nat) : Int):=by rw [wrap64 (by omega) (by omega)]; omega
    generalize hyx : x.extract 0 ((x.size : Int) - 1).toNat = y at hy hay ⊢
    have hd:=digits_eq y hay
    have hsh : shOk (10 * (k + 1)):=by unfold shOk; omega
    generalize 10 * (k + 1) = sh at hsh w3 ⊢
    have g2 : (0 : Int) <= (sh : Int):=by omega
    by_cases h3 : digB y.data.toList = true
    ·have hv : V 80 [.p (.str y),.p (.int .i64 1099511627777)] [] = _:=value_eq y 1099511627777 (by omega) (digB_all h3)
     have hsr:=shr_ok hsh
     have hs2:=fun hn=>shl_ok (n:=capD y.data.toList 1099511627777) hsh hn
     rw [parseS,if_neg (by simp [h3])]
     rw [h3] at hd
     generalize 1099511627776 / 2 ^ sh = Q at hsr hs2 ⊢
     generalize capD y.data.toList 1099511627777 = K at hv hs2 ⊢
     by_cases h4 : Q < K
     ·rw [if_pos h4]
      have h4' : (Q : Int) < (K : Int):=by exact_mod_cast h4
      simp -implicitDefEqProofs (disch:=omega) only [vf66,vb66,h1',h2',w1,g0,hgc,hix,g1,g2,w2,w3,hle,hyx,hd,hv,hsr,h4',go_sem,↓reduceIte,rA,rS,rE,rL,reduceCtorEq]
     ·rw [if_neg h4]
      have h4' : ¬ (Q : Int) < (K : Int):=by exact_mod_cast h4
      have hsl:=hs2 (Nat.le_of_not_lt h4)
      simp -implicitDefEqProofs (disch:=omega) only [vf66,vb66,h1',h2',w1,g0,hgc,hix,g1,g2,w2,w3,hle,hyx,hd,hv,hsr,h4',hsl,go_sem,↓reduceIte,rA,rS,rE,rL,reduceCtorEq]
    ·have h3' : digB y.data.toList = false:=by simpa using h3
     rw [parseS,if_pos h3']
     rw [h3'] at hd
     simp -implicitDefEqProofs (disch:=omega) only [vf66,vb66,h1',h2',w1,g0,hgc,hix,g1,g2,w2,w3,hle,hyx,hd,go_sem,↓reduceIte,rA,rS,rE,rL,reduceCtorEq]
end Go.V
namespace Go.V
theorem decB_size (n : Int) : (decB n).length = (itoaS n).size:=rfl
theorem dec_len3 {u : Nat} (h : u < 1000) : (Lib.decDigits u).length <= 3:=by
 by_cases h1 : u < 10
 ·rw [dec_small h1]; simp
 ·rw [dec_step (by omega)]
  by_cases h2 : u / 10 < 10
  .rw [dec_small h2]; simp
  .rw [dec_step (by omega),dec_small (by omega)]; simp
set_option maxHeartbeats 1000000 in
theorem formatH_eq (n : Int) (h : -9223372036854775808 <= n /\ n <= 9223372036854775807) : V 69 [.p (.int .i64 n)] [] = some (.tup [.p (.str (bsL (formatH n).1)),.p (.int .i64 (formatH n).2)],[]):=by
 refine V_wp (vf:=vf69) rfl ?_
 unfold formatH
 by_cases h1 : n = 10000
 ·subst h1
  simp -implicitDefEqProofs (disch:=omega) only [vf69,vb69,go_sem,↓reduceIte,rA,rS,rE,rL,reduceCtorEq]
 ·rw [if_neg h1]
  by_cases h2 : n < 0
  ·rw [if_pos (.inl h2)]
   simp -implicitDefEqProofs (disch:=omega) only [vf69,vb69,h1,h2,go_sem,↓reduceIte,rA,rS,rE,rL,reduceCtorEq]
  ·by_cases h3 : 10000 < n
   ·rw [if_pos (.inr h3)]
    simp -implicitDefEqProofs (disch:=omega) only [vf69,vb69,h1,h2,h3,go_sem,↓reduceIte,rA,rS,rE,rL,reduceCtorEq]
   ·rw [if_neg (by omega)]
    have ht : n.tmod 100 = n % 100:=Int.tmod_eq_emod_of_nonneg (by omega)
    have hq : n.tdiv 100 = n / 100:=Int.tdiv_eq_ediv_of_nonneg (by omega)
    have i1:=itoa_x (n:=100 + n % 100) (by omega) (by omega)
    have i2:=itoa_x (n:=n / 100) (by omega) (by omega)
    have w1 : IntKind.i64.wrap (100 + n % 100) = 100 + n % 100:=wrap64 (by omega) (by omega)
    have w2 : IntKind.i64.wrap (n / 100) = n / 100:=wrap64 (by omega) (by omega)
    rw [ht,hq]
    have l1 : (itoaS (n / 100)).size <= 3:=by
     rw [<- decB_size,decB,itoa_pos (by omega)]
     exact dec_len3 (by omega)
    have l2 : (itoaS (100 + n % 100)).size = 3:=by
     rw [<- decB_size,decB,itoa_pos (by omega),show (100 + n % 100).toNat = 100 + (n % 100).toNat by omega]
     have:=congrArg List.length (dec_hund (r:=(n % 100).toNat) (by omega))
     simp at this
     omega
    have e1 : (itoaS (n / 100)).data.toList = decB (n / 100):=rfl
    have e2 : (itoaS (100 + n % 100)).data.toList = decB (100 + n % 100):=rfl
    generalize itoaS (n / 100) = A at i2 l1 e1
    generalize itoaS (100 + n % 100) = B at i1 l2 e2
    have g1 : A.size + (⟨#[46]⟩ : ByteArray).size <= 9223372036854775807:=by show A.size + 1 <= _; omega
    have g2 : 1 <= B.size:=by omega
    have g3 : (A ++ (⟨#[46]⟩ : ByteArray)).size + (B.extract (Int.toNat 1) B.size).size <= 9223372036854775807:=by
     rw [ByteArray.size_append,ByteArray.size_extract]
     have : (⟨#[46]⟩ : ByteArray).size = 1:=rfl
     omega
    have hfin : A ++ (⟨#[46]⟩ : ByteArray) ++ B.extract (Int.toNat 1) B.size = bsL (decB (n / 100) ++ [46] ++ (decB (100 + n % 100)).drop 1):=by
     apply byt_ext
     rw [ByteArray.data_append,ByteArray.data_append,Array.toList_append,Array.toList_append,Lib.extract_data,e1,e2]
     simp [bsL]
     rw [ltl]
     simp [<- e2]
    simp -implicitDefEqProofs (disch:=omega) only [vf69,vb69,h1,h2,h3,ht,hq,i1,i2,w1,w2,g1,g2,g3,hfin,go_sem,↓reduceIte,rA,rS,rE,rL,reduceCtorEq]
theorem cut_parts {l : List UInt8} (h : asciiB l = true) : asciiB (Lib.cut l [46]).1 = true /\ asciiB (Lib.cut l [46]).2.1 = true /\ (Lib.cut l [46]).1.length <= l.length /\ (Lib.cut l [46]).2.1.length <= l.length /\ ((Lib.cut l [46]).2.2 = false -> (Lib.cut l [46]).2.1 = []):=by
 have h' : ∀ c ∈ l,decide (c.toNat < 128) = true:=List.all_eq_true.1 h
 unfold Lib.cut
 split
 ·refine ⟨List.all_eq_true.2 fun c hc=>h' c (List.mem_of_mem_take hc),List.all_eq_true.2 fun c hc=>h' c (List.mem_of_mem_drop hc),?_,?_,by simp⟩
  .simp only [llt]; omega
  .simp only [lld]; omega
 .exact ⟨h,rfl,lrf _,Nat.zero_le _,fun _=>rfl⟩
set_option maxHeartbeats 4000000 in
theorem parseH_eq (x : ByteArray) (hs : x.size < 1000000) (ha : asciiB x.data.toList = true) : V 71 [.p (.str x)] [] = some (.tup [.p (.int .i64 (parseH x.data.toList).1),.p (.int .i64 (parseH x.data.toList).2)],[]):=by
 refine V_wp (vf:=vf71) rfl ?_
 have hmx : (x = ⟨#[109,97,120]⟩) = (x.data.toList = [109,97,120]):=by
  apply propext
  exact ⟨fun e=>by rw [e],fun e=>byt_ext e⟩
 unfold parseH
 by_cases h1 : x.data.toList = [109,97,120]
 ·have e : x = ⟨#[109,97,120]⟩:=byt_ext h1
  subst e
  simp -implicitDefEqProofs (disch:=omega) only [vf71,vb71,go_sem,↓reduceIte,rA,rS,rE,rL,reduceCtorEq]
 ·have h1' : ¬ x = ⟨#[109,97,120]⟩:=by rw [hmx]; exact h1
  rw [if_neg h1]
  have hc:=@cut_x x ⟨#[46]⟩ (by omega)
  have hcc : cutS x ⟨#[46]⟩ = Lib.cut x.data.toList [46]:=rfl
  rw [hcc] at hc
  obtain ⟨hF,hK,hlF,hlK,hpK⟩:=cut_parts ha
  have hln : x.data.toList.length = x.size:=rfl
  rw [hln] at hlF hlK
  generalize (Lib.cut x.data.toList [46]).1 = F at hc hF hlF ⊢
  generalize (Lib.cut x.data.toList [46]).2.1 = K at hc hK hlK hpK ⊢
  generalize (Lib.cut x.data.toList [46]).2.2 = pt at hc hpK ⊢
  have hc' : V 82 [.p (.str x),.p (.str ⟨#[46]⟩)] [] = some (.tup [.p (.str (bsL F)),.p (.str (bsL K)),.p (.bool pt)],[]):=hc
  clear hc
  have hdF:=digits_eq (bsL F) (by simpa [bsL] using hF)
  have hdK:=digits_eq (bsL K) (by simpa [bsL] using hK)
  have hbF : (bsL F).data.toList = F:=by simp [bsL]
  have hbK : (bsL K).data.toList = K:=by simp [bsL]
  rw [hbF] at hdF
  rw [hbK] at hdK
  have key : (digB F = true /\ (pt = true -> digB K = true /\ K.length <= 2)) \/ (!digB F || pt && (!digB K || decide (2 < K.length))) = true:=by
   cases digB F <;> cases pt <;> cases digB K <;> simp <;> omega
  rcases key with ⟨k1,k2⟩ | k1
  ·have kk : ¬ (!digB F || pt && (!digB K || decide (2 < K.length))) = true:=by
    rw [k1]
    cases pt
    ·simp
    ·obtain ⟨k3,k4⟩:=k2 rfl
     simp [k3,k4]
   rw [if_neg kk]
   have hvF : V 80 [.p (.str (bsL F)),.p (.int .i64 10000)] [] = _:=value_eq (bsL F) 10000 (by omega) (by rw [hbF]; exact digB_all k1)
   have haK : (hund2 K).all isD = true:=by
    have : K.all isD = true:=by
     cases pt
     ·rw [hpK rfl]; rfl
     ·exact digB_all (k2 rfl).1
    rw [List.all_eq_true] at this ⊢
    intro c hcm
    rcases lmp.1 (List.mem_of_mem_take hcm) with hm | hm
    ·exact this c hm
    ·simp at hm; subst hm; rfl
   have hvK : V 80 [.p (.str (bsL (hund2 K))),.p (.int .i64 10000)] [] = _:=value_eq (bsL (hund2 K)) 10000 (by omega) (by simpa [bsL] using haK)
   rw [hbF] at hvF
   have hbh : (bsL (hund2 K)).data.toList = hund2 K:=by simp [bsL]
   rw [hbh] at hvK
   have m1 : capD F 10000 <= 10000:=Nat.min_le_right _ _
   have m2 : capD (hund2 K) 10000 <= 10000:=Nat.min_le_right _ _
   generalize capD F 10000 = A at hvF m1 ⊢
   generalize capD (hund2 K) 10000 = B at hvK m2 ⊢
   have s1 : (bsL K).size + (⟨#[48,48]⟩ : ByteArray).size <= 9223372036854775807:=by rw [size_bs]; show K.length + 2 <= _; omega
   have s2 : 2 <= (bsL K ++ (⟨#[48,48]⟩ : ByteArray)).size:=by rw [ByteArray.size_append]; show 2 <= _ + 2; omega
   have s3 : (bsL K ++ (⟨#[48,48]⟩ : ByteArray)).extract 0 (Int.toNat 2) = bsL (hund2 K):=by
    apply byt_ext
    rw [Lib.extract_data,ByteArray.data_append,Array.toList_append,hbK,hbh]
    rfl
   have w1 : IntKind.i64.wrap ((A : Int) * 100) = (A : Int) * 100:=wrap64 (by omega) (by omega)
   have w2 : IntKind.i64.wrap ((A : Int) * 100 + (B : Int)) = (A : Int) * 100 + (B : Int):=wrap64 (by omega) (by omega)
   have ev : ((A * 100 + B : Nat) : Int) = (A : Int) * 100 + (B : Int):=by push_cast; rfl
   generalize hN : (A : Int) * 100 + (B : Int) = N at w2 ev
   by_cases h4 : 10000 < N
   ·rw [if_pos (show 10000 < A * 100 + B by omega)]
    cases pt
    ·simp -implicitDefEqProofs (disch:=omega) only [vf71,vb71,h1',hc',hdF,hdK,k1,hvF,hvK,s1,s2,s3,w1,w2,hN,h4,ev,go_sem,↓reduceIte,rA,rS,rE,rL,reduceCtorEq]
    ·obtain ⟨k3,k4⟩:=k2 rfl
     have k5 : ¬ (2 : Int) < (K.length : Int):=by omega
     simp -implicitDefEqProofs (disch:=omega) only [vf71,vb71,h1',hc',hdF,hdK,k1,k3,k5,size_bs,hvF,hvK,s1,s2,s3,w1,w2,hN,h4,ev,go_sem,↓reduceIte,rA,rS,rE,rL,reduceCtorEq]
   ·rw [if_neg (show ¬ 10000 < A * 100 + B by omega)]
    cases pt
    ·simp -implicitDefEqProofs (disch:=omega) only [vf71,vb71,h1',hc',hdF,hdK,k1,hvF,hvK,s1,s2,s3,w1,w2,hN,h4,ev,go_sem,↓reduceIte,rA,rS,rE,rL,reduceCtorEq]
    ·obtain ⟨k3,k4⟩:=k2 rfl
     have k5 : ¬ (2 : Int) < (K.length : Int):=by omega
     simp -implicitDefEqProofs (disch:=omega) only [vf71,vb71,h1',hc',hdF,hdK,k1,k3,k5,size_bs,hvF,hvK,s1,s2,s3,w1,w2,hN,h4,ev,go_sem,↓reduceIte,rA,rS,rE,rL,reduceCtorEq]
  ·rw [if_pos k1]
   by_cases k2 : digB F = true
   ·have k3 : pt = true:=by revert k1; rw [k2]; cases pt <;> simp
    subst k3
    by_cases k4 : digB K = true
    ·have k5 : (2 : Int) < (K.length : Int):=by
      rw [k2,k4] at k1; simp at k1; omega
     simp -implicitDefEqProofs (disch:=omega) only [vf71,vb71,h1',hc',hdF,hdK,k2,k4,k5,size_bs,go_sem,↓reduceIte,rA,rS,rE,rL,reduceCtorEq]
    ·have k4' : digB K = false:=by simpa using k4
     simp -implicitDefEqProofs (disch:=omega) only [vf71,vb71,h1',hc',hdF,hdK,k2,k4',size_bs,go_sem,↓reduceIte,rA,rS,rE,rL,reduceCtorEq]
   ·have k2' : digB F = false:=by simpa using k2
    simp -implicitDefEqProofs (disch:=omega) only [vf71,vb71,h1',hc',hdF,k2',go_sem,↓reduceIte,rA,rS,rE,rL,reduceCtorEq]
end Go.V
namespace Go.V
abbrev oneC (nm : ByteArray) (c : Int) (mx : Bool) (f : Nat) : List VVal:=[.p (.str nm),.p (.int .i64 c),.p (.clo 63 [.agg [.fn f]]),.p (.clo 65 [.agg [.bool mx],.agg [.fn f]])]
abbrev shareC (nm : ByteArray) (f : Nat) : List VVal:=[.p (.str nm),.p (.int .i64 1),.p (.clo 68 [.agg [.fn f]]),.p (.clo 70 [.agg [.fn f]])]
abbrev setC (nm : ByteArray) (m : Int) (f : Nat) : List VVal:=[.p (.str nm),.p (.int .i64 16),.p (.clo 72 [.agg [.fn f]]),.p (.clo 74 [.agg [.int .i64 m],.agg [.fn f]])]
set_option maxHeartbeats 1000000 in
theorem one_eq (nm : ByteArray) (c : Int) (mx : Bool) (f : Nat) : V 48 [.p (.str nm),.p (.int .i64 c),.p (.bool mx),.p (.fn f)] [] = some (.agg (oneC nm c mx f),[]):=by
 refine V_wp (vf:=vf48) rfl ?_
 simp -implicitDefEqProofs (disch:=omega) only [vf48,vb48,go_sem,↓reduceIte,rA,rS,rE,rL,reduceCtorEq]
set_option maxHeartbeats 1000000 in
theorem share_eq (nm : ByteArray) (f : Nat) : V 54 [.p (.str nm),.p (.fn f)] [] = some (.agg (shareC nm f),[]):=by
 refine V_wp (vf:=vf54) rfl ?_
 simp -implicitDefEqProofs (disch:=omega) only [vf54,vb54,go_sem,↓reduceIte,rA,rS,rE,rL,reduceCtorEq]
set_option maxHeartbeats 1000000 in
theorem set_eq (nm : ByteArray) (m : Int) (f : Nat) : V 57 [.p (.str nm),.p (.int .i64 m),.p (.fn f)] [] = some (.agg (setC nm m f),[]):=by
 refine V_wp (vf:=vf57) rfl ?_
 simp -implicitDefEqProofs (disch:=omega) only [vf57,vb57,go_sem,↓reduceIte,rA,rS,rE,rL,reduceCtorEq]
abbrev nmF (k : Nat) : ByteArray:=match k with
 | 0=>⟨#[112,105,100,115,46,109,97,120]⟩
 | 1=>⟨#[99,112,117,46,119,101,105,103,104,116]⟩
 | 2=>⟨#[99,112,117,46,109,97,120]⟩
 | 3=>⟨#[99,112,117,46,109,97,120,46,98,117,114,115,116]⟩
 | 4=>⟨#[99,112,117,46,117,99,108,97,109,112,46,109,105,110]⟩
 | 5=>⟨#[99,112,117,46,117,99,108,97,109,112,46,109,97,120]⟩
 | 6=>⟨#[99,112,117,115,101,116,46,99,112,117,115]⟩
 | 7=>⟨#[99,112,117,115,101,116,46,109,101,109,115]⟩
 | _=>⟨#[99,112,117,115,101,116,46,99,112,117,115,46,112,97,114,116,105,116,105,111,110]⟩
abbrev ctF (k : Nat) : Int:=match k with
 | 0=>8
 | 1 | 2 | 3 | 4 | 5=>1
 | _=>16
abbrev rdP (k : Nat) : PV:=match k with
 | 0=>.clo 63 [.agg [.fn 49]]
 | 1=>.clo 63 [.agg [.fn 50]]
 | 2=>.fn 51
 | 3=>.clo 63 [.agg [.fn 53]]
 | 4=>.clo 68 [.agg [.fn 55]]
 | 5=>.clo 68 [.agg [.fn 56]]
 | 6=>.clo 72 [.agg [.fn 58]]
 | 7=>.clo 72 [.agg [.fn 59]]
 | _=>.fn 60
abbrev wrP (k : Nat) : PV:=match k with
 | 0=>.clo 65 [.agg [.bool true],.agg [.fn 49]]
 | 1=>.clo 65 [.agg [.bool false],.agg [.fn 50]]
 | 2=>.fn 52
 | 3=>.clo 65 [.agg [.bool false],.agg [.fn 53]]
 | 4=>.clo 70 [.agg [.fn 55]]
 | 5=>.clo 70 [.agg [.fn 56]]
 | 6=>.clo 74 [.agg [.int .i64 16],.agg [.fn 58]]
 | 7=>.clo 74 [.agg [.int .i64 8],.agg [.fn 59]]
 | _=>.fn 61
abbrev fileP (k : Nat) : PV:=.agg [.str (nmF k),.int .i64 (ctF k),rdP k,wrP k]
def tabL : List PV:=[fileP 0,fileP 1,fileP 2,fileP 3,fileP 4,fileP 5,fileP 6,fileP 7,fileP 8]
set_option maxHeartbeats 4000000 in
theorem table_eq : V 38 [] [] = some (.fresh 4 tabL,[]):=by
 refine V_wp (vf:=vf38) rfl ?_
 simp -implicitDefEqProofs (disch:=omega) only [vf38,vb38,one_eq,share_eq,set_eq,go_sem,↓reduceIte,rA,rS,rE,rL,reduceCtorEq]
 rfl
theorem tab_len : tabL.length = 9:=rfl
theorem tab_get {k : Nat} (h : k < 9) : tabL[k]? = some (fileP k):=by
 have hc : (k = 0 \/ k = 1 \/ k = 2 \/ k = 3 \/ k = 4 \/ k = 5 \/ k = 6 \/ k = 7 \/ k = 8):=by omega
 rcases hc with rfl | rfl | rfl | rfl | rfl | rfl | rfl | rfl | rfl <;> rfl
end Go.V
namespace Go.V
abbrev fileV (k : Nat) : VVal:=.agg [.p (.str (nmF k)),.p (.int .i64 (ctF k)),.p (rdP k),.p (wrP k)]
theorem nm_ne {i g : Nat} (h : i < g) (hg : g < 9) : ¬ nmF i = nmF g:=by
 have hc : (g = 0 \/ g = 1 \/ g = 2 \/ g = 3 \/ g = 4 \/ g = 5 \/ g = 6 \/ g = 7 \/ g = 8):=by omega
 have hd : (i = 0 \/ i = 1 \/ i = 2 \/ i = 3 \/ i = 4 \/ i = 5 \/ i = 6 \/ i = 7 \/ i = 8):=by omega
 intro e
 have e2 : (nmF i).data.toList = (nmF g).data.toList:=by rw [e]
 rcases hc with rfl | rfl | rfl | rfl | rfl | rfl | rfl | rfl | rfl <;> rcases hd with rfl | rfl | rfl | rfl | rfl | rfl | rfl | rfl | rfl <;> first | omega | (revert e2; decide)
set_option maxHeartbeats 4000000 in
theorem find_eq {g : Nat} (hk : g < 9) : V 26 [.p (.str (nmF g))] [] = some (.tup [fileV g,.p (.bool true)],[]):=by
 refine V_wp (vf:=vf26) rfl ?_
 have ht:=table_eq
 have hl:=tab_len
 have hg:=@tab_get
 have hne:=fun i (h : i < g)=>nm_ne h hk
 generalize tabL = L at ht hl hg
 simp -implicitDefEqProofs (disch:=omega) only [vf26,vb26,ht,hl,go_sem,↓reduceIte,rA,rS,rE,rL,reduceCtorEq]
 obtain ⟨I,hI⟩ : ∃ I : Nat -> St -> Prop,∀ k s,I k s ↔ k <= g /\ s.pe 0 = .p (.str (nmF g)) /\ s.pe 2 = .ptr (.slot 2 0) 0 0 /\ s.pe 6 = .own (.slot 6 1) 0 0 9 /\ s.pe 7 = .p (.int .i64 9) /\ s.pe 8 = .p (.int .i64 k) /\ s.h (.slot 2 0) = some (0,Ob.box [.p (.str ⟨#[]⟩),.p (.int .i64 0),.p .nilp,.p .nilp]) /\ s.h (.slot 6 1) = some (0,Ob.arr 4 L):=⟨_,fun _ _=>Iff.rfl⟩
 refine wp_count (9) I ?_ ?_
 ·refine (hI _ _).2 ⟨?_,?_,?_,?_,?_,?_,?_,?_⟩
  .exact Nat.zero_le _
  all_goals exact cl0
 intro k s hk hIk
 obtain ⟨ha,h0,h2,h6,h7,h8,hh2_0,hh6_1⟩:=(hI _ _).1 hIk
 clear hIk
 have hlt : (k : Int) < 9:=by omega
 have hc:=hg (k:=k) (by omega)
 by_cases e : k = g
 ·subst e
  simp -implicitDefEqProofs (disch:=omega) only [h0,h2,h6,h7,h8,hh2_0,hh6_1,hlt,hc,go_sem,↓reduceIte,rA,rS,rE,rL,reduceCtorEq]
 ·have hn:=hne k (by omega)
  have w1 : IntKind.i64.wrap ((k : Int) + 1) = ((k + 1 : Nat) : Int):=wrap64 (by omega) (by omega)
  simp -implicitDefEqProofs (disch:=omega) only [h0,h2,h6,h7,h8,hh2_0,hh6_1,hlt,hc,hn,w1,go_sem,↓reduceIte,rA,rS,rE,rL,reduceCtorEq]
  try refine And.intro (by omega) ?_
  refine (hI _ _).2 ⟨?_,?_,?_,?_,?_,?_,?_,?_⟩
  .omega
  all_goals exact cl0
end Go.V
namespace Go.V
theorem fld0_eq {d0 d1 d2 d3 d4 d5 d6 d7 d8 d9 d10 d11 d12 d13 d14 d15 d16 : PV} : V 49 [.ptr (.arg 0 0) 0 0] [.box [.p d0,.p d1,.p d2,.p d3,.p d4,.p d5,.p d6,.p d7,.p d8,.p d9,.p d10,.p d11,.p d12,.p d13,.p d14,.p d15,.p d16]] = some (.ptr (.arg 0 0) 0 0,[.box [.p d0,.p d1,.p d2,.p d3,.p d4,.p d5,.p d6,.p d7,.p d8,.p d9,.p d10,.p d11,.p d12,.p d13,.p d14,.p d15,.p d16]]):=by
 refine V_wp (vf:=vf49) rfl ?_
 simp -implicitDefEqProofs (disch:=omega) only [vf49,vb49,go_sem,↓reduceIte,rA,rS,rE,rL,reduceCtorEq]
theorem fld1_eq {d0 d1 d2 d3 d4 d5 d6 d7 d8 d9 d10 d11 d12 d13 d14 d15 d16 : PV} : V 50 [.ptr (.arg 0 0) 0 0] [.box [.p d0,.p d1,.p d2,.p d3,.p d4,.p d5,.p d6,.p d7,.p d8,.p d9,.p d10,.p d11,.p d12,.p d13,.p d14,.p d15,.p d16]] = some (.ptr (.arg 0 0) 0 1,[.box [.p d0,.p d1,.p d2,.p d3,.p d4,.p d5,.p d6,.p d7,.p d8,.p d9,.p d10,.p d11,.p d12,.p d13,.p d14,.p d15,.p d16]]):=by
 refine V_wp (vf:=vf50) rfl ?_
 simp -implicitDefEqProofs (disch:=omega) only [vf50,vb50,go_sem,↓reduceIte,rA,rS,rE,rL,reduceCtorEq]
theorem fld4_eq {d0 d1 d2 d3 d4 d5 d6 d7 d8 d9 d10 d11 d12 d13 d14 d15 d16 : PV} : V 53 [.ptr (.arg 0 0) 0 0] [.box [.p d0,.p d1,.p d2,.p d3,.p d4,.p d5,.p d6,.p d7,.p d8,.p d9,.p d10,.p d11,.p d12,.p d13,.p d14,.p d15,.p d16]] = some (.ptr (.arg 0 0) 0 4,[.box [.p d0,.p d1,.p d2,.p d3,.p d4,.p d5,.p d6,.p d7,.p d8,.p d9,.p d10,.p d11,.p d12,.p d13,.p d14,.p d15,.p d16]]):=by
 refine V_wp (vf:=vf53) rfl ?_
 simp -implicitDefEqProofs (disch:=omega) only [vf53,vb53,go_sem,↓reduceIte,rA,rS,rE,rL,reduceCtorEq]
theorem fld5_eq {d0 d1 d2 d3 d4 d5 d6 d7 d8 d9 d10 d11 d12 d13 d14 d15 d16 : PV} : V 55 [.ptr (.arg 0 0) 0 0] [.box [.p d0,.p d1,.p d2,.p d3,.p d4,.p d5,.p d6,.p d7,.p d8,.p d9,.p d10,.p d11,.p d12,.p d13,.p d14,.p d15,.p d16]] = some (.ptr (.arg 0 0) 0 5,[.box [.p d0,.p d1,.p d2,.p d3,.p d4,.p d5,.p d6,.p d7,.p d8,.p d9,.p d10,.p d11,.p d12,.p d13,.p d14,.p d15,.p d16]]):=by
 refine V_wp (vf:=vf55) rfl ?_
 simp -implicitDefEqProofs (disch:=omega) only [vf55,vb55,go_sem,↓reduceIte,rA,rS,rE,rL,reduceCtorEq]
theorem fld6_eq {d0 d1 d2 d3 d4 d5 d6 d7 d8 d9 d10 d11 d12 d13 d14 d15 d16 : PV} : V 56 [.ptr (.arg 0 0) 0 0] [.box [.p d0,.p d1,.p d2,.p d3,.p d4,.p d5,.p d6,.p d7,.p d8,.p d9,.p d10,.p d11,.p d12,.p d13,.p d14,.p d15,.p d16]] = some (.ptr (.arg 0 0) 0 6,[.box [.p d0,.p d1,.p d2,.p d3,.p d4,.p d5,.p d6,.p d7,.p d8,.p d9,.p d10,.p d11,.p d12,.p d13,.p d14,.p d15,.p d16]]):=by
 refine V_wp (vf:=vf56) rfl ?_
 simp -implicitDefEqProofs (disch:=omega) only [vf56,vb56,go_sem,↓reduceIte,rA,rS,rE,rL,reduceCtorEq]
theorem fld7_eq {d0 d1 d2 d3 d4 d5 d6 d7 d8 d9 d10 d11 d12 d13 d14 d15 d16 : PV} : V 58 [.ptr (.arg 0 0) 0 0] [.box [.p d0,.p d1,.p d2,.p d3,.p d4,.p d5,.p d6,.p d7,.p d8,.p d9,.p d10,.p d11,.p d12,.p d13,.p d14,.p d15,.p d16]] = some (.ptr (.arg 0 0) 0 7,[.box [.p d0,.p d1,.p d2,.p d3,.p d4,.p d5,.p d6,.p d7,.p d8,.p d9,.p d10,.p d11,.p d12,.p d13,.p d14,.p d15,.p d16]]):=by
 refine V_wp (vf:=vf58) rfl ?_
 simp -implicitDefEqProofs (disch:=omega) only [vf58,vb58,go_sem,↓reduceIte,rA,rS,rE,rL,reduceCtorEq]
theorem fld8_eq {d0 d1 d2 d3 d4 d5 d6 d7 d8 d9 d10 d11 d12 d13 d14 d15 d16 : PV} : V 59 [.ptr (.arg 0 0) 0 0] [.box [.p d0,.p d1,.p d2,.p d3,.p d4,.p d5,.p d6,.p d7,.p d8,.p d9,.p d10,.p d11,.p d12,.p d13,.p d14,.p d15,.p d16]] = some (.ptr (.arg 0 0) 0 8,[.box [.p d0,.p d1,.p d2,.p d3,.p d4,.p d5,.p d6,.p d7,.p d8,.p d9,.p d10,.p d11,.p d12,.p d13,.p d14,.p d15,.p d16]]):=by
 refine V_wp (vf:=vf59) rfl ?_
 simp -implicitDefEqProofs (disch:=omega) only [vf59,vb59,go_sem,↓reduceIte,rA,rS,rE,rL,reduceCtorEq]
theorem rd0_eq {d1 d2 d3 d4 d5 d6 d7 d8 d9 d10 d11 d12 d13 d14 d15 d16 : PV} {n : Int} (h : -9223372036854775808 <= n /\ n <= 9223372036854775807) : V 63 [.agg [.p (.int .i64 n),.p d1,.p d2,.p d3,.p d4,.p d5,.p d6,.p d7,.p d8,.p d9,.p d10,.p d11,.p d12,.p d13,.p d14,.p d15,.p d16],.vptr [.fn 49] 0] [] = some (.tup [.p (.str (bsL (formatN n).1)),.p (.int .i64 (formatN n).2)],[]):=by
 refine V_wp (vf:=vf63) rfl ?_
 have h2:=format_eq n h
 simp -implicitDefEqProofs (disch:=omega) only [vf63,vb63,fld0_eq,h2,go_sem,↓reduceIte,rA,rS,rE,rL,reduceCtorEq]
theorem rd1_eq {d0 d2 d3 d4 d5 d6 d7 d8 d9 d10 d11 d12 d13 d14 d15 d16 : PV} {n : Int} (h : -9223372036854775808 <= n /\ n <= 9223372036854775807) : V 63 [.agg [.p d0,.p (.int .i64 n),.p d2,.p d3,.p d4,.p d5,.p d6,.p d7,.p d8,.p d9,.p d10,.p d11,.p d12,.p d13,.p d14,.p d15,.p d16],.vptr [.fn 50] 0] [] = some (.tup [.p (.str (bsL (formatN n).1)),.p (.int .i64 (formatN n).2)],[]):=by
 refine V_wp (vf:=vf63) rfl ?_
 have h2:=format_eq n h
 simp -implicitDefEqProofs (disch:=omega) only [vf63,vb63,fld1_eq,h2,go_sem,↓reduceIte,rA,rS,rE,rL,reduceCtorEq]
theorem rd3_eq {d0 d1 d2 d3 d5 d6 d7 d8 d9 d10 d11 d12 d13 d14 d15 d16 : PV} {n : Int} (h : -9223372036854775808 <= n /\ n <= 9223372036854775807) : V 63 [.agg [.p d0,.p d1,.p d2,.p d3,.p (.int .i64 n),.p d5,.p d6,.p d7,.p d8,.p d9,.p d10,.p d11,.p d12,.p d13,.p d14,.p d15,.p d16],.vptr [.fn 53] 0] [] = some (.tup [.p (.str (bsL (formatN n).1)),.p (.int .i64 (formatN n).2)],[]):=by
 refine V_wp (vf:=vf63) rfl ?_
 have h2:=format_eq n h
 simp -implicitDefEqProofs (disch:=omega) only [vf63,vb63,fld4_eq,h2,go_sem,↓reduceIte,rA,rS,rE,rL,reduceCtorEq]
theorem rd4_eq {d0 d1 d2 d3 d4 d6 d7 d8 d9 d10 d11 d12 d13 d14 d15 d16 : PV} {n : Int} (h : -9223372036854775808 <= n /\ n <= 9223372036854775807) : V 68 [.agg [.p d0,.p d1,.p d2,.p d3,.p d4,.p (.int .i64 n),.p d6,.p d7,.p d8,.p d9,.p d10,.p d11,.p d12,.p d13,.p d14,.p d15,.p d16],.vptr [.fn 55] 0] [] = some (.tup [.p (.str (bsL (formatH n).1)),.p (.int .i64 (formatH n).2)],[]):=by
 refine V_wp (vf:=vf68) rfl ?_
 have h2:=formatH_eq n h
 simp -implicitDefEqProofs (disch:=omega) only [vf68,vb68,fld5_eq,h2,go_sem,↓reduceIte,rA,rS,rE,rL,reduceCtorEq]
theorem rd5_eq {d0 d1 d2 d3 d4 d5 d7 d8 d9 d10 d11 d12 d13 d14 d15 d16 : PV} {n : Int} (h : -9223372036854775808 <= n /\ n <= 9223372036854775807) : V 68 [.agg [.p d0,.p d1,.p d2,.p d3,.p d4,.p d5,.p (.int .i64 n),.p d7,.p d8,.p d9,.p d10,.p d11,.p d12,.p d13,.p d14,.p d15,.p d16],.vptr [.fn 56] 0] [] = some (.tup [.p (.str (bsL (formatH n).1)),.p (.int .i64 (formatH n).2)],[]):=by
 refine V_wp (vf:=vf68) rfl ?_
 have h2:=formatH_eq n h
 simp -implicitDefEqProofs (disch:=omega) only [vf68,vb68,fld6_eq,h2,go_sem,↓reduceIte,rA,rS,rE,rL,reduceCtorEq]
theorem rd6_eq {d0 d1 d2 d3 d4 d5 d6 d8 d9 d10 d11 d12 d13 d14 d15 d16 : PV} {l : List Int} (hl : l.length < 1000000) (ha : Asc l) (hb : ∀ x ∈ l,0 <= x /\ x < 999999999) : V 72 [.agg [.p d0,.p d1,.p d2,.p d3,.p d4,.p d5,.p d6,.p (intsP l),.p d8,.p d9,.p d10,.p d11,.p d12,.p d13,.p d14,.p d15,.p d16],.vptr [.fn 58] 0] [] = some (.tup [.p (.str (setTxt l)),.p (.int .i64 0)],[]):=by
 refine V_wp (vf:=vf72) rfl ?_
 have h2:=sformat_eq l hl ha hb
 simp -implicitDefEqProofs (disch:=omega) only [vf72,vb72,fld7_eq,h2,go_sem,↓reduceIte,rA,rS,rE,rL,reduceCtorEq]
theorem rd7_eq {d0 d1 d2 d3 d4 d5 d6 d7 d9 d10 d11 d12 d13 d14 d15 d16 : PV} {l : List Int} (hl : l.length < 1000000) (ha : Asc l) (hb : ∀ x ∈ l,0 <= x /\ x < 999999999) : V 72 [.agg [.p d0,.p d1,.p d2,.p d3,.p d4,.p d5,.p d6,.p d7,.p (intsP l),.p d9,.p d10,.p d11,.p d12,.p d13,.p d14,.p d15,.p d16],.vptr [.fn 59] 0] [] = some (.tup [.p (.str (setTxt l)),.p (.int .i64 0)],[]):=by
 refine V_wp (vf:=vf72) rfl ?_
 have h2:=sformat_eq l hl ha hb
 simp -implicitDefEqProofs (disch:=omega) only [vf72,vb72,fld8_eq,h2,go_sem,↓reduceIte,rA,rS,rE,rL,reduceCtorEq]
theorem rd8_eq {d0 d1 d2 d3 d4 d5 d6 d7 d8 d10 d11 d12 d13 d14 d15 d16 : PV} {n : Int} : V 60 [.agg [.p d0,.p d1,.p d2,.p d3,.p d4,.p d5,.p d6,.p d7,.p d8,.p (.int .i64 n),.p d10,.p d11,.p d12,.p d13,.p d14,.p d15,.p d16]] [] = some (.tup [.p (.str (if n = 1 then ⟨#[114,111,111,116]⟩ else ⟨#[109,101,109,98,101,114]⟩)),.p (.int .i64 0)],[]):=by
 refine V_wp (vf:=vf60) rfl ?_
 by_cases h : n = 1
 ·subst h
  simp -implicitDefEqProofs (disch:=omega) only [vf60,vb60,go_sem,↓reduceIte,rA,rS,rE,rL,reduceCtorEq]
 .simp -implicitDefEqProofs (disch:=omega) only [vf60,vb60,h,go_sem,↓reduceIte,rA,rS,rE,rL,reduceCtorEq]
theorem rd2_eq {d0 d1 d4 d5 d6 d7 d8 d9 d10 d11 d12 d13 d14 d15 d16 : PV} {q p : Int} (hq : (0 <= q /\ q <= 1099511627776) \/ q = maxI) (hp : (0 <= p /\ p <= 1099511627776) \/ p = maxI) : V 51 [.agg [.p d0,.p d1,.p (.int .i64 q),.p (.int .i64 p),.p d4,.p d5,.p d6,.p d7,.p d8,.p d9,.p d10,.p d11,.p d12,.p d13,.p d14,.p d15,.p d16]] [] = some (.tup [.p (.str (bsL (formatN q).1 ++ ⟨#[32]⟩ ++ bsL (formatN p).1)),.p (.int .i64 0)],[]):=by
 refine V_wp (vf:=vf51) rfl ?_
 have h1:=format_eq q (by unfold maxI at hq; omega)
 have h2:=format_eq p (by unfold maxI at hp; omega)
 have l1:=(fmt_line hq).2.2.2
 have l2:=(fmt_line hp).2.2.2
 rw [(parse_format hq).1] at h1
 rw [(parse_format hp).1] at h2
 rw [<- size_bs] at l1 l2
 generalize bsL (formatN q).1 = A at h1 l1 ⊢
 generalize bsL (formatN p).1 = B at h2 l2 ⊢
 have g1 : A.size + (⟨#[32]⟩ : ByteArray).size <= 9223372036854775807:=by show A.size + 1 <= _; omega
 have g2 : (A ++ (⟨#[32]⟩ : ByteArray)).size + B.size <= 9223372036854775807:=by rw [ByteArray.size_append]; show A.size + 1 + B.size <= _; omega
 simp -implicitDefEqProofs (disch:=omega) only [vf51,vb51,h1,h2,g1,g2,go_sem,↓reduceIte,rA,rS,rE,rL,reduceCtorEq]
end Go.V
namespace Go.V
theorem within_eq (n lo hi : Int) : V 42 [.p (.int .i64 n),.p (.int .i64 lo),.p (.int .i64 hi)] [] = some (.p (.bool (inI n lo hi)),[]):=by
 refine V_wp (vf:=vf42) rfl ?_
 unfold inI
 by_cases h1 : lo <= n
 .simp -implicitDefEqProofs (disch:=omega) only [vf42,vb42,h1,go_sem,↓reduceIte,rA,rS,rE,rL,reduceCtorEq]
 .simp -implicitDefEqProofs (disch:=omega) only [vf42,vb42,h1,go_sem,↓reduceIte,rA,rS,rE,rL,reduceCtorEq]
theorem amount_eq (n lo hi : Int) : V 47 [.p (.int .i64 n),.p (.int .i64 lo),.p (.int .i64 hi)] [] = some (.p (.bool (inI n lo hi || decide (n = maxI))),[]):=by
 refine V_wp (vf:=vf47) rfl ?_
 unfold inI
 by_cases h1 : lo <= n
 ·by_cases h2 : n <= hi
  .simp -implicitDefEqProofs (disch:=omega) only [vf47,vb47,h1,h2,go_sem,↓reduceIte,rA,rS,rE,rL,reduceCtorEq]
  .simp -implicitDefEqProofs (disch:=omega) only [vf47,vb47,h1,h2,go_sem,↓reduceIte,rA,rS,rE,rL,reduceCtorEq]
 .simp -implicitDefEqProofs (disch:=omega) only [vf47,vb47,h1,go_sem,↓reduceIte,rA,rS,rE,rL,reduceCtorEq]
theorem amount_zero : V 47 [.p (.int .i64 0),.p (.int .i64 0),.p (.int .i64 1099511627776)] [] = some (.p (.bool true),[]):=amount_eq 0 0 1099511627776
theorem amount_max : V 47 [.p (.int .i64 4611686018427387904),.p (.int .i64 0),.p (.int .i64 1099511627776)] [] = some (.p (.bool true),[]):=amount_eq 4611686018427387904 0 1099511627776
abbrev memD : List VVal:=[.p (.int .i64 0),.p (.int .i64 0),.p (.int .i64 4611686018427387904),.p (.int .i64 4611686018427387904),.p (.int .i64 4611686018427387904),.p (.bool false)]
theorem cmem_eq : V 31 [.agg memD] [] = some (.p (.bool true),[]):=by
 refine V_wp (vf:=vf31) rfl ?_
 simp -implicitDefEqProofs (disch:=omega) only [vf31,vb31,amount_zero,amount_max,go_sem,↓reduceIte,rA,rS,rE,rL,reduceCtorEq]
set_option maxHeartbeats 1000000 in
theorem cdev_eq : V 32 [.p (.slice 7 [])] [] = some (.p (.bool true),[]):=by
 refine V_wp (vf:=vf32) rfl ?_
 simp -implicitDefEqProofs (disch:=omega) only [vf32,vb32,go_sem,↓reduceIte,rA,rS,rE,rL,reduceCtorEq]
 obtain ⟨I,hI⟩ : ∃ I : Nat -> St -> Prop,∀ k s,I k s ↔ s.pe 0 = .p (.slice 7 []) /\ s.pe 3 = .p (.int .i64 k):=⟨_,fun _ _=>Iff.rfl⟩
 refine wp_count (0) I ?_ ?_
 ·refine (hI _ _).2 ⟨?_,?_⟩
  all_goals exact cl0
 intro k s hk hIk
 obtain ⟨h0,h3⟩:=(hI _ _).1 hIk
 clear hIk
 have hn : ¬ (k : Int) < ((0 : Nat) : Int):=by omega
 have hz : ((0 : Nat) : Int) <= 8:=by omega
 simp -implicitDefEqProofs (disch:=omega) only [h0,h3,hn,hz,go_sem,↓reduceIte,rA,rS,rE,rL,reduceCtorEq]
theorem bandwidth_eq (s : Stg) {d0 d1 d5 d6 d7 d8 d9 d10 d11 d12 d13 d14 d15 d16 : PV} : V 43 [.agg [.p d0,.p d1,.p (.int .i64 s.quota),.p (.int .i64 s.period),.p (.int .i64 s.burst),.p d5,.p d6,.p d7,.p d8,.p d9,.p d10,.p d11,.p d12,.p d13,.p d14,.p d15,.p d16]] [] = some (.p (.bool (bandOk s)),[]):=by
 refine V_wp (vf:=vf43) rfl ?_
 have w:=within_eq
 unfold bandOk
 by_cases h1 : s.quota = maxI
 ·rw [if_pos h1,h1]
  cases h2 : inI s.period 1 1000000
  ·have w1:=w s.period 1 1000000
   rw [h2] at w1
   simp -implicitDefEqProofs (disch:=omega) only [vf43,vb43,w1,go_sem,↓reduceIte,rA,rS,rE,rL,reduceCtorEq]
  ·have w1:=w s.period 1 1000000
   rw [h2] at w1
   simp -implicitDefEqProofs (disch:=omega) only [vf43,vb43,w1,go_sem,↓reduceIte,rA,rS,rE,rL,reduceCtorEq]
 ·rw [if_neg h1]
  have w1:=w s.period 1 1000000
  have w2:=w s.quota 1 1000000
  have w3:=w s.burst 0 s.quota
  cases h2 : inI s.period 1 1000000
  ·rw [h2] at w1
   simp -implicitDefEqProofs (disch:=omega) only [vf43,vb43,h1,w1,go_sem,↓reduceIte,rA,rS,rE,rL,reduceCtorEq]
  ·rw [h2] at w1
   cases h3 : inI s.quota 1 1000000
   ·rw [h3] at w2
    simp -implicitDefEqProofs (disch:=omega) only [vf43,vb43,h1,w1,w2,go_sem,↓reduceIte,rA,rS,rE,rL,reduceCtorEq]
   ·rw [h3] at w2
    simp -implicitDefEqProofs (disch:=omega) only [vf43,vb43,h1,w1,w2,w3,go_sem,↓reduceIte,rA,rS,rE,rL,reduceCtorEq]
end Go.V
namespace Go.V
theorem ascOk_ii {l : List Int} {n : Int} : ascOk l n = true ↔ Asc l /\ ∀ x ∈ l,0 <= x /\ x < n:=by
 simp only [ascOk,bat,decide_eq_true_eq,List.all_eq_true]
theorem ascOk_take {l : List Int} {n : Int} (k : Nat) (h : ascOk l n = true) : ascOk (l.take k) n = true:=by
 rw [ascOk_ii] at h ⊢
 exact ⟨h.1.sublist (List.take_sublist _ _),fun x hx=>h.2 x (List.mem_of_mem_take hx)⟩
theorem ascOk_snoc {a : List Int} {x n : Int} : ascOk (a ++ [x]) n = true ↔ ascOk a n = true /\ (0 <= x /\ x < n) /\ ∀ y,a.getLast? = some y -> y < x:=by
 rw [ascOk_ii,ascOk_ii]
 constructor
 ·rintro ⟨h1,h2⟩
  rw [Asc,List.pairwise_append] at h1
  exact ⟨⟨h1.1,fun z hz=>h2 z (List.mem_append_left _ hz)⟩,h2 x (by simp),fun y hy=>h1.2.2 y (List.mem_of_getLast? hy) x (by simp)⟩
 ·rintro ⟨⟨h1,h2⟩,h3,h4⟩
  refine ⟨?_,fun z hz=>?_⟩
  ·rw [Asc,List.pairwise_append]
   refine ⟨h1,List.pairwise_singleton _ _,fun z hz w hw=>?_⟩
   have hw' : w = x:=by simpa using hw
   subst hw'
   rcases List.eq_nil_or_concat a with rfl | ⟨b,y,rfl⟩
   ·cases hz
   ·rw [List.concat_eq_append] at *
    have hy:=h4 y (by simp)
    rcases lmp.1 hz with hm | hm
    ·have:=(List.pairwise_append.1 h1).2.2 z hm y (by simp)
     omega
    ·have : z = y:=by simpa using hm
     omega
  ·rcases lmp.1 hz with hm | hm
   ·exact h2 z hm
   ·have : z = x:=by simpa using hm
    subst this
    exact h3
set_option maxHeartbeats 4000000 in
theorem valid_eq (l : List Int) (n : Int) (hl : l.length < 1000000) : V 44 [.p (intsP l),.p (.int .i64 n)] [] = some (.p (.bool (ascOk l n)),[]):=by
 refine V_wp (vf:=vf44) rfl ?_
 simp -implicitDefEqProofs (disch:=omega) only [vf44,vb44,go_sem,↓reduceIte,rA,rS,rE,rL,reduceCtorEq]
 obtain ⟨I,hI⟩ : ∃ I : Nat -> St -> Prop,∀ k s,I k s ↔ ascOk (l.take k) n = true /\ s.pe 0 = .p (intsP l) /\ s.pe 1 = .p (.int .i64 n) /\ s.pe 7 = .p (intsP l) /\ s.pe 8 = .p (.int .i64 ↑l.length) /\ s.pe 9 = .p (.int .i64 k):=⟨_,fun _ _=>Iff.rfl⟩
 refine wp_count (l.length) I ?_ ?_
 ·refine (hI _ _).2 ⟨?_,?_,?_,?_,?_,?_⟩
  ·exact by rw [List.take_zero]; rfl
  all_goals exact cl0
 intro k s hk hIk
 obtain ⟨ha,h0,h1,h7,h8,h9⟩:=(hI _ _).1 hIk
 clear hIk
 simp -implicitDefEqProofs (disch:=omega) only [h0,h1,h7,h8,h9,go_sem,↓reduceIte,rA,rS,rE,rL,reduceCtorEq]
 refine wp_if_d (fun hlt=>?_) (fun hge=>?_)
 ·have hm : l[k]? = some l[k]:=lgg hlt
  have htk:=take_snoc hm
  have hsn:=@ascOk_snoc (l.take k) l[k] n
  rw [<- htk] at hsn
  have hbad : ascOk (l.take (k + 1)) n = false -> ascOk l n = false:=fun h=>by
   cases e : ascOk l n
   ·rfl
   ·rw [ascOk_take (k + 1) e] at h; cases h
  have hmp : (l.map (PV.int .i64))[k]? = some (.int .i64 l[k]):=by simp [hm]
  have w1 : IntKind.i64.wrap ((k : Int) + 1) = ((k + 1 : Nat) : Int):=wrap64 (by omega) (by omega)
  generalize l[k] = x at hm htk hsn hmp
  have hb2 : ¬ ((0 <= x /\ x < n) /\ ∀ y,(l.take k).getLast? = some y -> y < x) -> ascOk l n = false:=fun h=>hbad (by
   cases e : ascOk (l.take (k + 1)) n
   ·rfl
   ·exact absurd (hsn.1 e).2 h)
  by_cases x0 : x < 0
  ·have hf:=hb2 (fun h=>by omega)
   simp -implicitDefEqProofs (disch:=omega) only [h0,h1,h7,h8,h9,hmp,w1,x0,hf,go_sem,↓reduceIte,rA,rS,rE,rL,reduceCtorEq]
  by_cases x1 : n <= x
  ·have hf:=hb2 (fun h=>by omega)
   simp -implicitDefEqProofs (disch:=omega) only [h0,h1,h7,h8,h9,hmp,w1,x0,x1,hf,go_sem,↓reduceIte,rA,rS,rE,rL,reduceCtorEq]
  by_cases k0 : k = 0
  ·have ha2:=hsn.2 ⟨ha,⟨by omega,by omega⟩,by intro y hy; subst k0; simp at hy⟩
   have k1 : ¬ (0 : Int) < (k : Int):=by omega
   simp -implicitDefEqProofs (disch:=omega) only [h0,h1,h7,h8,h9,hmp,w1,x0,x1,k1,go_sem,↓reduceIte,rA,rS,rE,rL,reduceCtorEq]
   try refine And.intro (by omega) ?_
   refine (hI _ _).2 ⟨?_,?_,?_,?_,?_,?_⟩
   ·exact ha2
   all_goals exact cl0
  ·have k1 : (0 : Int) < (k : Int):=by omega
   have hy : l[k - 1]? = some l[k - 1]:=lgg (by omega)
   have hyl : (l.take k).getLast? = some l[k - 1]:=by
    rw [List.getLast?_eq_getElem?,llt,List.getElem?_take_of_lt (by omega),<- hy]
    congr 1
    omega
   generalize l[k - 1] = y at hy hyl
   have hyp : (l.map (PV.int .i64))[k - 1]? = some (.int .i64 y):=by simp [hy]
   have w2 : IntKind.i64.wrap ((k : Int) - 1) = ((k - 1 : Nat) : Int):=by rw [wrap64 (by omega) (by omega)]; omega
   by_cases x2 : x <= y
   ·have hf:=hb2 (fun h=>by have:=h.2 y hyl; omega)
    simp -implicitDefEqProofs (disch:=omega) only [h0,h1,h7,h8,h9,hmp,w1,x0,x1,k1,w2,hyp,x2,hf,go_sem,↓reduceIte,rA,rS,rE,rL,reduceCtorEq]
   ·have ha2:=hsn.2 ⟨ha,⟨by omega,by omega⟩,by intro z hz; rw [hyl] at hz; cases hz; omega⟩
    simp -implicitDefEqProofs (disch:=omega) only [h0,h1,h7,h8,h9,hmp,w1,x0,x1,k1,w2,hyp,x2,go_sem,↓reduceIte,rA,rS,rE,rL,reduceCtorEq]
    try refine And.intro (by omega) ?_
    refine (hI _ _).2 ⟨?_,?_,?_,?_,?_,?_⟩
    .exact ha2
    all_goals exact cl0
 ·have hk' : k = l.length:=by omega
  rw [ltl (by omega)] at ha
  simp -implicitDefEqProofs (disch:=omega) only [h0,h1,h7,h8,h9,ha,go_sem,↓reduceIte,rA,rS,rE,rL,reduceCtorEq]
end Go.V
namespace Go.V
abbrev stC (s : Stg) : List VVal:=[.p (.int .i64 s.pids),.p (.int .i64 s.weight),.p (.int .i64 s.quota),.p (.int .i64 s.period),.p (.int .i64 s.burst),.p (.int .i64 s.cmin),.p (.int .i64 s.cmax),.p (intsP s.cpus),.p (intsP s.mems),.p (.int .i64 s.part),.p (.int .i64 0),.p (.int .i64 0),.p (.int .i64 4611686018427387904),.p (.int .i64 4611686018427387904),.p (.int .i64 4611686018427387904),.p (.bool false),.p (.slice 7 [])]
set_option maxHeartbeats 4000000 in
theorem check_eq (s : Stg) (h1 : s.cpus.length < 1000000) (h2 : s.mems.length < 1000000) : V 27 [.agg (stC s)] [] = some (.p (.bool (checkS s)),[]):=by
 refine V_wp (vf:=vf27) rfl ?_
 have w1:=within_eq s.pids 0 1099511627776
 have w2:=within_eq s.weight 1 10000
 have w3:=fun d0 d1 d5 d6 d7 d8 d9 d10 d11 d12 d13 d14 d15 d16=>@bandwidth_eq s d0 d1 d5 d6 d7 d8 d9 d10 d11 d12 d13 d14 d15 d16
 have w4:=within_eq s.cmin 0 10000
 have w5:=within_eq s.cmax 0 10000
 have w6:=valid_eq s.cpus 16 h1
 have w7:=valid_eq s.mems 8 h2
 have w8:=within_eq s.part 0 1
 have w9:=cmem_eq
 have w0:=cdev_eq
 unfold checkS
 have key : ∀ b : Bool,(decide (s.pids = maxI) || inI s.pids 0 1099511627776) = b -> wp (callF V vf27 [.agg (stC s)] []) (· = (.p (.bool (b && inI s.weight 1 10000 && bandOk s && inI s.cmin 0 10000 && inI s.cmax 0 10000 && ascOk s.cpus 16 && ascOk s.mems 8 && inI s.part 0 1)),[])):=by
  intro b hb
  by_cases hm : s.pids = maxI
  ·have hb1 : b = true:=by rw [<- hb,hm]; rfl
   subst hb1
   generalize inI s.weight 1 10000 = b0 at w2 ⊢
   cases b0
   .simp -implicitDefEqProofs (disch:=omega) only [vf27,vb27,hm,w2,go_sem,↓reduceIte,rA,rS,rE,rL,reduceCtorEq]
   generalize bandOk s = b1 at w3 ⊢
   cases b1
   .simp -implicitDefEqProofs (disch:=omega) only [vf27,vb27,hm,w2,w3,go_sem,↓reduceIte,rA,rS,rE,rL,reduceCtorEq]
   generalize inI s.cmin 0 10000 = b2 at w4 ⊢
   cases b2
   .simp -implicitDefEqProofs (disch:=omega) only [vf27,vb27,hm,w2,w3,w4,go_sem,↓reduceIte,rA,rS,rE,rL,reduceCtorEq]
   generalize inI s.cmax 0 10000 = b3 at w5 ⊢
   cases b3
   .simp -implicitDefEqProofs (disch:=omega) only [vf27,vb27,hm,w2,w3,w4,w5,go_sem,↓reduceIte,rA,rS,rE,rL,reduceCtorEq]
   generalize ascOk s.cpus 16 = b4 at w6 ⊢
   cases b4
   .simp -implicitDefEqProofs (disch:=omega) only [vf27,vb27,hm,w2,w3,w4,w5,w6,go_sem,↓reduceIte,rA,rS,rE,rL,reduceCtorEq]
   generalize ascOk s.mems 8 = b5 at w7 ⊢
   cases b5
   .simp -implicitDefEqProofs (disch:=omega) only [vf27,vb27,hm,w2,w3,w4,w5,w6,w7,go_sem,↓reduceIte,rA,rS,rE,rL,reduceCtorEq]
   generalize inI s.part 0 1 = b6 at w8 ⊢
   cases b6
   .simp -implicitDefEqProofs (disch:=omega) only [vf27,vb27,hm,w2,w3,w4,w5,w6,w7,w8,go_sem,↓reduceIte,rA,rS,rE,rL,reduceCtorEq]
   simp -implicitDefEqProofs (disch:=omega) only [vf27,vb27,hm,w2,w3,w4,w5,w6,w7,w8,w9,w0,go_sem,↓reduceIte,rA,rS,rE,rL,reduceCtorEq]
  ·have hb1 : inI s.pids 0 1099511627776 = b:=by rw [<- hb]; simp [hm]
   rw [hb1] at w1
   clear hb hb1
   cases b
   .simp -implicitDefEqProofs (disch:=omega) only [vf27,vb27,hm,w1,go_sem,↓reduceIte,rA,rS,rE,rL,reduceCtorEq]
   generalize inI s.weight 1 10000 = b0 at w2 ⊢
   cases b0
   .simp -implicitDefEqProofs (disch:=omega) only [vf27,vb27,hm,w1,w2,go_sem,↓reduceIte,rA,rS,rE,rL,reduceCtorEq]
   generalize bandOk s = b1 at w3 ⊢
   cases b1
   .simp -implicitDefEqProofs (disch:=omega) only [vf27,vb27,hm,w1,w2,w3,go_sem,↓reduceIte,rA,rS,rE,rL,reduceCtorEq]
   generalize inI s.cmin 0 10000 = b2 at w4 ⊢
   cases b2
   .simp -implicitDefEqProofs (disch:=omega) only [vf27,vb27,hm,w1,w2,w3,w4,go_sem,↓reduceIte,rA,rS,rE,rL,reduceCtorEq]
   generalize inI s.cmax 0 10000 = b3 at w5 ⊢
   cases b3
   .simp -implicitDefEqProofs (disch:=omega) only [vf27,vb27,hm,w1,w2,w3,w4,w5,go_sem,↓reduceIte,rA,rS,rE,rL,reduceCtorEq]
   generalize ascOk s.cpus 16 = b4 at w6 ⊢
   cases b4
   .simp -implicitDefEqProofs (disch:=omega) only [vf27,vb27,hm,w1,w2,w3,w4,w5,w6,go_sem,↓reduceIte,rA,rS,rE,rL,reduceCtorEq]
   generalize ascOk s.mems 8 = b5 at w7 ⊢
   cases b5
   .simp -implicitDefEqProofs (disch:=omega) only [vf27,vb27,hm,w1,w2,w3,w4,w5,w6,w7,go_sem,↓reduceIte,rA,rS,rE,rL,reduceCtorEq]
   generalize inI s.part 0 1 = b6 at w8 ⊢
   cases b6
   .simp -implicitDefEqProofs (disch:=omega) only [vf27,vb27,hm,w1,w2,w3,w4,w5,w6,w7,w8,go_sem,↓reduceIte,rA,rS,rE,rL,reduceCtorEq]
   simp -implicitDefEqProofs (disch:=omega) only [vf27,vb27,hm,w1,w2,w3,w4,w5,w6,w7,w8,w9,w0,go_sem,↓reduceIte,rA,rS,rE,rL,reduceCtorEq]
 exact key _ rfl
end Go.V
namespace Go.V
theorem chk {s : Stg} (h : checkS s = true) : ((0 <= s.pids /\ s.pids <= 1099511627776) \/ s.pids = maxI) /\ (1 <= s.weight /\ s.weight <= 10000) /\ ((0 <= s.quota /\ s.quota <= 1099511627776) \/ s.quota = maxI) /\ (0 <= s.period /\ s.period <= 1000000) /\ (0 <= s.burst /\ s.burst <= 1000000) /\ (0 <= s.cmin /\ s.cmin <= 10000) /\ (0 <= s.cmax /\ s.cmax <= 10000) /\ (Asc s.cpus /\ ∀ x ∈ s.cpus,0 <= x /\ x < 16) /\ (Asc s.mems /\ ∀ x ∈ s.mems,0 <= x /\ x < 8):=by
 simp only [checkS,bandOk,inI,bat,bot,decide_eq_true_eq,ascOk_ii] at h
 obtain ⟨⟨⟨⟨⟨⟨⟨h1,h2⟩,h3⟩,h4⟩,h5⟩,h6⟩,h7⟩,h8⟩:=h
 refine ⟨h1.elim .inr .inl,h2,?_,by omega,?_,h4,h5,h6,h7⟩
 ·by_cases e : s.quota = maxI
  ·exact .inr e
  ·rw [if_neg e] at h3
   simp only [bat,decide_eq_true_eq] at h3
   omega
 ·by_cases e : s.quota = maxI
  ·rw [if_pos e] at h3
   simp only [decide_eq_true_eq] at h3
   omega
  ·rw [if_neg e] at h3
   simp only [bat,decide_eq_true_eq] at h3
   omega
set_option maxHeartbeats 4000000 in
theorem read_eq {k : Nat} (hk : k < 9) (s : Stg) (h1 : s.cpus.length < 1000000) (h2 : s.mems.length < 1000000) : V 17 [.agg (stC s),.p (.str (nmF k))] [] = some (.tup [.p (.str (rdA k s).1),.p (.int .i64 (rdA k s).2)],[]):=by
 refine V_wp (vf:=vf17) rfl ?_
 have hf:=find_eq hk
 have hc:=check_eq s h1 h2
 cases hs : checkS s
 ·rw [hs] at hc
  have e : rdA k s = (⟨#[]⟩,1):=by rw [rdA,if_pos hs]
  rw [e]
  simp -implicitDefEqProofs (disch:=omega) only [vf17,vb17,hf,hc,go_sem,↓reduceIte,rA,rS,rE,rL,reduceCtorEq]
 ·rw [hs] at hc
  obtain ⟨b1,_,b3⟩:=back hk hs
  have e : rdA k s = ((rdF k s).1 ++ ⟨#[10]⟩,0):=(back_all hk hs).1
  rw [e]
  obtain ⟨c0,c1,c2,c3,c4,c5,c6,c7,c8⟩:=chk hs
  have g1 : (rdF k s).1.size + (⟨#[10]⟩ : ByteArray).size <= 9223372036854775807:=by
   have : (rdF k s).1.size <= 1000:=b3.2
   show _ + 1 <= _
   omega
  have hd : (k = 0 \/ k = 1 \/ k = 2 \/ k = 3 \/ k = 4 \/ k = 5 \/ k = 6 \/ k = 7 \/ k = 8):=by omega
  rcases hd with rfl | rfl | rfl | rfl | rfl | rfl | rfl | rfl | rfl
  ·have hp : rdP 0 = .clo 63 [.agg [.fn 49]]:=rfl
   have hr : V 63 [.agg (stC s),.vptr [.fn 49] 0] [] = some (.tup [.p (.str (rdF 0 s).1),.p (.int .i64 (rdF 0 s).2)],[]):=rd0_eq (by unfold maxI at c0; omega)
   rw [b1] at hr
   generalize (rdF 0 s).1 = T at hr g1 ⊢
   simp -implicitDefEqProofs (disch:=omega) only [vf17,vb17,hf,hc,hp,hr,g1,go_sem,↓reduceIte,rA,rS,rE,rL,reduceCtorEq]
  ·have hp : rdP 1 = .clo 63 [.agg [.fn 50]]:=rfl
   have hr : V 63 [.agg (stC s),.vptr [.fn 50] 0] [] = some (.tup [.p (.str (rdF 1 s).1),.p (.int .i64 (rdF 1 s).2)],[]):=rd1_eq (by omega)
   rw [b1] at hr
   generalize (rdF 1 s).1 = T at hr g1 ⊢
   simp -implicitDefEqProofs (disch:=omega) only [vf17,vb17,hf,hc,hp,hr,g1,go_sem,↓reduceIte,rA,rS,rE,rL,reduceCtorEq]
  ·have hp : rdP 2 = .fn 51:=rfl
   have hr : V 51 [.agg (stC s)] [] = some (.tup [.p (.str (rdF 2 s).1),.p (.int .i64 (rdF 2 s).2)],[]):=(by
    have e2 : (rdF 2 s).1 = bsL (formatN s.quota).1 ++ ⟨#[32]⟩ ++ bsL (formatN s.period).1:=by
     simp only [rdF,if_neg (show ¬ (formatN s.quota).2 ≠ 0 by rw [(parse_format c2).1]; simp)]
    rw [b1,e2]
    exact rd2_eq c2 (.inl ⟨c3.1,by omega⟩))
   rw [b1] at hr
   generalize (rdF 2 s).1 = T at hr g1 ⊢
   simp -implicitDefEqProofs (disch:=omega) only [vf17,vb17,hf,hc,hp,hr,g1,go_sem,↓reduceIte,rA,rS,rE,rL,reduceCtorEq]
  ·have hp : rdP 3 = .clo 63 [.agg [.fn 53]]:=rfl
   have hr : V 63 [.agg (stC s),.vptr [.fn 53] 0] [] = some (.tup [.p (.str (rdF 3 s).1),.p (.int .i64 (rdF 3 s).2)],[]):=rd3_eq (by omega)
   rw [b1] at hr
   generalize (rdF 3 s).1 = T at hr g1 ⊢
   simp -implicitDefEqProofs (disch:=omega) only [vf17,vb17,hf,hc,hp,hr,g1,go_sem,↓reduceIte,rA,rS,rE,rL,reduceCtorEq]
  ·have hp : rdP 4 = .clo 68 [.agg [.fn 55]]:=rfl
   have hr : V 68 [.agg (stC s),.vptr [.fn 55] 0] [] = some (.tup [.p (.str (rdF 4 s).1),.p (.int .i64 (rdF 4 s).2)],[]):=rd4_eq (by omega)
   rw [b1] at hr
   generalize (rdF 4 s).1 = T at hr g1 ⊢
   simp -implicitDefEqProofs (disch:=omega) only [vf17,vb17,hf,hc,hp,hr,g1,go_sem,↓reduceIte,rA,rS,rE,rL,reduceCtorEq]
  ·have hp : rdP 5 = .clo 68 [.agg [.fn 56]]:=rfl
   have hr : V 68 [.agg (stC s),.vptr [.fn 56] 0] [] = some (.tup [.p (.str (rdF 5 s).1),.p (.int .i64 (rdF 5 s).2)],[]):=rd5_eq (by omega)
   rw [b1] at hr
   generalize (rdF 5 s).1 = T at hr g1 ⊢
   simp -implicitDefEqProofs (disch:=omega) only [vf17,vb17,hf,hc,hp,hr,g1,go_sem,↓reduceIte,rA,rS,rE,rL,reduceCtorEq]
  ·have hp : rdP 6 = .clo 72 [.agg [.fn 58]]:=rfl
   have hr : V 72 [.agg (stC s),.vptr [.fn 58] 0] [] = some (.tup [.p (.str (rdF 6 s).1),.p (.int .i64 (rdF 6 s).2)],[]):=rd6_eq h1 c7.1 (fun x hx=>by have:=c7.2 x hx; omega)
   rw [b1] at hr
   generalize (rdF 6 s).1 = T at hr g1 ⊢
   simp -implicitDefEqProofs (disch:=omega) only [vf17,vb17,hf,hc,hp,hr,g1,go_sem,↓reduceIte,rA,rS,rE,rL,reduceCtorEq]
  ·have hp : rdP 7 = .clo 72 [.agg [.fn 59]]:=rfl
   have hr : V 72 [.agg (stC s),.vptr [.fn 59] 0] [] = some (.tup [.p (.str (rdF 7 s).1),.p (.int .i64 (rdF 7 s).2)],[]):=rd7_eq h2 c8.1 (fun x hx=>by have:=c8.2 x hx; omega)
   rw [b1] at hr
   generalize (rdF 7 s).1 = T at hr g1 ⊢
   simp -implicitDefEqProofs (disch:=omega) only [vf17,vb17,hf,hc,hp,hr,g1,go_sem,↓reduceIte,rA,rS,rE,rL,reduceCtorEq]
  ·have hp : rdP 8 = .fn 60:=rfl
   have hr : V 60 [.agg (stC s)] [] = some (.tup [.p (.str (rdF 8 s).1),.p (.int .i64 (rdF 8 s).2)],[]):=rd8_eq
   rw [b1] at hr
   generalize (rdF 8 s).1 = T at hr g1 ⊢
   simp -implicitDefEqProofs (disch:=omega) only [vf17,vb17,hf,hc,hp,hr,g1,go_sem,↓reduceIte,rA,rS,rE,rL,reduceCtorEq]
end Go.V
namespace Go.V
theorem line_eq (x : ByteArray) (h : x.size <= 9223372036854775807) : V 20 [.p (.str x)] [] = some (.p (.str (lineB x)),[]):=by
 refine V_wp (vf:=vf20) rfl ?_
 have ht:=@trim_x x ⟨#[10]⟩ h
 have e : (⟨(Lib.trimSuffix x.data.toList (⟨#[10]⟩ : ByteArray).data.toList).toArray⟩ : ByteArray) = lineB x:=rfl
 rw [e] at ht
 generalize lineB x = y at ht ⊢
 simp -implicitDefEqProofs (disch:=omega) only [vf20,vb20,ht,go_sem,↓reduceIte,rA,rS,rE,rL,reduceCtorEq]
abbrev stF (s : Stg) : List VVal:=[.p (.int .i64 s.pids),.p (.int .i64 s.weight),.p (.int .i64 s.quota),.p (.int .i64 s.period),.p (.int .i64 s.burst),.p (.int .i64 s.cmin),.p (.int .i64 s.cmax),.fresh 1 (s.cpus.map (.int .i64)),.fresh 1 (s.mems.map (.int .i64)),.p (.int .i64 s.part),.p (.int .i64 0),.p (.int .i64 0),.p (.int .i64 4611686018427387904),.p (.int .i64 4611686018427387904),.p (.int .i64 4611686018427387904),.p (.bool false),.fresh 7 []]
set_option maxHeartbeats 2000000 in
theorem copy_eq (s : Stg) (h1 : s.cpus.length < 1000000) (h2 : s.mems.length < 1000000) : V 28 [.agg (stC s)] [] = some (.agg (stF s),[]):=by
 refine V_wp (vf:=vf28) rfl ?_
 have c1:=@cloneI_x (s.cpus.map (.int .i64)) (by simpa using h1)
 have c2:=@cloneI_x (s.mems.map (.int .i64)) (by simpa using h2)
 have c3:=@cloneD_x [] (by decide)
 simp -implicitDefEqProofs (disch:=omega) only [vf28,vb28,c1,c2,c3,go_sem,↓reduceIte,rA,rS,rE,rL,reduceCtorEq]
end Go.V
namespace Go.V
theorem fldO0_eq {d0 d1 d2 d3 d4 d5 d6 d9 d10 d11 d12 d13 d14 d15 : PV} {a b c : List PV} : V 49 [.ptr (.arg 0 0) 0 0] [.box [.p d0,.p d1,.p d2,.p d3,.p d4,.p d5,.p d6,.own (.arg 1 0) 0 0 a.length,.own (.arg 2 0) 0 0 b.length,.p d9,.p d10,.p d11,.p d12,.p d13,.p d14,.p d15,.own (.arg 3 0) 0 0 c.length],.arr 1 a,.arr 1 b,.arr 7 c] = some (.ptr (.arg 0 0) 0 0,[.box [.p d0,.p d1,.p d2,.p d3,.p d4,.p d5,.p d6,.own (.arg 1 0) 0 0 a.length,.own (.arg 2 0) 0 0 b.length,.p d9,.p d10,.p d11,.p d12,.p d13,.p d14,.p d15,.own (.arg 3 0) 0 0 c.length],.arr 1 a,.arr 1 b,.arr 7 c]):=by
 refine V_wp (vf:=vf49) rfl ?_
 simp -implicitDefEqProofs (disch:=omega) only [vf49,vb49,go_sem,↓reduceIte,rA,rS,rE,rL,reduceCtorEq]
theorem fldO1_eq {d0 d1 d2 d3 d4 d5 d6 d9 d10 d11 d12 d13 d14 d15 : PV} {a b c : List PV} : V 50 [.ptr (.arg 0 0) 0 0] [.box [.p d0,.p d1,.p d2,.p d3,.p d4,.p d5,.p d6,.own (.arg 1 0) 0 0 a.length,.own (.arg 2 0) 0 0 b.length,.p d9,.p d10,.p d11,.p d12,.p d13,.p d14,.p d15,.own (.arg 3 0) 0 0 c.length],.arr 1 a,.arr 1 b,.arr 7 c] = some (.ptr (.arg 0 0) 0 1,[.box [.p d0,.p d1,.p d2,.p d3,.p d4,.p d5,.p d6,.own (.arg 1 0) 0 0 a.length,.own (.arg 2 0) 0 0 b.length,.p d9,.p d10,.p d11,.p d12,.p d13,.p d14,.p d15,.own (.arg 3 0) 0 0 c.length],.arr 1 a,.arr 1 b,.arr 7 c]):=by
 refine V_wp (vf:=vf50) rfl ?_
 simp -implicitDefEqProofs (disch:=omega) only [vf50,vb50,go_sem,↓reduceIte,rA,rS,rE,rL,reduceCtorEq]
theorem fldO4_eq {d0 d1 d2 d3 d4 d5 d6 d9 d10 d11 d12 d13 d14 d15 : PV} {a b c : List PV} : V 53 [.ptr (.arg 0 0) 0 0] [.box [.p d0,.p d1,.p d2,.p d3,.p d4,.p d5,.p d6,.own (.arg 1 0) 0 0 a.length,.own (.arg 2 0) 0 0 b.length,.p d9,.p d10,.p d11,.p d12,.p d13,.p d14,.p d15,.own (.arg 3 0) 0 0 c.length],.arr 1 a,.arr 1 b,.arr 7 c] = some (.ptr (.arg 0 0) 0 4,[.box [.p d0,.p d1,.p d2,.p d3,.p d4,.p d5,.p d6,.own (.arg 1 0) 0 0 a.length,.own (.arg 2 0) 0 0 b.length,.p d9,.p d10,.p d11,.p d12,.p d13,.p d14,.p d15,.own (.arg 3 0) 0 0 c.length],.arr 1 a,.arr 1 b,.arr 7 c]):=by
 refine V_wp (vf:=vf53) rfl ?_
 simp -implicitDefEqProofs (disch:=omega) only [vf53,vb53,go_sem,↓reduceIte,rA,rS,rE,rL,reduceCtorEq]
theorem fldO5_eq {d0 d1 d2 d3 d4 d5 d6 d9 d10 d11 d12 d13 d14 d15 : PV} {a b c : List PV} : V 55 [.ptr (.arg 0 0) 0 0] [.box [.p d0,.p d1,.p d2,.p d3,.p d4,.p d5,.p d6,.own (.arg 1 0) 0 0 a.length,.own (.arg 2 0) 0 0 b.length,.p d9,.p d10,.p d11,.p d12,.p d13,.p d14,.p d15,.own (.arg 3 0) 0 0 c.length],.arr 1 a,.arr 1 b,.arr 7 c] = some (.ptr (.arg 0 0) 0 5,[.box [.p d0,.p d1,.p d2,.p d3,.p d4,.p d5,.p d6,.own (.arg 1 0) 0 0 a.length,.own (.arg 2 0) 0 0 b.length,.p d9,.p d10,.p d11,.p d12,.p d13,.p d14,.p d15,.own (.arg 3 0) 0 0 c.length],.arr 1 a,.arr 1 b,.arr 7 c]):=by
 refine V_wp (vf:=vf55) rfl ?_
 simp -implicitDefEqProofs (disch:=omega) only [vf55,vb55,go_sem,↓reduceIte,rA,rS,rE,rL,reduceCtorEq]
theorem fldO6_eq {d0 d1 d2 d3 d4 d5 d6 d9 d10 d11 d12 d13 d14 d15 : PV} {a b c : List PV} : V 56 [.ptr (.arg 0 0) 0 0] [.box [.p d0,.p d1,.p d2,.p d3,.p d4,.p d5,.p d6,.own (.arg 1 0) 0 0 a.length,.own (.arg 2 0) 0 0 b.length,.p d9,.p d10,.p d11,.p d12,.p d13,.p d14,.p d15,.own (.arg 3 0) 0 0 c.length],.arr 1 a,.arr 1 b,.arr 7 c] = some (.ptr (.arg 0 0) 0 6,[.box [.p d0,.p d1,.p d2,.p d3,.p d4,.p d5,.p d6,.own (.arg 1 0) 0 0 a.length,.own (.arg 2 0) 0 0 b.length,.p d9,.p d10,.p d11,.p d12,.p d13,.p d14,.p d15,.own (.arg 3 0) 0 0 c.length],.arr 1 a,.arr 1 b,.arr 7 c]):=by
 refine V_wp (vf:=vf56) rfl ?_
 simp -implicitDefEqProofs (disch:=omega) only [vf56,vb56,go_sem,↓reduceIte,rA,rS,rE,rL,reduceCtorEq]
theorem fldO7_eq {d0 d1 d2 d3 d4 d5 d6 d9 d10 d11 d12 d13 d14 d15 : PV} {a b c : List PV} : V 58 [.ptr (.arg 0 0) 0 0] [.box [.p d0,.p d1,.p d2,.p d3,.p d4,.p d5,.p d6,.own (.arg 1 0) 0 0 a.length,.own (.arg 2 0) 0 0 b.length,.p d9,.p d10,.p d11,.p d12,.p d13,.p d14,.p d15,.own (.arg 3 0) 0 0 c.length],.arr 1 a,.arr 1 b,.arr 7 c] = some (.ptr (.arg 0 0) 0 7,[.box [.p d0,.p d1,.p d2,.p d3,.p d4,.p d5,.p d6,.own (.arg 1 0) 0 0 a.length,.own (.arg 2 0) 0 0 b.length,.p d9,.p d10,.p d11,.p d12,.p d13,.p d14,.p d15,.own (.arg 3 0) 0 0 c.length],.arr 1 a,.arr 1 b,.arr 7 c]):=by
 refine V_wp (vf:=vf58) rfl ?_
 simp -implicitDefEqProofs (disch:=omega) only [vf58,vb58,go_sem,↓reduceIte,rA,rS,rE,rL,reduceCtorEq]
theorem fldO8_eq {d0 d1 d2 d3 d4 d5 d6 d9 d10 d11 d12 d13 d14 d15 : PV} {a b c : List PV} : V 59 [.ptr (.arg 0 0) 0 0] [.box [.p d0,.p d1,.p d2,.p d3,.p d4,.p d5,.p d6,.own (.arg 1 0) 0 0 a.length,.own (.arg 2 0) 0 0 b.length,.p d9,.p d10,.p d11,.p d12,.p d13,.p d14,.p d15,.own (.arg 3 0) 0 0 c.length],.arr 1 a,.arr 1 b,.arr 7 c] = some (.ptr (.arg 0 0) 0 8,[.box [.p d0,.p d1,.p d2,.p d3,.p d4,.p d5,.p d6,.own (.arg 1 0) 0 0 a.length,.own (.arg 2 0) 0 0 b.length,.p d9,.p d10,.p d11,.p d12,.p d13,.p d14,.p d15,.own (.arg 3 0) 0 0 c.length],.arr 1 a,.arr 1 b,.arr 7 c]):=by
 refine V_wp (vf:=vf59) rfl ?_
 simp -implicitDefEqProofs (disch:=omega) only [vf59,vb59,go_sem,↓reduceIte,rA,rS,rE,rL,reduceCtorEq]
end Go.V
namespace Go.V
abbrev stO (s : Stg) (a b c : List PV) : List VVal:=[.p (.int .i64 s.pids),.p (.int .i64 s.weight),.p (.int .i64 s.quota),.p (.int .i64 s.period),.p (.int .i64 s.burst),.p (.int .i64 s.cmin),.p (.int .i64 s.cmax),.own (.arg 1 0) 0 0 a.length,.own (.arg 2 0) 0 0 b.length,.p (.int .i64 s.part),.p (.int .i64 0),.p (.int .i64 0),.p (.int .i64 4611686018427387904),.p (.int .i64 4611686018427387904),.p (.int .i64 4611686018427387904),.p (.bool false),.own (.arg 3 0) 0 0 c.length]
abbrev stO6 (s : Stg) (l : List Int) (b c : List PV) : List VVal:=[.p (.int .i64 s.pids),.p (.int .i64 s.weight),.p (.int .i64 s.quota),.p (.int .i64 s.period),.p (.int .i64 s.burst),.p (.int .i64 s.cmin),.p (.int .i64 s.cmax),.fresh 1 (l.map (.int .i64)),.own (.arg 2 0) 0 0 b.length,.p (.int .i64 s.part),.p (.int .i64 0),.p (.int .i64 0),.p (.int .i64 4611686018427387904),.p (.int .i64 4611686018427387904),.p (.int .i64 4611686018427387904),.p (.bool false),.own (.arg 3 0) 0 0 c.length]
abbrev stO7 (s : Stg) (a : List PV) (l : List Int) (c : List PV) : List VVal:=[.p (.int .i64 s.pids),.p (.int .i64 s.weight),.p (.int .i64 s.quota),.p (.int .i64 s.period),.p (.int .i64 s.burst),.p (.int .i64 s.cmin),.p (.int .i64 s.cmax),.own (.arg 1 0) 0 0 a.length,.fresh 1 (l.map (.int .i64)),.p (.int .i64 s.part),.p (.int .i64 0),.p (.int .i64 0),.p (.int .i64 4611686018427387904),.p (.int .i64 4611686018427387904),.p (.int .i64 4611686018427387904),.p (.bool false),.own (.arg 3 0) 0 0 c.length]
abbrev hpO (cs : List VVal) (a b c : List PV) : List Ob:=[.box cs,.arr 1 a,.arr 1 b,.arr 7 c]
theorem wr0_eq (s : Stg) (x : ByteArray) (hs : x.size < 1000000) (ha : asciiB x.data.toList = true) {a b c : List PV} : V 65 [.ptr (.arg 0 0) 0 0,.p (.str x),.vptr [.bool true] 0,.vptr [.fn 49] 0] (hpO (stO s a b c) a b c) = some (.p (.int .i64 (wrF 0 s x).2),hpO (stO (wrF 0 s x).1 a b c) a b c):=by
 refine V_wp (vf:=vf65) rfl ?_
 have hp:=parse_eq x hs ha
 generalize hw : wrF 0 s x = w
 simp only [wrF] at hw
 generalize parseN x.data.toList = q at hp hw
 obtain ⟨n,e⟩:=q
 simp only at hp hw
 by_cases he : e = 0
 ·subst he
  rw [if_neg (by simp)] at hw
  subst hw
  by_cases hn : n = 4611686018427387904
  .simp -implicitDefEqProofs (disch:=omega) only [vf65,vb65,hp,hn,fldO0_eq,go_sem,↓reduceIte,rA,rS,rE,rL,reduceCtorEq]
  .simp -implicitDefEqProofs (disch:=omega) only [vf65,vb65,hp,hn,fldO0_eq,go_sem,↓reduceIte,rA,rS,rE,rL,reduceCtorEq]
 ·rw [if_pos he] at hw
  subst hw
  simp -implicitDefEqProofs (disch:=omega) only [vf65,vb65,hp,he,go_sem,↓reduceIte,rA,rS,rE,rL,reduceCtorEq]
theorem wr1_eq (s : Stg) (x : ByteArray) (hs : x.size < 1000000) (ha : asciiB x.data.toList = true) {a b c : List PV} : V 65 [.ptr (.arg 0 0) 0 0,.p (.str x),.vptr [.bool false] 0,.vptr [.fn 50] 0] (hpO (stO s a b c) a b c) = some (.p (.int .i64 (wrF 1 s x).2),hpO (stO (wrF 1 s x).1 a b c) a b c):=by
 refine V_wp (vf:=vf65) rfl ?_
 have hp:=parse_eq x hs ha
 generalize hw : wrF 1 s x = w
 simp only [wrF] at hw
 generalize parseN x.data.toList = q at hp hw
 obtain ⟨n,e⟩:=q
 simp only at hp hw
 by_cases he : e = 0
 ·subst he
  rw [if_neg (by simp)] at hw
  by_cases hn : n = 4611686018427387904
  ·rw [if_pos hn] at hw
   subst hw
   simp -implicitDefEqProofs (disch:=omega) only [vf65,vb65,hp,hn,fldO1_eq,go_sem,↓reduceIte,rA,rS,rE,rL,reduceCtorEq]
  ·rw [if_neg hn] at hw
   subst hw
   simp -implicitDefEqProofs (disch:=omega) only [vf65,vb65,hp,hn,fldO1_eq,go_sem,↓reduceIte,rA,rS,rE,rL,reduceCtorEq]
 ·rw [if_pos he] at hw
  subst hw
  simp -implicitDefEqProofs (disch:=omega) only [vf65,vb65,hp,he,go_sem,↓reduceIte,rA,rS,rE,rL,reduceCtorEq]
theorem wr3_eq (s : Stg) (x : ByteArray) (hs : x.size < 1000000) (ha : asciiB x.data.toList = true) {a b c : List PV} : V 65 [.ptr (.arg 0 0) 0 0,.p (.str x),.vptr [.bool false] 0,.vptr [.fn 53] 0] (hpO (stO s a b c) a b c) = some (.p (.int .i64 (wrF 3 s x).2),hpO (stO (wrF 3 s x).1 a b c) a b c):=by
 refine V_wp (vf:=vf65) rfl ?_
 have hp:=parse_eq x hs ha
 generalize hw : wrF 3 s x = w
 simp only [wrF] at hw
 generalize parseN x.data.toList = q at hp hw
 obtain ⟨n,e⟩:=q
 simp only at hp hw
 by_cases he : e = 0
 ·subst he
  rw [if_neg (by simp)] at hw
  by_cases hn : n = 4611686018427387904
  ·rw [if_pos hn] at hw
   subst hw
   simp -implicitDefEqProofs (disch:=omega) only [vf65,vb65,hp,hn,fldO4_eq,go_sem,↓reduceIte,rA,rS,rE,rL,reduceCtorEq]
  ·rw [if_neg hn] at hw
   subst hw
   simp -implicitDefEqProofs (disch:=omega) only [vf65,vb65,hp,hn,fldO4_eq,go_sem,↓reduceIte,rA,rS,rE,rL,reduceCtorEq]
 ·rw [if_pos he] at hw
  subst hw
  simp -implicitDefEqProofs (disch:=omega) only [vf65,vb65,hp,he,go_sem,↓reduceIte,rA,rS,rE,rL,reduceCtorEq]
theorem wr4_eq (s : Stg) (x : ByteArray) (hs : x.size < 1000000) (ha : asciiB x.data.toList = true) {a b c : List PV} : V 70 [.ptr (.arg 0 0) 0 0,.p (.str x),.vptr [.fn 55] 0] (hpO (stO s a b c) a b c) = some (.p (.int .i64 (wrF 4 s x).2),hpO (stO (wrF 4 s x).1 a b c) a b c):=by
 refine V_wp (vf:=vf70) rfl ?_
 have hp:=parseH_eq x hs ha
 generalize hw : wrF 4 s x = w
 simp only [wrF] at hw
 generalize parseH x.data.toList = q at hp hw
 obtain ⟨n,e⟩:=q
 simp only at hp hw
 by_cases he : e = 0
 ·subst he
  rw [if_neg (by simp)] at hw
  subst hw
  simp -implicitDefEqProofs (disch:=omega) only [vf70,vb70,hp,fldO5_eq,go_sem,↓reduceIte,rA,rS,rE,rL,reduceCtorEq]
 ·rw [if_pos he] at hw
  subst hw
  simp -implicitDefEqProofs (disch:=omega) only [vf70,vb70,hp,he,go_sem,↓reduceIte,rA,rS,rE,rL,reduceCtorEq]
theorem wr5_eq (s : Stg) (x : ByteArray) (hs : x.size < 1000000) (ha : asciiB x.data.toList = true) {a b c : List PV} : V 70 [.ptr (.arg 0 0) 0 0,.p (.str x),.vptr [.fn 56] 0] (hpO (stO s a b c) a b c) = some (.p (.int .i64 (wrF 5 s x).2),hpO (stO (wrF 5 s x).1 a b c) a b c):=by
 refine V_wp (vf:=vf70) rfl ?_
 have hp:=parseH_eq x hs ha
 generalize hw : wrF 5 s x = w
 simp only [wrF] at hw
 generalize parseH x.data.toList = q at hp hw
 obtain ⟨n,e⟩:=q
 simp only at hp hw
 by_cases he : e = 0
 ·subst he
  rw [if_neg (by simp)] at hw
  subst hw
  simp -implicitDefEqProofs (disch:=omega) only [vf70,vb70,hp,fldO6_eq,go_sem,↓reduceIte,rA,rS,rE,rL,reduceCtorEq]
 ·rw [if_pos he] at hw
  subst hw
  simp -implicitDefEqProofs (disch:=omega) only [vf70,vb70,hp,he,go_sem,↓reduceIte,rA,rS,rE,rL,reduceCtorEq]
theorem wr6_eq (s : Stg) (x : ByteArray) (hs : x.size < 1000000) {a b c : List PV} : V 74 [.ptr (.arg 0 0) 0 0,.p (.str x),.vptr [.int .i64 16] 0,.vptr [.fn 58] 0] (hpO (stO s a b c) a b c) = some (.p (.int .i64 (parseT x 16).2),if (parseT x 16).2 = 0 then hpO (stO6 s (parseT x 16).1 b c) a b c else hpO (stO s a b c) a b c):=by
 refine V_wp (vf:=vf74) rfl ?_
 have hp:=sparse_eq x 16 (by omega)
 generalize parseT x 16 = q at hp ⊢
 obtain ⟨l,e⟩:=q
 simp only at hp ⊢
 by_cases he : e = 0
 ·subst he
  rw [if_pos rfl]
  simp -implicitDefEqProofs (disch:=omega) only [vf74,vb74,hp,fldO7_eq,go_sem,↓reduceIte,rA,rS,rE,rL,reduceCtorEq]
 ·rw [if_neg he]
  simp -implicitDefEqProofs (disch:=omega) only [vf74,vb74,hp,he,go_sem,↓reduceIte,rA,rS,rE,rL,reduceCtorEq]
theorem wr7_eq (s : Stg) (x : ByteArray) (hs : x.size < 1000000) {a b c : List PV} : V 74 [.ptr (.arg 0 0) 0 0,.p (.str x),.vptr [.int .i64 8] 0,.vptr [.fn 59] 0] (hpO (stO s a b c) a b c) = some (.p (.int .i64 (parseT x 8).2),if (parseT x 8).2 = 0 then hpO (stO7 s a (parseT x 8).1 c) a b c else hpO (stO s a b c) a b c):=by
 refine V_wp (vf:=vf74) rfl ?_
 have hp:=sparse_eq x 8 (by omega)
 generalize parseT x 8 = q at hp ⊢
 obtain ⟨l,e⟩:=q
 simp only at hp ⊢
 by_cases he : e = 0
 ·subst he
  rw [if_pos rfl]
  simp -implicitDefEqProofs (disch:=omega) only [vf74,vb74,hp,fldO8_eq,go_sem,↓reduceIte,rA,rS,rE,rL,reduceCtorEq]
 ·rw [if_neg he]
  simp -implicitDefEqProofs (disch:=omega) only [vf74,vb74,hp,he,go_sem,↓reduceIte,rA,rS,rE,rL,reduceCtorEq]
theorem wr8_eq (s : Stg) (x : ByteArray) {a b c : List PV} : V 61 [.ptr (.arg 0 0) 0 0,.p (.str x)] (hpO (stO s a b c) a b c) = some (.p (.int .i64 (wrF 8 s x).2),hpO (stO (wrF 8 s x).1 a b c) a b c):=by
 refine V_wp (vf:=vf61) rfl ?_
 generalize hw : wrF 8 s x = w
 simp only [wrF] at hw
 by_cases h1 : x = ⟨#[114,111,111,116]⟩
 ·rw [if_pos h1] at hw
  subst hw
  simp -implicitDefEqProofs (disch:=omega) only [vf61,vb61,h1,go_sem,↓reduceIte,rA,rS,rE,rL,reduceCtorEq]
 ·rw [if_neg h1] at hw
  by_cases h2 : x = ⟨#[109,101,109,98,101,114]⟩
  ·rw [if_pos h2] at hw
   subst hw
   subst h2
   simp -implicitDefEqProofs (disch:=omega) only [vf61,vb61,h1,go_sem,↓reduceIte,rA,rS,rE,rL,reduceCtorEq]
  ·rw [if_neg h2] at hw
   subst hw
   simp -implicitDefEqProofs (disch:=omega) only [vf61,vb61,h1,h2,go_sem,↓reduceIte,rA,rS,rE,rL,reduceCtorEq]
end Go.V
namespace Go.V
theorem cutB_mem (c : UInt8) : ∀ l : List UInt8,∀ p ∈ cutB c l,∀ x ∈ p,x ∈ l
 | [],p,hp,x,hx=>by
  simp [cutB] at hp
  subst hp
  cases hx
 | b :: l,p,hp,x,hx=>by
  have ih:=cutB_mem c l
  unfold cutB at hp
  split at hp
  ·rcases lmk.1 hp with rfl | hp
   ·cases hx
   ·exact lmc _ (ih p hp x hx)
  ·split at hp
   ·rename_i y ys h
    rw [h] at ih
    rcases lmk.1 hp with rfl | hp
    ·rcases lmk.1 hx with rfl | hx
     .exact lms ..
     .exact lmc _ (ih y (lms ..) x hx)
    .exact lmc _ (ih p (lmc _ hp) x hx)
   ·rename_i h
    exact absurd h (cutB_ne c l)
theorem split_ascii {x : ByteArray} (h : asciiB x.data.toList = true) : ∀ w ∈ splitS x ⟨#[32]⟩,asciiB w.data.toList = true:=fun w hw=>by
 have hm : w.data.toList ∈ cutB 32 x.data.toList:=by
  rw [<- splitS_cutB]
  exact List.mem_map_of_mem hw
 rw [asciiB,List.all_eq_true] at h ⊢
 exact fun y hy=>h y (cutB_mem _ _ _ hm y hy)
theorem split_ne (x : ByteArray) : splitS x ⟨#[32]⟩ ≠ []:=fun e=>by
 have:=splitS_cutB x 32
 rw [e] at this
 exact cutB_ne 32 _ this.symm
theorem wrMax1 {s : Stg} {q : ByteArray} {n e : Int} (h : parseN q.data.toList = (n,e)) : wrMax s [q] = if e ≠ 0 then (s,e) else ({ s with quota:=n,burst:=if n = maxI \/ n < s.burst then 0 else s.burst },0):=by
 unfold wrMax
 simp only [List.headD_cons,h,List.length_singleton]
 rw [if_neg (by omega)]
 split
 .rfl
 .rw [if_neg (by omega),if_neg (by omega),if_neg (by omega)]
theorem wrMax2 {s : Stg} {q p : ByteArray} {n e m f : Int} (h1 : parseN q.data.toList = (n,e)) (h2 : parseN p.data.toList = (m,f)) (e1 : ¬ q = ⟨#[]⟩) (e2 : ¬ p = ⟨#[]⟩) : wrMax s [q,p] = if e ≠ 0 then (s,e) else if f ≠ 0 then (s,f) else if m = maxI then (s,2) else ({ s with quota:=n,period:=m,burst:=if n = maxI \/ n < s.burst then 0 else s.burst },0):=by
 unfold wrMax
 have hl : [q,p].length = 2:=rfl
 simp only [List.headD_cons,List.drop_succ_cons,List.drop_zero,h1,h2]
 rw [if_neg (by rw [hl]; simp [e1,e2])]
 by_cases he : e = 0
 ·rw [if_neg (c:=e ≠ 0) (fun h=>h he),if_neg (c:=e ≠ 0) (fun h=>h he)]
  by_cases hf : f = 0
  ·rw [if_neg (fun h=>h.2 hf),if_neg (c:=f ≠ 0) (fun h=>h hf)]
   by_cases hm : m = maxI
   .rw [if_pos ⟨hl,hm⟩,if_pos hm]
   .rw [if_neg (fun h=>hm h.2),if_neg hm,if_pos hl]
  .rw [if_pos ⟨hl,hf⟩,if_pos (c:=f ≠ 0) hf]
 .rw [if_pos (c:=e ≠ 0) he,if_pos (c:=e ≠ 0) he]
theorem wrMax2a {s : Stg} {q p : ByteArray} (h : q = ⟨#[]⟩ \/ p = ⟨#[]⟩) : wrMax s [q,p] = (s,2):=by
 exact if_pos (.inr ⟨rfl,h⟩)
theorem wrMax3 {s : Stg} {ws : List ByteArray} (h : 2 < ws.length) : wrMax s ws = (s,2):=if_pos (.inl h)
set_option maxHeartbeats 8000000 in
theorem wr2_eq (s : Stg) (x : ByteArray) (hs : x.size < 1000000) (ha : asciiB x.data.toList = true) {a b c : List PV} : V 52 [.ptr (.arg 0 0) 0 0,.p (.str x)] (hpO (stO s a b c) a b c) = some (.p (.int .i64 (wrF 2 s x).2),hpO (stO (wrF 2 s x).1 a b c) a b c):=by
 refine V_wp (vf:=vf52) rfl ?_
 have h1:=split_x (s:=x) (sep:=⟨#[32]⟩) (by omega) (by decide)
 have hw:=(split_len x 32).1
 have hwl:=(split_len x 32).2
 have hne:=split_ne x
 have hwa:=split_ascii ha
 have c1 : ((1 : Nat) : Int) = 1:=rfl
 have c2 : ((2 : Nat) : Int) = 2:=rfl
 have k1 : decide ((2 : Int) < 1) = false:=rfl
 have k2 : decide ((2 : Int) < 2) = false:=rfl
 have k3 : ((1 : Int) == 2) = false:=rfl
 have k4 : ((2 : Int) == 2) = true:=rfl
 have k5 : decide ((1 : Int) = 2) = false:=rfl
 have k6 : decide ((2 : Int) = 2) = true:=rfl
 have z0 : Int.toNat 0 = 0:=rfl
 have z1 : Int.toNat 1 = 1:=rfl
 generalize hz : wrF 2 s x = z
 have hz' : wrMax s (splitS x ⟨#[32]⟩) = z:=hz
 clear hz
 generalize splitS x ⟨#[32]⟩ = ws at h1 hw hwl hne hwa hz'
 match ws,hne with
 | [q], _ =>
  have hq:=parse_eq q (by have:=hw q (by simp); omega) (hwa q (by simp))
  obtain ⟨n,e,hp⟩ : ∃ n e,parseN q.data.toList = (n,e):=⟨_,_,rfl⟩
  rw [hp] at hq
  simp only at hq
  rw [wrMax1 hp] at hz'
  clear hp
  by_cases he : e = 0
  ·subst he
   rw [if_neg (by simp)] at hz'
   subst hz'
   by_cases hn : n = 4611686018427387904
   ·simp -implicitDefEqProofs (disch:=omega) only [vf52,vb52,h1,hq,hn,c1,k1,k3,k5,z0,List.getElem?_cons_zero,go_sem,↓reduceIte,rA,rS,rE,rL,reduceCtorEq]
   ·by_cases hb : n < s.burst
    ·simp -implicitDefEqProofs (disch:=omega) only [vf52,vb52,h1,hq,hn,hb,c1,k1,k3,k5,z0,List.getElem?_cons_zero,go_sem,↓reduceIte,rA,rS,rE,rL,reduceCtorEq]
    ·simp -implicitDefEqProofs (disch:=omega) only [vf52,vb52,h1,hq,hn,hb,c1,k1,k3,k5,z0,List.getElem?_cons_zero,go_sem,↓reduceIte,rA,rS,rE,rL,reduceCtorEq]
  ·rw [if_pos he] at hz'
   subst hz'
   simp -implicitDefEqProofs (disch:=omega) only [vf52,vb52,h1,hq,he,c1,k1,k3,k5,z0,List.getElem?_cons_zero,go_sem,↓reduceIte,rA,rS,rE,rL,reduceCtorEq]
 | [q, p], _ =>
  have hq:=parse_eq q (by have:=hw q (by simp); omega) (hwa q (by simp))
  have hp:=parse_eq p (by have:=hw p (by simp); omega) (hwa p (by simp))
  by_cases e1 : q = ⟨#[]⟩
  ·rw [wrMax2a (.inl e1)] at hz'
   subst hz'
   simp -implicitDefEqProofs (disch:=omega) only [vf52,vb52,h1,e1,c2,k2,k4,k6,z0,z1,List.getElem?_cons_zero,List.getElem?_cons_succ,go_sem,↓reduceIte,rA,rS,rE,rL,reduceCtorEq]
  ·by_cases e2 : p = ⟨#[]⟩
   ·rw [wrMax2a (.inr e2)] at hz'
    subst hz'
    simp -implicitDefEqProofs (disch:=omega) only [vf52,vb52,h1,e1,e2,c2,k2,k4,k6,z0,z1,List.getElem?_cons_zero,List.getElem?_cons_succ,go_sem,↓reduceIte,rA,rS,rE,rL,reduceCtorEq]
   ·obtain ⟨n,e,hpq⟩ : ∃ n e,parseN q.data.toList = (n,e):=⟨_,_,rfl⟩
    obtain ⟨m,f,hpp⟩ : ∃ n e,parseN p.data.toList = (n,e):=⟨_,_,rfl⟩
    rw [hpq] at hq
    rw [hpp] at hp
    simp only at hq hp
    rw [wrMax2 hpq hpp e1 e2] at hz'
    clear hpq hpp
    by_cases he : e = 0
    ·subst he
     rw [if_neg (by simp)] at hz'
     by_cases hf : f = 0
     ·subst hf
      rw [if_neg (by simp)] at hz'
      by_cases hm : m = 4611686018427387904
      ·rw [if_pos hm] at hz'
       subst hz'
       simp -implicitDefEqProofs (disch:=omega) only [vf52,vb52,h1,hq,hp,e1,e2,hm,c2,k2,k4,k6,z0,z1,List.getElem?_cons_zero,List.getElem?_cons_succ,go_sem,↓reduceIte,rA,rS,rE,rL,reduceCtorEq]
      ·rw [if_neg hm] at hz'
       subst hz'
       by_cases hn : n = 4611686018427387904
       ·simp -implicitDefEqProofs (disch:=omega) only [vf52,vb52,h1,hq,hp,e1,e2,hm,hn,c2,k2,k4,k6,z0,z1,List.getElem?_cons_zero,List.getElem?_cons_succ,go_sem,↓reduceIte,rA,rS,rE,rL,reduceCtorEq]
       ·by_cases hb : n < s.burst
        .simp -implicitDefEqProofs (disch:=omega) only [vf52,vb52,h1,hq,hp,e1,e2,hm,hn,hb,c2,k2,k4,k6,z0,z1,List.getElem?_cons_zero,List.getElem?_cons_succ,go_sem,↓reduceIte,rA,rS,rE,rL,reduceCtorEq]
        .simp -implicitDefEqProofs (disch:=omega) only [vf52,vb52,h1,hq,hp,e1,e2,hm,hn,hb,c2,k2,k4,k6,z0,z1,List.getElem?_cons_zero,List.getElem?_cons_succ,go_sem,↓reduceIte,rA,rS,rE,rL,reduceCtorEq]
     ·rw [if_pos hf] at hz'
      subst hz'
      simp -implicitDefEqProofs (disch:=omega) only [vf52,vb52,h1,hq,hp,e1,e2,hf,c2,k2,k4,k6,z0,z1,List.getElem?_cons_zero,List.getElem?_cons_succ,go_sem,↓reduceIte,rA,rS,rE,rL,reduceCtorEq]
    ·rw [if_pos he] at hz'
     subst hz'
     simp -implicitDefEqProofs (disch:=omega) only [vf52,vb52,h1,hq,he,e1,e2,c2,k2,k4,k6,z0,z1,List.getElem?_cons_zero,List.getElem?_cons_succ,go_sem,↓reduceIte,rA,rS,rE,rL,reduceCtorEq]
 | q :: p :: r :: t,_ =>
  have hl : 2 < (q :: p :: r :: t).length:=by simp
  rw [wrMax3 hl] at hz'
  subst hz'
  generalize q :: p :: r :: t = ws at h1 hl hwl
  have hl2 : (2 : Int) < (ws.length : Int):=by omega
  simp -implicitDefEqProofs (disch:=omega) only [vf52,vb52,h1,hl2,go_sem,↓reduceIte,rA,rS,rE,rL,reduceCtorEq]
end Go.V
namespace Go.V
end Go.V
namespace Go.V
theorem rangeI_asc (a b : Int) : Asc (rangeI a b):=by
 rw [rangeI,Asc,List.pairwise_map]
 exact List.pairwise_lt_range.imp fun h=>by omega
theorem mem_spanL {x : Int} : ∀ {ps : List (Int × Int)} {next : Int},ps.Pairwise (fun a b=>a.1 <= b.1) -> (x ∈ spanL next ps ↔ next <= x /\ ∃ p ∈ ps,p.1 <= x /\ x <= p.2)
 | [],next,_=>by simp [spanL]
 | p :: r,next,h=>by
  obtain ⟨h1,h2⟩:=lpw.1 h
  simp only [spanL,lmp,mem_rangeI,mem_spanL h2]
  constructor
  ·rintro (⟨e1,e2⟩ | ⟨e1,q,hq,e2,e3⟩)
   ·exact ⟨by omega,p,lms ..,by omega,e2⟩
   ·exact ⟨by omega,q,lmc _ hq,e2,e3⟩
  ·rintro ⟨e1,q,hq,e2,e3⟩
   rcases lmk.1 hq with rfl | hq
   ·exact .inl ⟨by omega,e3⟩
   ·have:=h1 q hq
    by_cases hx : x <= p.2
    .exact .inl ⟨by omega,hx⟩
    .exact .inr ⟨by omega,q,hq,e2,e3⟩
theorem spanL_asc : ∀ {ps : List (Int × Int)} {next : Int},ps.Pairwise (fun a b=>a.1 <= b.1) -> Asc (spanL next ps)
 | [],next,_=>List.Pairwise.nil
 | p :: r,next,h=>by
  obtain ⟨h1,h2⟩:=lpw.1 h
  simp only [spanL]
  refine List.pairwise_append.2 ⟨rangeI_asc _ _,spanL_asc h2,fun x hx y hy=>?_⟩
  have e1:=mem_rangeI.1 hx
  have e2:=((mem_spanL h2).1 hy).1
  omega
end Go.V
namespace Go.V
theorem parseT_len (x : ByteArray) (n : Int) : (parseT x n).1.length < 1000000:=by
 unfold parseT
 split
 ·simp
 ·split
  ·simp
  ·rename_i ps _
   split
   ·simp
   ·rename_i h
    have ha:=spanL_asc (next:=0) (sortQ_sorted ps)
    have hb : ∀ y ∈ spanL 0 (sortQ ps),0 <= y /\ y < 65536:=fun y hy=>by
     obtain ⟨h1,p,hp,_,h3⟩:=(mem_spanL (sortQ_sorted ps)).1 hy
     have h0:=List.any_eq_false.1 (Bool.not_eq_true _ ▸ h : ps.any (highB n) = false) p ((sortQ_perm ps).subset hp)
     simp only [highB,decide_eq_true_eq] at h0
     exact ⟨h1,by omega⟩
    have:=asc_len ha hb
    simp only
    omega
theorem wrF_keeps {k : Nat} (s : Stg) (x : ByteArray) (h6 : k ≠ 6) (h7 : k ≠ 7) : (wrF k s x).1.cpus = s.cpus /\ (wrF k s x).1.mems = s.mems:=by
 have key : ∀ ps,(wrMax s ps).1.cpus = s.cpus /\ (wrMax s ps).1.mems = s.mems:=fun ps=>by
  unfold wrMax
  simp only
  repeat' split
  all_goals exact ⟨rfl,rfl⟩
 unfold wrF
 split
 all_goals first | exact absurd rfl h6 | exact absurd rfl h7 | exact key _ | skip
 all_goals
  repeat' split
  all_goals exact ⟨rfl,rfl⟩
theorem line_ascii {x : ByteArray} (h : asciiB x.data.toList = true) : asciiB (lineB x).data.toList = true /\ (lineB x).size <= x.size:=by
 have e : (lineB x).data.toList = Lib.trimSuffix x.data.toList [10]:=by simp [lineB,bsL]
 have hl : (lineB x).size = (Lib.trimSuffix x.data.toList [10]).length:=size_bs _
 have hx : x.size = x.data.toList.length:=rfl
 rw [e,hl,hx]
 rw [asciiB,List.all_eq_true] at *
 unfold Lib.trimSuffix
 split
 .exact ⟨fun y hy=>h y (List.mem_of_mem_take hy),by rw [llt]; omega⟩
 .exact ⟨h,lrf _⟩
set_option maxHeartbeats 4000000 in
theorem find_no {x : ByteArray} (hne : ∀ i,i < 9 -> ¬ nmF i = x) : V 26 [.p (.str x)] [] = some (.tup [.agg [.p (.str ⟨#[]⟩),.p (.int .i64 0),.p .nilp,.p .nilp],.p (.bool false)],[]):=by
 refine V_wp (vf:=vf26) rfl ?_
 have ht:=table_eq
 have hl:=tab_len
 have hg:=@tab_get
 generalize tabL = L at ht hl hg
 simp -implicitDefEqProofs (disch:=omega) only [vf26,vb26,ht,hl,go_sem,↓reduceIte,rA,rS,rE,rL,reduceCtorEq]
 obtain ⟨I,hI⟩ : ∃ I : Nat -> St -> Prop,∀ k s,I k s ↔ s.pe 0 = .p (.str x) /\ s.pe 2 = .ptr (.slot 2 0) 0 0 /\ s.pe 6 = .own (.slot 6 1) 0 0 9 /\ s.pe 7 = .p (.int .i64 9) /\ s.pe 8 = .p (.int .i64 k) /\ s.h (.slot 2 0) = some (0,Ob.box [.p (.str ⟨#[]⟩),.p (.int .i64 0),.p .nilp,.p .nilp]) /\ s.h (.slot 6 1) = some (0,Ob.arr 4 L):=⟨_,fun _ _=>Iff.rfl⟩
 refine wp_count (9) I ?_ ?_
 ·refine (hI _ _).2 ⟨?_,?_,?_,?_,?_,?_,?_⟩
  all_goals exact cl0
 intro k s hk hIk
 obtain ⟨h0,h2,h6,h7,h8,hh2_0,hh6_1⟩:=(hI _ _).1 hIk
 clear hIk
 by_cases h9 : k < 9
 ·have hlt : (k : Int) < 9:=by omega
  have hc:=hg (k:=k) (by omega)
  have hn:=hne k (by omega)
  have w1 : IntKind.i64.wrap ((k : Int) + 1) = ((k + 1 : Nat) : Int):=wrap64 (by omega) (by omega)
  simp -implicitDefEqProofs (disch:=omega) only [h0,h2,h6,h7,h8,hh2_0,hh6_1,hlt,hc,hn,w1,go_sem,↓reduceIte,rA,rS,rE,rL,reduceCtorEq]
  try refine And.intro (by omega) ?_
  refine (hI _ _).2 ⟨?_,?_,?_,?_,?_,?_,?_⟩
  all_goals exact cl0
 ·have hlt : ¬ (k : Int) < 9:=by omega
  simp -implicitDefEqProofs (disch:=omega) only [h0,h2,h6,h7,h8,hh2_0,hh6_1,hlt,go_sem,↓reduceIte,rA,rS,rE,rL,reduceCtorEq]
abbrev stZ : List VVal:=[.p (.int .i64 0),.p (.int .i64 0),.p (.int .i64 0),.p (.int .i64 0),.p (.int .i64 0),.p (.int .i64 0),.p (.int .i64 0),.fresh 1 [],.fresh 1 [],.p (.int .i64 0),.p (.int .i64 0),.p (.int .i64 0),.p (.int .i64 0),.p (.int .i64 0),.p (.int .i64 0),.p (.bool false),.fresh 7 []]
set_option maxHeartbeats 4000000 in
theorem write_no {x : ByteArray} (hne : ∀ i,i < 9 -> ¬ nmF i = x) (s : Stg) (y : ByteArray) : V 11 [.agg (stC s),.p (.str x),.p (.str y)] [] = some (.tup [.agg stZ,.p (.int .i64 4)],[]):=by
 refine V_wp (vf:=vf11) rfl ?_
 have hf:=find_no hne
 simp -implicitDefEqProofs (disch:=omega) only [vf11,vb11,hf,go_sem,↓reduceIte,rA,rS,rE,rL,reduceCtorEq]
end Go.V
namespace Go.V
abbrev wrV : Option Stg -> List VVal
 | some s=>stF s
 | none=>stZ
theorem wrA_a {k : Nat} {s : Stg} {x : ByteArray} (h : checkS s = false) : wrA k s x = (none,1):=if_pos h
theorem wrA_b {k : Nat} {s : Stg} {x : ByteArray} (h : checkS s = true) (hz : 4096 < x.size) : wrA k s x = (none,7):=by
 rw [wrA,if_neg (by simp [h]),if_pos hz]
theorem wrA_c {k : Nat} {s a : Stg} {e : Int} {x : ByteArray} (h : checkS s = true) (hz : ¬ 4096 < x.size) (hq : wrF k s (lineB x) = (a,e)) (he : ¬ e = 0) : wrA k s x = (none,e):=by
 rw [wrA,if_neg (by simp [h]),if_neg hz,hq,if_pos he]
theorem wrA_d {k : Nat} {s a : Stg} {x : ByteArray} (h : checkS s = true) (hz : ¬ 4096 < x.size) (hq : wrF k s (lineB x) = (a,0)) (hc : checkS a = false) : wrA k s x = (none,3):=by
 rw [wrA,if_neg (by simp [h]),if_neg hz,hq,if_neg (by simp),if_pos hc]
theorem wrA_e {k : Nat} {s a : Stg} {x : ByteArray} (h : checkS s = true) (hz : ¬ 4096 < x.size) (hq : wrF k s (lineB x) = (a,0)) (hc : checkS a = true) : wrA k s x = (some a,0):=by
 rw [wrA,if_neg (by simp [h]),if_neg hz,hq,if_neg (by simp),if_neg (by simp [hc])]
set_option maxHeartbeats 4000000 in
theorem write0_eq (s : Stg) (h1 : s.cpus.length < 1000000) (h2 : s.mems.length < 1000000) (x : ByteArray) (hx : x.size < 1000000) (ha : asciiB x.data.toList = true) : V 11 [.agg (stC s),.p (.str (nmF 0)),.p (.str x)] [] = some (.tup [.agg (wrV (wrA 0 s x).1),.p (.int .i64 (wrA 0 s x).2)],[]):=by
 refine V_wp (vf:=vf11) rfl ?_
 have hf:=find_eq (g:=0) (by omega)
 have hc:=check_eq s h1 h2
 have hcp:=copy_eq s h1 h2
 have hli:=line_eq x (by omega)
 have hl:=line_ascii ha
 have hp : wrP 0 = .clo 65 [.agg [.bool true],.agg [.fn 49]]:=rfl
 cases hs : checkS s
 ·rw [hs] at hc
  rw [wrA_a hs]
  simp -implicitDefEqProofs (disch:=omega) only [vf11,vb11,hf,hc,go_sem,↓reduceIte,rA,rS,rE,rL,reduceCtorEq]
 rw [hs] at hc
 by_cases hz : 4096 < x.size
 ·rw [wrA_b hs hz]
  have hz2 : (4096 : Int) < (x.size : Int):=by omega
  simp -implicitDefEqProofs (disch:=omega) only [vf11,vb11,hf,hc,hz2,go_sem,↓reduceIte,rA,rS,rE,rL,reduceCtorEq]
 have hz2 : ¬ (4096 : Int) < (x.size : Int):=by omega
 have hw:=wr0_eq s (lineB x) (by omega) hl.1 (a:=s.cpus.map (.int .i64)) (b:=s.mems.map (.int .i64)) (c:=[])
 simp only [hpO,stO,llm,lln] at hw
 have hk:=wrF_keeps (k:=0) s (lineB x) (by omega) (by omega)
 obtain ⟨a,e,hq⟩ : ∃ a e,wrF 0 s (lineB x) = (a,e):=⟨_,_,rfl⟩
 rw [hq] at hw hk
 simp only at hw hk
 obtain ⟨k1,k2⟩:=hk
 have hc2:=check_eq a (by rw [k1]; exact h1) (by rw [k2]; exact h2)
 simp only [stC,k1,k2] at hc2
 have p3:=fun he=>wrA_c (k:=0) hs hz hq he
 by_cases he : e = 0
 ·subst he
  cases ht : checkS a
  ·rw [ht] at hc2
   rw [wrA_d hs hz hq ht]
   clear p3 hq
   generalize lineB x = y at hli hw
   simp -implicitDefEqProofs (disch:=omega) only [vf11,vb11,hf,hc,hz2,hli,hcp,hp,hw,hc2,go_sem,↓reduceIte,rA,rS,rE,rL,reduceCtorEq]
  ·rw [ht] at hc2
   rw [wrA_e hs hz hq ht]
   clear p3 hq
   generalize lineB x = y at hli hw
   simp -implicitDefEqProofs (disch:=omega) only [vf11,vb11,hf,hc,hz2,hli,hcp,hp,hw,hc2,go_sem,↓reduceIte,rA,rS,rE,rL,reduceCtorEq]
   simp only [wrV,stF,k1,k2]
 ·rw [p3 he]
  clear p3 hq
  generalize lineB x = y at hli hw
  simp -implicitDefEqProofs (disch:=omega) only [vf11,vb11,hf,hc,hz2,hli,hcp,hp,hw,he,go_sem,↓reduceIte,rA,rS,rE,rL,reduceCtorEq]
set_option maxHeartbeats 4000000 in
theorem write1_eq (s : Stg) (h1 : s.cpus.length < 1000000) (h2 : s.mems.length < 1000000) (x : ByteArray) (hx : x.size < 1000000) (ha : asciiB x.data.toList = true) : V 11 [.agg (stC s),.p (.str (nmF 1)),.p (.str x)] [] = some (.tup [.agg (wrV (wrA 1 s x).1),.p (.int .i64 (wrA 1 s x).2)],[]):=by
 refine V_wp (vf:=vf11) rfl ?_
 have hf:=find_eq (g:=1) (by omega)
 have hc:=check_eq s h1 h2
 have hcp:=copy_eq s h1 h2
 have hli:=line_eq x (by omega)
 have hl:=line_ascii ha
 have hp : wrP 1 = .clo 65 [.agg [.bool false],.agg [.fn 50]]:=rfl
 cases hs : checkS s
 ·rw [hs] at hc
  rw [wrA_a hs]
  simp -implicitDefEqProofs (disch:=omega) only [vf11,vb11,hf,hc,go_sem,↓reduceIte,rA,rS,rE,rL,reduceCtorEq]
 rw [hs] at hc
 by_cases hz : 4096 < x.size
 ·rw [wrA_b hs hz]
  have hz2 : (4096 : Int) < (x.size : Int):=by omega
  simp -implicitDefEqProofs (disch:=omega) only [vf11,vb11,hf,hc,hz2,go_sem,↓reduceIte,rA,rS,rE,rL,reduceCtorEq]
 have hz2 : ¬ (4096 : Int) < (x.size : Int):=by omega
 have hw:=wr1_eq s (lineB x) (by omega) hl.1 (a:=s.cpus.map (.int .i64)) (b:=s.mems.map (.int .i64)) (c:=[])
 simp only [hpO,stO,llm,lln] at hw
 have hk:=wrF_keeps (k:=1) s (lineB x) (by omega) (by omega)
 obtain ⟨a,e,hq⟩ : ∃ a e,wrF 1 s (lineB x) = (a,e):=⟨_,_,rfl⟩
 rw [hq] at hw hk
 simp only at hw hk
 obtain ⟨k1,k2⟩:=hk
 have hc2:=check_eq a (by rw [k1]; exact h1) (by rw [k2]; exact h2)
 simp only [stC,k1,k2] at hc2
 have p3:=fun he=>wrA_c (k:=1) hs hz hq he
 by_cases he : e = 0
 ·subst he
  cases ht : checkS a
  ·rw [ht] at hc2
   rw [wrA_d hs hz hq ht]
   clear p3 hq
   generalize lineB x = y at hli hw
   simp -implicitDefEqProofs (disch:=omega) only [vf11,vb11,hf,hc,hz2,hli,hcp,hp,hw,hc2,go_sem,↓reduceIte,rA,rS,rE,rL,reduceCtorEq]
  ·rw [ht] at hc2
   rw [wrA_e hs hz hq ht]
   clear p3 hq
   generalize lineB x = y at hli hw
   simp -implicitDefEqProofs (disch:=omega) only [vf11,vb11,hf,hc,hz2,hli,hcp,hp,hw,hc2,go_sem,↓reduceIte,rA,rS,rE,rL,reduceCtorEq]
   simp only [wrV,stF,k1,k2]
 ·rw [p3 he]
  clear p3 hq
  generalize lineB x = y at hli hw
  simp -implicitDefEqProofs (disch:=omega) only [vf11,vb11,hf,hc,hz2,hli,hcp,hp,hw,he,go_sem,↓reduceIte,rA,rS,rE,rL,reduceCtorEq]
set_option maxHeartbeats 4000000 in
theorem write2_eq (s : Stg) (h1 : s.cpus.length < 1000000) (h2 : s.mems.length < 1000000) (x : ByteArray) (hx : x.size < 1000000) (ha : asciiB x.data.toList = true) : V 11 [.agg (stC s),.p (.str (nmF 2)),.p (.str x)] [] = some (.tup [.agg (wrV (wrA 2 s x).1),.p (.int .i64 (wrA 2 s x).2)],[]):=by
 refine V_wp (vf:=vf11) rfl ?_
 have hf:=find_eq (g:=2) (by omega)
 have hc:=check_eq s h1 h2
 have hcp:=copy_eq s h1 h2
 have hli:=line_eq x (by omega)
 have hl:=line_ascii ha
 have hp : wrP 2 = .fn 52:=rfl
 cases hs : checkS s
 ·rw [hs] at hc
  rw [wrA_a hs]
  simp -implicitDefEqProofs (disch:=omega) only [vf11,vb11,hf,hc,go_sem,↓reduceIte,rA,rS,rE,rL,reduceCtorEq]
 rw [hs] at hc
 by_cases hz : 4096 < x.size
 ·rw [wrA_b hs hz]
  have hz2 : (4096 : Int) < (x.size : Int):=by omega
  simp -implicitDefEqProofs (disch:=omega) only [vf11,vb11,hf,hc,hz2,go_sem,↓reduceIte,rA,rS,rE,rL,reduceCtorEq]
 have hz2 : ¬ (4096 : Int) < (x.size : Int):=by omega
 have hw:=wr2_eq s (lineB x) (by omega) hl.1 (a:=s.cpus.map (.int .i64)) (b:=s.mems.map (.int .i64)) (c:=[])
 simp only [hpO,stO,llm,lln] at hw
 have hk:=wrF_keeps (k:=2) s (lineB x) (by omega) (by omega)
 obtain ⟨a,e,hq⟩ : ∃ a e,wrF 2 s (lineB x) = (a,e):=⟨_,_,rfl⟩
 rw [hq] at hw hk
 simp only at hw hk
 obtain ⟨k1,k2⟩:=hk
 have hc2:=check_eq a (by rw [k1]; exact h1) (by rw [k2]; exact h2)
 simp only [stC,k1,k2] at hc2
 have p3:=fun he=>wrA_c (k:=2) hs hz hq he
 by_cases he : e = 0
 ·subst he
  cases ht : checkS a
  ·rw [ht] at hc2
   rw [wrA_d hs hz hq ht]
   clear p3 hq
   generalize lineB x = y at hli hw
   simp -implicitDefEqProofs (disch:=omega) only [vf11,vb11,hf,hc,hz2,hli,hcp,hp,hw,hc2,go_sem,↓reduceIte,rA,rS,rE,rL,reduceCtorEq]
  ·rw [ht] at hc2
   rw [wrA_e hs hz hq ht]
   clear p3 hq
   generalize lineB x = y at hli hw
   simp -implicitDefEqProofs (disch:=omega) only [vf11,vb11,hf,hc,hz2,hli,hcp,hp,hw,hc2,go_sem,↓reduceIte,rA,rS,rE,rL,reduceCtorEq]
   simp only [wrV,stF,k1,k2]
 ·rw [p3 he]
  clear p3 hq
  generalize lineB x = y at hli hw
  simp -implicitDefEqProofs (disch:=omega) only [vf11,vb11,hf,hc,hz2,hli,hcp,hp,hw,he,go_sem,↓reduceIte,rA,rS,rE,rL,reduceCtorEq]
set_option maxHeartbeats 4000000 in
theorem write3_eq (s : Stg) (h1 : s.cpus.length < 1000000) (h2 : s.mems.length < 1000000) (x : ByteArray) (hx : x.size < 1000000) (ha : asciiB x.data.toList = true) : V 11 [.agg (stC s),.p (.str (nmF 3)),.p (.str x)] [] = some (.tup [.agg (wrV (wrA 3 s x).1),.p (.int .i64 (wrA 3 s x).2)],[]):=by
 refine V_wp (vf:=vf11) rfl ?_
 have hf:=find_eq (g:=3) (by omega)
 have hc:=check_eq s h1 h2
 have hcp:=copy_eq s h1 h2
 have hli:=line_eq x (by omega)
 have hl:=line_ascii ha
 have hp : wrP 3 = .clo 65 [.agg [.bool false],.agg [.fn 53]]:=rfl
 cases hs : checkS s
 ·rw [hs] at hc
  rw [wrA_a hs]
  simp -implicitDefEqProofs (disch:=omega) only [vf11,vb11,hf,hc,go_sem,↓reduceIte,rA,rS,rE,rL,reduceCtorEq]
 rw [hs] at hc
 by_cases hz : 4096 < x.size
 ·rw [wrA_b hs hz]
  have hz2 : (4096 : Int) < (x.size : Int):=by omega
  simp -implicitDefEqProofs (disch:=omega) only [vf11,vb11,hf,hc,hz2,go_sem,↓reduceIte,rA,rS,rE,rL,reduceCtorEq]
 have hz2 : ¬ (4096 : Int) < (x.size : Int):=by omega
 have hw:=wr3_eq s (lineB x) (by omega) hl.1 (a:=s.cpus.map (.int .i64)) (b:=s.mems.map (.int .i64)) (c:=[])
 simp only [hpO,stO,llm,lln] at hw
 have hk:=wrF_keeps (k:=3) s (lineB x) (by omega) (by omega)
 obtain ⟨a,e,hq⟩ : ∃ a e,wrF 3 s (lineB x) = (a,e):=⟨_,_,rfl⟩
 rw [hq] at hw hk
 simp only at hw hk
 obtain ⟨k1,k2⟩:=hk
 have hc2:=check_eq a (by rw [k1]; exact h1) (by rw [k2]; exact h2)
 simp only [stC,k1,k2] at hc2
 have p3:=fun he=>wrA_c (k:=3) hs hz hq he
 by_cases he : e = 0
 ·subst he
  cases ht : checkS a
  ·rw [ht] at hc2
   rw [wrA_d hs hz hq ht]
   clear p3 hq
   generalize lineB x = y at hli hw
   simp -implicitDefEqProofs (disch:=omega) only [vf11,vb11,hf,hc,hz2,hli,hcp,hp,hw,hc2,go_sem,↓reduceIte,rA,rS,rE,rL,reduceCtorEq]
  ·rw [ht] at hc2
   rw [wrA_e hs hz hq ht]
   clear p3 hq
   generalize lineB x = y at hli hw
   simp -implicitDefEqProofs (disch:=omega) only [vf11,vb11,hf,hc,hz2,hli,hcp,hp,hw,hc2,go_sem,↓reduceIte,rA,rS,rE,rL,reduceCtorEq]
   simp only [wrV,stF,k1,k2]
 ·rw [p3 he]
  clear p3 hq
  generalize lineB x = y at hli hw
  simp -implicitDefEqProofs (disch:=omega) only [vf11,vb11,hf,hc,hz2,hli,hcp,hp,hw,he,go_sem,↓reduceIte,rA,rS,rE,rL,reduceCtorEq]
set_option maxHeartbeats 4000000 in
theorem write4_eq (s : Stg) (h1 : s.cpus.length < 1000000) (h2 : s.mems.length < 1000000) (x : ByteArray) (hx : x.size < 1000000) (ha : asciiB x.data.toList = true) : V 11 [.agg (stC s),.p (.str (nmF 4)),.p (.str x)] [] = some (.tup [.agg (wrV (wrA 4 s x).1),.p (.int .i64 (wrA 4 s x).2)],[]):=by
 refine V_wp (vf:=vf11) rfl ?_
 have hf:=find_eq (g:=4) (by omega)
 have hc:=check_eq s h1 h2
 have hcp:=copy_eq s h1 h2
 have hli:=line_eq x (by omega)
 have hl:=line_ascii ha
 have hp : wrP 4 = .clo 70 [.agg [.fn 55]]:=rfl
 cases hs : checkS s
 ·rw [hs] at hc
  rw [wrA_a hs]
  simp -implicitDefEqProofs (disch:=omega) only [vf11,vb11,hf,hc,go_sem,↓reduceIte,rA,rS,rE,rL,reduceCtorEq]
 rw [hs] at hc
 by_cases hz : 4096 < x.size
 ·rw [wrA_b hs hz]
  have hz2 : (4096 : Int) < (x.size : Int):=by omega
  simp -implicitDefEqProofs (disch:=omega) only [vf11,vb11,hf,hc,hz2,go_sem,↓reduceIte,rA,rS,rE,rL,reduceCtorEq]
 have hz2 : ¬ (4096 : Int) < (x.size : Int):=by omega
 have hw:=wr4_eq s (lineB x) (by omega) hl.1 (a:=s.cpus.map (.int .i64)) (b:=s.mems.map (.int .i64)) (c:=[])
 simp only [hpO,stO,llm,lln] at hw
 have hk:=wrF_keeps (k:=4) s (lineB x) (by omega) (by omega)
 obtain ⟨a,e,hq⟩ : ∃ a e,wrF 4 s (lineB x) = (a,e):=⟨_,_,rfl⟩
 rw [hq] at hw hk
 simp only at hw hk
 obtain ⟨k1,k2⟩:=hk
 have hc2:=check_eq a (by rw [k1]; exact h1) (by rw [k2]; exact h2)
 simp only [stC,k1,k2] at hc2
 have p3:=fun he=>wrA_c (k:=4) hs hz hq he
 by_cases he : e = 0
 ·subst he
  cases ht : checkS a
  ·rw [ht] at hc2
   rw [wrA_d hs hz hq ht]
   clear p3 hq
   generalize lineB x = y at hli hw
   simp -implicitDefEqProofs (disch:=omega) only [vf11,vb11,hf,hc,hz2,hli,hcp,hp,hw,hc2,go_sem,↓reduceIte,rA,rS,rE,rL,reduceCtorEq]
  ·rw [ht] at hc2
   rw [wrA_e hs hz hq ht]
   clear p3 hq
   generalize lineB x = y at hli hw
   simp -implicitDefEqProofs (disch:=omega) only [vf11,vb11,hf,hc,hz2,hli,hcp,hp,hw,hc2,go_sem,↓reduceIte,rA,rS,rE,rL,reduceCtorEq]
   simp only [wrV,stF,k1,k2]
 ·rw [p3 he]
  clear p3 hq
  generalize lineB x = y at hli hw
  simp -implicitDefEqProofs (disch:=omega) only [vf11,vb11,hf,hc,hz2,hli,hcp,hp,hw,he,go_sem,↓reduceIte,rA,rS,rE,rL,reduceCtorEq]
set_option maxHeartbeats 4000000 in
theorem write5_eq (s : Stg) (h1 : s.cpus.length < 1000000) (h2 : s.mems.length < 1000000) (x : ByteArray) (hx : x.size < 1000000) (ha : asciiB x.data.toList = true) : V 11 [.agg (stC s),.p (.str (nmF 5)),.p (.str x)] [] = some (.tup [.agg (wrV (wrA 5 s x).1),.p (.int .i64 (wrA 5 s x).2)],[]):=by
 refine V_wp (vf:=vf11) rfl ?_
 have hf:=find_eq (g:=5) (by omega)
 have hc:=check_eq s h1 h2
 have hcp:=copy_eq s h1 h2
 have hli:=line_eq x (by omega)
 have hl:=line_ascii ha
 have hp : wrP 5 = .clo 70 [.agg [.fn 56]]:=rfl
 cases hs : checkS s
 ·rw [hs] at hc
  rw [wrA_a hs]
  simp -implicitDefEqProofs (disch:=omega) only [vf11,vb11,hf,hc,go_sem,↓reduceIte,rA,rS,rE,rL,reduceCtorEq]
 rw [hs] at hc
 by_cases hz : 4096 < x.size
 ·rw [wrA_b hs hz]
  have hz2 : (4096 : Int) < (x.size : Int):=by omega
  simp -implicitDefEqProofs (disch:=omega) only [vf11,vb11,hf,hc,hz2,go_sem,↓reduceIte,rA,rS,rE,rL,reduceCtorEq]
 have hz2 : ¬ (4096 : Int) < (x.size : Int):=by omega
 have hw:=wr5_eq s (lineB x) (by omega) hl.1 (a:=s.cpus.map (.int .i64)) (b:=s.mems.map (.int .i64)) (c:=[])
 simp only [hpO,stO,llm,lln] at hw
 have hk:=wrF_keeps (k:=5) s (lineB x) (by omega) (by omega)
 obtain ⟨a,e,hq⟩ : ∃ a e,wrF 5 s (lineB x) = (a,e):=⟨_,_,rfl⟩
 rw [hq] at hw hk
 simp only at hw hk
 obtain ⟨k1,k2⟩:=hk
 have hc2:=check_eq a (by rw [k1]; exact h1) (by rw [k2]; exact h2)
 simp only [stC,k1,k2] at hc2
 have p3:=fun he=>wrA_c (k:=5) hs hz hq he
 by_cases he : e = 0
 ·subst he
  cases ht : checkS a
  ·rw [ht] at hc2
   rw [wrA_d hs hz hq ht]
   clear p3 hq
   generalize lineB x = y at hli hw
   simp -implicitDefEqProofs (disch:=omega) only [vf11,vb11,hf,hc,hz2,hli,hcp,hp,hw,hc2,go_sem,↓reduceIte,rA,rS,rE,rL,reduceCtorEq]
  ·rw [ht] at hc2
   rw [wrA_e hs hz hq ht]
   clear p3 hq
   generalize lineB x = y at hli hw
   simp -implicitDefEqProofs (disch:=omega) only [vf11,vb11,hf,hc,hz2,hli,hcp,hp,hw,hc2,go_sem,↓reduceIte,rA,rS,rE,rL,reduceCtorEq]
   simp only [wrV,stF,k1,k2]
 ·rw [p3 he]
  clear p3 hq
  generalize lineB x = y at hli hw
  simp -implicitDefEqProofs (disch:=omega) only [vf11,vb11,hf,hc,hz2,hli,hcp,hp,hw,he,go_sem,↓reduceIte,rA,rS,rE,rL,reduceCtorEq]
set_option maxHeartbeats 4000000 in
theorem write6_eq (s : Stg) (h1 : s.cpus.length < 1000000) (h2 : s.mems.length < 1000000) (x : ByteArray) (hx : x.size < 1000000) (ha : asciiB x.data.toList = true) : V 11 [.agg (stC s),.p (.str (nmF 6)),.p (.str x)] [] = some (.tup [.agg (wrV (wrA 6 s x).1),.p (.int .i64 (wrA 6 s x).2)],[]):=by
 refine V_wp (vf:=vf11) rfl ?_
 have hf:=find_eq (g:=6) (by omega)
 have hc:=check_eq s h1 h2
 have hcp:=copy_eq s h1 h2
 have hli:=line_eq x (by omega)
 have hl:=line_ascii ha
 have hp : wrP 6 = .clo 74 [.agg [.int .i64 16],.agg [.fn 58]]:=rfl
 cases hs : checkS s
 ·rw [hs] at hc
  rw [wrA_a hs]
  simp -implicitDefEqProofs (disch:=omega) only [vf11,vb11,hf,hc,go_sem,↓reduceIte,rA,rS,rE,rL,reduceCtorEq]
 rw [hs] at hc
 by_cases hz : 4096 < x.size
 ·rw [wrA_b hs hz]
  have hz2 : (4096 : Int) < (x.size : Int):=by omega
  simp -implicitDefEqProofs (disch:=omega) only [vf11,vb11,hf,hc,hz2,go_sem,↓reduceIte,rA,rS,rE,rL,reduceCtorEq]
 have hz2 : ¬ (4096 : Int) < (x.size : Int):=by omega
 have hw:=wr6_eq s (lineB x) (by omega) (a:=s.cpus.map (.int .i64)) (b:=s.mems.map (.int .i64)) (c:=[])
 simp only [hpO,stO,stO6,llm,lln] at hw
 have hlen:=parseT_len (lineB x) 16
 have hq : wrF 6 s (lineB x) = if (parseT (lineB x) 16).2 ≠ 0 then (s,(parseT (lineB x) 16).2) else ({ s with cpus:=(parseT (lineB x) 16).1 },0):=rfl
 obtain ⟨l,e,hp2⟩ : ∃ l e,parseT (lineB x) 16 = (l,e):=⟨_,_,rfl⟩
 rw [hp2] at hw hlen hq
 simp only at hw hlen hq
 clear hp2
 have hc2:=check_eq { s with cpus:=l } hlen h2
 simp only [stC] at hc2
 by_cases he : e = 0
 ·subst he
  rw [if_pos rfl] at hw
  rw [if_neg (by simp)] at hq
  cases ht : checkS { s with cpus:=l }
  ·rw [ht] at hc2
   rw [wrA_d hs hz hq ht]
   clear hq
   generalize lineB x = y at hli hw
   simp -implicitDefEqProofs (disch:=omega) only [vf11,vb11,hf,hc,hz2,hli,hcp,hp,hw,hc2,go_sem,↓reduceIte,rA,rS,rE,rL,reduceCtorEq]
  ·rw [ht] at hc2
   rw [wrA_e hs hz hq ht]
   clear hq
   generalize lineB x = y at hli hw
   simp -implicitDefEqProofs (disch:=omega) only [vf11,vb11,hf,hc,hz2,hli,hcp,hp,hw,hc2,go_sem,↓reduceIte,rA,rS,rE,rL,reduceCtorEq]
 ·rw [if_neg he] at hw
  rw [if_pos he] at hq
  rw [wrA_c hs hz hq he]
  clear hq
  generalize lineB x = y at hli hw
  simp -implicitDefEqProofs (disch:=omega) only [vf11,vb11,hf,hc,hz2,hli,hcp,hp,hw,he,go_sem,↓reduceIte,rA,rS,rE,rL,reduceCtorEq]
set_option maxHeartbeats 4000000 in
theorem write7_eq (s : Stg) (h1 : s.cpus.length < 1000000) (h2 : s.mems.length < 1000000) (x : ByteArray) (hx : x.size < 1000000) (ha : asciiB x.data.toList = true) : V 11 [.agg (stC s),.p (.str (nmF 7)),.p (.str x)] [] = some (.tup [.agg (wrV (wrA 7 s x).1),.p (.int .i64 (wrA 7 s x).2)],[]):=by
 refine V_wp (vf:=vf11) rfl ?_
 have hf:=find_eq (g:=7) (by omega)
 have hc:=check_eq s h1 h2
 have hcp:=copy_eq s h1 h2
 have hli:=line_eq x (by omega)
 have hl:=line_ascii ha
 have hp : wrP 7 = .clo 74 [.agg [.int .i64 8],.agg [.fn 59]]:=rfl
 cases hs : checkS s
 ·rw [hs] at hc
  rw [wrA_a hs]
  simp -implicitDefEqProofs (disch:=omega) only [vf11,vb11,hf,hc,go_sem,↓reduceIte,rA,rS,rE,rL,reduceCtorEq]
 rw [hs] at hc
 by_cases hz : 4096 < x.size
 ·rw [wrA_b hs hz]
  have hz2 : (4096 : Int) < (x.size : Int):=by omega
  simp -implicitDefEqProofs (disch:=omega) only [vf11,vb11,hf,hc,hz2,go_sem,↓reduceIte,rA,rS,rE,rL,reduceCtorEq]
 have hz2 : ¬ (4096 : Int) < (x.size : Int):=by omega
 have hw:=wr7_eq s (lineB x) (by omega) (a:=s.cpus.map (.int .i64)) (b:=s.mems.map (.int .i64)) (c:=[])
 simp only [hpO,stO,stO7,llm,lln] at hw
 have hlen:=parseT_len (lineB x) 8
 have hq : wrF 7 s (lineB x) = if (parseT (lineB x) 8).2 ≠ 0 then (s,(parseT (lineB x) 8).2) else ({ s with mems:=(parseT (lineB x) 8).1 },0):=rfl
 obtain ⟨l,e,hp2⟩ : ∃ l e,parseT (lineB x) 8 = (l,e):=⟨_,_,rfl⟩
 rw [hp2] at hw hlen hq
 simp only at hw hlen hq
 clear hp2
 have hc2:=check_eq { s with mems:=l } h1 hlen
 simp only [stC] at hc2
 by_cases he : e = 0
 ·subst he
  rw [if_pos rfl] at hw
  rw [if_neg (by simp)] at hq
  cases ht : checkS { s with mems:=l }
  ·rw [ht] at hc2
   rw [wrA_d hs hz hq ht]
   clear hq
   generalize lineB x = y at hli hw
   simp -implicitDefEqProofs (disch:=omega) only [vf11,vb11,hf,hc,hz2,hli,hcp,hp,hw,hc2,go_sem,↓reduceIte,rA,rS,rE,rL,reduceCtorEq]
  ·rw [ht] at hc2
   rw [wrA_e hs hz hq ht]
   clear hq
   generalize lineB x = y at hli hw
   simp -implicitDefEqProofs (disch:=omega) only [vf11,vb11,hf,hc,hz2,hli,hcp,hp,hw,hc2,go_sem,↓reduceIte,rA,rS,rE,rL,reduceCtorEq]
 ·rw [if_neg he] at hw
  rw [if_pos he] at hq
  rw [wrA_c hs hz hq he]
  clear hq
  generalize lineB x = y at hli hw
  simp -implicitDefEqProofs (disch:=omega) only [vf11,vb11,hf,hc,hz2,hli,hcp,hp,hw,he,go_sem,↓reduceIte,rA,rS,rE,rL,reduceCtorEq]
set_option maxHeartbeats 4000000 in
theorem write8_eq (s : Stg) (h1 : s.cpus.length < 1000000) (h2 : s.mems.length < 1000000) (x : ByteArray) (hx : x.size < 1000000) (ha : asciiB x.data.toList = true) : V 11 [.agg (stC s),.p (.str (nmF 8)),.p (.str x)] [] = some (.tup [.agg (wrV (wrA 8 s x).1),.p (.int .i64 (wrA 8 s x).2)],[]):=by
 refine V_wp (vf:=vf11) rfl ?_
 have hf:=find_eq (g:=8) (by omega)
 have hc:=check_eq s h1 h2
 have hcp:=copy_eq s h1 h2
 have hli:=line_eq x (by omega)
 have hl:=line_ascii ha
 have hp : wrP 8 = .fn 61:=rfl
 cases hs : checkS s
 ·rw [hs] at hc
  rw [wrA_a hs]
  simp -implicitDefEqProofs (disch:=omega) only [vf11,vb11,hf,hc,go_sem,↓reduceIte,rA,rS,rE,rL,reduceCtorEq]
 rw [hs] at hc
 by_cases hz : 4096 < x.size
 ·rw [wrA_b hs hz]
  have hz2 : (4096 : Int) < (x.size : Int):=by omega
  simp -implicitDefEqProofs (disch:=omega) only [vf11,vb11,hf,hc,hz2,go_sem,↓reduceIte,rA,rS,rE,rL,reduceCtorEq]
 have hz2 : ¬ (4096 : Int) < (x.size : Int):=by omega
 have hw:=wr8_eq s (lineB x) (a:=s.cpus.map (.int .i64)) (b:=s.mems.map (.int .i64)) (c:=[])
 simp only [hpO,stO,llm,lln] at hw
 have hk:=wrF_keeps (k:=8) s (lineB x) (by omega) (by omega)
 obtain ⟨a,e,hq⟩ : ∃ a e,wrF 8 s (lineB x) = (a,e):=⟨_,_,rfl⟩
 rw [hq] at hw hk
 simp only at hw hk
 obtain ⟨k1,k2⟩:=hk
 have hc2:=check_eq a (by rw [k1]; exact h1) (by rw [k2]; exact h2)
 simp only [stC,k1,k2] at hc2
 have p3:=fun he=>wrA_c (k:=8) hs hz hq he
 by_cases he : e = 0
 ·subst he
  cases ht : checkS a
  ·rw [ht] at hc2
   rw [wrA_d hs hz hq ht]
   clear p3 hq
   generalize lineB x = y at hli hw
   simp -implicitDefEqProofs (disch:=omega) only [vf11,vb11,hf,hc,hz2,hli,hcp,hp,hw,hc2,go_sem,↓reduceIte,rA,rS,rE,rL,reduceCtorEq]
  ·rw [ht] at hc2
   rw [wrA_e hs hz hq ht]
   clear p3 hq
   generalize lineB x = y at hli hw
   simp -implicitDefEqProofs (disch:=omega) only [vf11,vb11,hf,hc,hz2,hli,hcp,hp,hw,hc2,go_sem,↓reduceIte,rA,rS,rE,rL,reduceCtorEq]
   simp only [wrV,stF,k1,k2]
 ·rw [p3 he]
  clear p3 hq
  generalize lineB x = y at hli hw
  simp -implicitDefEqProofs (disch:=omega) only [vf11,vb11,hf,hc,hz2,hli,hcp,hp,hw,he,go_sem,↓reduceIte,rA,rS,rE,rL,reduceCtorEq]
theorem write_eq {k : Nat} (hk : k < 9) (s : Stg) (h1 : s.cpus.length < 1000000) (h2 : s.mems.length < 1000000) (x : ByteArray) (hx : x.size < 1000000) (ha : asciiB x.data.toList = true) : V 11 [.agg (stC s),.p (.str (nmF k)),.p (.str x)] [] = some (.tup [.agg (wrV (wrA k s x).1),.p (.int .i64 (wrA k s x).2)],[]):=by
 have hd : (k = 0 \/ k = 1 \/ k = 2 \/ k = 3 \/ k = 4 \/ k = 5 \/ k = 6 \/ k = 7 \/ k = 8):=by omega
 rcases hd with rfl | rfl | rfl | rfl | rfl | rfl | rfl | rfl | rfl
 .exact write0_eq s h1 h2 x hx ha
 .exact write1_eq s h1 h2 x hx ha
 .exact write2_eq s h1 h2 x hx ha
 .exact write3_eq s h1 h2 x hx ha
 .exact write4_eq s h1 h2 x hx ha
 .exact write5_eq s h1 h2 x hx ha
 .exact write6_eq s h1 h2 x hx ha
 .exact write7_eq s h1 h2 x hx ha
 .exact write8_eq s h1 h2 x hx ha
end Go.V
namespace Go.V
theorem rin_eq {n lo hi : Int} (h1 : lo <= n) (h2 : n <= hi) : V 29 [.p (.int .i64 n),.p (.int .i64 lo),.p (.int .i64 hi)] [] = some (.p (.bool true),[]):=by
 refine V_wp (vf:=vf29) rfl ?_
 simp -implicitDefEqProofs (disch:=omega) only [vf29,vb29,h1,h2,go_sem,↓reduceIte,rA,rS,rE,rL,reduceCtorEq]
set_option maxHeartbeats 4000000 in
theorem rvalid_ok (l : List Int) (n : Int) (hl : l.length < 1000000) (h : ascOk l n = true) : V 30 [.p (intsP l),.p (.int .i64 n)] [] = some (.p (.bool true),[]):=by
 refine V_wp (vf:=vf30) rfl ?_
 obtain ⟨ha,hb⟩:=ascOk_ii.1 h
 simp -implicitDefEqProofs (disch:=omega) only [vf30,vb30,go_sem,↓reduceIte,rA,rS,rE,rL,reduceCtorEq]
 obtain ⟨I,hI⟩ : ∃ I : Nat -> St -> Prop,∀ k s,I k s ↔ s.pe 0 = .p (intsP l) /\ s.pe 1 = .p (.int .i64 n) /\ s.pe 5 = .p (.int .i64 k):=⟨_,fun _ _=>Iff.rfl⟩
 refine wp_count (l.length) I ?_ ?_
 ·refine (hI _ _).2 ⟨?_,?_,?_⟩
  all_goals exact cl0
 intro k s hk hIk
 obtain ⟨h0,h1,h5⟩:=(hI _ _).1 hIk
 clear hIk
 simp -implicitDefEqProofs (disch:=omega) only [h0,h1,h5,go_sem,↓reduceIte,rA,rS,rE,rL,reduceCtorEq]
 refine wp_if_d (fun hlt=>?_) (fun hge=>?_)
 ·have hm : l[k]? = some l[k]:=lgg hlt
  have hx:=hb _ (lgk hlt)
  have hy : 0 < k -> ∃ y,l[k - 1]? = some y /\ y < l[k]:=fun h0=>by
   rw [Asc,List.pairwise_iff_getElem] at ha
   exact ⟨l[k - 1],lgg (by omega),ha (k - 1) k (by omega) (by omega) (by omega)⟩
  generalize l[k] = x at hm hx hy
  have hmp : (l.map (PV.int .i64))[k]? = some (.int .i64 x):=by simp [hm]
  have x0 : ¬ x < 0:=by omega
  have x1 : ¬ n <= x:=by omega
  by_cases k0 : k = 0
  ·have k1 : ¬ (0 : Int) < (k : Int):=by omega
   simp -implicitDefEqProofs (disch:=omega) only [h0,h1,h5,hlt,hmp,x0,x1,k1,go_sem,↓reduceIte,rA,rS,rE,rL,reduceCtorEq]
   try refine And.intro (by omega) ?_
   refine (hI _ _).2 ⟨?_,?_,?_⟩
   all_goals exact cl0
  ·have k1 : (0 : Int) < (k : Int):=by omega
   obtain ⟨y,hy1,hy2⟩:=hy (by omega)
   have hyp : (l.map (PV.int .i64))[k - 1]? = some (.int .i64 y):=by simp [hy1]
   have w2 : IntKind.i64.wrap ((k : Int) - 1) = ((k - 1 : Nat) : Int):=by rw [wrap64 (by omega) (by omega)]; omega
   have x2 : ¬ x <= y:=by omega
   simp -implicitDefEqProofs (disch:=omega) only [h0,h1,h5,hlt,hmp,x0,x1,k1,w2,hyp,x2,go_sem,↓reduceIte,rA,rS,rE,rL,reduceCtorEq]
   try refine And.intro (by omega) ?_
   refine (hI _ _).2 ⟨?_,?_,?_⟩
   all_goals exact cl0
 .simp -implicitDefEqProofs (disch:=omega) only [h0,h1,h5,hge,go_sem,↓reduceIte,rA,rS,rE,rL,reduceCtorEq]
theorem chk2 {s : Stg} (h : checkS s = true) : (s.pids = maxI \/ (0 <= s.pids /\ s.pids <= 1099511627776)) /\ (1 <= s.weight /\ s.weight <= 10000) /\ (1 <= s.period /\ s.period <= 1000000) /\ ((s.quota = maxI /\ s.burst = 0) \/ (s.quota ≠ maxI /\ 1 <= s.quota /\ s.quota <= 1000000 /\ 0 <= s.burst /\ s.burst <= s.quota)) /\ (0 <= s.cmin /\ s.cmin <= 10000) /\ (0 <= s.cmax /\ s.cmax <= 10000) /\ ascOk s.cpus 16 = true /\ ascOk s.mems 8 = true /\ (0 <= s.part /\ s.part <= 1):=by
 simp only [checkS,bandOk,inI,bat,bot,decide_eq_true_eq] at h
 obtain ⟨⟨⟨⟨⟨⟨⟨h1,h2⟩,h3,h3'⟩,h4⟩,h5⟩,h6⟩,h7⟩,h8⟩:=h
 refine ⟨h1,h2,h3,?_,h4,h5,h6,h7,h8⟩
 by_cases e : s.quota = maxI
 ·rw [if_pos e] at h3'
  exact .inl ⟨e,by simpa using h3'⟩
 ·rw [if_neg e] at h3'
  simp only [bat,decide_eq_true_eq] at h3'
  exact .inr ⟨e,by omega⟩
set_option maxHeartbeats 8000000 in
theorem rcheck_ok (s : Stg) (h : checkS s = true) (l1 : s.cpus.length < 1000000) (l2 : s.mems.length < 1000000) : V 13 [.agg (stC s)] [] = some (.p (.bool true),[]):=by
 refine V_wp (vf:=vf13) rfl ?_
 obtain ⟨c0,c1,c2,c3,c4,c5,c6,c7,c8⟩:=chk2 h
 have w1:=rin_eq c1.1 c1.2
 have w2:=rin_eq c2.1 c2.2
 have w4:=rin_eq c4.1 c4.2
 have w5:=rin_eq c5.1 c5.2
 have w6:=rvalid_ok _ _ l1 c6
 have w7:=rvalid_ok _ _ l2 c7
 have w8:=rin_eq c8.1 c8.2
 have w9:=cmem_eq
 have w10:=cdev_eq
 by_cases p0 : s.pids = maxI
 ·rcases c3 with ⟨q0,q1⟩ | ⟨q0,q1,q2,q3,q4⟩
  ·have w3:=rin_eq (n:=0) (lo:=0) (hi:=0) (by omega) (by omega)
   simp -implicitDefEqProofs (disch:=omega) only [vf13,vb13,p0,q0,q1,w1,w2,w3,w4,w5,w6,w7,w8,w9,w10,go_sem,↓reduceIte,rA,rS,rE,rL,reduceCtorEq]
  ·have w3:=rin_eq q1 q2
   have w3':=rin_eq q3 q4
   simp -implicitDefEqProofs (disch:=omega) only [vf13,vb13,p0,q0,w1,w2,w3,w3',w4,w5,w6,w7,w8,w9,w10,go_sem,↓reduceIte,rA,rS,rE,rL,reduceCtorEq]
 ·obtain ⟨p1,p2⟩:=c0.resolve_left p0
  have w0:=rin_eq p1 p2
  rcases c3 with ⟨q0,q1⟩ | ⟨q0,q1,q2,q3,q4⟩
  ·have w3:=rin_eq (n:=0) (lo:=0) (hi:=0) (by omega) (by omega)
   simp -implicitDefEqProofs (disch:=omega) only [vf13,vb13,p0,q0,q1,w0,w1,w2,w3,w4,w5,w6,w7,w8,w9,w10,go_sem,↓reduceIte,rA,rS,rE,rL,reduceCtorEq]
  ·have w3:=rin_eq q1 q2
   have w3':=rin_eq q3 q4
   simp -implicitDefEqProofs (disch:=omega) only [vf13,vb13,p0,q0,w0,w1,w2,w3,w3',w4,w5,w6,w7,w8,w9,w10,go_sem,↓reduceIte,rA,rS,rE,rL,reduceCtorEq]
theorem smem_eq : V 36 [.agg memD,.agg memD] [] = some (.p (.bool true),[]):=by
 refine V_wp (vf:=vf36) rfl ?_
 simp -implicitDefEqProofs (disch:=omega) only [vf36,vb36,beq_self_eq_true,bas,go_sem,↓reduceIte,rA,rS,rE,rL,reduceCtorEq]
theorem sdev_eq : V 37 [.p (.slice 7 []),.p (.slice 7 [])] [] = some (.p (.bool true),[]):=by
 refine V_wp (vf:=vf37) rfl ?_
 simp -implicitDefEqProofs (disch:=omega) only [vf37,vb37,bne_self_eq_false,go_sem,↓reduceIte,rA,rS,rE,rL,reduceCtorEq]
 obtain ⟨I,hI⟩ : ∃ I : Nat -> St -> Prop,∀ k s,I k s ↔ s.pe 0 = .p (.slice 7 []) /\ s.pe 1 = .p (.slice 7 []) /\ s.pe 5 = .p (.int .i64 k):=⟨_,fun _ _=>Iff.rfl⟩
 refine wp_count (0) I ?_ ?_
 ·refine (hI _ _).2 ⟨?_,?_,?_⟩
  all_goals exact cl0
 intro k s hk hIk
 obtain ⟨h0,h1,h5⟩:=(hI _ _).1 hIk
 clear hIk
 have hn : ¬ (k : Int) < ((0 : Nat) : Int):=by omega
 simp -implicitDefEqProofs (disch:=omega) only [h0,h1,h5,hn,go_sem,↓reduceIte,rA,rS,rE,rL,reduceCtorEq]
set_option maxHeartbeats 4000000 in
theorem rsame_eq (s : Stg) (l1 : s.cpus.length < 1000000) (l2 : s.mems.length < 1000000) : V 18 [.agg (stC s),.agg (stC s)] [] = some (.p (.bool true),[]):=by
 refine V_wp (vf:=vf18) rfl ?_
 have w1:=same3_eq s.cpus s.cpus l1 l1
 have w2:=same3_eq s.mems s.mems l2 l2
 rw [decide_eq_true rfl] at w1 w2
 simp -implicitDefEqProofs (disch:=omega) only [vf18,vb18,beq_self_eq_true,w1,w2,smem_eq,sdev_eq,go_sem,↓reduceIte,rA,rS,rE,rL,reduceCtorEq]
end Go.V
namespace Go.V
theorem wp_cutN {a b : VCode} {s : St} {Q : VExit × St -> Prop} (M : St -> Prop) (h1 : wp (exec V a s) (fun r=>r.1 = .normal /\ M r.2)) (h2 : ∀ s',M s' -> wp (exec V b s') Q) : wp (exec V (.seq a b) s) Q:=by
 rw [exec_seq,wp_ob]
 refine wp_mono h1 fun r hr=>?_
 obtain ⟨x,s'⟩:=r
 obtain ⟨e,m⟩:=hr
 simp only at e m
 subst e
 exact h2 s' m
theorem V_cut {f : FuncId} {vf : VFunc} (hf : prog f = some vf) {args : List VVal} {H : List Ob} {r : VVal × List Ob} (hn : args.length = vf.nparams) (h : wp (exec V vf.body { pe:=enterE args,h:=enterH H }) (fun a=>wp (leave vf.rets H.length a) (· = r))) : V f args H = some r:=by
 refine V_wp hf ?_
 unfold callF
 rw [gd_pos _ _ hn,wp_ob]
 exact h
end Go.V
