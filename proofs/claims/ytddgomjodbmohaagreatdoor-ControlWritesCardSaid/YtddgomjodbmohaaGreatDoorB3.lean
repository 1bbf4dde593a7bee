/- Part 3 of the proof. -/
import Derived.Test.YtddgomjodbmohaaGreatDoorB1
import Derived.Lib.SplitLaws
import Derived.Lib.Join
import Derived.Lib.TrailingZeros
import Derived.Test.YtddgomjodbmohaaGreatDoorB2
set_option linter.unusedSectionVars false
set_option linter.unusedSimpArgs false
set_option linter.unusedVariables false
open Nat renaming reduceAdd → rA, reduceSub → rS, reduceEqDiff → rE, reduceLeDiff → rL, le_refl → lrf
open List renaming getElem?_eq_getElem → lgg, getElem?_eq_some_iff → lgs, mem_of_getElem? → lmg, drop_eq_getElem_cons → ldg, mem_cons_of_mem → lmc, map_cons → lpc, drop_of_length_le → ldl, nil_append → lna, append_nil → lan, mem_map → lmm, mem_cons_self → lms, map_append → lma, take_of_length_le → ltl, getElem?_of_mem → lgm, length_cons → llc, length_append → lla, getElem?_append_right → lgr, mem_cons → lmk, map_nil → lpn, length_nil → lln, mem_append → lmp, length_map → llm, eq_nil_of_length_eq_zero → lez, length_take → llt, length_drop → lld, pairwise_cons → lpw, cons_append → lca, filter_cons → lfl
open Option renaming some.injEq → osi
open Bool renaming and_eq_true → bat, false_and → bfa, false_eq_true → bft, true_and → bta, not_false → bnf, and_self → bas, or_eq_true → bot, and_true → bau
open Prod renaming mk.injEq → pmi
namespace Go.V
def unS : PV -> Option ByteArray
 | .str s=>some s
 | _=>none
theorem unS_eq {x : PV} {s : ByteArray} (h : unS x = some s) : x = .str s:=by
 unfold unS at h
 split at h
 .simp at h; rw [h]
 .cases h
abbrev splitS (s sep : ByteArray) : List ByteArray:=Lib.splitB sep 0 (Lib.countB s sep) s
abbrev joinS (xs : List ByteArray) (sep : ByteArray) : ByteArray:=⟨(Lib.join (xs.map (·.data.toList)) sep.data.toList).toArray⟩
def XSplit (args : List VVal) (H : List Ob) : Option (VVal × List Ob):=match args,H with
 | [.p (.str s),.p (.str sep)],[]=>gd (s.size < 4294967281) <| gd (1 <= sep.size) <| some (.fresh 1 ((splitS s sep).map PV.str),[])
 | _,_=>none
def XJoin (args : List VVal) (H : List Ob) : Option (VVal × List Ob):=match args,H with
 | [.own (.arg 0 0) 0 0 n,.p (.str sep)],[.arr 1 xs]=>gd (n = xs.length) <| gd (n <= 140737488355328) <| ob (mapO unS xs) fun ss=>gd ((Lib.join (ss.map (·.data.toList)) sep.data.toList).length <= 140737488355328) <| some (.p (.str (joinS ss sep)),[.arr 1 xs])
 | _,_=>none
def XTz (args : List VVal) (H : List Ob) : Option (VVal × List Ob):=match args,H with
 | [.p (.int .u64 n)],[]=>gd (0 <= n /\ n < 18446744073709551616) <| some (.p (.int .i64 (Lib.ctz 64 n.toNat)),[])
 | _,_=>none
noncomputable def XS : Sig:=fun f args H=>if f = 79 then XSplit args H else if f = 82 then XJoin args H else if f = 127 then XTz args H else if f = 119 then XI args H else if f = 120 then XC args H else if f = 107 then XClone 6 56 args H else if f = 108 then XClone 4 32 args H else none
noncomputable abbrev V : Sig:=vcall prog XS
theorem XS_none {f : FuncId} {vf : VFunc} (hf : prog f = some vf) (args : List VVal) (H : List Ob) : XS f args H = none:=by
 unfold XS
 have h0 : ¬ f = 79:=fun e=>by
  subst e
  exact absurd hf (by simp [prog])
 have h1 : ¬ f = 82:=fun e=>by
  subst e
  exact absurd hf (by simp [prog])
 have h2 : ¬ f = 127:=fun e=>by
  subst e
  exact absurd hf (by simp [prog])
 have h3 : ¬ f = 119:=fun e=>by
  subst e
  exact absurd hf (by simp [prog])
 have h4 : ¬ f = 120:=fun e=>by
  subst e
  exact absurd hf (by simp [prog])
 have h5 : ¬ f = 107:=fun e=>by
  subst e
  exact absurd hf (by simp [prog])
 have h6 : ¬ f = 108:=fun e=>by
  subst e
  exact absurd hf (by simp [prog])
 rw [if_neg h0,if_neg h1,if_neg h2,if_neg h3,if_neg h4,if_neg h5,if_neg h6]
theorem V_fix {f : FuncId} {vf : VFunc} (hf : prog f = some vf) {args : List VVal} {H : List Ob} {r : VVal × List Ob} (h : callF V vf args H = some r) : V f args H = some r:=vcall_fix (XS_none hf) hf h
theorem V_wp {f : FuncId} {vf : VFunc} (hf : prog f = some vf) {args : List VVal} {H : List Ob} {r : VVal × List Ob} (h : wp (callF V vf args H) (· = r)) : V f args H = some r:=V_fix hf (eq_of_wp h)
theorem V_x {f : FuncId} {args : List VVal} {H : List Ob} {r : VVal × List Ob} (h : XS f args H = some r) : V f args H = some r:=vcall_of (n:=0) h
theorem split_x {s sep : ByteArray} (hs : s.size < 4294967281) (h1 : 1 <= sep.size) : V 79 [.p (.str s),.p (.str sep)] [] = some (.fresh 1 ((splitS s sep).map PV.str),[]):=V_x (by
 simp only [XS,if_true,XSplit,gd,if_pos hs,if_pos h1])
theorem mapO_unS : ∀ (ss : List ByteArray),mapO unS (ss.map PV.str) = some ss
 | []=>rfl
 | s :: ss=>by
  simp only [lpc,mapO,unS,ob,mapO_unS ss]
theorem mapO_unI : ∀ (zs : List Int),mapO unI (zs.map (.int .i64)) = some zs
 | []=>rfl
 | z :: zs=>by
  simp only [lpc,mapO,unI,ob,mapO_unI zs]
theorem join_x {ss : List ByteArray} {sep : ByteArray} (hn : ss.length <= 140737488355328) (h : (Lib.join (ss.map (·.data.toList)) sep.data.toList).length <= 140737488355328) : V 82 [.own (.arg 0 0) 0 0 ss.length,.p (.str sep)] [.arr 1 (ss.map PV.str)] = some (.p (.str (joinS ss sep)),[.arr 1 (ss.map PV.str)]):=V_x (by
 have e0 : (82 : Nat) ≠ 79:=by decide
 simp only [XS,if_neg e0,if_true,XJoin,llm,mapO_unS,gd,ob,if_pos hn,if_pos h])
theorem tz_x {n : Int} (h0 : 0 <= n) (h1 : n < 18446744073709551616) : V 127 [.p (.int .u64 n)] [] = some (.p (.int .i64 (Lib.ctz 64 n.toNat)),[]):=V_x (by
 have e0 : (127 : Nat) ≠ 79:=by decide
 have e1 : (127 : Nat) ≠ 82:=by decide
 simp only [XS,if_neg e0,if_neg e1,if_true,XTz,gd,h0,h1,and_self])
theorem sort_x {zs : List Int} (hn : zs.length < 4611686018427387904) : V 119 [.own (.arg 0 0) 0 0 zs.length] [.arr 1 (zs.map (.int .i64))] = some (.tup [],[.arr 1 ((zs.mergeSort fun x y=>decide (x <= y)).map (.int .i64))]):=V_x (by
 have e0 : (119 : Nat) ≠ 79:=by decide
 have e1 : (119 : Nat) ≠ 82:=by decide
 have e2 : (119 : Nat) ≠ 127:=by decide
 simp only [XS,if_neg e0,if_neg e1,if_neg e2,if_true,XI,llm,mapO_unI,gd,ob,if_pos hn])
theorem compact_x {zs : List Int} (hn : zs.length < 4611686018427387904) : V 120 [.own (.arg 0 0) 0 0 zs.length] [.arr 1 (zs.map (.int .i64))] = some (.own (.arg 0 0) 0 0 (compL zs).length,[.arr 1 ((compL zs ++ List.replicate (zs.length - (compL zs).length) 0).map (.int .i64))]):=V_x (by
 have e0 : (120 : Nat) ≠ 79:=by decide
 have e1 : (120 : Nat) ≠ 82:=by decide
 have e2 : (120 : Nat) ≠ 127:=by decide
 have e3 : (120 : Nat) ≠ 119:=by decide
 simp only [XS,if_neg e0,if_neg e1,if_neg e2,if_neg e3,if_true,XC,llm,mapO_unI,gd,ob,if_pos hn])
theorem cloneN_x {xs : List PV} (hn : xs.length < 1000000) : V 107 [.p (.slice 6 xs)] [] = some (.fresh 6 xs,[]):=V_x (by
 have e0 : (107 : Nat) ≠ 79:=by decide
 have e1 : (107 : Nat) ≠ 82:=by decide
 have e2 : (107 : Nat) ≠ 127:=by decide
 have e3 : (107 : Nat) ≠ 119:=by decide
 have e4 : (107 : Nat) ≠ 120:=by decide
 simp only [XS,if_neg e0,if_neg e1,if_neg e2,if_neg e3,if_neg e4,if_true,XClone,gd,if_pos (show xs.length * 56 <= 140737488355328 by omega),if_pos (show xs.length <= 9223372036854775807 by omega)])
theorem cloneT_x {xs : List PV} (hn : xs.length < 1000000) : V 108 [.p (.slice 4 xs)] [] = some (.fresh 4 xs,[]):=V_x (by
 have e0 : (108 : Nat) ≠ 79:=by decide
 have e1 : (108 : Nat) ≠ 82:=by decide
 have e2 : (108 : Nat) ≠ 127:=by decide
 have e3 : (108 : Nat) ≠ 119:=by decide
 have e4 : (108 : Nat) ≠ 120:=by decide
 have e5 : (108 : Nat) ≠ 107:=by decide
 simp only [XS,if_neg e0,if_neg e1,if_neg e2,if_neg e3,if_neg e4,if_neg e5,if_true,XClone,gd,if_pos (show xs.length * 32 <= 140737488355328 by omega),if_pos (show xs.length <= 9223372036854775807 by omega)])
structure Nd where
 id : Int
 parent : Int
 name : ByteArray
 control : Int
 kind : Int
 owner : Int
 deriving DecidableEq
def Nd.pv (n : Nd) : PV:=.agg [.int .i64 n.id,.int .i64 n.parent,.str n.name,.int .i64 n.control,.int .i64 n.kind,.int .i64 n.owner]
def Nd.vv (n : Nd) : VVal:=.agg [.p (.int .i64 n.id),.p (.int .i64 n.parent),.p (.str n.name),.p (.int .i64 n.control),.p (.int .i64 n.kind),.p (.int .i64 n.owner)]
abbrev nodesP (ns : List Nd) : PV:=.slice 6 (ns.map Nd.pv)
structure Tr where
 nodes : List Nd
 next : Int
abbrev Tr.vv (t : Tr) : VVal:=.agg [.p (nodesP t.nodes),.p (.int .i64 t.next)]
abbrev Tr.fv (t : Tr) : VVal:=.agg [.fresh 6 (t.nodes.map Nd.pv),.p (.int .i64 t.next)]
abbrev intsP (xs : List Int) : PV:=.slice 1 (xs.map (.int .i64))
attribute [go_sem] Nd.pv solid
theorem nodes_flat (ns : List Nd) : (ns.map Nd.pv).all PV.flat = true:=by
 rw [List.all_eq_true]
 intro x hx
 obtain ⟨n,_,rfl⟩:=lmm.1 hx
 rfl
theorem ints_flat (k : IntKind) (xs : List Int) : (xs.map (PV.int k)).all PV.flat = true:=by
 rw [List.all_eq_true]
 intro x hx
 obtain ⟨n,_,rfl⟩:=lmm.1 hx
 rfl
attribute [go_sem] nodes_flat ints_flat
theorem light_eq (xs : List PV) : V 8 [.p (.slice 1 xs)] [] = some (.p (.bool (decide (xs.length <= 600))),[]):=by
 refine V_fix (vf:=vf8) rfl ?_
 simp -implicitDefEqProofs (disch:=omega) only [vf8,vb8,go_sem,↓reduceIte,rA,rS,rE,rL,reduceCtorEq]
 simp only [show (600 : Int) = ((600 : Nat) : Int) from rfl,Int.ofNat_le]
abbrev diceB (L : List Int) (a : Nat) : Ob:=.box [.p (intsP L),.p (.int .i64 a)]
theorem roll_eq (L : List Int) : V 10 [.p (intsP L)] [] = some (.boxed [.p (intsP L),.p (.int .i64 0)],[]):=by
 refine V_fix (vf:=vf10) rfl ?_
 simp -implicitDefEqProofs (disch:=omega) only [vf10,vb10,go_sem,↓reduceIte,rA,rS,rE,rL,reduceCtorEq]
def nextV (L : List Int) (a : Nat) (n : Int) : Int:=if 1 <= n then (L.getD a 0) % n else 0
def nextA (L : List Int) (a : Nat) (n : Int) : Nat:=if a < L.length /\ 1 <= n then a + 1 else a
theorem emod_tmod {x n : Int} (h : 1 <= n) : x % n = if x.tmod n < 0 then x.tmod n + n else x.tmod n:=by
 have h3:=Int.emod_nonneg x (show n ≠ 0 by omega)
 have h4:=Int.emod_lt_of_pos x (show 0 < n by omega)
 have h5:=Int.tmod_eq_emod (a:=x) (b:=n)
 rw [h5]
 split <;> split <;> omega
theorem next_eq (L : List Int) (a : Nat) (n : Int) (hL : L.length < 4611686018427387904) (hn : n < 4611686018427387904) : V 15 [.ptr (.arg 0 0) 0 0,.p (.int .i64 n)] [diceB L a] = some (.p (.int .i64 (nextV L a n)),[diceB L (nextA L a n)]):=by
 refine V_wp (vf:=vf15) rfl ?_
 by_cases ha : L.length <= a
 ·simp -implicitDefEqProofs (disch:=omega) only [vf15,vb15,ha,go_sem,↓reduceIte,rA,rS,rE,rL,reduceCtorEq]
  simp [nextV,nextA,List.getD_eq_getElem?_getD,List.getElem?_eq_none ha,Nat.not_lt.2 ha]
 ·have hx : L[a]? = some (L.getD a 0):=by
   rw [List.getD_eq_getElem?_getD,lgg (by omega)]; rfl
  have ht : (((a : Int) + 1 - 1).toNat) = a:=by omega
  simp -implicitDefEqProofs (disch:=omega) only [vf15,vb15,ha,go_sem,↓reduceIte,rA,rS,rE,rL,reduceCtorEq]
  repeat' ((first | refine wp_grn_d (fun hb=>?_) (fun hb=>?_) | refine wp_gtn_d (fun hb=>?_) (fun hb=>?_) | refine wp_gr_d (fun hb=>?_) (fun hb=>?_) | refine wp_gt_d (fun hb=>?_) (fun hb=>?_) | refine wp_gr (fun hb=>?_) (fun hb=>?_) | refine wp_gt (fun hb=>?_) (fun hb=>?_) | refine wp_nt_d (fun hb=>?_) (fun hb=>?_) | refine wp_nt (fun hb=>?_) (fun hb=>?_) | refine wp_if_d (fun hb=>?_) (fun hb=>?_) | refine wp_if (fun hb=>?_) (fun hb=>?_)) <;> simp -implicitDefEqProofs (disch:=omega) only [hb,hx,ht,go_sem,↓reduceIte,rA,rS,rE,rL,reduceCtorEq])
  ·simp [nextV,nextA,show ¬ 1 <= n by omega]
  ·have:=emod_tmod (x:=L.getD a 0) (n:=n) (by omega)
   rw [if_pos (by assumption)] at this
   have h1:=Int.tmod_lt_of_pos (L.getD a 0) (show 0 < n by omega)
   have h2:=Int.emod_nonneg (L.getD a 0) (show n ≠ 0 by omega)
   rw [wrap64 (by omega) (by omega),<- this]
   simp only [nextV,nextA,show 1 <= n by omega,show a < L.length by omega,and_self,if_true,diceB,Int.natCast_add,Int.natCast_one]
  ·have:=emod_tmod (x:=L.getD a 0) (n:=n) (by omega)
   rw [if_neg (by assumption)] at this
   rw [<- this]
   simp only [nextV,nextA,show 1 <= n by omega,show a < L.length by omega,and_self,if_true,diceB,Int.natCast_add,Int.natCast_one]
theorem nextV_nonneg (L : List Int) (a : Nat) (n : Int) : 0 <= nextV L a n:=by
 unfold nextV
 split
 .exact Int.emod_nonneg _ (by omega)
 .omega
theorem nextV_lt (L : List Int) (a : Nat) {n : Int} (h : 1 <= n) : nextV L a n < n:=by
 unfold nextV
 rw [if_pos h]
 exact Int.emod_lt_of_pos _ (by omega)
theorem take_snoc {α : Type} {l : List α} {k : Nat} {x : α} (h : l[k]? = some x) : l.take (k + 1) = l.take k ++ [x]:=by
 rw [List.take_add_one,h]
 rfl
theorem take_map_self {α β : Type} (f : α -> β) (l : List α) : List.take l.length (l.map f) = l.map f:=by
 rw [ltl (by simp)]
theorem take_map_snoc {α β : Type} (f : α -> β) (l : List α) (x : β) : List.take (l.length + 1) (l.map f ++ [x]) = l.map f ++ [x]:=by
 rw [ltl (by simp)]
attribute [go_sem] take_map_self take_map_snoc
def upR : List Nd -> Int -> List Int
 | [],_=>[]
 | n :: ns,id=>if n.id = id then id :: upR ns n.parent else upR ns id
def up (ns : List Nd) (id : Int) : List Int:=upR ns.reverse id
theorem upR_length : ∀ (ns : List Nd) (id : Int),(upR ns id).length <= ns.length
 | [],_=>lrf _
 | n :: ns,id=>by
  unfold upR
  split
  .have:=upR_length ns n.parent; simp; omega
  .have:=upR_length ns id; simp; omega
theorem up_eq (t : Tr) (id : Int) (hl : t.nodes.length < 1000000) : V 110 [t.vv,.p (.int .i64 id)] [] = some (.fresh 1 ((up t.nodes id).map (.int .i64)),[]):=by
 refine V_wp (vf:=vf110) rfl ?_
 simp -implicitDefEqProofs (disch:=omega) only [vf110,vb110,go_sem,↓reduceIte,rA,rS,rE,rL,reduceCtorEq]
 refine wp_count t.nodes.length (fun k s=>∃ (acc : List Int) (cur : Int) (v : Nat),up t.nodes id = acc ++ upR (t.nodes.reverse.drop k) cur /\ acc.length <= k /\ s.pe 1 = .p (.int .i64 cur) /\ s.pe 2 = .ptr (.slot 2 0) 0 0 /\ s.pe 5 = .own (.slot 5 0) v 0 acc.length /\ s.pe 6 = .p (.int .i64 ((t.nodes.length : Int) - 1 - k)) /\ s.h (.slot 2 0) = some (0,.box [.p (nodesP t.nodes),.p (.int .i64 t.next)]) /\ s.h (.slot 5 0) = some (v,.arr 1 (acc.map (.int .i64)))) ?_ ?_
 ·exact ⟨[],id,0,by simp [up,enterE,updV,VHeap.upd,enterH,List.getD]⟩
 ·rintro k s hk ⟨acc,cur,v,hup,hlen,h1,h2,h5,h6,hh2,hh5⟩
  simp -implicitDefEqProofs (disch:=omega) only [h1,h2,h5,h6,hh2,hh5,go_sem,↓reduceIte,rA,rS,rE,rL,reduceCtorEq]
  refine wp_if_d (fun hge=>?_) (fun hlt=>?_)
  ·have hk' : k < t.nodes.length:=by omega
   have hn : t.nodes[((t.nodes.length : Int) - 1 - k).toNat]? = some t.nodes[t.nodes.length - 1 - k]:=by
    rw [show ((t.nodes.length : Int) - 1 - k).toNat = t.nodes.length - 1 - k by omega]
    exact lgg (by omega)
   have hd : t.nodes.reverse.drop k = t.nodes[t.nodes.length - 1 - k] :: t.nodes.reverse.drop (k + 1):=by
    rw [ldg (by simpa using hk')]
    simp
   generalize t.nodes[t.nodes.length - 1 - k] = n at hn hd
   rw [hd] at hup
   simp -implicitDefEqProofs (disch:=omega) only [h1,h2,h5,h6,hh2,hh5,hn,hge,go_sem,↓reduceIte,rA,rS,rE,rL,reduceCtorEq]
   repeat' ((first | refine wp_grn_d (fun hb=>?_) (fun hb=>?_) | refine wp_gtn_d (fun hb=>?_) (fun hb=>?_) | refine wp_gr_d (fun hb=>?_) (fun hb=>?_) | refine wp_gt_d (fun hb=>?_) (fun hb=>?_) | refine wp_gr (fun hb=>?_) (fun hb=>?_) | refine wp_gt (fun hb=>?_) (fun hb=>?_) | refine wp_nt_d (fun hb=>?_) (fun hb=>?_) | refine wp_nt (fun hb=>?_) (fun hb=>?_) | refine wp_if_d (fun hb=>?_) (fun hb=>?_) | refine wp_if (fun hb=>?_) (fun hb=>?_)) <;> simp -implicitDefEqProofs (disch:=omega) only [hb,h1,h2,h5,h6,hh2,hh5,hn,hge,go_sem,↓reduceIte,rA,rS,rE,rL,reduceCtorEq])
   ·rw [upR,if_pos (by assumption)] at hup
    refine ⟨hk',acc ++ [cur],n.parent,v + 1,by rw [hup]; simp,by simp; omega,rfl,by simp,by congr 2; omega,by simp⟩
   ·rw [upR,if_neg (by assumption)] at hup
    exact ⟨hk',acc,cur,v,hup,by omega,rfl,rfl,by congr 2; omega,rfl⟩
  ·have hd : t.nodes.reverse.drop k = []:=ldl (by simp; omega)
   rw [hd,upR,lan] at hup
   simp -implicitDefEqProofs (disch:=omega) only [h1,h2,h5,h6,hh2,hh5,hup,go_sem,↓reduceIte,rA,rS,rE,rL,reduceCtorEq]
def innerB (c : Int) : Bool:=decide (97 <= c /\ c <= 122) || decide (65 <= c /\ c <= 90) || decide (48 <= c /\ c <= 57) || decide (c = 95) || decide (c = 45)
def validN (s : ByteArray) : Bool:=decide (s.size ≠ 0) && decide (s.size <= 32) && decide (s.data.toList[0]? ≠ some 45) && s.data.toList.all fun b=>innerB b.toNat
theorem innerB_true {c : Int} (h : (97 <= c /\ c <= 122) \/ (65 <= c /\ c <= 90) \/ (48 <= c /\ c <= 57) \/ c = 95 \/ c = 45) : innerB c = true:=by
 simp only [innerB,bot,decide_eq_true_eq]
 omega
theorem innerB_false {c : Int} (h : ¬ ((97 <= c /\ c <= 122) \/ (65 <= c /\ c <= 90) \/ (48 <= c /\ c <= 57) \/ c = 95 \/ c = 45)) : innerB c = false:=by
 rw [Bool.eq_false_iff]
 intro h1
 simp only [innerB,bot,decide_eq_true_eq] at h1
 omega
theorem inner_eq (c : Int) : V 181 [.p (.int .u8 c)] [] = some (.p (.bool (innerB c)),[]):=by
 refine V_wp (vf:=vf181) rfl ?_
 simp -implicitDefEqProofs (disch:=omega) only [vf181,vb181,go_sem,↓reduceIte,rA,rS,rE,rL,reduceCtorEq]
 repeat' ((first | refine wp_grn_d (fun hb=>?_) (fun hb=>?_) | refine wp_gtn_d (fun hb=>?_) (fun hb=>?_) | refine wp_gr_d (fun hb=>?_) (fun hb=>?_) | refine wp_gt_d (fun hb=>?_) (fun hb=>?_) | refine wp_gr (fun hb=>?_) (fun hb=>?_) | refine wp_gt (fun hb=>?_) (fun hb=>?_) | refine wp_nt_d (fun hb=>?_) (fun hb=>?_) | refine wp_nt (fun hb=>?_) (fun hb=>?_) | refine wp_if_d (fun hb=>?_) (fun hb=>?_) | refine wp_if (fun hb=>?_) (fun hb=>?_)) <;> simp -implicitDefEqProofs (disch:=omega) only [hb,go_sem,↓reduceIte,rA,rS,rE,rL,reduceCtorEq])
 all_goals
  simp only [innerB,pmi,VVal.p.injEq,PV.bool.injEq,and_true]
  rw [Bool.eq_iff_iff]
  simp only [bot,decide_eq_true_eq,true_iff,bft,false_iff]
  first | omega | simp
theorem size_list (s : ByteArray) : s.size = s.data.toList.length:=rfl
theorem all_take {α : Type} {p : α -> Bool} {l : List α} {k : Nat} (h : (l.take k).all p = true) {x : α} (hx : l[k]? = some x) (hp : p x = true) : (l.take (k + 1)).all p = true:=by
 rw [List.take_add_one,hx]
 simp only [List.all_append,h,Option.toList,List.all_cons,List.all_nil,hp,bas]
theorem all_not {α : Type} {p : α -> Bool} {l : List α} {k : Nat} {x : α} (hx : l[k]? = some x) (hp : p x = false) : l.all p = false:=by
 rw [List.all_eq_false]
 exact ⟨x,lmg hx,by simp [hp]⟩
theorem toNat_45 (x : UInt8) : ((x.toNat : Int) = 45) = (x = 45):=by
 rw [eq_iff_iff]
 constructor
 ·intro h
  have : x.toNat = (45 : UInt8).toNat:=by simp; omega
  exact UInt8.toNat_inj.1 this
 ·rintro rfl
  rfl
theorem rvalid_eq (s : ByteArray) : V 131 [.p (.str s)] [] = some (.p (.bool (validN s)),[]):=by
 refine V_wp (vf:=vf131) rfl ?_
 have hs:=size_list s
 by_cases h0 : (s.size : Int) = 0
 ·simp -implicitDefEqProofs (disch:=omega) only [vf131,vb131,ba_get,h0,go_sem,↓reduceIte,rA,rS,rE,rL,reduceCtorEq]
  simp [validN,show s.size = 0 by omega]
 ·by_cases h1 : 32 < (s.size : Int)
  ·simp -implicitDefEqProofs (disch:=omega) only [vf131,vb131,ba_get,h0,h1,go_sem,↓reduceIte,rA,rS,rE,rL,reduceCtorEq]
   simp [validN,show ¬ s.size <= 32 by omega]
  ·have hx : s.data.toList[0]? = some s.data.toList[0]:=lgg (by omega)
   generalize s.data.toList[0] = x at hx
   have hz : (0 : Int).toNat = 0:=rfl
   simp -implicitDefEqProofs (disch:=omega) only [vf131,vb131,ba_get,h0,h1,hx,hz,go_sem,↓reduceIte,rA,rS,rE,rL,reduceCtorEq]
   by_cases h45 : x = 45
   ·have h45' : ((x.toNat : Nat) : Int) = 45:=by rw [toNat_45]; exact h45
    simp -implicitDefEqProofs (disch:=omega) only [h45',go_sem,↓reduceIte,rA,rS,rE,rL,reduceCtorEq]
    simp [validN,hx,h45]
   ·have h45' : ¬ ((x.toNat : Nat) : Int) = 45:=by rw [toNat_45]; exact h45
    simp -implicitDefEqProofs (disch:=omega) only [h45',go_sem,↓reduceIte,rA,rS,rE,rL,reduceCtorEq]
    refine wp_count s.size (fun k t=>(s.data.toList.take k).all (fun b=>innerB b.toNat) = true /\ t.pe 0 = .p (.str s) /\ t.pe 3 = .p (.int .i64 k)) ?_ ?_
    ·simp [enterE,updV]
    ·rintro k t hk ⟨hall,h2,h3⟩
     simp -implicitDefEqProofs (disch:=omega) only [h2,h3,go_sem,↓reduceIte,rA,rS,rE,rL,reduceCtorEq]
     refine wp_if_d (fun hlt=>?_) (fun hge=>?_)
     ·have hy : s.data.toList[k]? = some s.data.toList[k]:=lgg (by omega)
      generalize s.data.toList[k] = y at hy
      simp -implicitDefEqProofs (disch:=omega) only [h2,h3,ba_get,hy,hlt,go_sem,↓reduceIte,rA,rS,rE,rL,reduceCtorEq]
      repeat' ((first | refine wp_grn_d (fun hb=>?_) (fun hb=>?_) | refine wp_gtn_d (fun hb=>?_) (fun hb=>?_) | refine wp_gr_d (fun hb=>?_) (fun hb=>?_) | refine wp_gt_d (fun hb=>?_) (fun hb=>?_) | refine wp_gr (fun hb=>?_) (fun hb=>?_) | refine wp_gt (fun hb=>?_) (fun hb=>?_) | refine wp_nt_d (fun hb=>?_) (fun hb=>?_) | refine wp_nt (fun hb=>?_) (fun hb=>?_) | refine wp_if_d (fun hb=>?_) (fun hb=>?_) | refine wp_if (fun hb=>?_) (fun hb=>?_)) <;> simp -implicitDefEqProofs (disch:=omega) only [hb,ba_get,hy,h2,h3,go_sem,↓reduceIte,rA,rS,rE,rL,reduceCtorEq])
      all_goals first
       | exact ⟨by omega,all_take hall hy (innerB_true (by omega)),by simp only [Int.natCast_add,Int.natCast_one]⟩
       | (have:=all_not (p:=fun b : UInt8=>innerB b.toNat) hy (innerB_false (by omega)); simp [validN,this])
     ·simp -implicitDefEqProofs (disch:=omega) only [h2,h3,hge,go_sem,↓reduceIte,rA,rS,rE,rL,reduceCtorEq]
      have hall' : s.data.toList.all (fun b=>innerB b.toNat) = true:=by rw [ltl (by omega)] at hall; exact hall
      simp only [validN,hall',hx,show s.size ≠ 0 by omega,show s.size <= 32 by omega,ne_eq,not_false_eq_true,decide_true,bas,osi,h45]
theorem pvalid_eq (s : ByteArray) (hl : s.size < 9223372036854775808) : V 152 [.p (.str s)] [] = some (.p (.bool (validN s)),[]):=by
 refine V_wp (vf:=vf152) rfl ?_
 have hs:=size_list s
 simp -implicitDefEqProofs (disch:=omega) only [vf152,vb152,go_sem,↓reduceIte,rA,rS,rE,rL,reduceCtorEq]
 refine wp_count s.size (fun k t=>(s.data.toList.take k).all (fun b=>innerB b.toNat) = true /\ t.pe 0 = .p (.str s) /\ t.pe 6 = .p (.slice 1 (s.data.toList.map fun b=>.int .u8 b.toNat)) /\ t.pe 7 = .p (.int .i64 s.size) /\ t.pe 8 = .p (.int .i64 k)) ?_ ?_
 ·exact ⟨by simp,rfl,rfl,rfl,rfl⟩
 ·rintro k t hk ⟨hall,h0,h6,h7,h8⟩
  simp -implicitDefEqProofs (disch:=omega) only [h0,h6,h7,h8,go_sem,↓reduceIte,rA,rS,rE,rL,reduceCtorEq]
  refine wp_if_d (fun hlt=>?_) (fun hge=>?_)
  ·have hy : s.data.toList[k]? = some s.data.toList[k]:=lgg (by omega)
   generalize s.data.toList[k] = y at hy
   simp -implicitDefEqProofs (disch:=omega) only [h0,h6,h7,h8,hy,hlt,inner_eq,go_sem,↓reduceIte,rA,rS,rE,rL,reduceCtorEq]
   repeat' ((first | refine wp_grn_d (fun hb=>?_) (fun hb=>?_) | refine wp_gtn_d (fun hb=>?_) (fun hb=>?_) | refine wp_gr_d (fun hb=>?_) (fun hb=>?_) | refine wp_gt_d (fun hb=>?_) (fun hb=>?_) | refine wp_gr (fun hb=>?_) (fun hb=>?_) | refine wp_gt (fun hb=>?_) (fun hb=>?_) | refine wp_nt_d (fun hb=>?_) (fun hb=>?_) | refine wp_nt (fun hb=>?_) (fun hb=>?_) | refine wp_if_d (fun hb=>?_) (fun hb=>?_) | refine wp_if (fun hb=>?_) (fun hb=>?_)) <;> simp -implicitDefEqProofs (disch:=omega) only [hb,h0,h6,h7,h8,hy,inner_eq,go_sem,↓reduceIte,rA,rS,rE,rL,reduceCtorEq])
   ·have:=all_not (p:=fun b : UInt8=>innerB b.toNat) hy (by assumption)
    simp [validN,this]
   ·exact ⟨by omega,all_take hall hy (by assumption),by simp only [Int.natCast_add,Int.natCast_one]⟩
  ·simp -implicitDefEqProofs (disch:=omega) only [h0,h6,h7,h8,hge,go_sem,↓reduceIte,rA,rS,rE,rL,reduceCtorEq]
   have hall' : s.data.toList.all (fun b=>innerB b.toNat) = true:=by rw [ltl (by omega)] at hall; exact hall
   have hz : (0 : Int).toNat = 0:=rfl
   by_cases he : s = ⟨#[]⟩
   ·subst he
    simp -implicitDefEqProofs (disch:=omega) only [h0,go_sem,↓reduceIte,rA,rS,rE,rL,reduceCtorEq]
    rfl
   ·have hne : s.size ≠ 0:=fun h=>he (by
     cases s with
     | mk d =>
      congr 1
      exact Array.eq_empty_of_size_eq_zero h)
    simp -implicitDefEqProofs (disch:=omega) only [he,h0,go_sem,↓reduceIte,rA,rS,rE,rL,reduceCtorEq]
    by_cases h1 : (s.size : Int) <= 32
    ·have hx : s.data.toList[0]? = some s.data.toList[0]:=lgg (by omega)
     generalize s.data.toList[0] = x at hx
     simp -implicitDefEqProofs (disch:=omega) only [h0,h1,hx,hz,ba_get,toNat_45,go_sem,↓reduceIte,rA,rS,rE,rL,reduceCtorEq]
     simp only [validN,hall',hx,hne,show s.size <= 32 by omega,ne_eq,not_false_eq_true,decide_true,bta,bau,osi,decide_not]
    ·simp -implicitDefEqProofs (disch:=omega) only [h0,h1,go_sem,↓reduceIte,rA,rS,rE,rL,reduceCtorEq]
     simp [validN,show ¬ s.size <= 32 by omega]
def nodeOk (pre : List Nd) (n : Nd) : Bool :=
  decide (n.kind = 0 \/ n.kind = 1) && decide (0 <= n.control /\ n.control <= 31 /\ 0 <= n.owner /\ n.owner <= 1048576) &&
  (match pre.getLast? with
   | none=>decide (n.id = 1 /\ n.parent = 0 /\ n.name = ⟨#[]⟩ /\ n.kind = 0)
   | some l=>decide (l.id < n.id) && validN n.name && !(pre.any fun x=>decide (x.parent = n.parent /\ x.name = n.name)) && pre.any fun x=>decide (x.id = n.parent))
theorem any_take {α : Type} {p : α -> Bool} {l : List α} {k : Nat} {x : α} (hx : l[k]? = some x) : (l.take (k + 1)).any p = ((l.take k).any p || p x):=by
 rw [List.take_add_one,hx]
 simp only [List.any_append,Option.toList,List.any_cons,List.any_nil,Bool.or_false]
theorem any_of_take {α : Type} {p : α -> Bool} {l : List α} {k i : Nat} (h : k <= i) (hp : (l.take k).any p = true) : (l.take i).any p = true:=by
 rw [List.any_eq_true] at hp ⊢
 obtain ⟨x,hx,h1⟩:=hp
 exact ⟨x,(List.take_sublist_take_left h).subset hx,h1⟩
set_option maxHeartbeats 2000000 in
theorem node_eq (t : Tr) (i : Nat) (n : Nd) (hn : t.nodes[i]? = some n) (hl : t.nodes.length < 1000000) : V 109 [t.vv,.p (.int .i64 i)] [] = some (.p (.bool (nodeOk (t.nodes.take i) n)),[]):=by
  refine V_wp (vf:=vf109) rfl ?_
  have hlt : i < t.nodes.length:=(lgs.1 hn).1
  by_cases hi : (i : Int) = 0
  · have hi' : i = 0:=by omega
    have hz : (0 : Int).toNat = 0:=rfl
    rw [hi'] at hn
    simp -implicitDefEqProofs (disch:=omega) only [vf109,vb109,hi,hz,hn,go_sem,↓reduceIte,rA,rS,rE,rL,reduceCtorEq]
    repeat' ((first | refine wp_grn_d (fun hb=>?_) (fun hb=>?_) | refine wp_gtn_d (fun hb=>?_) (fun hb=>?_) | refine wp_gr_d (fun hb=>?_) (fun hb=>?_) | refine wp_gt_d (fun hb=>?_) (fun hb=>?_) | refine wp_gr (fun hb=>?_) (fun hb=>?_) | refine wp_gt (fun hb=>?_) (fun hb=>?_) | refine wp_nt_d (fun hb=>?_) (fun hb=>?_) | refine wp_nt (fun hb=>?_) (fun hb=>?_) | refine wp_if_d (fun hb=>?_) (fun hb=>?_) | refine wp_if (fun hb=>?_) (fun hb=>?_)) <;> simp -implicitDefEqProofs (disch:=omega) only [hb,go_sem,↓reduceIte,rA,rS,rE,rL,reduceCtorEq])
    all_goals
      simp only [nodeOk,hi',List.take_zero,List.getLast?_nil,pmi,VVal.p.injEq,PV.bool.injEq,and_true]
      rw [Bool.eq_iff_iff]
      simp only [bat,decide_eq_true_eq,true_iff,bft,false_iff]
      try simp only [*]
      first | omega | (simp; done) | (simp; omega)
  · obtain ⟨l, hlast⟩ : ∃ l, (t.nodes.take i).getLast? = some l:=by
      cases hq : (t.nodes.take i).getLast? with
      | none =>
        rw [List.getLast?_eq_none_iff] at hq
        have := congrArg List.length hq
        rw [List.length_take,lln] at this
        omega
      | some l => exact ⟨l,rfl⟩
    have hpre : t.nodes[((i : Int) - 1).toNat]? = some l:=by
      rw [List.getLast?_take,if_neg (by omega)] at hlast
      rw [show ((i : Int) - 1).toNat = i - 1 by omega]
      rw [List.getElem?_eq_getElem (by omega)] at hlast ⊢
      simpa using hlast
    simp -implicitDefEqProofs (disch:=omega) only [vf109,vb109,hn,hi,go_sem,↓reduceIte,rA,rS,rE,rL,reduceCtorEq]
    repeat' ((first | refine wp_grn_d (fun hb=>?_) (fun hb=>?_) | refine wp_gtn_d (fun hb=>?_) (fun hb=>?_) | refine wp_gr_d (fun hb=>?_) (fun hb=>?_) | refine wp_gt_d (fun hb=>?_) (fun hb=>?_) | refine wp_gr (fun hb=>?_) (fun hb=>?_) | refine wp_gt (fun hb=>?_) (fun hb=>?_) | refine wp_nt_d (fun hb=>?_) (fun hb=>?_) | refine wp_nt (fun hb=>?_) (fun hb=>?_) | refine wp_if_d (fun hb=>?_) (fun hb=>?_) | refine wp_if (fun hb=>?_) (fun hb=>?_)) <;> simp -implicitDefEqProofs (disch:=omega) only [hb,hn,hi,hpre,rvalid_eq,go_sem,↓reduceIte,rA,rS,rE,rL,reduceCtorEq])
    all_goals first
      | (simp only [nodeOk,hlast,pmi,VVal.p.injEq,PV.bool.injEq,and_true]
         rw [Bool.eq_iff_iff]
         simp only [bat,decide_eq_true_eq,bft,false_iff]
         try simp only [*]
         first | omega | (simp; done) | (simp; omega))
      | skip
    all_goals
      refine wp_count i (fun k s=>(t.nodes.take k).any (fun x=>decide (x.parent = n.parent /\ x.name = n.name)) = false /\ s.pe 1 = .p (.int .i64 i) /\ s.pe 2 = .ptr (.slot 2 0) 0 0 /\ s.pe 5 = .ptr (.slot 5 0) 0 0 /\ s.pe 6 = .p (.bool ((t.nodes.take k).any fun x=>decide (x.id = n.parent))) /\ s.pe 7 = .p (.int .i64 k) /\
        s.h (.slot 2 0) = some (0,.box [.p (nodesP t.nodes),.p (.int .i64 t.next)]) /\ s.h (.slot 5 0) = some (0,.box (n.pv.cells.map .p))) ?_ ?_
      · exact ⟨by simp,rfl,rfl,rfl,rfl,rfl,rfl,by simp -implicitDefEqProofs (disch:=omega) only [go_sem,↓reduceIte,rA,rS,rE,rL,reduceCtorEq]; simp only [*]⟩
      · rintro k s hk ⟨hno,h1,h2,h5,h6,h7,hh2,hh5⟩
        simp only [Nd.pv,PV.cells,lpc,lpn] at hh5
        simp -implicitDefEqProofs (disch:=omega) only [h1,h2,h5,h6,h7,hh2,hh5,go_sem,↓reduceIte,rA,rS,rE,rL,reduceCtorEq]
        refine wp_if_d (fun hki=>?_) (fun hge=>?_)
        · have hm : t.nodes[k]? = some t.nodes[k]:=lgg (by omega)
          generalize t.nodes[k] = m at hm
          simp -implicitDefEqProofs (disch:=omega) only [h1,h2,h5,h6,h7,hh2,hh5,hm,hki,go_sem,↓reduceIte,rA,rS,rE,rL,reduceCtorEq]
          repeat' ((first | refine wp_grn_d (fun hb=>?_) (fun hb=>?_) | refine wp_gtn_d (fun hb=>?_) (fun hb=>?_) | refine wp_gr_d (fun hb=>?_) (fun hb=>?_) | refine wp_gt_d (fun hb=>?_) (fun hb=>?_) | refine wp_gr (fun hb=>?_) (fun hb=>?_) | refine wp_gt (fun hb=>?_) (fun hb=>?_) | refine wp_nt_d (fun hb=>?_) (fun hb=>?_) | refine wp_nt (fun hb=>?_) (fun hb=>?_) | refine wp_if_d (fun hb=>?_) (fun hb=>?_) | refine wp_if (fun hb=>?_) (fun hb=>?_)) <;> simp -implicitDefEqProofs (disch:=omega) only [hb,h1,h2,h5,h6,h7,hh2,hh5,hm,hki,go_sem,↓reduceIte,rA,rS,rE,rL,reduceCtorEq])
          all_goals first
            | (have ha : ((t.nodes.take i).any fun x=>decide (x.parent = n.parent /\ x.name = n.name)) = true:=by
                refine any_of_take (k:=k + 1) (by omega) ?_
                rw [any_take hm]
                simp [*]
               simp only [nodeOk,hlast,ha,Bool.not_true,Bool.and_false,bfa]
               done)
            | exact ⟨by rw [any_take hm,hno]; simp [*],by rw [any_take hm]; simp [*],by simp only [Int.natCast_add,Int.natCast_one]⟩
        · simp -implicitDefEqProofs (disch:=omega) only [h1,h2,h5,h6,h7,hh2,hh5,hge,go_sem,↓reduceIte,rA,rS,rE,rL,reduceCtorEq]
          have hki : k = i:=by omega
          subst hki
          simp only [nodeOk,hlast,hno,pmi,VVal.p.injEq,PV.bool.injEq,and_true]
          rw [Bool.eq_iff_iff]
          simp only [bat,decide_eq_true_eq,bnf,and_true,true_and]
          exact ⟨fun h=>⟨⟨by omega,by omega,by omega,by omega,by omega⟩,⟨by omega,by assumption⟩,h⟩,fun h=>h.2.2⟩
def nodesOk : List Nd -> List Nd -> Bool
 | _,[]=>true
 | pre,n :: ns=>nodeOk pre n && nodesOk (pre ++ [n]) ns
theorem nodesOk_iff : ∀ (ns pre : List Nd),nodesOk pre ns = true ↔ ∀ (i : Nat) (n : Nd),ns[i]? = some n -> nodeOk (pre ++ ns.take i) n = true
 | [],pre=>by simp [nodesOk]
 | n :: ns,pre=>by
  simp only [nodesOk,bat]
  rw [nodesOk_iff ns (pre ++ [n])]
  constructor
  ·rintro ⟨h1,h2⟩ i m hm
   cases i with
   | zero=>simp at hm; subst hm; simpa using h1
   | succ i=>simpa using h2 i m (by simpa using hm)
  ·intro h
   exact ⟨by simpa using h 0 n rfl,fun i m hm=>by simpa using h (i + 1) m (by simpa using hm)⟩
def treeOk (t : Tr) : Bool :=
  decide (1 <= t.nodes.length /\ t.nodes.length <= 64) && nodesOk [] t.nodes && t.nodes.all (fun n=>decide ((up t.nodes n.id).length <= 9)) &&
  (match t.nodes.getLast? with
   | none=>false
   | some l=>decide (l.id < t.next /\ t.next <= 2147483648))
theorem rcheck_eq (t : Tr) (hl : t.nodes.length < 1000000) : V 60 [t.vv] [] = some (.p (.bool (treeOk t)),[]):=by
 refine V_wp (vf:=vf60) rfl ?_
 by_cases h1 : (t.nodes.length : Int) < 1
 ·simp -implicitDefEqProofs (disch:=omega) only [vf60,vb60,h1,go_sem,↓reduceIte,rA,rS,rE,rL,reduceCtorEq]
  simp [treeOk,show ¬ 1 <= t.nodes.length by omega]
 ·by_cases h2 : 64 < (t.nodes.length : Int)
  ·simp -implicitDefEqProofs (disch:=omega) only [vf60,vb60,h1,h2,go_sem,↓reduceIte,rA,rS,rE,rL,reduceCtorEq]
   simp [treeOk,show ¬ t.nodes.length <= 64 by omega]
  ·simp -implicitDefEqProofs (disch:=omega) only [vf60,vb60,h1,h2,go_sem,↓reduceIte,rA,rS,rE,rL,reduceCtorEq]
   refine wp_count t.nodes.length (fun k s=>(∀ (i : Nat) (n : Nd),i < k -> t.nodes[i]? = some n -> nodeOk (t.nodes.take i) n = true) /\ s.pe 1 = .ptr (.slot 1 0) 0 0 /\ s.pe 3 = .p (.int .i64 t.nodes.length) /\ s.pe 4 = .p (.int .i64 k) /\ s.h (.slot 1 0) = some (0,.box [.p (nodesP t.nodes),.p (.int .i64 t.next)])) ?_ ?_
   ·exact ⟨by omega,rfl,rfl,rfl,rfl⟩
   ·rintro k s hk ⟨hall,h3,h4,h5,hh⟩
    simp -implicitDefEqProofs (disch:=omega) only [h3,h4,h5,hh,go_sem,↓reduceIte,rA,rS,rE,rL,reduceCtorEq]
    refine wp_if_d (fun hlt=>?_) (fun hge=>?_)
    ·have hm : t.nodes[k]? = some t.nodes[k]:=lgg hlt
     generalize t.nodes[k] = m at hm
     have hc:=node_eq t k m hm hl
     simp -implicitDefEqProofs (disch:=omega) only [h3,h4,h5,hh,hm,hc,hlt,go_sem,↓reduceIte,rA,rS,rE,rL,reduceCtorEq]
     repeat' ((first | refine wp_grn_d (fun hb=>?_) (fun hb=>?_) | refine wp_gtn_d (fun hb=>?_) (fun hb=>?_) | refine wp_gr_d (fun hb=>?_) (fun hb=>?_) | refine wp_gt_d (fun hb=>?_) (fun hb=>?_) | refine wp_gr (fun hb=>?_) (fun hb=>?_) | refine wp_gt (fun hb=>?_) (fun hb=>?_) | refine wp_nt_d (fun hb=>?_) (fun hb=>?_) | refine wp_nt (fun hb=>?_) (fun hb=>?_) | refine wp_if_d (fun hb=>?_) (fun hb=>?_) | refine wp_if (fun hb=>?_) (fun hb=>?_)) <;> simp -implicitDefEqProofs (disch:=omega) only [hb,h3,h4,h5,hh,hm,hc,go_sem,↓reduceIte,rA,rS,rE,rL,reduceCtorEq])
     ·have hf : nodesOk [] t.nodes = false:=by
       rw [Bool.eq_false_iff]
       intro h0
       have:=(nodesOk_iff _ _).1 h0 k m hm
       simp_all
      simp [treeOk,hf]
     ·refine ⟨hlt,fun i n hi hn=>?_,by simp only [Int.natCast_add,Int.natCast_one]⟩
      rcases Nat.lt_or_ge i k with h0 | h0
      ·exact hall i n h0 hn
      ·have : i = k:=by omega
       subst this
       rw [hm] at hn
       simp at hn
       subst hn
       assumption
    ·have hok : nodesOk [] t.nodes = true:=(nodesOk_iff _ _).2 fun i n hn=>by simpa using hall i n (by have:=(lgs.1 hn).1; omega) hn
     simp -implicitDefEqProofs (disch:=omega) only [h3,h4,h5,hh,hge,go_sem,↓reduceIte,rA,rS,rE,rL,reduceCtorEq]
     refine wp_count t.nodes.length (fun k s=>(∀ (i : Nat) (n : Nd),i < k -> t.nodes[i]? = some n -> (up t.nodes n.id).length <= 9) /\ s.pe 1 = .ptr (.slot 1 0) 0 0 /\ s.pe 3 = .p (.int .i64 t.nodes.length) /\ s.pe 5 = .p (.int .i64 k) /\ s.h (.slot 1 0) = some (0,.box [.p (nodesP t.nodes),.p (.int .i64 t.next)])) ?_ ?_
     ·simp -implicitDefEqProofs (disch:=omega) only [h3,h4,h5,hh,go_sem,↓reduceIte,rA,rS,rE,rL,reduceCtorEq]
      simp
     ·rintro k s hk ⟨hall2,h3,h4,h5,hh⟩
      simp -implicitDefEqProofs (disch:=omega) only [h3,h4,h5,hh,go_sem,↓reduceIte,rA,rS,rE,rL,reduceCtorEq]
      refine wp_if_d (fun hlt=>?_) (fun hge=>?_)
      ·have hm : t.nodes[k]? = some t.nodes[k]:=lgg hlt
       generalize t.nodes[k] = m at hm
       have hc:=up_eq t m.id hl
       simp -implicitDefEqProofs (disch:=omega) only [h3,h4,h5,hh,hm,hc,hlt,go_sem,↓reduceIte,rA,rS,rE,rL,reduceCtorEq]
       repeat' ((first | refine wp_grn_d (fun hb=>?_) (fun hb=>?_) | refine wp_gtn_d (fun hb=>?_) (fun hb=>?_) | refine wp_gr_d (fun hb=>?_) (fun hb=>?_) | refine wp_gt_d (fun hb=>?_) (fun hb=>?_) | refine wp_gr (fun hb=>?_) (fun hb=>?_) | refine wp_gt (fun hb=>?_) (fun hb=>?_) | refine wp_nt_d (fun hb=>?_) (fun hb=>?_) | refine wp_nt (fun hb=>?_) (fun hb=>?_) | refine wp_if_d (fun hb=>?_) (fun hb=>?_) | refine wp_if (fun hb=>?_) (fun hb=>?_)) <;> simp -implicitDefEqProofs (disch:=omega) only [hb,h3,h4,h5,hh,hm,hc,go_sem,↓reduceIte,rA,rS,rE,rL,reduceCtorEq])
       ·rename_i hb
        have hf : t.nodes.all (fun n=>decide ((up t.nodes n.id).length <= 9)) = false:=by
         rw [List.all_eq_false]
         exact ⟨m,lmg hm,by simp; omega⟩
        simp [treeOk,hf]
       ·rename_i hb
        refine ⟨hlt,fun i n hi hn=>?_,by simp only [Int.natCast_add,Int.natCast_one]⟩
        rcases Nat.lt_or_ge i k with h0 | h0
        ·exact hall2 i n h0 hn
        ·have : i = k:=by omega
         subst this
         rw [hm] at hn
         simp at hn
         subst hn
         omega
      ·have hk2 : t.nodes.all (fun n=>decide ((up t.nodes n.id).length <= 9)) = true:=by
        rw [List.all_eq_true]
        intro n hn
        obtain ⟨i,hi⟩:=lgm hn
        have:=hall2 i n (by have:=(lgs.1 hi).1; omega) hi
        simpa using this
       have hla : t.nodes[((t.nodes.length : Int) - 1).toNat]? = some t.nodes[t.nodes.length - 1]:=by
        rw [show ((t.nodes.length : Int) - 1).toNat = t.nodes.length - 1 by omega]
        exact lgg (by omega)
       have hlast : t.nodes.getLast? = some t.nodes[t.nodes.length - 1]:=by
        rw [List.getLast?_eq_getElem?]
        exact lgg (by omega)
       generalize t.nodes[t.nodes.length - 1] = l at hla hlast
       simp -implicitDefEqProofs (disch:=omega) only [h3,h4,h5,hh,hge,hla,go_sem,↓reduceIte,rA,rS,rE,rL,reduceCtorEq]
       repeat' ((first | refine wp_grn_d (fun hb=>?_) (fun hb=>?_) | refine wp_gtn_d (fun hb=>?_) (fun hb=>?_) | refine wp_gr_d (fun hb=>?_) (fun hb=>?_) | refine wp_gt_d (fun hb=>?_) (fun hb=>?_) | refine wp_gr (fun hb=>?_) (fun hb=>?_) | refine wp_gt (fun hb=>?_) (fun hb=>?_) | refine wp_nt_d (fun hb=>?_) (fun hb=>?_) | refine wp_nt (fun hb=>?_) (fun hb=>?_) | refine wp_if_d (fun hb=>?_) (fun hb=>?_) | refine wp_if (fun hb=>?_) (fun hb=>?_)) <;> simp -implicitDefEqProofs (disch:=omega) only [hb,h3,h4,h5,hh,hla,go_sem,↓reduceIte,rA,rS,rE,rL,reduceCtorEq])
       all_goals
        simp only [treeOk,hok,hk2,hlast,show (1 <= t.nodes.length /\ t.nodes.length <= 64) by omega,pmi,VVal.p.injEq,PV.bool.injEq,and_true,decide_true,bta]
        rw [Bool.eq_iff_iff]
        simp only [decide_eq_true_eq,bft,false_iff]
        omega
def zeroNd : Nd:=⟨0,0,⟨#[]⟩,0,0,0⟩
def findN (ns : List Nd) (id : Int) : Option Nd:=ns.find? fun n=>decide (n.id = id)
def findT (t : Tr) (id : Int) : Option Nd:=if treeOk t then findN t.nodes id else none
attribute [go_sem] Nd.vv
theorem find_take_none {p : Nd -> Bool} {l : List Nd} {k : Nat} (h : ∀ (i : Nat) (n : Nd),i < k -> l[i]? = some n -> p n = false) {m : Nd} (hm : l[k]? = some m) (hp : p m = true) : l.find? p = some m:=by
 rw [List.find?_eq_some_iff_getElem]
 refine ⟨hp,k,(lgs.1 hm).1,(lgs.1 hm).2,fun j hj=>?_⟩
 have hl : j < l.length:=Nat.lt_trans hj (lgs.1 hm).1
 simpa using h j l[j] hj (lgg hl)
theorem find_none {p : Nd -> Bool} {l : List Nd} (h : ∀ (i : Nat) (n : Nd),i < l.length -> l[i]? = some n -> p n = false) : l.find? p = none:=by
 rw [List.find?_eq_none]
 intro x hx
 obtain ⟨i,hi⟩:=lgm hx
 simpa using h i x (lgs.1 hi).1 hi
theorem lt_succ_cases {Q : Nat -> Nd -> Prop} {l : List Nd} {k : Nat} {m : Nd} (hm : l[k]? = some m) (h : ∀ (i : Nat) (n : Nd),i < k -> l[i]? = some n -> Q i n) (hk : Q k m) : ∀ (i : Nat) (n : Nd),i < k + 1 -> l[i]? = some n -> Q i n:=fun i n hi hn=>by
 rcases Nat.lt_or_ge i k with h0 | h0
 ·exact h i n h0 hn
 ·have : i = k:=by omega
  subst this
  rw [hm] at hn
  simp at hn
  subst hn
  exact hk
theorem rfind_eq (t : Tr) (id : Int) (hl : t.nodes.length < 1000000) : V 19 [t.vv,.p (.int .i64 id)] [] = some (.tup [((findT t id).getD zeroNd).vv,.p (.bool (findT t id).isSome)],[]):=by
 refine V_wp (vf:=vf19) rfl ?_
 have hc:=rcheck_eq t hl
 cases hok : treeOk t with
 | false =>
  rw [hok] at hc
  simp -implicitDefEqProofs (disch:=omega) only [vf19,vb19,hc,go_sem,↓reduceIte,rA,rS,rE,rL,reduceCtorEq]
  simp [findT,hok,zeroNd]
 | true =>
  rw [hok] at hc
  simp -implicitDefEqProofs (disch:=omega) only [vf19,vb19,hc,go_sem,↓reduceIte,rA,rS,rE,rL,reduceCtorEq]
  refine wp_count t.nodes.length (fun k s=>(∀ (i : Nat) (n : Nd),i < k -> t.nodes[i]? = some n -> decide (n.id = id) = false) /\ s.pe 1 = .p (.int .i64 id) /\ s.pe 2 = .ptr (.slot 2 0) 0 0 /\ s.pe 4 = .ptr (.slot 4 0) 0 0 /\ s.pe 6 = .p (.int .i64 k) /\ s.h (.slot 2 0) = some (0,.box [.p (nodesP t.nodes),.p (.int .i64 t.next)]) /\ s.h (.slot 4 0) = some (0,.box (zeroNd.pv.cells.map .p))) ?_ ?_
  ·exact ⟨by omega,rfl,rfl,rfl,rfl,rfl,by simp -implicitDefEqProofs (disch:=omega) only [go_sem,↓reduceIte,rA,rS,rE,rL,reduceCtorEq]; rfl⟩
  ·rintro k s hk ⟨hall,h1,h2,h4,h6,hh2,hh4⟩
   simp only [Nd.pv,zeroNd,PV.cells,lpc,lpn] at hh4
   simp -implicitDefEqProofs (disch:=omega) only [h1,h2,h4,h6,hh2,hh4,go_sem,↓reduceIte,rA,rS,rE,rL,reduceCtorEq]
   refine wp_if_d (fun hlt=>?_) (fun hge=>?_)
   ·have hm : t.nodes[k]? = some t.nodes[k]:=lgg hlt
    generalize t.nodes[k] = m at hm
    simp -implicitDefEqProofs (disch:=omega) only [h1,h2,h4,h6,hh2,hh4,hm,go_sem,↓reduceIte,rA,rS,rE,rL,reduceCtorEq]
    repeat' ((first | refine wp_grn_d (fun hb=>?_) (fun hb=>?_) | refine wp_gtn_d (fun hb=>?_) (fun hb=>?_) | refine wp_gr_d (fun hb=>?_) (fun hb=>?_) | refine wp_gt_d (fun hb=>?_) (fun hb=>?_) | refine wp_gr (fun hb=>?_) (fun hb=>?_) | refine wp_gt (fun hb=>?_) (fun hb=>?_) | refine wp_nt_d (fun hb=>?_) (fun hb=>?_) | refine wp_nt (fun hb=>?_) (fun hb=>?_) | refine wp_if_d (fun hb=>?_) (fun hb=>?_) | refine wp_if (fun hb=>?_) (fun hb=>?_)) <;> simp -implicitDefEqProofs (disch:=omega) only [hb,h1,h2,h4,h6,hh2,hh4,hm,go_sem,↓reduceIte,rA,rS,rE,rL,reduceCtorEq])
    ·have hf : findT t id = some m:=by
      simp only [findT,hok,if_true,findN]
      exact find_take_none hall hm (by simpa using hb)
     simp [hf,Nd.vv,hb]
    ·exact ⟨hlt,lt_succ_cases hm hall (by simpa using ‹_›),by simp only [Int.natCast_add,Int.natCast_one],rfl⟩
   ·have hf : findT t id = none:=by
     simp only [findT,hok,if_true,findN]
     exact find_none fun i n hi=>hall i n (by omega)
    simp -implicitDefEqProofs (disch:=omega) only [h1,h2,h4,h6,hh2,hh4,hge,go_sem,↓reduceIte,rA,rS,rE,rL,reduceCtorEq]
    simp [hf,zeroNd,Nd.vv]
theorem rhas_eq (t : Tr) (id : Int) (hl : t.nodes.length < 1000000) : V 92 [t.vv,.p (.int .i64 id)] [] = some (.p (.bool (findT t id).isSome),[]):=by
 refine V_wp (vf:=vf92) rfl ?_
 have hc:=rfind_eq t id hl
 simp -implicitDefEqProofs (disch:=omega) only [vf92,vb92,hc,go_sem,↓reduceIte,rA,rS,rE,rL,reduceCtorEq]
def ancR (t : Tr) (id : Int) : List Int:=if (findT t id).isSome then up t.nodes id else []
theorem ranc_eq (t : Tr) (id : Int) (hl : t.nodes.length < 1000000) : V 133 [t.vv,.p (.int .i64 id)] [] = some (.fresh 1 ((ancR t id).map (.int .i64)),[]):=by
 refine V_wp (vf:=vf133) rfl ?_
 have hc:=rhas_eq t id hl
 have hu:=up_eq t id hl
 cases hf : (findT t id).isSome with
 | false =>
  rw [hf] at hc
  simp -implicitDefEqProofs (disch:=omega) only [vf133,vb133,hc,go_sem,↓reduceIte,rA,rS,rE,rL,reduceCtorEq]
  simp [ancR,hf]
 | true =>
  rw [hf] at hc
  simp -implicitDefEqProofs (disch:=omega) only [vf133,vb133,hc,hu,go_sem,↓reduceIte,rA,rS,rE,rL,reduceCtorEq]
  simp [ancR,hf]
theorem rdepth_eq (t : Tr) (id : Int) (hl : t.nodes.length < 1000000) : V 132 [t.vv,.p (.int .i64 id)] [] = some (.p (.int .i64 ((ancR t id).length - 1)),[]):=by
 refine V_wp (vf:=vf132) rfl ?_
 have hc:=ranc_eq t id hl
 have hlen : (ancR t id).length < 1000000:=by
  unfold ancR
  split
  ·have:=upR_length t.nodes.reverse id
   simp only [List.length_reverse] at this
   unfold up
   omega
  .simp
 simp -implicitDefEqProofs (disch:=omega) only [vf132,vb132,hc,go_sem,↓reduceIte,rA,rS,rE,rL,reduceCtorEq]
def kids (t : Tr) (id : Int) : List Int:=if (findT t id).isSome then (t.nodes.filter fun n=>decide (n.parent = id)).map (·.id) else []
theorem filter_take {p : Nd -> Bool} {l : List Nd} {k : Nat} {m : Nd} (hm : l[k]? = some m) : (l.take (k + 1)).filter p = if p m then (l.take k).filter p ++ [m] else (l.take k).filter p:=by
 rw [List.take_add_one,hm]
 simp only [List.filter_append,Option.toList,lfl,List.filter_nil]
 split <;> simp
theorem rkids_eq (t : Tr) (id : Int) (hl : t.nodes.length < 1000000) : V 66 [t.vv,.p (.int .i64 id)] [] = some (.fresh 1 ((kids t id).map (.int .i64)),[]):=by
 refine V_wp (vf:=vf66) rfl ?_
 have hc:=rhas_eq t id hl
 cases hf : (findT t id).isSome with
 | false =>
  rw [hf] at hc
  simp -implicitDefEqProofs (disch:=omega) only [vf66,vb66,hc,go_sem,↓reduceIte,rA,rS,rE,rL,reduceCtorEq]
  simp [kids,hf]
 | true =>
  rw [hf] at hc
  simp -implicitDefEqProofs (disch:=omega) only [vf66,vb66,hc,go_sem,↓reduceIte,rA,rS,rE,rL,reduceCtorEq]
  refine wp_count t.nodes.length (fun k s=>∃ (acc : List Int) (v : Nat),acc = ((t.nodes.take k).filter fun n=>decide (n.parent = id)).map (·.id) /\ acc.length <= k /\ s.pe 1 = .p (.int .i64 id) /\ s.pe 2 = .ptr (.slot 2 0) 0 0 /\ s.pe 5 = .own (.slot 5 0) v 0 acc.length /\ s.pe 6 = .p (.int .i64 k) /\ s.h (.slot 2 0) = some (0,.box [.p (nodesP t.nodes),.p (.int .i64 t.next)]) /\ s.h (.slot 5 0) = some (v,.arr 1 (acc.map (.int .i64)))) ?_ ?_
  ·exact ⟨[],0,rfl,by simp,rfl,rfl,rfl,rfl,rfl,rfl⟩
  ·rintro k s hk ⟨acc,v,hacc,hlen,h1,h2,h5,h6,hh2,hh5⟩
   simp -implicitDefEqProofs (disch:=omega) only [h1,h2,h5,h6,hh2,hh5,go_sem,↓reduceIte,rA,rS,rE,rL,reduceCtorEq]
   refine wp_if_d (fun hlt=>?_) (fun hge=>?_)
   ·have hm : t.nodes[k]? = some t.nodes[k]:=lgg hlt
    generalize t.nodes[k] = m at hm
    simp -implicitDefEqProofs (disch:=omega) only [h1,h2,h5,h6,hh2,hh5,hm,go_sem,↓reduceIte,rA,rS,rE,rL,reduceCtorEq]
    repeat' ((first | refine wp_grn_d (fun hb=>?_) (fun hb=>?_) | refine wp_gtn_d (fun hb=>?_) (fun hb=>?_) | refine wp_gr_d (fun hb=>?_) (fun hb=>?_) | refine wp_gt_d (fun hb=>?_) (fun hb=>?_) | refine wp_gr (fun hb=>?_) (fun hb=>?_) | refine wp_gt (fun hb=>?_) (fun hb=>?_) | refine wp_nt_d (fun hb=>?_) (fun hb=>?_) | refine wp_nt (fun hb=>?_) (fun hb=>?_) | refine wp_if_d (fun hb=>?_) (fun hb=>?_) | refine wp_if (fun hb=>?_) (fun hb=>?_)) <;> simp -implicitDefEqProofs (disch:=omega) only [hb,h1,h2,h5,h6,hh2,hh5,hm,go_sem,↓reduceIte,rA,rS,rE,rL,reduceCtorEq])
    ·refine ⟨hlt,acc ++ [m.id],v + 1,?_,by simp; omega,by simp,by simp,by simp⟩
     rw [filter_take hm,hacc]
     simp [hb]
    ·refine ⟨hlt,acc,v,?_,by omega,by simp,by simp,by simp⟩
     rw [filter_take hm,hacc]
     simp [hb]
   ·rw [ltl (by omega)] at hacc
    simp -implicitDefEqProofs (disch:=omega) only [h1,h2,h5,h6,hh2,hh5,hge,go_sem,↓reduceIte,rA,rS,rE,rL,reduceCtorEq]
    simp [kids,hf,hacc]
theorem rcopy_eq (t : Tr) (hl : t.nodes.length < 1000000) : V 97 [t.vv] [] = some (t.fv,[]):=by
 refine V_wp (vf:=vf97) rfl ?_
 simp -implicitDefEqProofs (disch:=omega) only [vf97,vb97,go_sem,↓reduceIte,rA,rS,rE,rL,reduceCtorEq]
def newT : Tr:=⟨[⟨1,0,⟨#[]⟩,0,0,0⟩],2⟩
theorem rnew_eq : V 84 [] [] = some (newT.fv,[]):=by
 refine V_wp (vf:=vf84) rfl ?_
 simp -implicitDefEqProofs (disch:=omega) only [vf84,vb84,go_sem,↓reduceIte,rA,rS,rE,rL,reduceCtorEq]
 rfl
theorem bool_eq (L : List Int) (a : Nat) (n : Int) (hL : L.length < 4611686018427387904) (h1 : 1 <= n) (hn : n < 4611686018427387904) : V 47 [.ptr (.arg 0 0) 0 0,.p (.int .i64 n)] [diceB L a] = some (.p (.bool (decide (nextV L a n = n - 1))),[diceB L (nextA L a n)]):=by
 refine V_wp (vf:=vf47) rfl ?_
 have hc:=next_eq L a n hL hn
 simp -implicitDefEqProofs (disch:=omega) only [vf47,vb47,hc,go_sem,↓reduceIte,rA,rS,rE,rL,reduceCtorEq]
def names6 : List ByteArray:=[⟨#[97]⟩,⟨#[98]⟩,⟨#[99]⟩,⟨#[119,101,98]⟩,⟨#[100,98,45,49]⟩,⟨#[88,95,57]⟩]
def nameV (L : List Int) (a : Nat) : ByteArray:=names6.getD (nextV L a 6).toNat ⟨#[]⟩
theorem name_eq (L : List Int) (a : Nat) (hL : L.length < 4611686018427387904) : V 86 [.ptr (.arg 0 0) 0 0] [diceB L a] = some (.p (.str (nameV L a)),[diceB L (nextA L a 6)]):=by
 refine V_wp (vf:=vf86) rfl ?_
 have hc:=next_eq L a 6 hL (by omega)
 have h0:=nextV_nonneg L a 6
 have h1:=nextV_lt L a (n:=6) (by omega)
 have hl : (nextV L a 6).toNat < names6.length:=by simp [names6]; omega
 have hg : ([.str ⟨#[97]⟩,.str ⟨#[98]⟩,.str ⟨#[99]⟩,.str ⟨#[119,101,98]⟩,.str ⟨#[100,98,45,49]⟩,.str ⟨#[88,95,57]⟩] : List PV)[(nextV L a 6).toNat]? = some (.str (nameV L a)):=by
  show (names6.map PV.str)[(nextV L a 6).toNat]? = _
  rw [List.getElem?_map,nameV,List.getD_eq_getElem?_getD,lgg hl]
  rfl
 simp -implicitDefEqProofs (disch:=omega) only [vf86,vb86,hc,h0,hg,go_sem,↓reduceIte,rA,rS,rE,rL,reduceCtorEq]
theorem nodesOk_pos : ∀ (ns pre : List Nd),(∀ x ∈ pre,1 <= x.id) -> nodesOk pre ns = true -> ∀ n ∈ ns,1 <= n.id
 | [],_,_,_,n,hn=>by cases hn
 | m :: ns,pre,hp,h,n,hn=>by
  simp only [nodesOk,bat] at h
  have hm : 1 <= m.id:=by
   have h1:=h.1
   unfold nodeOk at h1
   simp only [bat] at h1
   cases hl : pre.getLast? with
   | none =>
    rw [hl] at h1
    simp only [decide_eq_true_eq] at h1
    omega
   | some l =>
    rw [hl] at h1
    simp only [bat,decide_eq_true_eq] at h1
    have:=hp l (List.mem_of_getLast? hl)
    omega
  rcases lmk.1 hn with rfl | hn
  ·exact hm
  ·refine nodesOk_pos ns (pre ++ [m]) (fun x hx=>?_) h.2 n hn
   rcases lmp.1 hx with hx | hx
   .exact hp x hx
   .simp at hx; subst hx; exact hm
theorem treeNext {t : Tr} (h : treeOk t = true) : 1 < t.next /\ t.next <= 2147483648 /\ 1 <= t.nodes.length /\ t.nodes.length <= 64:=by
 simp only [treeOk,bat,decide_eq_true_eq] at h
 obtain ⟨⟨⟨h1,h2⟩,_⟩,h3⟩:=h
 cases hl : t.nodes.getLast? with
 | none=>rw [hl] at h3; cases h3
 | some l =>
  rw [hl] at h3
  simp only [decide_eq_true_eq] at h3
  have:=nodesOk_pos t.nodes [] (by simp) h2 l (List.mem_of_getLast? hl)
  omega
def addT (t : Tr) (p : Int) (s : ByteArray) : Tr × Int × Int :=
 if (treeOk t && validN s) = false then (⟨[],0⟩,0,1)
 else if (findT t p).isSome = false then (⟨[],0⟩,0,4)
 else if (t.nodes.any fun n=>decide (n.parent = p /\ n.name = s)) = true then (⟨[],0⟩,0,5)
 else if (8 : Int) <= (ancR t p).length - 1 \/ 64 <= t.nodes.length \/ 2147483647 < t.next then (⟨[],0⟩,0,7)
 else (⟨t.nodes ++ [⟨t.next,p,s,0,0,0⟩],t.next + 1⟩,t.next,0)
set_option maxHeartbeats 2000000 in
theorem radd_eq (t : Tr) (p : Int) (s : ByteArray) (hl : t.nodes.length < 1000000) : V 85 [t.vv,.p (.int .i64 p),.p (.str s)] [] = some (.tup [(addT t p s).1.fv,.p (.int .i64 (addT t p s).2.1),.p (.int .i64 (addT t p s).2.2)],[]):=by
  refine V_wp (vf := vf85) rfl ?_
  have hc := rcheck_eq t hl
  have hv := rvalid_eq s
  have hh := rhas_eq t p hl
  have hd := rdepth_eq t p hl
  have hcp := rcopy_eq t hl
  cases hok : treeOk t with
  | false =>
    rw [hok] at hc
    simp -implicitDefEqProofs (disch:=omega) only [vf85,vb85,hc,go_sem,↓reduceIte,rA,rS,rE,rL,reduceCtorEq]
    simp [addT, hok]
  | true =>
    rw [hok] at hc
    cases hvv : validN s with
    | false =>
      rw [hvv] at hv
      simp -implicitDefEqProofs (disch:=omega) only [vf85,vb85,hc,hv,go_sem,↓reduceIte,rA,rS,rE,rL,reduceCtorEq]
      simp [addT, hok, hvv]
    | true =>
      rw [hvv] at hv
      cases hf : (findT t p).isSome with
      | false =>
        rw [hf] at hh
        simp -implicitDefEqProofs (disch:=omega) only [vf85,vb85,hc,hv,hh,go_sem,↓reduceIte,rA,rS,rE,rL,reduceCtorEq]
        simp [addT,hok,hvv,hf]
      | true =>
        rw [hf] at hh
        simp -implicitDefEqProofs (disch:=omega) only [vf85,vb85,hc,hv,hh,go_sem,↓reduceIte,rA,rS,rE,rL,reduceCtorEq]
        refine wp_count t.nodes.length (fun k st=>(t.nodes.take k).any (fun n=>decide (n.parent = p /\ n.name = s)) = false /\ st.pe 1 = .p (.int .i64 p) /\ st.pe 2 = .p (.str s) /\ st.pe 3 = .ptr (.slot 3 0) 0 0 /\ st.pe 6 = .ptr (.slot 6 0) 0 0 /\ st.pe 9 = .p (.int .i64 k) /\ st.h (.slot 3 0) = some (0,.box [.p (nodesP t.nodes),.p (.int .i64 t.next)]) /\ st.h (.slot 6 0) = some (0,.box [.own (.slot 6 1) 0 0 0,.p (.int .i64 0)]) /\ st.h (.slot 6 1) = some (0,.arr 6 [])) ?_ ?_
        · exact ⟨by simp,rfl,rfl,rfl,rfl,rfl,rfl,rfl,rfl⟩
        · rintro k st hk ⟨hno,h1,h2,h3,h6,h9,hh3,hh6,hh61⟩
          simp -implicitDefEqProofs (disch:=omega) only [h1,h2,h3,h6,h9,hh3,hh6,hh61,go_sem,↓reduceIte,rA,rS,rE,rL,reduceCtorEq]
          refine wp_if_d (fun hlt=>?_) (fun hge=>?_)
          · have hm : t.nodes[k]? = some t.nodes[k]:=lgg hlt
            generalize t.nodes[k] = m at hm
            simp -implicitDefEqProofs (disch:=omega) only [h1,h2,h3,h6,h9,hh3,hh6,hh61,hm,go_sem,↓reduceIte,rA,rS,rE,rL,reduceCtorEq]
            repeat' ((first | refine wp_grn_d (fun hb=>?_) (fun hb=>?_) | refine wp_gtn_d (fun hb=>?_) (fun hb=>?_) | refine wp_gr_d (fun hb=>?_) (fun hb=>?_) | refine wp_gt_d (fun hb=>?_) (fun hb=>?_) | refine wp_gr (fun hb=>?_) (fun hb=>?_) | refine wp_gt (fun hb=>?_) (fun hb=>?_) | refine wp_nt_d (fun hb=>?_) (fun hb=>?_) | refine wp_nt (fun hb=>?_) (fun hb=>?_) | refine wp_if_d (fun hb=>?_) (fun hb=>?_) | refine wp_if (fun hb=>?_) (fun hb=>?_)) <;> simp -implicitDefEqProofs (disch:=omega) only [hb,h1,h2,h3,h6,h9,hh3,hh6,hh61,hm,go_sem,↓reduceIte,rA,rS,rE,rL,reduceCtorEq])
            all_goals first
              | exact ⟨hlt,by rw [any_take hm,hno]; simp [*],by simp only [Int.natCast_add,Int.natCast_one]⟩
              | (have ha : (t.nodes.any fun n=>decide (n.parent = p /\ n.name = s)) = true:=by
                  rw [List.any_eq_true]
                  exact ⟨m,lmg hm,by simp [*]⟩
                 simp only [addT,hok,hvv,hf,ha,bas,Bool.true_eq_false,if_false,if_true,lpn]
                 rfl)
          · have ha : (t.nodes.any fun n=>decide (n.parent = p /\ n.name = s)) = false:=by
              rw [ltl (by omega)] at hno
              exact hno
            by_cases hb1 : (8 : Int) <= (ancR t p).length - 1
            · simp -implicitDefEqProofs (disch:=omega) only [h1,h2,h3,h6,h9,hh3,hh6,hh61,hge,hd,hb1,go_sem,↓reduceIte,rA,rS,rE,rL,reduceCtorEq]
              simp only [addT,hok,hvv,hf,ha,hb1,true_or,bas,Bool.true_eq_false,bft,if_false,if_true,lpn]
              rfl
            · by_cases hb2 : (64 : Int) <= t.nodes.length
              · simp -implicitDefEqProofs (disch:=omega) only [h1,h2,h3,h6,h9,hh3,hh6,hh61,hge,hd,hb1,hb2,go_sem,↓reduceIte,rA,rS,rE,rL,reduceCtorEq]
                simp only [addT,hok,hvv,hf,ha,hb1,show 64 <= t.nodes.length by omega,true_or,or_true,bas,Bool.true_eq_false,bft,if_false,if_true,lpn]
                rfl
              · by_cases hb3 : 2147483647 < t.next
                · simp -implicitDefEqProofs (disch:=omega) only [h1,h2,h3,h6,h9,hh3,hh6,hh61,hge,hd,hb1,hb2,hb3,go_sem,↓reduceIte,rA,rS,rE,rL,reduceCtorEq]
                  simp only [addT,hok,hvv,hf,ha,hb1,hb3,true_or,or_true,bas,Bool.true_eq_false,bft,if_false,if_true,lpn]
                  rfl
                · have hnx:=treeNext hok
                  simp -implicitDefEqProofs (disch:=omega) only [h1,h2,h3,h6,h9,hh3,hh6,hh61,hge,hd,hb1,hb2,hb3,hcp,go_sem,↓reduceIte,rA,rS,rE,rL,reduceCtorEq]
                  simp only [addT,hok,hvv,hf,ha,hb1,hb3,show ¬ 64 <= t.nodes.length by omega,or_self,bas,Bool.true_eq_false,bft,if_false,lma,lpc,lpn,Nd.pv,Tr.fv]
def removeT (t : Tr) (id : Int) : Tr × Int :=
 if treeOk t = false then (⟨[],0⟩,1)
 else if (findT t id).isSome = false then (⟨[],0⟩,4)
 else if id = 1 then (⟨[],0⟩,9)
 else if kids t id ≠ [] then (⟨[],0⟩,6)
 else (⟨t.nodes.filter fun n=>!decide (n.id = id),t.next⟩,0)
set_option maxHeartbeats 2000000 in
theorem rremove_eq (t : Tr) (id : Int) (hl : t.nodes.length < 1000000) : V 87 [t.vv,.p (.int .i64 id)] [] = some (.tup [(removeT t id).1.fv,.p (.int .i64 (removeT t id).2)],[]):=by
 refine V_wp (vf:=vf87) rfl ?_
 have hc:=rcheck_eq t hl
 have hh:=rhas_eq t id hl
 have hk:=rkids_eq t id hl
 cases hok : treeOk t with
 | false =>
  rw [hok] at hc
  simp -implicitDefEqProofs (disch:=omega) only [vf87,vb87,hc,go_sem,↓reduceIte,rA,rS,rE,rL,reduceCtorEq]
  simp [removeT,hok]
 | true =>
  rw [hok] at hc
  cases hf : (findT t id).isSome with
  | false =>
   rw [hf] at hh
   simp -implicitDefEqProofs (disch:=omega) only [vf87,vb87,hc,hh,go_sem,↓reduceIte,rA,rS,rE,rL,reduceCtorEq]
   simp [removeT,hok,hf]
  | true =>
   rw [hf] at hh
   by_cases h1 : id = 1
   ·subst h1
    simp -implicitDefEqProofs (disch:=omega) only [vf87,vb87,hc,hh,go_sem,↓reduceIte,rA,rS,rE,rL,reduceCtorEq]
    simp [removeT,hok,hf]
   ·by_cases h2 : (0 : Int) < (kids t id).length
    ·have h3 : kids t id ≠ []:=fun e=>by rw [e] at h2; simp at h2
     simp -implicitDefEqProofs (disch:=omega) only [vf87,vb87,hc,hh,hk,h1,h2,go_sem,↓reduceIte,rA,rS,rE,rL,reduceCtorEq]
     simp [removeT,hok,hf,h1,h3]
    ·have h3 : kids t id = []:=List.length_eq_zero_iff.1 (by omega)
     simp -implicitDefEqProofs (disch:=omega) only [vf87,vb87,hc,hh,hk,h1,h2,go_sem,↓reduceIte,rA,rS,rE,rL,reduceCtorEq]
     refine wp_count t.nodes.length (fun k s=>∃ (acc : List Nd) (v : Nat),acc = ((t.nodes.take k).filter fun n=>!decide (n.id = id)) /\ acc.length <= k /\ s.pe 1 = .p (.int .i64 id) /\ s.pe 2 = .ptr (.slot 2 0) 0 0 /\ s.pe 4 = .ptr (.slot 4 0) 0 0 /\ s.pe 6 = .ptr (.slot 6 0) 0 0 /\ s.pe 7 = .p (.int .i64 k) /\ s.h (.slot 2 0) = some (0,.box [.p (nodesP t.nodes),.p (.int .i64 t.next)]) /\ s.h (.slot 4 0) = some (0,.box [.own (.slot 4 1) 0 0 0,.p (.int .i64 0)]) /\
      s.h (.slot 6 0) = some (0,.box [.own (.slot 32 1) v 0 acc.length,.p (.int .i64 t.next)]) /\ s.h (.slot 32 1) = some (v,.arr 6 (acc.map Nd.pv))) ?_ ?_
     ·refine ⟨[],0,rfl,by simp,?_⟩
      simp -implicitDefEqProofs (disch:=omega) only [go_sem,↓reduceIte,rA,rS,rE,rL,reduceCtorEq]
      rfl
     ·rintro k s hk' ⟨acc,v,hacc,hlen,p1,p2,p4,p6,p7,hh2,hh4,hh6,hh32⟩
      simp -implicitDefEqProofs (disch:=omega) only [p1,p2,p4,p6,p7,hh2,hh4,hh6,hh32,go_sem,↓reduceIte,rA,rS,rE,rL,reduceCtorEq]
      refine wp_if_d (fun hlt=>?_) (fun hge=>?_)
      ·have hm : t.nodes[k]? = some t.nodes[k]:=lgg hlt
       generalize t.nodes[k] = m at hm
       simp -implicitDefEqProofs (disch:=omega) only [p1,p2,p4,p6,p7,hh2,hh4,hh6,hh32,hm,go_sem,↓reduceIte,rA,rS,rE,rL,reduceCtorEq]
       repeat' ((first | refine wp_grn_d (fun hb=>?_) (fun hb=>?_) | refine wp_gtn_d (fun hb=>?_) (fun hb=>?_) | refine wp_gr_d (fun hb=>?_) (fun hb=>?_) | refine wp_gt_d (fun hb=>?_) (fun hb=>?_) | refine wp_gr (fun hb=>?_) (fun hb=>?_) | refine wp_gt (fun hb=>?_) (fun hb=>?_) | refine wp_nt_d (fun hb=>?_) (fun hb=>?_) | refine wp_nt (fun hb=>?_) (fun hb=>?_) | refine wp_if_d (fun hb=>?_) (fun hb=>?_) | refine wp_if (fun hb=>?_) (fun hb=>?_)) <;> simp -implicitDefEqProofs (disch:=omega) only [hb,p1,p2,p4,p6,p7,hh2,hh4,hh6,hh32,hm,go_sem,↓reduceIte,rA,rS,rE,rL,reduceCtorEq])
       ·refine ⟨hlt,acc ++ [m],v + 1,?_,by simp; omega,by simp,by simp,by simp [Nd.pv]⟩
        rw [filter_take hm,hacc]
        simp [hb]
       ·refine ⟨hlt,acc,v,?_,by omega,by simp,by simp,by simp⟩
        rw [filter_take hm,hacc]
        simp [hb]
      ·rw [ltl (by omega)] at hacc
       simp -implicitDefEqProofs (disch:=omega) only [p1,p2,p4,p6,p7,hh2,hh4,hh6,hh32,hge,go_sem,↓reduceIte,rA,rS,rE,rL,reduceCtorEq]
       simp [removeT,hok,hf,h1,h3,hacc]
theorem nodesOk_append : ∀ (a pre b : List Nd),nodesOk pre (a ++ b) = (nodesOk pre a && nodesOk (pre ++ a) b)
 | [],pre,b=>by simp [nodesOk]
 | n :: a,pre,b=>by
  simp only [lca,nodesOk]
  rw [nodesOk_append a (pre ++ [n]) b]
  simp [Bool.and_assoc]
theorem nodeOk_nil {n : Nd} (h : nodeOk [] n = true) : n.id = 1 /\ n.parent = 0 /\ n.name = ⟨#[]⟩ /\ n.kind = 0:=by
 simp only [nodeOk,List.getLast?_nil,bat,decide_eq_true_eq] at h
 exact h.2
theorem nodeOk_some {pre : List Nd} {l n : Nd} (hl : pre.getLast? = some l) : nodeOk pre n = true ↔ ((n.kind = 0 \/ n.kind = 1) /\ 0 <= n.control /\ n.control <= 31 /\ 0 <= n.owner /\ n.owner <= 1048576) /\ l.id < n.id /\ validN n.name = true /\ (∀ x ∈ pre,¬ (x.parent = n.parent /\ x.name = n.name)) /\ ∃ x ∈ pre,x.id = n.parent:=by
 simp only [nodeOk,hl,bat,decide_eq_true_eq,Bool.not_eq_true',List.any_eq_false,List.any_eq_true]
 constructor
 ·rintro ⟨⟨h1,h2⟩,⟨⟨h3,h4⟩,h5⟩,h6⟩
  exact ⟨⟨h1,h2⟩,h3,h4,h5,h6⟩
 ·rintro ⟨⟨h1,h2⟩,h3,h4,h5,h6⟩
  exact ⟨⟨h1,h2⟩,⟨⟨h3,h4⟩,h5⟩,h6⟩
theorem ids_lt : ∀ (ns pre : List Nd),nodesOk pre ns = true -> (∀ (l : Nd),pre.getLast? = some l -> ∀ x ∈ pre,x.id <= l.id) ->
  (∀ x ∈ pre,∀ n ∈ ns,x.id < n.id) /\ ns.Pairwise fun a b=>a.id < b.id
 | [],_,_,_=>⟨fun _ _ _ h=>(by cases h),List.Pairwise.nil⟩
 | m :: ns,pre,h,hp=>by
  simp only [nodesOk,bat] at h
  have hm : ∀ x ∈ pre,x.id < m.id:=fun x hx=>by
   cases hl : pre.getLast? with
   | none=>rw [List.getLast?_eq_none_iff] at hl; rw [hl] at hx; cases hx
   | some l =>
    have:=((nodeOk_some hl).1 h.1).2.1
    have:=hp l hl x hx
    omega
  obtain ⟨h1,h2⟩:=ids_lt ns (pre ++ [m]) h.2 (fun l hl x hx=>by
   simp at hl
   subst hl
   rcases lmp.1 hx with hx | hx
   .exact Int.le_of_lt (hm x hx)
   .simp at hx; subst hx; exact Int.le_refl _)
  refine ⟨fun x hx n hn=>?_,lpw.2 ⟨fun n hn=>h1 m (by simp) n hn,h2⟩⟩
  rcases lmk.1 hn with rfl | hn
  .exact hm x hx
  .exact h1 x (by simp [hx]) n hn
structure TreeOk (t : Tr) : Prop where
 len : 1 <= t.nodes.length /\ t.nodes.length <= 64
 nodes : nodesOk [] t.nodes = true
 depth : ∀ n ∈ t.nodes,(up t.nodes n.id).length <= 9
 next : ∃ l,t.nodes.getLast? = some l /\ l.id < t.next /\ t.next <= 2147483648
theorem treeOk_iff (t : Tr) : treeOk t = true ↔ TreeOk t:=by
 simp only [treeOk,bat,decide_eq_true_eq,List.all_eq_true]
 constructor
 ·rintro ⟨⟨⟨h1,h2⟩,h3⟩,h4⟩
  cases hl : t.nodes.getLast? with
  | none=>rw [hl] at h4; cases h4
  | some l =>
   rw [hl] at h4
   simp only [decide_eq_true_eq] at h4
   exact ⟨h1,h2,h3,l,hl,h4⟩
 ·rintro ⟨h1,h2,h3,l,hl,h4⟩
  refine ⟨⟨⟨h1,h2⟩,h3⟩,?_⟩
  rw [hl]
  simpa using h4
theorem TreeOk.inc {t : Tr} (h : TreeOk t) : t.nodes.Pairwise fun a b=>a.id < b.id:=(ids_lt t.nodes [] h.nodes (fun _ h=>by simp at h)).2
theorem TreeOk.lt_next {t : Tr} (h : TreeOk t) : ∀ n ∈ t.nodes,n.id < t.next:=by
 obtain ⟨l,hl,h1,_⟩:=h.next
 intro n hn
 obtain ⟨i,hi⟩:=lgm hn
 have hlt:=(lgs.1 hi).1
 rw [List.getLast?_eq_getElem?] at hl
 have hlt2:=(lgs.1 hl).1
 have hinc:=List.pairwise_iff_getElem.1 h.inc
 rcases Nat.lt_or_ge i (t.nodes.length - 1) with h2 | h2
 ·have:=hinc i (t.nodes.length - 1) hlt hlt2 h2
  rw [(lgs.1 hi).2,(lgs.1 hl).2] at this
  omega
 ·have : i = t.nodes.length - 1:=by omega
  rw [this,hl] at hi
  simp at hi
  rw [<- hi]
  exact h1
theorem TreeOk.root {t : Tr} (h : TreeOk t) : ∃ r ns,t.nodes = r :: ns /\ r.id = 1 /\ r.parent = 0:=by
 cases hn : t.nodes with
 | nil=>have:=h.len.1; rw [hn] at this; simp at this
 | cons r ns =>
  have:=h.nodes
  rw [hn] at this
  simp only [nodesOk,bat] at this
  have:=nodeOk_nil this.1
  exact ⟨r,ns,rfl,this.1,this.2.1⟩
theorem newT_ok : TreeOk newT:=by
 refine ⟨by simp [newT],by decide,by decide,⟨1,0,⟨#[]⟩,0,0,0⟩,rfl,by decide,by decide⟩
theorem findN_some {ns : List Nd} {id : Int} (h : (findN ns id).isSome = true) : ∃ n ∈ ns,n.id = id:=by
 unfold findN at h
 rw [List.find?_isSome] at h
 obtain ⟨n,hn,h⟩:=h
 exact ⟨n,hn,by simpa using h⟩
theorem addT_ok {t : Tr} {p : Int} {s : ByteArray} (h0 : (addT t p s).2.2 = 0) : TreeOk t /\ TreeOk (addT t p s).1 /\ (addT t p s).1 = ⟨t.nodes ++ [⟨t.next,p,s,0,0,0⟩],t.next + 1⟩:=by
 unfold addT at h0 ⊢
 split at h0 <;> try (simp at h0; done)
 rename_i h1
 split at h0 <;> try (simp at h0; done)
 rename_i h2
 split at h0 <;> try (simp at h0; done)
 rename_i h3
 split at h0 <;> try (simp at h0; done)
 rename_i h4
 rw [if_neg h1,if_neg h2,if_neg h3,if_neg h4]
 simp only [Bool.not_eq_false,bat] at h1
 simp only [Bool.not_eq_false] at h2
 have hok:=(treeOk_iff t).1 h1.1
 refine ⟨hok,?_,rfl⟩
 have hf : (findN t.nodes p).isSome = true:=by
  unfold findT at h2
  rw [if_pos h1.1] at h2
  exact h2
 obtain ⟨l,hl,hl1,hl2⟩:=hok.next
 have hlt:=hok.lt_next
 have hup : ∀ id,id ≠ t.next -> up (t.nodes ++ [⟨t.next,p,s,0,0,0⟩]) id = up t.nodes id:=fun id hid=>by
  unfold up
  rw [List.reverse_append]
  simp only [List.reverse_cons,List.reverse_nil,lna,lca,upR]
  rw [if_neg (Ne.symm hid)]
 refine ⟨by simp; omega,?_,fun n hn=>?_,⟨⟨t.next,p,s,0,0,0⟩,by simp,by simp; omega,by simp; omega⟩⟩
 ·rw [nodesOk_append,hok.nodes]
  simp only [lna,nodesOk,bau,bta]
  rw [nodeOk_some hl]
  refine ⟨by simp,hl1,h1.2,fun x hx hd=>?_,findN_some hf⟩
  apply h3
  rw [List.any_eq_true]
  exact ⟨x,hx,by simpa using hd⟩
 ·simp only [lmp,List.mem_singleton] at hn
  rcases hn with hn | rfl
  ·rw [hup n.id (by have:=hlt n hn; omega)]
   exact hok.depth n hn
  ·have ha : ancR t p = up t.nodes p:=by unfold ancR; rw [if_pos h2]
   rw [ha] at h4
   have : up (t.nodes ++ [⟨t.next,p,s,0,0,0⟩]) t.next = t.next :: up t.nodes p:=by
    unfold up
    rw [List.reverse_append]
    simp only [List.reverse_cons,List.reverse_nil,lna,lca,upR,if_true]
   simp only
   rw [this]
   simp only [llc]
   omega
theorem upR_filter {q : Int} : ∀ (ns : List Nd) (id : Int),id ≠ q -> (∀ n ∈ ns,n.parent ≠ q) -> upR (ns.filter fun n=>!decide (n.id = q)) id = upR ns id
 | [],_,_,_=>rfl
 | n :: ns,id,hid,hp=>by
  have hp' : ∀ m ∈ ns,m.parent ≠ q:=fun m hm=>hp m (lmc _ hm)
  by_cases hq : n.id = q
  ·have : n.id ≠ id:=fun e=>hid (e ▸ hq)
   rw [List.filter_cons_of_neg (by simp [hq]),upR,if_neg this,upR_filter ns id hid hp']
  ·rw [List.filter_cons_of_pos (by simp [hq]),upR,upR]
   split
   .rw [upR_filter ns n.parent (hp n (lms ..)) hp']
   .rw [upR_filter ns id hid hp']
theorem nodesOk_filter {q : Int} (hq1 : q ≠ 1) : ∀ (ns pre : List Nd),nodesOk pre ns = true -> (∀ n ∈ ns,n.parent ≠ q) -> (∀ (l : Nd),pre.getLast? = some l -> ∀ x ∈ pre,x.id <= l.id) -> (pre.filter (fun n=>!decide (n.id = q)) = [] -> pre = []) ->
  nodesOk (pre.filter fun n=>!decide (n.id = q)) (ns.filter fun n=>!decide (n.id = q)) = true
 | [],_,_,_,_,_=>by simp [nodesOk]
 | n :: ns,pre,h,hp,hlast,hne=>by
  simp only [nodesOk,bat] at h
  have hinc:=ids_lt (n :: ns) pre (by simp only [nodesOk,bat]; exact h) hlast
  have hp' : ∀ m ∈ ns,m.parent ≠ q:=fun m hm=>hp m (lmc _ hm)
  have hlast' : ∀ (l : Nd),(pre ++ [n]).getLast? = some l -> ∀ x ∈ pre ++ [n],x.id <= l.id:=fun l hl x hx=>by
   simp at hl
   subst hl
   rcases lmp.1 hx with hx | hx
   ·exact Int.le_of_lt (hinc.1 x hx n (by simp))
   ·simp at hx; subst hx; exact Int.le_refl _
  by_cases hq : n.id = q
  ·have ih:=nodesOk_filter hq1 ns (pre ++ [n]) h.2 hp' hlast' (fun e=>by
    rw [List.filter_append,List.filter_cons_of_neg (by simp [hq]),List.filter_nil,lan] at e
    have:=hne e
    subst this
    exact absurd ((nodeOk_nil h.1).1.symm.trans hq) (Ne.symm hq1))
   rw [List.filter_append,List.filter_cons_of_neg (by simp [hq]),List.filter_nil,lan] at ih
   rw [List.filter_cons_of_neg (by simp [hq])]
   exact ih
  ·have ih:=nodesOk_filter hq1 ns (pre ++ [n]) h.2 hp' hlast' (fun e=>by
    rw [List.filter_append,List.filter_cons_of_pos (by simp [hq])] at e
    simp at e)
   rw [List.filter_append,List.filter_cons_of_pos (by simp [hq]),List.filter_nil] at ih
   rw [List.filter_cons_of_pos (by simp [hq])]
   simp only [nodesOk,bat]
   refine ⟨?_,ih⟩
   cases hl : pre.getLast? with
   | none =>
    rw [List.getLast?_eq_none_iff] at hl
    subst hl
    simpa using h.1
   | some l =>
    obtain ⟨b1,b2,b3,b4,x,hx,b5⟩:=(nodeOk_some hl).1 h.1
    have hin : x ∈ pre.filter fun n=>!decide (n.id = q):=by
     rw [List.mem_filter]
     exact ⟨hx,by simpa using (fun e=>hp n (by simp) (b5.symm.trans e))⟩
    cases hl2 : (pre.filter fun n=>!decide (n.id = q)).getLast? with
    | none =>
     rw [List.getLast?_eq_none_iff] at hl2
     rw [hl2] at hin
     cases hin
    | some l2 =>
     have hl2m:=List.mem_of_getLast? hl2
     rw [List.mem_filter] at hl2m
     rw [nodeOk_some hl2]
     exact ⟨b1,hinc.1 l2 hl2m.1 n (by simp),b3,fun y hy=>b4 y (List.mem_filter.1 hy).1,x,hin,b5⟩
theorem removeT_ok {t : Tr} {q : Int} (h0 : (removeT t q).2 = 0) : TreeOk t /\ TreeOk (removeT t q).1 /\ (removeT t q).1 = ⟨t.nodes.filter fun n=>!decide (n.id = q),t.next⟩:=by
 unfold removeT at h0 ⊢
 split at h0 <;> try (simp at h0; done)
 rename_i h1
 split at h0 <;> try (simp at h0; done)
 rename_i h2
 split at h0 <;> try (simp at h0; done)
 rename_i h3
 split at h0 <;> try (simp at h0; done)
 rename_i h4
 rw [if_neg h1,if_neg h2,if_neg h3,if_neg h4]
 simp only [Bool.not_eq_false] at h1 h2
 have hok:=(treeOk_iff t).1 h1
 have hpar : ∀ n ∈ t.nodes,n.parent ≠ q:=fun n hn e=>by
  apply h4
  unfold kids
  rw [if_pos h2]
  intro e2
  have : n ∈ t.nodes.filter fun n=>decide (n.parent = q):=by
   rw [List.mem_filter]
   exact ⟨hn,by simpa using e⟩
  have:=List.mem_map_of_mem (f:=(·.id)) this
  rw [e2] at this
  cases this
 refine ⟨hok,?_,rfl⟩
 obtain ⟨r,ns,hr,hr1,_⟩:=hok.root
 have hrin : r ∈ t.nodes.filter fun n=>!decide (n.id = q):=by
  rw [List.mem_filter,hr]
  exact ⟨by simp,by simp; intro e; exact h3 (e.symm.trans hr1)⟩
 have hnodes:=nodesOk_filter h3 t.nodes [] hok.nodes hpar (fun _ h=>by simp at h) (fun _=>rfl)
 refine ⟨⟨?_,?_⟩,by simpa using hnodes,fun n hn=>?_,?_⟩
 ·exact List.length_pos_of_mem hrin
 ·exact Nat.le_trans (List.length_filter_le _ _) hok.len.2
 ·rw [List.mem_filter] at hn
  have hid : n.id ≠ q:=by simpa using hn.2
  have : up (t.nodes.filter fun n=>!decide (n.id = q)) n.id = up t.nodes n.id:=by
   unfold up
   rw [<- List.filter_reverse]
   exact upR_filter _ _ hid fun m hm=>hpar m (by simpa using hm)
  simp only
  rw [this]
  exact hok.depth n hn.1
 ·cases hl : (t.nodes.filter fun n=>!decide (n.id = q)).getLast? with
  | none =>
   rw [List.getLast?_eq_none_iff] at hl
   rw [hl] at hrin
   cases hrin
  | some l =>
   have hm:=(List.mem_filter.1 (List.mem_of_getLast? hl)).1
   obtain ⟨_,_,_,h5⟩:=hok.next
   exact ⟨l,rfl,hok.lt_next l hm,h5⟩
def treeStep (L : List Int) (a : Nat) (t : Tr) : Tr × Nat :=
 let a1:=nextA L a t.nodes.length
 let p:=((t.nodes[(nextV L a t.nodes.length).toNat]?).map (·.id)).getD 0
 let r:=addT t p (nameV L a1)
 let a2:=nextA L a1 6
 let t1:=if r.2.2 = 0 then r.1 else t
 let a3:=nextA L a2 6
 if nextV L a2 6 = 5 then
  let q:=((t1.nodes[(nextV L a3 t1.nodes.length).toNat]?).map (·.id)).getD 0
  let u:=removeT t1 q
  (if u.2 = 0 then u.1 else t1,nextA L a3 t1.nodes.length)
 else (t1,a3)
def treeLoop (L : List Int) : Nat -> Nat -> Tr -> Tr × Nat
 | 0,a,t=>(t,a)
 | k + 1,a,t=>treeLoop L k (treeStep L a t).2 (treeStep L a t).1
def dTree (L : List Int) (a : Nat) (n : Nat) : Tr × Nat:=treeLoop L (nextV L a (n + 1)).toNat (nextA L a (n + 1)) newT
theorem treeStep_ok (L : List Int) (a : Nat) {t : Tr} (h : TreeOk t) : TreeOk (treeStep L a t).1:=by
 have h1 : ∀ p s,TreeOk (if (addT t p s).2.2 = 0 then (addT t p s).1 else t):=fun p s=>by
  split
  ·exact (addT_ok (by assumption)).2.1
  ·exact h
 unfold treeStep
 simp only
 split
 ·have h2 : ∀ (u : Tr) (q : Int),TreeOk u -> TreeOk (if (removeT u q).2 = 0 then (removeT u q).1 else u):=fun u q hu=>by
   split
   .exact (removeT_ok (by assumption)).2.1
   .exact hu
  exact h2 _ _ (h1 _ _)
 .exact h1 _ _
theorem treeLoop_ok (L : List Int) : ∀ (k a : Nat) {t : Tr},TreeOk t -> TreeOk (treeLoop L k a t).1
 | 0,_,_,h=>h
 | k + 1,a,_,h=>treeLoop_ok L k _ (treeStep_ok L a h)
theorem dTree_ok (L : List Int) (a n : Nat) : TreeOk (dTree L a n).1:=treeLoop_ok L _ _ newT_ok
set_option maxHeartbeats 4000000 in
theorem tree_eq (L : List Int) (a n : Nat) (hL : L.length < 4611686018427387904) (hn : n < 1000) : V 43 [.ptr (.arg 0 0) 0 0,.p (.int .i64 n)] [diceB L a] = some ((dTree L a n).1.vv,[diceB L (dTree L a n).2]):=by
 refine V_wp (vf:=vf43) rfl ?_
 have hnx:=next_eq L a ((n : Int) + 1) hL (by omega)
 have hn0:=nextV_nonneg L a ((n : Int) + 1)
 have hn1:=nextV_lt L a (n:=(n : Int) + 1) (by omega)
 simp -implicitDefEqProofs (disch:=omega) only [vf43,vb43,rnew_eq,hnx,go_sem,↓reduceIte,rA,rS,rE,rL,reduceCtorEq]
 refine wp_meas (σ:=Nat × Nat × Tr) (fun x s=>TreeOk x.2.2 /\ x.1 < 1000 /\ treeLoop L x.1 x.2.1 x.2.2 = dTree L a n /\ s.pe 0 = .ptr (.arg 0 0) 0 0 /\ s.pe 4 = .ptr (.slot 4 0) 0 0 /\ s.pe 5 = .ptr (.slot 5 0) 0 0 /\ s.pe 6 = .p (.int .i64 x.1) /\ s.h (.arg 0 0) = some (0,diceB L x.2.1) /\ s.h (.slot 4 0) = some (0,.box [.own (.slot 4 1) 0 0 0,.p (.int .i64 0)]) /\
  ∃ X, s.h (.slot 5 0) = some (0, .box [X, .p (.int .i64 x.2.2.next)]) /\ fz0 [8, 11, 13, 37, 58] s.h X = .p (nodesP x.2.2.nodes)) (fun x=>x.1) ((nextV L a (n + 1)).toNat, nextA L a (n + 1), newT) ?_ ?_
 ·refine ⟨newT_ok,by omega,rfl,?_⟩
  simp -implicitDefEqProofs (disch:=omega) only [Int.toNat_of_nonneg hn0,go_sem,↓reduceIte,rA,rS,rE,rL,reduceCtorEq]
  refine ⟨_,rfl,?_⟩
  simp -implicitDefEqProofs (disch:=omega) only [go_sem,↓reduceIte,rA,rS,rE,rL,reduceCtorEq]
 ·rintro ⟨k,b,t⟩ s ⟨hok,hk,htl,h0,h4,h5,h6,hh0,hh4,X,hh5,hX⟩
  simp only at hok hk htl h6 hh0 hh5 hX
  simp -implicitDefEqProofs (disch:=omega) only [h0,h4,h5,h6,hh0,hh4,hh5,hX,go_sem,↓reduceIte,rA,rS,rE,rL,reduceCtorEq]
  refine wp_if_d (fun hgt=>?_) (fun hle=>?_)
  ·obtain ⟨k',rfl⟩ : ∃ k',k = k' + 1:=⟨k - 1,by omega⟩
   have hlen:=hok.len
   have c1:=next_eq L b t.nodes.length hL (by omega)
   have c2:=nextV_nonneg L b t.nodes.length
   have c3:=nextV_lt L b (n:=t.nodes.length) (by omega)
   have hm : t.nodes[(nextV L b t.nodes.length).toNat]? = some t.nodes[(nextV L b t.nodes.length).toNat]:=lgg (by omega)
   generalize t.nodes[(nextV L b t.nodes.length).toNat]'(by omega) = m at hm
   have c4:=name_eq L (nextA L b t.nodes.length) hL
   have c5:=radd_eq t m.id (nameV L (nextA L b t.nodes.length)) (by omega)
   have c6 : V 47 [.ptr (.arg 0 0) 0 0,.p (.int .i64 6)] [diceB L (nextA L (nextA L b t.nodes.length) 6)] = some (.p (.bool (decide (nextV L (nextA L (nextA L b t.nodes.length) 6) 6 = 5))),[diceB L (nextA L (nextA L (nextA L b t.nodes.length) 6) 6)]):=bool_eq L _ 6 hL (by omega) (by omega)
   have hst : treeLoop L k' (treeStep L b t).2 (treeStep L b t).1 = dTree L a n:=htl
   have hstok:=treeStep_ok L b hok
   obtain ⟨t1,ht1,h1ok⟩ : ∃ t1,t1 = (if (addT t m.id (nameV L (nextA L b t.nodes.length))).2.2 = 0 then (addT t m.id (nameV L (nextA L b t.nodes.length))).1 else t) /\ TreeOk t1:=⟨_,rfl,by
    split
    ·exact (addT_ok (by assumption)).2.1
    ·exact hok⟩
   have hlen1:=h1ok.len
   have d1:=next_eq L (nextA L (nextA L (nextA L b t.nodes.length) 6) 6) t1.nodes.length hL (by omega)
   have d2:=nextV_nonneg L (nextA L (nextA L (nextA L b t.nodes.length) 6) 6) t1.nodes.length
   have d3:=nextV_lt L (nextA L (nextA L (nextA L b t.nodes.length) 6) 6) (n:=t1.nodes.length) (by omega)
   have hq : t1.nodes[(nextV L (nextA L (nextA L (nextA L b t.nodes.length) 6) 6) t1.nodes.length).toNat]? = some t1.nodes[(nextV L (nextA L (nextA L (nextA L b t.nodes.length) 6) 6) t1.nodes.length).toNat]:=lgg (by omega)
   generalize t1.nodes[(nextV L (nextA L (nextA L (nextA L b t.nodes.length) 6) 6) t1.nodes.length).toNat]'(by omega) = q at hq
   have d4:=rremove_eq t1 q.id (by omega)
   have hstep : treeStep L b t = if nextV L (nextA L (nextA L b t.nodes.length) 6) 6 = 5 then (if (removeT t1 q.id).2 = 0 then (removeT t1 q.id).1 else t1,nextA L (nextA L (nextA L (nextA L b t.nodes.length) 6) 6) t1.nodes.length) else (t1,nextA L (nextA L (nextA L b t.nodes.length) 6) 6):=by
    simp only [treeStep,hm,Option.map_some,Option.getD_some,<- ht1,hq]
   rw [hstep] at hst hstok
   by_cases he : (addT t m.id (nameV L (nextA L b t.nodes.length))).2.2 = 0
   ·rw [if_pos he] at ht1
    simp -implicitDefEqProofs (disch:=omega) only [h0,h4,h5,h6,hh0,hh4,hh5,hX,c1,c2,hm,c4,c5,c6,he,<- ht1,go_sem,↓reduceIte,rA,rS,rE,rL,reduceCtorEq]
    refine wp_if_d (fun h5b=>?_) (fun h5b=>?_)
    ·rw [if_pos h5b] at hst hstok
     by_cases hr : (removeT t1 q.id).2 = 0
     ·rw [if_pos hr] at hst hstok
      simp -implicitDefEqProofs (disch:=omega) only [h0,h4,h5,h6,hh0,hh4,hh5,hX,d1,d2,hq,d4,hr,go_sem,↓reduceIte,rA,rS,rE,rL,reduceCtorEq]
      refine ⟨(k',nextA L (nextA L (nextA L (nextA L b t.nodes.length) 6) 6) t1.nodes.length,(removeT t1 q.id).1),Nat.lt_succ_self _,hstok,by simp only; omega,hst,?_⟩
      simp -implicitDefEqProofs (disch:=omega) only [h0,h4,h5,h6,hh0,hh4,hh5,hX,go_sem,↓reduceIte,rA,rS,rE,rL,reduceCtorEq]
      refine ⟨by congr 2; omega,_,rfl,?_⟩
      simp -implicitDefEqProofs (disch:=omega) only [go_sem,↓reduceIte,rA,rS,rE,rL,reduceCtorEq]
     ·rw [if_neg hr] at hst hstok
      simp -implicitDefEqProofs (disch:=omega) only [h0,h4,h5,h6,hh0,hh4,hh5,hX,d1,d2,hq,d4,hr,go_sem,↓reduceIte,rA,rS,rE,rL,reduceCtorEq]
      refine ⟨(k',nextA L (nextA L (nextA L (nextA L b t.nodes.length) 6) 6) t1.nodes.length,t1),Nat.lt_succ_self _,hstok,by simp only; omega,hst,?_⟩
      simp -implicitDefEqProofs (disch:=omega) only [h0,h4,h5,h6,hh0,hh4,hh5,hX,go_sem,↓reduceIte,rA,rS,rE,rL,reduceCtorEq]
      refine ⟨by congr 2; omega,_,rfl,?_⟩
      simp -implicitDefEqProofs (disch:=omega) only [go_sem,↓reduceIte,rA,rS,rE,rL,reduceCtorEq]
    ·rw [if_neg h5b] at hst hstok
     simp -implicitDefEqProofs (disch:=omega) only [h0,h4,h5,h6,hh0,hh4,hh5,hX,go_sem,↓reduceIte,rA,rS,rE,rL,reduceCtorEq]
     refine ⟨(k',nextA L (nextA L (nextA L b t.nodes.length) 6) 6,t1),Nat.lt_succ_self _,hstok,by simp only; omega,hst,?_⟩
     simp -implicitDefEqProofs (disch:=omega) only [h0,h4,h5,h6,hh0,hh4,hh5,hX,go_sem,↓reduceIte,rA,rS,rE,rL,reduceCtorEq]
     refine ⟨by congr 2; omega,_,rfl,?_⟩
     simp -implicitDefEqProofs (disch:=omega) only [go_sem,↓reduceIte,rA,rS,rE,rL,reduceCtorEq]
   ·rw [if_neg he] at ht1
    subst ht1
    simp -implicitDefEqProofs (disch:=omega) only [h0,h4,h5,h6,hh0,hh4,hh5,hX,c1,c2,hm,c4,c5,c6,he,go_sem,↓reduceIte,rA,rS,rE,rL,reduceCtorEq]
    refine wp_if_d (fun h5b=>?_) (fun h5b=>?_)
    ·rw [if_pos h5b] at hst hstok
     by_cases hr : (removeT t1 q.id).2 = 0
     ·rw [if_pos hr] at hst hstok
      simp -implicitDefEqProofs (disch:=omega) only [h0,h4,h5,h6,hh0,hh4,hh5,hX,d1,d2,hq,d4,hr,go_sem,↓reduceIte,rA,rS,rE,rL,reduceCtorEq]
      refine ⟨(k',nextA L (nextA L (nextA L (nextA L b t1.nodes.length) 6) 6) t1.nodes.length,(removeT t1 q.id).1),Nat.lt_succ_self _,hstok,by simp only; omega,hst,?_⟩
      simp -implicitDefEqProofs (disch:=omega) only [h0,h4,h5,h6,hh0,hh4,hh5,hX,go_sem,↓reduceIte,rA,rS,rE,rL,reduceCtorEq]
      refine ⟨by congr 2; omega,_,rfl,?_⟩
      simp -implicitDefEqProofs (disch:=omega) only [go_sem,↓reduceIte,rA,rS,rE,rL,reduceCtorEq]
     ·rw [if_neg hr] at hst hstok
      simp -implicitDefEqProofs (disch:=omega) only [h0,h4,h5,h6,hh0,hh4,hh5,hX,d1,d2,hq,d4,hr,go_sem,↓reduceIte,rA,rS,rE,rL,reduceCtorEq]
      refine ⟨(k',nextA L (nextA L (nextA L (nextA L b t1.nodes.length) 6) 6) t1.nodes.length,t1),Nat.lt_succ_self _,hstok,by simp only; omega,hst,?_⟩
      simp -implicitDefEqProofs (disch:=omega) only [h0,h4,h5,h6,hh0,hh4,hh5,hX,go_sem,↓reduceIte,rA,rS,rE,rL,reduceCtorEq]
      refine ⟨by congr 2; omega,_,rfl,?_⟩
      simp -implicitDefEqProofs (disch:=omega) only [go_sem,↓reduceIte,rA,rS,rE,rL,reduceCtorEq]
    ·rw [if_neg h5b] at hst hstok
     simp -implicitDefEqProofs (disch:=omega) only [h0,h4,h5,h6,hh0,hh4,hh5,hX,go_sem,↓reduceIte,rA,rS,rE,rL,reduceCtorEq]
     refine ⟨(k',nextA L (nextA L (nextA L b t1.nodes.length) 6) 6,t1),Nat.lt_succ_self _,hstok,by simp only; omega,hst,?_⟩
     simp -implicitDefEqProofs (disch:=omega) only [h0,h4,h5,h6,hh0,hh4,hh5,hX,go_sem,↓reduceIte,rA,rS,rE,rL,reduceCtorEq]
     refine ⟨by congr 2; omega,_,rfl,?_⟩
     simp -implicitDefEqProofs (disch:=omega) only [go_sem,↓reduceIte,rA,rS,rE,rL,reduceCtorEq]
  ·have hk0 : k = 0:=by omega
   subst hk0
   simp only [treeLoop] at htl
   simp -implicitDefEqProofs (disch:=omega) only [h0,h4,h5,h6,hh0,hh4,hh5,hX,go_sem,↓reduceIte,rA,rS,rE,rL,reduceCtorEq]
   rw [<- htl]
def idxOf (ns : List Nd) (id : Int) : Int:=match ns.findIdx? (fun n=>decide (n.id = id)) with
 | some i=>i
 | none=>-1
theorem at1_eq (n : Nd) (id : Int) : V 106 [n.vv,.ptr (.arg 0 0) 0 0] [.box [.p (.int .i64 id)]] = some (.p (.bool (decide (n.id = id))),[.box [.p (.int .i64 id)]]):=by
 refine V_wp (vf:=vf106) rfl ?_
 simp -implicitDefEqProofs (disch:=omega) only [vf106,vb106,go_sem,↓reduceIte,rA,rS,rE,rL,reduceCtorEq]
theorem idxOf_at {ns : List Nd} {id : Int} {k : Nat} {m : Nd} (hm : ns[k]? = some m) (h : ∀ (i : Nat) (n : Nd),i < k -> ns[i]? = some n -> ¬ n.id = id) (he : m.id = id) : idxOf ns id = k:=by
 unfold idxOf
 have : ns.findIdx? (fun n=>decide (n.id = id)) = some k:=by
  rw [List.findIdx?_eq_some_iff_getElem]
  refine ⟨(lgs.1 hm).1,by rw [(lgs.1 hm).2]; simpa using he,fun j hj=>?_⟩
  have hl : j < ns.length:=Nat.lt_trans hj (lgs.1 hm).1
  simpa using h j ns[j] hj (lgg hl)
 rw [this]
theorem idxOf_none {ns : List Nd} {id : Int} (h : ∀ n ∈ ns,¬ n.id = id) : idxOf ns id = -1:=by
 unfold idxOf
 have : ns.findIdx? (fun n=>decide (n.id = id)) = none:=by
  rw [List.findIdx?_eq_none_iff]
  intro x hx
  simpa using h x hx
 rw [this]
theorem indexFunc_eq (ns : List Nd) (id : Int) (hl : ns.length < 1000000) : V 105 [.p (nodesP ns),.fn 106 [.ptr (.arg 0 0) 0 0]] [.box [.p (.int .i64 id)]] = some (.p (.int .i64 (idxOf ns id)),[.box [.p (.int .i64 id)]]):=by
 refine V_wp (vf:=vf105) rfl ?_
 simp -implicitDefEqProofs (disch:=omega) only [vf105,vb105,go_sem,↓reduceIte,rA,rS,rE,rL,reduceCtorEq]
 refine wp_count ns.length (fun k s=>(∀ (i : Nat) (n : Nd),i < k -> ns[i]? = some n -> ¬ n.id = id) /\ s.pe 0 = .p (nodesP ns) /\ s.pe 1 = .fn 106 [.ptr (.arg 0 0) 0 0] /\ s.pe 7 = .p (.int .i64 ns.length) /\ s.pe 8 = .p (.int .i64 k) /\ s.h (.arg 0 0) = some (0,.box [.p (.int .i64 id)])) ?_ ?_
 ·exact ⟨by omega,rfl,rfl,rfl,rfl,rfl⟩
 ·rintro k s hk ⟨hall,h0,h1,h7,h8,hh⟩
  simp -implicitDefEqProofs (disch:=omega) only [h0,h1,h7,h8,hh,go_sem,↓reduceIte,rA,rS,rE,rL,reduceCtorEq]
  refine wp_if_d (fun hlt=>?_) (fun hge=>?_)
  ·have hm : ns[k]? = some ns[k]:=lgg hlt
   generalize ns[k] = m at hm
   have hc:=at1_eq m id
   unfold Nd.vv at hc
   simp -implicitDefEqProofs (disch:=omega) only [h0,h1,h7,h8,hh,hm,hc,go_sem,↓reduceIte,rA,rS,rE,rL,reduceCtorEq]
   repeat' ((first | refine wp_grn_d (fun hb=>?_) (fun hb=>?_) | refine wp_gtn_d (fun hb=>?_) (fun hb=>?_) | refine wp_gr_d (fun hb=>?_) (fun hb=>?_) | refine wp_gt_d (fun hb=>?_) (fun hb=>?_) | refine wp_gr (fun hb=>?_) (fun hb=>?_) | refine wp_gt (fun hb=>?_) (fun hb=>?_) | refine wp_nt_d (fun hb=>?_) (fun hb=>?_) | refine wp_nt (fun hb=>?_) (fun hb=>?_) | refine wp_if_d (fun hb=>?_) (fun hb=>?_) | refine wp_if (fun hb=>?_) (fun hb=>?_)) <;> simp -implicitDefEqProofs (disch:=omega) only [hb,h0,h1,h7,h8,hh,go_sem,↓reduceIte,rA,rS,rE,rL,reduceCtorEq])
   .rw [idxOf_at hm hall hb]
   .exact ⟨hlt,lt_succ_cases hm hall hb,by simp only [Int.natCast_add,Int.natCast_one]⟩
  ·simp -implicitDefEqProofs (disch:=omega) only [h0,h1,h7,h8,hh,hge,go_sem,↓reduceIte,rA,rS,rE,rL,reduceCtorEq]
   rw [idxOf_none]
   intro n hn
   obtain ⟨i,hi⟩:=lgm hn
   exact hall i n (by have:=(lgs.1 hi).1; omega) hi
theorem at_eq (t : Tr) (id : Int) (hl : t.nodes.length < 1000000) : V 57 [t.vv,.p (.int .i64 id)] [] = some (.p (.int .i64 (idxOf t.nodes id)),[]):=by
 refine V_wp (vf:=vf57) rfl ?_
 have hc:=indexFunc_eq t.nodes id hl
 simp -implicitDefEqProofs (disch:=omega) only [vf57,vb57,hc,go_sem,↓reduceIte,rA,rS,rE,rL,reduceCtorEq]
theorem idxOf_lt (ns : List Nd) (id : Int) : (idxOf ns id < 0 /\ findN ns id = none) \/ ∃ (k : Nat) (m : Nd),idxOf ns id = k /\ ns[k]? = some m /\ findN ns id = some m /\ m.id = id:=by
 unfold idxOf findN
 cases h : ns.findIdx? (fun n=>decide (n.id = id)) with
 | none =>
  left
  rw [List.findIdx?_eq_none_iff] at h
  exact ⟨by show (-1 : Int) < 0; omega,List.find?_eq_none.2 fun x hx=>by simp [h x hx]⟩
 | some k =>
  right
  rw [List.findIdx?_eq_some_iff_getElem] at h
  obtain ⟨h1,h2,h3⟩:=h
  refine ⟨k,ns[k],rfl,lgg h1,find_take_none (k:=k) (fun i n hi hn=>?_) (lgg h1) h2,by simpa using h2⟩
  have:=h3 i hi
  rw [<- (lgs.1 hn).2]
  simpa using this
theorem ffind_eq (t : Tr) (id : Int) (hl : t.nodes.length < 1000000) : V 101 [t.vv,.p (.int .i64 id)] [] = some (.tup [((findN t.nodes id).getD zeroNd).vv,.p (.bool (findN t.nodes id).isSome)],[]):=by
 refine V_wp (vf:=vf101) rfl ?_
 have hc:=at_eq t id hl
 rcases idxOf_lt t.nodes id with ⟨h1,h2⟩ | ⟨k,m,h1,h2,h3,h4⟩
 ·simp -implicitDefEqProofs (disch:=omega) only [vf101,vb101,hc,h1,go_sem,↓reduceIte,rA,rS,rE,rL,reduceCtorEq]
  simp [h2,zeroNd,Nd.vv]
 ·rw [h1] at hc
  have hk : ¬ (k : Int) < 0:=by omega
  simp -implicitDefEqProofs (disch:=omega) only [vf101,vb101,hc,hk,h2,go_sem,↓reduceIte,rA,rS,rE,rL,reduceCtorEq]
  simp [h3,Nd.vv]
theorem troot_eq (n : Nd) : V 134 [n.vv] [] = some (.p (.bool (decide (n.id = 1 /\ n.parent = 0 /\ n.name = ⟨#[]⟩ /\ n.kind = 0))),[]):=by
 refine V_wp (vf:=vf134) rfl ?_
 simp -implicitDefEqProofs (disch:=omega) only [vf134,vb134,go_sem,↓reduceIte,rA,rS,rE,rL,reduceCtorEq]
 repeat' ((first | refine wp_grn_d (fun hb=>?_) (fun hb=>?_) | refine wp_gtn_d (fun hb=>?_) (fun hb=>?_) | refine wp_gr_d (fun hb=>?_) (fun hb=>?_) | refine wp_gt_d (fun hb=>?_) (fun hb=>?_) | refine wp_gr (fun hb=>?_) (fun hb=>?_) | refine wp_gt (fun hb=>?_) (fun hb=>?_) | refine wp_nt_d (fun hb=>?_) (fun hb=>?_) | refine wp_nt (fun hb=>?_) (fun hb=>?_) | refine wp_if_d (fun hb=>?_) (fun hb=>?_) | refine wp_if (fun hb=>?_) (fun hb=>?_)) <;> simp -implicitDefEqProofs (disch:=omega) only [hb,go_sem,↓reduceIte,rA,rS,rE,rL,reduceCtorEq])
 all_goals
  simp only [pmi,VVal.p.injEq,PV.bool.injEq,and_true]
  rw [Bool.eq_iff_iff]
  simp only [decide_eq_true_eq,bft,false_iff]
  simp [*]
def fineB (pre : List Nd) (l n : Nd) : Bool:=decide (l.id < n.id) && validN n.name && decide (n.kind = 0 \/ n.kind = 1) && !(pre.any fun x=>decide (x.parent = n.parent /\ x.name = n.name)) && pre.any fun x=>decide (x.id = n.parent)
set_option maxHeartbeats 2000000 in
theorem tfine_eq (pre : List Nd) (l n : Nd) (hl : pre.getLast? = some l) (hlen : pre.length < 1000000) (hs : n.name.size < 9223372036854775808) : V 135 [.p (nodesP pre),n.vv] [] = some (.p (.bool (fineB pre l n)),[]):=by
  refine V_wp (vf:=vf135) rfl ?_
  have hpre : pre[((pre.length : Int) - 1).toNat]? = some l:=by
    rw [List.getLast?_eq_getElem?] at hl
    rw [show ((pre.length : Int) - 1).toNat = pre.length - 1 by omega]
    exact hl
  have hpos : 0 < pre.length:=by
    have := (List.getElem?_eq_some_iff.1 hpre).1
    omega
  have hp0 : 0 <= (pre.length : Int) - 1:=by omega
  have hv := pvalid_eq n.name hs
  simp -implicitDefEqProofs (disch:=omega) only [vf135,vb135,hpre,hp0,go_sem,↓reduceIte,rA,rS,rE,rL,reduceCtorEq]
  repeat' ((first | refine wp_grn_d (fun hb=>?_) (fun hb=>?_) | refine wp_gtn_d (fun hb=>?_) (fun hb=>?_) | refine wp_gr_d (fun hb=>?_) (fun hb=>?_) | refine wp_gt_d (fun hb=>?_) (fun hb=>?_) | refine wp_gr (fun hb=>?_) (fun hb=>?_) | refine wp_gt (fun hb=>?_) (fun hb=>?_) | refine wp_nt_d (fun hb=>?_) (fun hb=>?_) | refine wp_nt (fun hb=>?_) (fun hb=>?_) | refine wp_if_d (fun hb=>?_) (fun hb=>?_) | refine wp_if (fun hb=>?_) (fun hb=>?_)) <;> simp -implicitDefEqProofs (disch:=omega) only [hb,hpre,hv,go_sem,↓reduceIte,rA,rS,rE,rL,reduceCtorEq])
  all_goals first
    | (simp only [fineB,pmi,VVal.p.injEq,PV.bool.injEq,and_true]
       rw [Bool.eq_iff_iff]
       simp only [bat,decide_eq_true_eq,bft,false_iff]
       try simp only [*]
       first | omega | (simp; done) | (simp; omega))
    | (have hvf : validN n.name = false:=by simpa using ‹(!validN n.name) = true›
       simp only [fineB,hvf,Bool.and_false,bfa]
       done)
    | skip
  all_goals
    have hvt : validN n.name = true:=by simpa using ‹(!validN n.name) = false›
    refine wp_count pre.length (fun k s=>((pre.take k).any (fun x=>decide (x.parent = n.parent /\ x.name = n.name)) = false) /\ s.pe 3 = .ptr (.slot 3 0) 0 0 /\ s.pe 5 = .p (.bool ((pre.take k).any fun x=>decide (x.id = n.parent))) /\ s.pe 34 = .p (nodesP pre) /\ s.pe 35 = .p (.int .i64 pre.length) /\ s.pe 36 = .p (.int .i64 k) /\ s.h (.slot 3 0) = some (0,.box (n.pv.cells.map .p))) ?_ ?_
    · exact ⟨by simp,rfl,rfl,rfl,rfl,rfl,by simp -implicitDefEqProofs (disch:=omega) only [go_sem,↓reduceIte,rA,rS,rE,rL,reduceCtorEq]; simp only [*]⟩
    · rintro k s hk ⟨hno,h3,h5,h34,h35,h36,hh3⟩
      simp only [Nd.pv,PV.cells,lpc,lpn] at hh3
      simp -implicitDefEqProofs (disch:=omega) only [h3,h5,h34,h35,h36,hh3,go_sem,↓reduceIte,rA,rS,rE,rL,reduceCtorEq]
      refine wp_if_d (fun hki=>?_) (fun hge=>?_)
      · have hm : pre[k]? = some pre[k]:=lgg (by omega)
        generalize pre[k] = m at hm
        simp -implicitDefEqProofs (disch:=omega) only [h3,h5,h34,h35,h36,hh3,hm,hki,go_sem,↓reduceIte,rA,rS,rE,rL,reduceCtorEq]
        repeat' ((first | refine wp_grn_d (fun hb=>?_) (fun hb=>?_) | refine wp_gtn_d (fun hb=>?_) (fun hb=>?_) | refine wp_gr_d (fun hb=>?_) (fun hb=>?_) | refine wp_gt_d (fun hb=>?_) (fun hb=>?_) | refine wp_gr (fun hb=>?_) (fun hb=>?_) | refine wp_gt (fun hb=>?_) (fun hb=>?_) | refine wp_nt_d (fun hb=>?_) (fun hb=>?_) | refine wp_nt (fun hb=>?_) (fun hb=>?_) | refine wp_if_d (fun hb=>?_) (fun hb=>?_) | refine wp_if (fun hb=>?_) (fun hb=>?_)) <;> simp -implicitDefEqProofs (disch:=omega) only [hb,h3,h5,h34,h35,h36,hh3,hm,hki,go_sem,↓reduceIte,rA,rS,rE,rL,reduceCtorEq])
        all_goals first
          | (have ha : (pre.any fun x=>decide (x.parent = n.parent /\ x.name = n.name)) = true:=by
              rw [List.any_eq_true]
              exact ⟨m,lmg hm,by simp [*]⟩
             simp only [fineB,ha,Bool.not_true,Bool.and_false,bfa]
             done)
          | exact ⟨by rw [any_take hm,hno]; simp [*],by rw [any_take hm]; simp [*],by simp only [Int.natCast_add,Int.natCast_one]⟩
      · simp -implicitDefEqProofs (disch:=omega) only [h3,h5,h34,h35,h36,hh3,hge,go_sem,↓reduceIte,rA,rS,rE,rL,reduceCtorEq]
        have hki : k = pre.length:=by omega
        subst hki
        rw [List.take_length] at hno ⊢
        simp only [fineB,hno,pmi,VVal.p.injEq,PV.bool.injEq,and_true]
        rw [Bool.eq_iff_iff]
        simp only [bat,decide_eq_true_eq,bnf,and_true,true_and]
        exact ⟨fun h=>⟨⟨⟨by omega,hvt⟩,by omega⟩,h⟩,fun h=>h.2⟩
theorem fineB_nodeOk {pre : List Nd} {l n : Nd} (hl : pre.getLast? = some l) : nodeOk pre n = (decide (0 <= n.control /\ n.control <= 31 /\ 0 <= n.owner /\ n.owner <= 1048576) && fineB pre l n):=by
 rw [Bool.eq_iff_iff]
 simp only [nodeOk,hl,fineB,bat,decide_eq_true_eq]
 constructor
 ·rintro ⟨⟨h1,h2⟩,⟨⟨h3,h4⟩,h5⟩,h6⟩
  exact ⟨h2,⟨⟨⟨h3,h4⟩,h1⟩,h5⟩,h6⟩
 ·rintro ⟨h2,⟨⟨⟨h3,h4⟩,h1⟩,h5⟩,h6⟩
  exact ⟨⟨h1,h2⟩,⟨⟨h3,h4⟩,h5⟩,h6⟩
theorem andNot31 {a : Int} (h0 : 0 <= a) (h1 : a < 9223372036854775808) : (IntKind.i64.wrap ((BitVec.ofInt IntKind.i64.bits a &&& ~~~ BitVec.ofInt IntKind.i64.bits 31).toNat : Int) = 0) = (a <= 31):=by
 have e64 : IntKind.i64.bits = 64:=rfl
 rw [eq_iff_iff]
 generalize hx : BitVec.ofInt IntKind.i64.bits a = x
 generalize hy : (x &&& ~~~ BitVec.ofInt IntKind.i64.bits 31) = y
 have hxn : x.toNat = a.toNat:=by
  rw [<- hx,BitVec.toNat_ofInt]
  rw [e64]
  omega
 have hbit : ∀ i,y.getLsbD i = (x.getLsbD i && decide (5 <= i)):=fun i=>by
  rw [<- hy,BitVec.getLsbD_and,BitVec.getLsbD_not]
  have h31 : (BitVec.ofInt IntKind.i64.bits 31).getLsbD i = decide (i < 5):=by
   rw [show BitVec.ofInt IntKind.i64.bits 31 = BitVec.ofNat IntKind.i64.bits 31 from rfl,BitVec.getLsbD_ofNat]
   rw [show (31 : Nat) = 2 ^ 5 - 1 from rfl,Nat.testBit_two_pow_sub_one,e64]
   rw [Bool.eq_iff_iff]
   simp
   omega
  rw [h31]
  by_cases hi : i < IntKind.i64.bits
  ·rw [Bool.eq_iff_iff]
   simp [hi]
  ·have : x.getLsbD i = false:=BitVec.getLsbD_of_ge x i (by omega)
   simp [this]
 have hyle : y.toNat <= x.toNat:=by
  rw [<- hy,BitVec.toNat_and]
  exact Nat.and_le_left
 have hw : IntKind.i64.wrap (y.toNat : Int) = y.toNat:=wrap64 (by omega) (by omega)
 rw [hw]
 constructor
 ·intro h
  have hy0 : y = 0#_:=BitVec.eq_of_toNat_eq (by simpa using h)
  have hlt : x.toNat < 2 ^ 5:=Nat.lt_pow_two_of_testBit _ fun i hi=>by
   have:=hbit i
   rw [hy0] at this
   simp only [BitVec.getLsbD_zero,decide_eq_true hi,bau] at this
   exact this.symm
  omega
 ·intro h
  have hlt : x.toNat < 2 ^ 5:=by omega
  have hy0 : y = 0#_:=BitVec.eq_of_getLsbD_eq fun i hi=>by
   rw [hbit i]
   by_cases h5 : 5 <= i
   ·have : x.getLsbD i = false:=by
     rw [BitVec.getLsbD]
     exact Nat.testBit_lt_two_pow (Nat.lt_of_lt_of_le hlt (Nat.pow_le_pow_right (by omega) h5))
    simp [this]
   .simp [h5]
  rw [hy0]
  simp
theorem antI31 {a : Int} (h0 : 0 <= a) (h1 : a < 9223372036854775808) : (antI .i64 a 31 = 0) = (a <= 31):=andNot31 h0 h1
theorem upR_append_skip {id : Int} : ∀ (a b : List Nd),(∀ x ∈ a,x.id ≠ id) -> upR (a ++ b) id = upR b id
 | [],_,_=>rfl
 | x :: a,b,h=>by
  rw [lca,upR,if_neg (h x (lms ..)),upR_append_skip a b fun y hy=>h y (lmc _ hy)]
theorem up_snoc_eq (pre : List Nd) (m : Nd) : up (pre ++ [m]) m.id = m.id :: up pre m.parent:=by
 unfold up
 rw [List.reverse_append]
 simp only [List.reverse_cons,List.reverse_nil,lna,lca,upR,if_true]
theorem up_snoc_ne (pre : List Nd) (m : Nd) {id : Int} (h : m.id ≠ id) : up (pre ++ [m]) id = up pre id:=by
 unfold up
 rw [List.reverse_append]
 simp only [List.reverse_cons,List.reverse_nil,lna,lca,upR]
 rw [if_neg h]
theorem up_take {ns : List Nd} (hinc : ns.Pairwise fun a b=>a.id < b.id) {k : Nat} {n : Nd} (hn : n ∈ ns.take k) : up ns n.id = up (ns.take k) n.id:=by
 unfold up
 conv=>lhs; rw [<- List.take_append_drop k ns,List.reverse_append]
 refine upR_append_skip _ _ fun x hx=>?_
 rw [List.mem_reverse] at hx
 rw [<- List.take_append_drop k ns,List.pairwise_append] at hinc
 have:=hinc.2.2 n hn x hx
 omega
theorem mget_mput_same : ∀ (ks : List MKey) (vs : List PV) (k : MKey) (v : PV),mget (mput ks vs k v).1 (mput ks vs k v).2 k = some v
 | [],vs,k,v=>by cases vs <;> simp [mput,mget]
 | x :: ks,[],k,v=>by simp [mput,mget]
 | x :: ks,y :: vs,k,v=>by
  unfold mput
  split
  ·rename_i h
   simp [mget,h]
  ·rename_i h
   simp only [mget,if_neg h]
   exact mget_mput_same ks vs k v
theorem mget_mput_other : ∀ (ks : List MKey) (vs : List PV) (k k' : MKey) (v : PV),ks.length = vs.length -> k' ≠ k -> mget (mput ks vs k v).1 (mput ks vs k v).2 k' = mget ks vs k'
 | [],[],k,k',v,_,h=>by simp [mput,mget,h]
 | [],_ :: _,k,k',v,hl,h=>by simp at hl
 | x :: ks,[],k,k',v,hl,h=>by simp at hl
 | x :: ks,y :: vs,k,k',v,hl,h=>by
  unfold mput
  split
  ·rename_i e
   subst e
   simp [mget,h]
  ·simp only [mget]
   split
   .rfl
   .exact mget_mput_other ks vs k k' v (by simpa using hl) h
theorem mput_len : ∀ (ks : List MKey) (vs : List PV) (k : MKey) (v : PV),ks.length = vs.length -> (mput ks vs k v).1.length = (mput ks vs k v).2.length
 | [],[],_,_,_=>rfl
 | [],_ :: _,_,_,h=>by simp at h
 | _ :: _,[],_,_,h=>by simp at h
 | x :: ks,y :: vs,k,v,h=>by
  unfold mput
  split
  ·simpa using h
  ·simp only [llc]
   rw [mput_len ks vs k v (by simpa using h)]
structure Nd.Fits (n : Nd) : Prop where
 name : n.name.size < 9223372036854775808
 control : n.control < 9223372036854775808
def Tr.Fits (t : Tr) : Prop:=∀ n ∈ t.nodes,n.Fits
theorem treeOk_false_of_node {t : Tr} {k : Nat} {m : Nd} (hm : t.nodes[k]? = some m) (h : nodeOk (t.nodes.take k) m = false) : treeOk t = false:=by
 rw [Bool.eq_false_iff]
 intro h0
 have:=(nodesOk_iff _ _).1 ((treeOk_iff t).1 h0).nodes k m hm
 rw [lna,h] at this
 cases this
theorem treeOk_false_of_depth {t : Tr} {k : Nat} {m : Nd} (hm : t.nodes[k]? = some m) (h : 9 < (up (t.nodes.take (k + 1)) m.id).length) : treeOk t = false:=by
 rw [Bool.eq_false_iff]
 intro h0
 have hok:=(treeOk_iff t).1 h0
 have hin : m ∈ t.nodes.take (k + 1):=by
  have : (t.nodes.take (k + 1))[k]? = some m:=by rw [List.getElem?_take,if_pos (by omega)]; exact hm
  exact lmg this
 have:=hok.depth m (lmg hm)
 rw [up_take hok.inc hin] at this
 omega
theorem nodeOk_bad {pre : List Nd} {n : Nd} (h : ¬ (0 <= n.control /\ n.control <= 31 /\ 0 <= n.owner /\ n.owner <= 1048576)) : nodeOk pre n = false:=by
 simp only [nodeOk,decide_eq_false h,Bool.and_false,bfa]
set_option maxHeartbeats 4000000 in
theorem tcheck_eq (t : Tr) (hf : t.Fits) (hl : t.nodes.length < 1000000) : V 99 [t.vv] [] = some (.p (.bool (treeOk t)),[]):=by
 refine V_wp (vf:=vf99) rfl ?_
 by_cases h1 : (t.nodes.length : Int) < 1
 ·simp -implicitDefEqProofs (disch:=omega) only [vf99,vb99,h1,go_sem,↓reduceIte,rA,rS,rE,rL,reduceCtorEq]
  simp [treeOk,show ¬ 1 <= t.nodes.length by omega]
 by_cases h2 : 64 < (t.nodes.length : Int)
 ·simp -implicitDefEqProofs (disch:=omega) only [vf99,vb99,h1,h2,go_sem,↓reduceIte,rA,rS,rE,rL,reduceCtorEq]
  simp [treeOk,show ¬ t.nodes.length <= 64 by omega]
 have hz : (0 : Int).toNat = 0:=rfl
 have hr0 : t.nodes[0]? = some t.nodes[0]:=lgg (by omega)
 generalize t.nodes[0] = r at hr0
 have hroot:=troot_eq r
 by_cases hr : ¬ (r.id = 1 /\ r.parent = 0 /\ r.name = ⟨#[]⟩ /\ r.kind = 0)
 ·rw [decide_eq_false hr] at hroot
  unfold Nd.vv at hroot
  simp -implicitDefEqProofs (disch:=omega) only [vf99,vb99,h1,h2,hz,hr0,hroot,go_sem,↓reduceIte,rA,rS,rE,rL,reduceCtorEq]
  rw [treeOk_false_of_node hr0]
  rw [Bool.eq_false_iff]
  intro h0
  exact hr (nodeOk_nil (by simpa using h0))
 have hr := Classical.not_not.1 hr
 rw [decide_eq_true hr] at hroot
 unfold Nd.vv at hroot
 simp -implicitDefEqProofs (disch:=omega) only [vf99,vb99,h1,h2,hz,hr0,hroot,go_sem,↓reduceIte,rA,rS,rE,rL,reduceCtorEq]
 refine wp_count t.nodes.length (fun k s=>∃ (ks : List MKey) (vs : List PV),ks.length = vs.length /\ (k = 0 -> ks = [] /\ vs = []) /\ (∀ (i : Nat) (n : Nd),i < k -> t.nodes[i]? = some n -> (mget ks vs (.int n.id)).getD (.int .i64 0) = .int .i64 (((up (t.nodes.take k) n.id).length : Int) - 1)) /\
  (∀ (i : Nat) (n : Nd),i < k -> t.nodes[i]? = some n -> nodeOk (t.nodes.take i) n = true) /\ (∀ (i : Nat) (n : Nd),i < k -> t.nodes[i]? = some n -> (up (t.nodes.take k) n.id).length <= 9) /\ s.pe 1 = .ptr (.slot 1 0) 0 0 /\ s.pe 3 = .mref (.slot 24 0) 0 /\ s.pe 26 = .p (nodesP t.nodes) /\ s.pe 27 = .p (.int .i64 t.nodes.length) /\ s.pe 28 = .p (.int .i64 k) /\
  s.h (.slot 1 0) = some (0,.box [.p (nodesP t.nodes),.p (.int .i64 t.next)]) /\ s.h (.slot 24 0) = some (0,.map (.int .i64) ks vs)) ?_ ?_
 ·refine ⟨[],[],rfl,fun _=>⟨rfl,rfl⟩,by omega,by omega,by omega,?_⟩
  simp -implicitDefEqProofs (disch:=omega) only [go_sem,↓reduceIte,rA,rS,rE,rL,reduceCtorEq]
  rfl
 ·rintro k s hk ⟨ks,vs,hkl,hk0,hdep,hnok,hup,p1,p3,p26,p27,p28,hh1,hh24⟩
  simp -implicitDefEqProofs (disch:=omega) only [p1,p3,p26,p27,p28,hh1,hh24,go_sem,↓reduceIte,rA,rS,rE,rL,reduceCtorEq]
  refine wp_if_d (fun hlt=>?_) (fun hge=>?_)
  ·have hm : t.nodes[k]? = some t.nodes[k]:=lgg hlt
   generalize t.nodes[k] = m at hm
   have hfit:=hf m (lmg hm)
   have hctl:=hfit.control
   by_cases hbad : 0 <= m.control /\ m.control <= 31 /\ 0 <= m.owner /\ m.owner <= 1048576
   ·have c1 : ¬ m.control < 0:=by omega
    have c2 : m.control <= 31:=by omega
    have c3 : ¬ m.owner < 0:=by omega
    have c4 : ¬ 1048576 < m.owner:=by omega
    have hbits:=antI31 hbad.1 hctl
    by_cases hkp : 0 < (k : Int)
    ·obtain ⟨l,hlast⟩ : ∃ l,(t.nodes.take k).getLast? = some l:=by
      cases hq : (t.nodes.take k).getLast? with
      | none =>
       rw [List.getLast?_eq_none_iff] at hq
       have:=congrArg List.length hq
       rw [llt,lln] at this
       omega
      | some l=>exact ⟨l,rfl⟩
     have hfine:=tfine_eq (t.nodes.take k) l m hlast (by simp; omega) hfit.name
     unfold Nd.vv nodesP at hfine
     have hle : k <= t.nodes.length:=hk
     cases hfb : fineB (t.nodes.take k) l m with
     | false =>
      rw [hfb] at hfine
      simp -implicitDefEqProofs (disch:=omega) only [p1,p3,p26,p27,p28,hh1,hh24,hm,hbits,c1,c2,c3,c4,hkp,hle,Nat.sub_zero,<- List.map_take,hfine,go_sem,↓reduceIte,rA,rS,rE,rL,reduceCtorEq]
      rw [treeOk_false_of_node hm]
      rw [fineB_nodeOk hlast,hfb,Bool.and_false]
     | true =>
      rw [hfb] at hfine
      have hno : nodeOk (t.nodes.take k) m = true:=by rw [fineB_nodeOk hlast,hfb,decide_eq_true hbad]; rfl
      obtain ⟨b1,b2,b3,b4,pn,hpn,hpe⟩:=(nodeOk_some hlast).1 hno
      obtain ⟨pi,hpi⟩:=lgm hpn
      have hpik : pi < k:=by
       have:=(lgs.1 hpi).1
       simp at this
       omega
      rw [List.getElem?_take,if_pos hpik] at hpi
      have hd:=hdep pi pn hpik hpi
      rw [hpe] at hd
      have hul:=hup pi pn hpik hpi
      rw [hpe] at hul
      simp -implicitDefEqProofs (disch:=omega) only [p1,p3,p26,p27,p28,hh1,hh24,hm,hbits,c1,c2,c3,c4,hkp,hle,Nat.sub_zero,<- List.map_take,hfine,hd,mget_mput_same,Option.getD_some,go_sem,↓reduceIte,rA,rS,rE,rL,reduceCtorEq]
      have htk : t.nodes.take (k + 1) = t.nodes.take k ++ [m]:=take_snoc hm
      have hum : up (t.nodes.take (k + 1)) m.id = m.id :: up (t.nodes.take k) m.parent:=by rw [htk]; exact up_snoc_eq _ _
      have hltm : ∀ (i : Nat) (n : Nd),i < k -> t.nodes[i]? = some n -> n.id < m.id:=fun i n hi hn=>by
       have hno' : nodesOk [] (t.nodes.take (k + 1)) = true:=(nodesOk_iff _ _).2 fun j x hx=>by
        have hjl:=(lgs.1 hx).1
        simp at hjl
        rw [List.getElem?_take,if_pos (by omega)] at hx
        rw [lna,List.take_take,Nat.min_eq_left (by omega)]
        rcases Nat.lt_or_ge j k with h0 | h0
        ·exact hnok j x h0 hx
        ·have : j = k:=by omega
         subst this
         rw [hm] at hx
         simp at hx
         subst hx
         exact hno
       have hinc:=(ids_lt _ _ hno' (fun _ h=>by simp at h)).2
       rw [htk,List.pairwise_append] at hinc
       refine hinc.2.2 n ?_ m (by simp)
       have : (t.nodes.take k)[i]? = some n:=by rw [List.getElem?_take,if_pos hi]; exact hn
       exact lmg this
      have hun : ∀ (i : Nat) (n : Nd),i < k -> t.nodes[i]? = some n -> up (t.nodes.take (k + 1)) n.id = up (t.nodes.take k) n.id:=fun i n hi hn=>by
       rw [htk]
       exact up_snoc_ne _ _ (by have:=hltm i n hi hn; omega)
      refine wp_if_d (fun hdeep=>?_) (fun hshal=>?_)
      ·simp -implicitDefEqProofs (disch:=omega) only [p1,p3,p26,p27,p28,hh1,hh24,go_sem,↓reduceIte,rA,rS,rE,rL,reduceCtorEq]
       rw [treeOk_false_of_depth hm]
       rw [hum,llc]
       omega
      ·simp -implicitDefEqProofs (disch:=omega) only [p1,p3,p26,p27,p28,hh1,hh24,go_sem,↓reduceIte,rA,rS,rE,rL,reduceCtorEq]
       refine ⟨hlt,(mput ks vs (.int m.id) (.int .i64 (((up (t.nodes.take k) m.parent).length : Int) - 1 + 1))).1,(mput ks vs (.int m.id) (.int .i64 (((up (t.nodes.take k) m.parent).length : Int) - 1 + 1))).2,mput_len _ _ _ _ hkl,fun h=>h.elim,lt_succ_cases hm (fun i n hi hn=>?_) ?_,lt_succ_cases hm hnok hno,lt_succ_cases hm (fun i n hi hn=>?_) ?_,?_,rfl⟩
       ·rw [hun i n hi hn,mget_mput_other _ _ _ _ _ hkl (by have:=hltm i n hi hn; simp; omega)]
        exact hdep i n hi hn
       ·rw [mget_mput_same,hum]
        simp
       ·rw [hun i n hi hn]
        exact hup i n hi hn
       ·rw [hum,llc]
        omega
       .simp only [Int.natCast_add,Int.natCast_one]
    ·have hk0' : k = 0:=by omega
     subst hk0'
     obtain ⟨rfl,rfl⟩:=hk0 rfl
     rw [hm] at hr0
     simp only [osi] at hr0
     subst hr0
     have hg : (mget [] [] (.int m.id)).getD (.int .i64 0) = .int .i64 0:=rfl
     have h80 : ¬ (8 : Int) < 0:=by omega
     simp -implicitDefEqProofs (disch:=omega) only [p1,p3,p26,p27,p28,hh1,hh24,hm,hbits,c1,c2,c3,c4,hkp,hg,h80,go_sem,↓reduceIte,rA,rS,rE,rL,reduceCtorEq]
     have htk : t.nodes.take (0 + 1) = [m]:=take_snoc hm
     have hum : up (t.nodes.take (0 + 1)) m.id = [m.id]:=by rw [htk]; simp [up,upR]
     refine ⟨hlt,[],[],rfl,fun h=>h.elim,lt_succ_cases hm (fun i n hi=>absurd hi (by omega)) ?_,lt_succ_cases hm (fun i n hi=>absurd hi (by omega)) ?_,lt_succ_cases hm (fun i n hi=>absurd hi (by omega)) ?_,rfl,rfl⟩
     ·rw [hum]
      rfl
     ·simp only [nodeOk,List.take_zero,List.getLast?_nil,decide_eq_true hr,decide_eq_true hbad,bau,decide_eq_true_eq]
      exact .inl hr.2.2.2
     ·rw [hum]
      simp
   ·simp -implicitDefEqProofs (disch:=omega) only [p1,p3,p26,p27,p28,hh1,hh24,hm,go_sem,↓reduceIte,rA,rS,rE,rL,reduceCtorEq]
    repeat' ((first | refine wp_grn_d (fun hb=>?_) (fun hb=>?_) | refine wp_gtn_d (fun hb=>?_) (fun hb=>?_) | refine wp_gr_d (fun hb=>?_) (fun hb=>?_) | refine wp_gt_d (fun hb=>?_) (fun hb=>?_) | refine wp_gr (fun hb=>?_) (fun hb=>?_) | refine wp_gt (fun hb=>?_) (fun hb=>?_) | refine wp_nt_d (fun hb=>?_) (fun hb=>?_) | refine wp_nt (fun hb=>?_) (fun hb=>?_) | refine wp_if_d (fun hb=>?_) (fun hb=>?_) | refine wp_if (fun hb=>?_) (fun hb=>?_)) <;> simp -implicitDefEqProofs (disch:=omega) only [hb,p1,p3,p26,p27,p28,hh1,hh24,hm,antI31,go_sem,↓reduceIte,rA,rS,rE,rL,reduceCtorEq])
    all_goals first
     | (exfalso; omega)
     | (rw [treeOk_false_of_node hm (nodeOk_bad hbad)])
  ·have hke : k = t.nodes.length:=by omega
   subst hke
   rw [List.take_length] at hup
   have hla : t.nodes[((t.nodes.length : Int) - 1).toNat]? = some t.nodes[t.nodes.length - 1]:=by
    rw [show ((t.nodes.length : Int) - 1).toNat = t.nodes.length - 1 by omega]
    exact lgg (by omega)
   have hlast : t.nodes.getLast? = some t.nodes[t.nodes.length - 1]:=by
    rw [List.getLast?_eq_getElem?]
    exact lgg (by omega)
   generalize t.nodes[t.nodes.length - 1] = l at hla hlast
   have hok : nodesOk [] t.nodes = true:=(nodesOk_iff _ _).2 fun i n hn=>by simpa using hnok i n (lgs.1 hn).1 hn
   have hk2 : t.nodes.all (fun n=>decide ((up t.nodes n.id).length <= 9)) = true:=by
    rw [List.all_eq_true]
    intro n hn
    obtain ⟨i,hi⟩:=lgm hn
    simpa using hup i n (lgs.1 hi).1 hi
   have hp0 : 0 <= (t.nodes.length : Int) - 1:=by omega
   simp -implicitDefEqProofs (disch:=omega) only [p1,p3,p26,p27,p28,hh1,hh24,hge,hla,hp0,go_sem,↓reduceIte,rA,rS,rE,rL,reduceCtorEq]
   repeat' ((first | refine wp_grn_d (fun hb=>?_) (fun hb=>?_) | refine wp_gtn_d (fun hb=>?_) (fun hb=>?_) | refine wp_gr_d (fun hb=>?_) (fun hb=>?_) | refine wp_gt_d (fun hb=>?_) (fun hb=>?_) | refine wp_gr (fun hb=>?_) (fun hb=>?_) | refine wp_gt (fun hb=>?_) (fun hb=>?_) | refine wp_nt_d (fun hb=>?_) (fun hb=>?_) | refine wp_nt (fun hb=>?_) (fun hb=>?_) | refine wp_if_d (fun hb=>?_) (fun hb=>?_) | refine wp_if (fun hb=>?_) (fun hb=>?_)) <;> simp -implicitDefEqProofs (disch:=omega) only [hb,p1,p3,p26,p27,p28,hh1,hh24,hla,go_sem,↓reduceIte,rA,rS,rE,rL,reduceCtorEq])
   all_goals
    simp only [treeOk,hok,hk2,hlast,show (1 <= t.nodes.length /\ t.nodes.length <= 64) by omega,pmi,VVal.p.injEq,PV.bool.injEq,and_true,decide_true,bta]
    rw [Bool.eq_iff_iff]
    simp only [decide_eq_true_eq,bft,false_iff]
    omega
structure Tk where
 id : Int
 process : Int
 group : Int
 user : Int
 deriving DecidableEq
def Tk.pv (x : Tk) : PV:=.agg [.int .i64 x.id,.int .i64 x.process,.int .i64 x.group,.int .i64 x.user]
def Tk.vv (x : Tk) : VVal:=.agg [.p (.int .i64 x.id),.p (.int .i64 x.process),.p (.int .i64 x.group),.p (.int .i64 x.user)]
abbrev tasksP (ts : List Tk) : PV:=.slice 4 (ts.map Tk.pv)
structure Hy where
 t : Tr
 ts : List Tk
 next : Int
abbrev Hy.vv (h : Hy) : VVal:=.agg [.p (nodesP h.t.nodes),.p (.int .i64 h.t.next),.p (tasksP h.ts),.p (.int .i64 h.next)]
attribute [go_sem] Tk.pv Tk.vv
theorem tasks_flat (ts : List Tk) : (ts.map Tk.pv).all PV.flat = true:=by
 rw [List.all_eq_true]
 intro x hx
 obtain ⟨n,_,rfl⟩:=lmm.1 hx
 rfl
attribute [go_sem] tasks_flat
def findK : List Tk -> Int -> Option Tk
 | [],_=>none
 | x :: r,id=>if x.id = id then some x else findK r id
abbrev zeroTk : Tk:=⟨0,0,0,0⟩
def leadB (ts : List Tk) (p : Int) : Bool:=match findK ts p with
 | some x=>decide (x.process = p)
 | none=>false
set_option maxHeartbeats 1000000 in
theorem leader_eq (ts : List Tk) (p : Int) (hl : ts.length < 1000000) : V 98 [.p (tasksP ts),.p (.int .i64 p)] [] = some (.tup [((findK ts p).getD zeroTk).vv,.p (.bool (leadB ts p))],[]):=by
 refine V_wp (vf:=vf98) rfl ?_
 unfold leadB
 generalize hf : findK ts p = f
 simp -implicitDefEqProofs (disch:=omega) only [vf98,vb98,go_sem,↓reduceIte,rA,rS,rE,rL,reduceCtorEq]
 obtain ⟨I,hI⟩ : ∃ I : Nat -> St -> Prop,∀ k s,I k s ↔ f = findK (ts.drop k) p /\ s.pe 0 = .p (tasksP ts) /\ s.pe 1 = .p (.int .i64 p) /\ s.pe 4 = .ptr (.slot 4 0) 0 0 /\ s.pe 6 = .p (.int .i64 k) /\ s.h (.slot 4 0) = some (0,Ob.box [.p (.int .i64 0),.p (.int .i64 0),.p (.int .i64 0),.p (.int .i64 0)]):=⟨_,fun _ _=>Iff.rfl⟩
 refine wp_count (ts.length) I ?_ ?_
 ·refine (hI _ _).2 ⟨?_,?_,?_,?_,?_,?_⟩
  ·exact hf.symm
  all_goals exact cl0
 intro k s hk hIk
 obtain ⟨hq,h0,h1,h4,h6,hh4_0⟩:=(hI _ _).1 hIk
 clear hIk
 simp -implicitDefEqProofs (disch:=omega) only [h0,h1,h4,h6,hh4_0,go_sem,↓reduceIte,rA,rS,rE,rL,reduceCtorEq]
 refine wp_if_d (fun hlt=>?_) (fun hge=>?_)
 ·have hc : ts[k]? = some ts[k]:=lgg (by omega)
  have hdr : ts.drop k = ts[k] :: ts.drop (k + 1):=ldg (by omega)
  generalize ts[k] = x at hc hdr
  rw [hdr,findK] at hq
  by_cases hx : x.id = p
  ·rw [if_pos hx] at hq
   subst hq
   simp -implicitDefEqProofs (disch:=omega) only [h0,h1,h4,h6,hh4_0,hlt,hc,hx,go_sem,↓reduceIte,rA,rS,rE,rL,reduceCtorEq]
   simp only [Option.getD_some,Tk.vv,hx]
  ·rw [if_neg hx] at hq
   simp -implicitDefEqProofs (disch:=omega) only [h0,h1,h4,h6,hh4_0,hlt,hc,hx,go_sem,↓reduceIte,rA,rS,rE,rL,reduceCtorEq]
   try refine And.intro (by omega) ?_
   refine (hI _ _).2 ⟨?_,?_,?_,?_,?_,?_⟩
   .exact hq
   all_goals exact cl0
 ·rw [ldl (by omega),findK] at hq
  subst hq
  simp -implicitDefEqProofs (disch:=omega) only [h0,h1,h4,h6,hh4_0,hge,go_sem,↓reduceIte,rA,rS,rE,rL,reduceCtorEq]
  simp only [Option.getD_none,Tk.vv]
def idxT : List Tk -> Int -> Nat -> Int
 | [],_,_=>-1
 | x :: r,id,k=>if x.id = id then (k : Int) else idxT r id (k + 1)
theorem idxT_cases : ∀ (ts : List Tk) (id : Int) (k : Nat),(idxT ts id k = -1 /\ findK ts id = none) \/ ∃ (i : Nat) (x : Tk),idxT ts id k = ((k + i : Nat) : Int) /\ ts[i]? = some x /\ findK ts id = some x /\ x.id = id
 | [],_,_=>.inl ⟨rfl,rfl⟩
 | x :: r,id,k=>by
  unfold idxT findK
  by_cases h : x.id = id
  ·right
   exact ⟨0,x,by rw [if_pos h]; simp,rfl,by rw [if_pos h],h⟩
  ·rw [if_neg h,if_neg h]
   rcases idxT_cases r id (k + 1) with h1 | ⟨i,y,e1,e2,e3,e4⟩
   .exact .inl h1
   .exact .inr ⟨i + 1,y,by rw [e1]; congr 1; omega,e2,e3,e4⟩
theorem cat1_eq (x : Tk) (id : Int) : V 183 [x.vv,.ptr (.arg 0 0) 0 0] [.box [.p (.int .i64 id)]] = some (.p (.bool (decide (x.id = id))),[.box [.p (.int .i64 id)]]):=by
 refine V_wp (vf:=vf183) rfl ?_
 simp -implicitDefEqProofs (disch:=omega) only [vf183,vb183,go_sem,↓reduceIte,rA,rS,rE,rL,reduceCtorEq]
theorem indexTask_eq (ts : List Tk) (id : Int) (hl : ts.length < 1000000) : V 182 [.p (tasksP ts),.fn 183 [.ptr (.arg 0 0) 0 0]] [.box [.p (.int .i64 id)]] = some (.p (.int .i64 (idxT ts id 0)),[.box [.p (.int .i64 id)]]):=by
 refine V_wp (vf:=vf182) rfl ?_
 simp -implicitDefEqProofs (disch:=omega) only [vf182,vb182,go_sem,↓reduceIte,rA,rS,rE,rL,reduceCtorEq]
 refine wp_count ts.length (fun k s=>idxT ts id 0 = idxT (ts.drop k) id k /\ s.pe 0 = .p (tasksP ts) /\ s.pe 1 = .fn 183 [.ptr (.arg 0 0) 0 0] /\ s.pe 7 = .p (.int .i64 ts.length) /\ s.pe 8 = .p (.int .i64 k) /\ s.h (.arg 0 0) = some (0,.box [.p (.int .i64 id)])) ?_ ?_
 ·exact ⟨rfl,rfl,rfl,rfl,rfl,rfl⟩
 ·rintro k s hk ⟨hall,h0,h1,h7,h8,hh⟩
  simp -implicitDefEqProofs (disch:=omega) only [h0,h1,h7,h8,hh,go_sem,↓reduceIte,rA,rS,rE,rL,reduceCtorEq]
  refine wp_if_d (fun hlt=>?_) (fun hge=>?_)
  ·have hm : ts[k]? = some ts[k]:=lgg hlt
   have hd : ts.drop k = ts[k] :: ts.drop (k + 1):=ldg (by omega)
   generalize ts[k] = m at hm hd
   rw [hd] at hall
   rw [show idxT (m :: ts.drop (k + 1)) id k = if m.id = id then (k : Int) else idxT (ts.drop (k + 1)) id (k + 1) from rfl] at hall
   have hc:=cat1_eq m id
   unfold Tk.vv at hc
   by_cases hb : m.id = id
   ·rw [if_pos hb] at hall
    rw [decide_eq_true hb] at hc
    simp -implicitDefEqProofs (disch:=omega) only [h0,h1,h7,h8,hh,hm,hc,go_sem,↓reduceIte,rA,rS,rE,rL,reduceCtorEq]
    rw [hall]
   ·rw [if_neg hb] at hall
    rw [decide_eq_false hb] at hc
    simp -implicitDefEqProofs (disch:=omega) only [h0,h1,h7,h8,hh,hm,hc,go_sem,↓reduceIte,rA,rS,rE,rL,reduceCtorEq]
    exact ⟨hlt,hall,by simp only [Int.natCast_add,Int.natCast_one]⟩
  ·rw [ldl (by omega)] at hall
   simp -implicitDefEqProofs (disch:=omega) only [h0,h1,h7,h8,hh,hge,go_sem,↓reduceIte,rA,rS,rE,rL,reduceCtorEq]
   rw [hall]; rfl
theorem cat_eq (h : Hy) (id : Int) (hl : h.ts.length < 1000000) : V 153 [h.vv,.p (.int .i64 id)] [] = some (.p (.int .i64 (idxT h.ts id 0)),[]):=by
 refine V_wp (vf:=vf153) rfl ?_
 have hc:=indexTask_eq h.ts id hl
 simp -implicitDefEqProofs (disch:=omega) only [vf153,vb153,hc,go_sem,↓reduceIte,rA,rS,rE,rL,reduceCtorEq]
theorem cfind_eq (h : Hy) (id : Int) (hl : h.ts.length < 1000000) : V 136 [h.vv,.p (.int .i64 id)] [] = some (.tup [((findK h.ts id).getD zeroTk).vv,.p (.bool (findK h.ts id).isSome)],[]):=by
 refine V_wp (vf:=vf136) rfl ?_
 have hc:=cat_eq h id hl
 rcases idxT_cases h.ts id 0 with ⟨e1,e2⟩ | ⟨i,x,e1,e2,e3,e4⟩
 ·rw [e1] at hc
  rw [e2]
  have hneg : (-1 : Int) < 0:=by decide
  simp -implicitDefEqProofs (disch:=omega) only [vf136,vb136,hc,hneg,go_sem,↓reduceIte,rA,rS,rE,rL,reduceCtorEq]
  simp only [Option.getD_none,Option.isSome_none,Tk.vv]
 ·rw [Nat.zero_add] at e1
  rw [e1] at hc
  rw [e3]
  have hn : ¬ (i : Int) < 0:=by omega
  have hil:=(lgs.1 e2).1
  simp -implicitDefEqProofs (disch:=omega) only [vf136,vb136,hc,hn,e2,go_sem,↓reduceIte,rA,rS,rE,rL,reduceCtorEq]
  simp only [Option.getD_some,Option.isSome_some,Tk.vv]
def leadOk (ts : List Tk) (x : Tk) : Bool:=match findK ts x.process with
 | some l=>decide (l.process = l.id) && decide (l.user = x.user)
 | none=>false
def fineT (h : Hy) (x : Tk) : Bool:=decide (0 <= x.user) && decide (x.user <= 1048576) && leadOk h.ts x && decide (0 <= idxOf h.t.nodes x.group)
def runT (h : Hy) (last : Int) : List Tk -> Option Int
 | []=>some last
 | x :: r=>if x.id <= last then none else if fineT h x = true then runT h x.id r else none
def ltO : Option Int -> Int -> Bool
 | some last,n=>decide (last < n)
 | none,_=>false
attribute [go_sem] ltO
def memOk (h : Hy) : Bool:=decide (h.ts.length <= 128) && decide (h.next <= 2147483648) && treeOk h.t && ltO (runT h 0 h.ts) h.next
set_option maxHeartbeats 2000000 in
theorem mfine_eq (h : Hy) (x : Tk) (hl : h.ts.length < 1000000) (hn : h.t.nodes.length < 1000000) : V 100 [h.vv,x.vv] [] = some (.p (.bool (fineT h x)),[]):=by
 refine V_wp (vf:=vf100) rfl ?_
 have hc:=cfind_eq h x.process hl
 have ha:=at_eq h.t x.group hn
 unfold fineT leadOk
 generalize idxOf h.t.nodes x.group = i at ha ⊢
 by_cases hu0 : 0 <= x.user
 ·by_cases hu1 : x.user <= 1048576
  ·rw [decide_eq_true hu0,decide_eq_true hu1]
   cases hf : findK h.ts x.process with
   | none =>
    rw [hf] at hc
    simp only [Option.getD_none,Option.isSome_none,Tk.vv] at hc
    simp -implicitDefEqProofs (disch:=omega) only [vf100,vb100,hc,hu0,hu1,go_sem,↓reduceIte,rA,rS,rE,rL,reduceCtorEq]
   | some l =>
    rw [hf] at hc
    simp only [Option.getD_some,Option.isSome_some,Tk.vv] at hc
    by_cases h1 : l.process = l.id
    ·by_cases h2 : l.user = x.user
     ·by_cases h3 : 0 <= i
      .simp -implicitDefEqProofs (disch:=omega) only [vf100,vb100,hc,ha,hu0,hu1,h1,h2,h3,go_sem,↓reduceIte,rA,rS,rE,rL,reduceCtorEq]
      .simp -implicitDefEqProofs (disch:=omega) only [vf100,vb100,hc,ha,hu0,hu1,h1,h2,h3,go_sem,↓reduceIte,rA,rS,rE,rL,reduceCtorEq]
     .simp -implicitDefEqProofs (disch:=omega) only [vf100,vb100,hc,hu0,hu1,h1,h2,go_sem,↓reduceIte,rA,rS,rE,rL,reduceCtorEq]
    .simp -implicitDefEqProofs (disch:=omega) only [vf100,vb100,hc,hu0,hu1,h1,go_sem,↓reduceIte,rA,rS,rE,rL,reduceCtorEq]
  ·rw [decide_eq_false hu1,Bool.and_false,bfa,bfa]
   cases hf : findK h.ts x.process with
   | none =>
    rw [hf] at hc
    simp only [Option.getD_none,Option.isSome_none,Tk.vv] at hc
    simp -implicitDefEqProofs (disch:=omega) only [vf100,vb100,hc,hu0,hu1,go_sem,↓reduceIte,rA,rS,rE,rL,reduceCtorEq]
   | some l =>
    rw [hf] at hc
    simp only [Option.getD_some,Option.isSome_some,Tk.vv] at hc
    simp -implicitDefEqProofs (disch:=omega) only [vf100,vb100,hc,hu0,hu1,go_sem,↓reduceIte,rA,rS,rE,rL,reduceCtorEq]
 ·rw [decide_eq_false hu0,bfa,bfa,bfa]
  cases hf : findK h.ts x.process with
  | none =>
   rw [hf] at hc
   simp only [Option.getD_none,Option.isSome_none,Tk.vv] at hc
   simp -implicitDefEqProofs (disch:=omega) only [vf100,vb100,hc,hu0,go_sem,↓reduceIte,rA,rS,rE,rL,reduceCtorEq]
  | some l =>
   rw [hf] at hc
   simp only [Option.getD_some,Option.isSome_some,Tk.vv] at hc
   simp -implicitDefEqProofs (disch:=omega) only [vf100,vb100,hc,hu0,go_sem,↓reduceIte,rA,rS,rE,rL,reduceCtorEq]
set_option maxHeartbeats 4000000 in
theorem mcheck_eq (h : Hy) (hf : h.t.Fits) (hl : h.ts.length < 1000000) (hn : h.t.nodes.length < 1000000) : V 53 [h.vv] [] = some (.p (.bool (memOk h)),[]):=by
 refine V_wp (vf:=vf53) rfl ?_
 have ht:=tcheck_eq h.t hf hn
 unfold memOk
 by_cases h1 : 128 < (h.ts.length : Int)
 ·rw [decide_eq_false (show ¬ h.ts.length <= 128 by omega)]
  simp -implicitDefEqProofs (disch:=omega) only [vf53,vb53,h1,go_sem,↓reduceIte,rA,rS,rE,rL,reduceCtorEq]
 rw [decide_eq_true (show h.ts.length <= 128 by omega)]
 by_cases h2 : 2147483648 < h.next
 ·rw [decide_eq_false (show ¬ h.next <= 2147483648 by omega)]
  simp -implicitDefEqProofs (disch:=omega) only [vf53,vb53,h1,h2,go_sem,↓reduceIte,rA,rS,rE,rL,reduceCtorEq]
 rw [decide_eq_true (show h.next <= 2147483648 by omega)]
 generalize treeOk h.t = b at ht ⊢
 cases b
 ·simp -implicitDefEqProofs (disch:=omega) only [vf53,vb53,h1,h2,ht,go_sem,↓reduceIte,rA,rS,rE,rL,reduceCtorEq]
 generalize hr : runT h 0 h.ts = rr
 simp -implicitDefEqProofs (disch:=omega) only [vf53,vb53,h1,h2,ht,go_sem,↓reduceIte,rA,rS,rE,rL,reduceCtorEq]
 obtain ⟨I,hI⟩ : ∃ I : Nat -> St -> Prop,∀ k s,I k s ↔ ∃ (last : Int),rr = runT h last (h.ts.drop k) /\ s.pe 1 = .ptr (.slot 1 0) 0 0 /\ s.pe 3 = .p (.int .i64 last) /\ s.pe 22 = .p (tasksP h.ts) /\ s.pe 23 = .p (.int .i64 ↑h.ts.length) /\ s.pe 24 = .p (.int .i64 k) /\ s.h (.slot 1 0) = some (0,Ob.box [.p (nodesP h.t.nodes),.p (.int .i64 h.t.next),.p (tasksP h.ts),.p (.int .i64 h.next)]):=⟨_,fun _ _=>Iff.rfl⟩
 refine wp_count (h.ts.length) I ?_ ?_
 ·refine (hI _ _).2 ⟨0,?_,?_,?_,?_,?_,?_,?_⟩
  ·exact hr.symm
  all_goals exact cl0
 intro k s hk hIk
 obtain ⟨last,hq,h1,h3,h22,h23,h24,hh1_0⟩:=(hI _ _).1 hIk
 clear hIk
 simp -implicitDefEqProofs (disch:=omega) only [h1,h3,h22,h23,h24,hh1_0,go_sem,↓reduceIte,rA,rS,rE,rL,reduceCtorEq]
 refine wp_if_d (fun hlt=>?_) (fun hge=>?_)
 ·have hc : h.ts[k]? = some h.ts[k]:=lgg (by omega)
  have hdr : h.ts.drop k = h.ts[k] :: h.ts.drop (k + 1):=ldg (by omega)
  generalize h.ts[k] = x at hc hdr
  rw [hdr,runT] at hq
  have hfi:=mfine_eq h x hl hn
  by_cases hle : x.id <= last
  ·rw [if_pos hle] at hq
   subst hq
   simp -implicitDefEqProofs (disch:=omega) only [h1,h3,h22,h23,h24,hh1_0,hlt,hc,hle,go_sem,↓reduceIte,rA,rS,rE,rL,reduceCtorEq]
  ·rw [if_neg hle] at hq
   generalize fineT h x = b at hfi hq
   simp only [Hy.vv,Tk.vv] at hfi
   cases b
   ·rw [if_neg Bool.false_ne_true] at hq
    subst hq
    simp -implicitDefEqProofs (disch:=omega) only [h1,h3,h22,h23,h24,hh1_0,hlt,hc,hle,hfi,go_sem,↓reduceIte,rA,rS,rE,rL,reduceCtorEq]
   ·rw [if_pos rfl] at hq
    simp -implicitDefEqProofs (disch:=omega) only [h1,h3,h22,h23,h24,hh1_0,hlt,hc,hle,hfi,go_sem,↓reduceIte,rA,rS,rE,rL,reduceCtorEq]
    try refine And.intro (by omega) ?_
    refine (hI _ _).2 ⟨x.id,?_,?_,?_,?_,?_,?_,?_⟩
    .exact hq
    all_goals exact cl0
 ·rw [ldl (by omega),runT] at hq
  subst hq
  simp -implicitDefEqProofs (disch:=omega) only [h1,h3,h22,h23,h24,hh1_0,hge,go_sem,↓reduceIte,rA,rS,rE,rL,reduceCtorEq]
theorem findK_id : ∀ {ts : List Tk} {id : Int} {x : Tk},findK ts id = some x -> x.id = id
 | [],_,_,h=>by cases h
 | y :: r,id,x,h=>by
  unfold findK at h
  split at h
  .rename_i e; cases h; exact e
  .exact findK_id h
theorem runT_le (h : Hy) : ∀ {l : List Tk} {last r : Int},runT h last l = some r -> last <= r
 | [],_,_,e=>by cases e; exact Int.le_refl _
 | x :: l,last,r,e=>by
  unfold runT at e
  split at e
  ·cases e
  ·split at e
   .have:=runT_le h e; omega
   .cases e
theorem runT_last (h : Hy) : ∀ {l : List Tk} {last r : Int} {x : Tk},runT h last l = some r -> l.getLast? = some x -> x.id = r
 | [],_,_,_,_,hx=>by cases hx
 | [y],_,_,_,e,hx=>by
  simp only [List.getLast?_singleton,osi] at hx
  subst hx
  unfold runT at e
  split at e
  ·cases e
  ·split at e
   .cases e; rfl
   .cases e
 | y :: z :: l,_,_,_,e,hx=>by
  rw [List.getLast?_cons_cons] at hx
  unfold runT at e
  split at e
  ·cases e
  ·split at e
   .exact runT_last h e hx
   .cases e
theorem leadOk_eq (ts : List Tk) (x : Tk) : leadOk ts x = (leadB ts x.process && decide (((findK ts x.process).getD zeroTk).user = x.user)):=by
 unfold leadOk leadB
 cases hf : findK ts x.process with
 | none=>rfl
 | some l =>
  have:=findK_id hf
  simp only [Option.getD_some]
  rw [this]
set_option maxHeartbeats 8000000 in
theorem rmcheck_eq (h : Hy) (hl : h.ts.length < 1000000) (hn : h.t.nodes.length < 1000000) : V 52 [h.vv] [] = some (.p (.bool (memOk h)),[]):=by
 refine V_wp (vf:=vf52) rfl ?_
 have ht := rcheck_eq h.t hn
 unfold memOk
 generalize hb : treeOk h.t = b at ht ⊢
 cases b
 ·rw [Bool.and_false,bfa]
  simp -implicitDefEqProofs (disch:=omega) only [vf52,vb52,ht,go_sem,↓reduceIte,rA,rS,rE,rL,reduceCtorEq]
 by_cases h1 : 128 < (h.ts.length : Int)
 ·rw [decide_eq_false (show ¬ h.ts.length <= 128 by omega)]
  simp -implicitDefEqProofs (disch:=omega) only [vf52,vb52,ht,h1,go_sem,↓reduceIte,rA,rS,rE,rL,reduceCtorEq]
 rw [decide_eq_true (show h.ts.length <= 128 by omega)]
 generalize hr : runT h 0 h.ts = rr
 by_cases h3 : h.next < 1
 ·have : ltO rr h.next = false:=by
   cases rr with
   | none => rfl
   | some r =>
    have := runT_le h hr
    exact decide_eq_false (by omega)
  rw [this, Bool.and_false]
  simp -implicitDefEqProofs (disch:=omega) only [vf52,vb52,ht,h1,h3,go_sem,↓reduceIte,rA,rS,rE,rL,reduceCtorEq]
 by_cases h2 : 2147483648 < h.next
 ·rw [decide_eq_false (show ¬ h.next <= 2147483648 by omega)]
  simp -implicitDefEqProofs (disch:=omega) only [vf52,vb52,ht,h1,h2,h3,go_sem,↓reduceIte,rA,rS,rE,rL,reduceCtorEq]
 rw [decide_eq_true (show h.next <= 2147483648 by omega)]
 have hlast : ∀ y,h.ts.getLast? = some y -> h.next <= y.id -> ltO rr h.next = false:=fun y hy hle=>by
  cases rr with
  | none => rfl
  | some r =>
   have := runT_last h hr hy
   exact decide_eq_false (by omega)
 have hend : ∀ y,h.ts.getLast? = some y -> ¬ h.next <= y.id -> rr ≠ none -> ltO rr h.next = true:=fun y hy hle hne=>by
  cases rr with
  | none => exact absurd rfl hne
  | some r =>
   have := runT_last h hr hy
   exact decide_eq_true (by omega)
 by_cases hz : h.ts.length = 0
 ·have hz1 : ¬ 0 < (h.ts.length : Int):=by omega
  have hz2 : h.ts = []:=lez hz
  have : ltO rr h.next = true:=by
   rw [← hr,hz2]
   exact decide_eq_true (by omega)
  rw [this]
  simp -implicitDefEqProofs (disch:=omega) only [vf52,vb52,ht,h1,h2,h3,hz1,go_sem,↓reduceIte,rA,rS,rE,rL,reduceCtorEq]
  obtain ⟨I,hI⟩ : ∃ I : Nat -> St -> Prop,∀ k s,I k s ↔ s.pe 1 = .ptr (.slot 1 0) 0 0 /\ s.pe 3 = .p (.int .i64 ↑h.ts.length) /\ s.pe 4 = .p (.int .i64 k) /\ s.h (.slot 1 0) = some (0,Ob.box [.p (nodesP h.t.nodes),.p (.int .i64 h.t.next),.p (tasksP h.ts),.p (.int .i64 h.next)]):=⟨_,fun _ _=>Iff.rfl⟩
  refine wp_count (0) I ?_ ?_
  ·refine (hI _ _).2 ⟨?_,?_,?_,?_⟩
   all_goals exact cl0
  intro k s hk hIk
  obtain ⟨h1,h3,h4,hh1_0⟩:=(hI _ _).1 hIk
  clear hIk
  have hge : ¬ k < h.ts.length:=by omega
  simp -implicitDefEqProofs (disch:=omega) only [h1,h3,h4,hh1_0,hge,go_sem,↓reduceIte,rA,rS,rE,rL,reduceCtorEq]
 ·have hz1 : 0 < (h.ts.length : Int):=by omega
  obtain ⟨y,hy⟩ : ∃ y,h.ts.getLast? = some y:=by
   cases hq : h.ts.getLast? with
   | none => rw [List.getLast?_eq_none_iff] at hq; rw [hq] at hz; exact absurd rfl hz
   | some y=>exact ⟨y,rfl⟩
  have hyi : h.ts[((h.ts.length : Int) - 1).toNat]? = some y:=by
   rw [← hy,List.getLast?_eq_getElem?]
   congr 1
   omega
  by_cases hnl : h.next <= y.id
  ·rw [hlast y hy hnl,Bool.and_false]
   simp -implicitDefEqProofs (disch:=omega) only [vf52,vb52,ht,h1,h2,h3,hz1,hyi,hnl,go_sem,↓reduceIte,rA,rS,rE,rL,reduceCtorEq]
  ·simp -implicitDefEqProofs (disch:=omega) only [vf52,vb52,ht,h1,h2,h3,hz1,hyi,hnl,go_sem,↓reduceIte,rA,rS,rE,rL,reduceCtorEq]
   obtain ⟨I,hI⟩ : ∃ I : Nat -> St -> Prop,∀ k s,I k s ↔ ∃ (last : Int),rr = runT h last (h.ts.drop k) /\ ((k = 0 /\ last = 0) \/ (0 < k /\ ∃ z,h.ts[k - 1]? = some z /\ z.id = last)) /\ 0 <= last /\ s.pe 1 = .ptr (.slot 1 0) 0 0 /\ s.pe 3 = .p (.int .i64 ↑h.ts.length) /\ s.pe 4 = .p (.int .i64 k) /\ s.h (.slot 1 0) = some (0,Ob.box [.p (nodesP h.t.nodes),.p (.int .i64 h.t.next),.p (tasksP h.ts),.p (.int .i64 h.next)]):=⟨_,fun _ _=>Iff.rfl⟩
   refine wp_count (h.ts.length) I ?_ ?_
   ·refine (hI _ _).2 ⟨0,?_,?_,?_,?_,?_,?_,?_⟩
    ·exact hr.symm
    ·exact Or.inl ⟨rfl,rfl⟩
    ·exact cl3
    all_goals exact cl0
   intro k s hk hIk
   obtain ⟨last,hq,hla,hl0,h1,h3,h4,hh1_0⟩:=(hI _ _).1 hIk
   clear hIk
   simp -implicitDefEqProofs (disch:=omega) only [h1,h3,h4,hh1_0,go_sem,↓reduceIte,rA,rS,rE,rL,reduceCtorEq]
   refine wp_if_d (fun hlt=>?_) (fun hge=>?_)
   ·have hc : h.ts[k]? = some h.ts[k]:=lgg (by omega)
    have hdr : h.ts.drop k = h.ts[k] :: h.ts.drop (k + 1):=ldg (by omega)
    generalize h.ts[k] = x at hc hdr
    rw [hdr,runT] at hq
    have hld:=leader_eq h.ts x.process hl
    have hhas:=rhas_eq h.t x.group hn
    have hlv : ltO none h.next = false:=rfl
    rcases hla with ⟨hk0,hlz⟩ | ⟨hk0,z,hz9,hzl⟩
    ·skip
     by_cases hle : x.id <= last
     ·rw [if_pos hle] at hq
      subst hq
      have hx1 : x.id < 1:=by omega
      simp -implicitDefEqProofs (disch:=omega) only [h1,h3,h4,hh1_0,hlt,hc,hld,hx1,go_sem,↓reduceIte,rA,rS,rE,rL,reduceCtorEq]
     ·rw [if_neg hle] at hq
      have hx1 : ¬ x.id < 1:=by omega
      have hk0' : ¬ (0 : Int) < k:=by omega
      by_cases hi : 0 <= idxOf h.t.nodes x.group
      ·have hhas2 : (findT h.t x.group).isSome = true:=by
        rw [findT,if_pos hb]
        rcases idxOf_lt h.t.nodes x.group with ⟨e1,_⟩ | ⟨_,m,_,_,e2,_⟩
        ·omega
        ·rw [e2]; rfl
       rw [hhas2] at hhas
       by_cases hu0 : x.user < 0
       ·have hfi : fineT h x = false:=by unfold fineT; rw [decide_eq_false (show ¬ 0 <= x.user by omega)]; rfl
        rw [hfi,if_neg Bool.false_ne_true] at hq
        subst hq
        simp -implicitDefEqProofs (disch:=omega) only [h1,h3,h4,hh1_0,hlt,hc,hld,hhas,hx1,hk0',hu0,go_sem,↓reduceIte,rA,rS,rE,rL,reduceCtorEq]
       ·by_cases hu1 : 1048576 < x.user
        ·have hfi : fineT h x = false:=by unfold fineT; rw [decide_eq_false (show ¬ x.user <= 1048576 by omega),Bool.and_false]; rfl
         rw [hfi,if_neg Bool.false_ne_true] at hq
         subst hq
         simp -implicitDefEqProofs (disch:=omega) only [h1,h3,h4,hh1_0,hlt,hc,hld,hhas,hx1,hk0',hu0,hu1,go_sem,↓reduceIte,rA,rS,rE,rL,reduceCtorEq]
        ·have hfi : fineT h x = (leadB h.ts x.process && decide (((findK h.ts x.process).getD zeroTk).user = x.user)):=by
          unfold fineT
          rw [decide_eq_true (show 0 <= x.user by omega),decide_eq_true (show x.user <= 1048576 by omega),decide_eq_true hi,leadOk_eq]
          simp
         rw [hfi] at hq
         generalize leadB h.ts x.process = lb at hld hq
         generalize ((findK h.ts x.process).getD zeroTk) = ld at hld hq
         unfold Tk.vv at hld
         cases lb
         ·rw [bfa,if_neg Bool.false_ne_true] at hq
          subst hq
          simp -implicitDefEqProofs (disch:=omega) only [h1,h3,h4,hh1_0,hlt,hc,hld,hhas,hx1,hk0',hu0,hu1,go_sem,↓reduceIte,rA,rS,rE,rL,reduceCtorEq]
         ·by_cases hus : ld.user = x.user
          ·rw [decide_eq_true hus,bta,if_pos rfl] at hq
           simp -implicitDefEqProofs (disch:=omega) only [h1,h3,h4,hh1_0,hlt,hc,hld,hhas,hx1,hk0',hu0,hu1,hus,go_sem,↓reduceIte,rA,rS,rE,rL,reduceCtorEq]
           try refine And.intro (by omega) ?_
           refine (hI _ _).2 ⟨x.id,?_,?_,?_,?_,?_,?_,?_⟩
           .exact hq
           .exact Or.inr ⟨Nat.succ_pos _,x,by rw [Nat.add_sub_cancel]; exact hc,rfl⟩
           .omega
           all_goals exact cl0
          ·rw [decide_eq_false hus,Bool.and_false,if_neg Bool.false_ne_true] at hq
           subst hq
           simp -implicitDefEqProofs (disch:=omega) only [h1,h3,h4,hh1_0,hlt,hc,hld,hhas,hx1,hk0',hu0,hu1,hus,go_sem,↓reduceIte,rA,rS,rE,rL,reduceCtorEq]
      ·have hhas2 : (findT h.t x.group).isSome = false:=by
        rw [findT,if_pos hb]
        rcases idxOf_lt h.t.nodes x.group with ⟨_,e2⟩ | ⟨q,_,e1,_⟩
        ·rw [e2]; rfl
        ·rw [e1] at hi; omega
       rw [hhas2] at hhas
       have hfi : fineT h x = false:=by unfold fineT; rw [decide_eq_false hi,Bool.and_false]
       rw [hfi,if_neg Bool.false_ne_true] at hq
       subst hq
       simp -implicitDefEqProofs (disch:=omega) only [h1,h3,h4,hh1_0,hlt,hc,hld,hhas,hx1,hk0',go_sem,↓reduceIte,rA,rS,rE,rL,reduceCtorEq]
    ·have hzi : h.ts[((k : Int) - 1).toNat]? = some z:=by rw [show ((k : Int) - 1).toNat = k - 1 by omega]; exact hz9
     by_cases hle : x.id <= last
     ·rw [if_pos hle] at hq
      subst hq
      by_cases hx1 : x.id < 1
      ·simp -implicitDefEqProofs (disch:=omega) only [h1,h3,h4,hh1_0,hlt,hc,hld,hx1,go_sem,↓reduceIte,rA,rS,rE,rL,reduceCtorEq]
      ·have hk0' : (0 : Int) < k:=by omega
       have hge : x.id <= z.id:=by omega
       simp -implicitDefEqProofs (disch:=omega) only [h1,h3,h4,hh1_0,hlt,hc,hld,hx1,hk0',hzi,hge,go_sem,↓reduceIte,rA,rS,rE,rL,reduceCtorEq]
     ·rw [if_neg hle] at hq
      have hx1 : ¬ x.id < 1:=by omega
      have hk0' : (0 : Int) < k:=by omega
      have hge : ¬ x.id <= z.id:=by omega
      by_cases hi : 0 <= idxOf h.t.nodes x.group
      ·have hhas2 : (findT h.t x.group).isSome = true:=by
        rw [findT,if_pos hb]
        rcases idxOf_lt h.t.nodes x.group with ⟨e1,_⟩ | ⟨_,m,_,_,e2,_⟩
        ·omega
        ·rw [e2]; rfl
       rw [hhas2] at hhas
       by_cases hu0 : x.user < 0
       ·have hfi : fineT h x = false:=by unfold fineT; rw [decide_eq_false (show ¬ 0 <= x.user by omega)]; rfl
        rw [hfi,if_neg Bool.false_ne_true] at hq
        subst hq
        simp -implicitDefEqProofs (disch:=omega) only [h1,h3,h4,hh1_0,hlt,hc,hld,hhas,hx1,hk0',hzi,hge,hu0,go_sem,↓reduceIte,rA,rS,rE,rL,reduceCtorEq]
       ·by_cases hu1 : 1048576 < x.user
        ·have hfi : fineT h x = false:=by unfold fineT; rw [decide_eq_false (show ¬ x.user <= 1048576 by omega),Bool.and_false]; rfl
         rw [hfi,if_neg Bool.false_ne_true] at hq
         subst hq
         simp -implicitDefEqProofs (disch:=omega) only [h1,h3,h4,hh1_0,hlt,hc,hld,hhas,hx1,hk0',hzi,hge,hu0,hu1,go_sem,↓reduceIte,rA,rS,rE,rL,reduceCtorEq]
        ·have hfi : fineT h x = (leadB h.ts x.process && decide (((findK h.ts x.process).getD zeroTk).user = x.user)):=by
          unfold fineT
          rw [decide_eq_true (show 0 <= x.user by omega),decide_eq_true (show x.user <= 1048576 by omega),decide_eq_true hi,leadOk_eq]
          simp
         rw [hfi] at hq
         generalize leadB h.ts x.process = lb at hld hq
         generalize ((findK h.ts x.process).getD zeroTk) = ld at hld hq
         unfold Tk.vv at hld
         cases lb
         ·rw [bfa,if_neg Bool.false_ne_true] at hq
          subst hq
          simp -implicitDefEqProofs (disch:=omega) only [h1,h3,h4,hh1_0,hlt,hc,hld,hhas,hx1,hk0',hzi,hge,hu0,hu1,go_sem,↓reduceIte,rA,rS,rE,rL,reduceCtorEq]
         ·by_cases hus : ld.user = x.user
          ·rw [decide_eq_true hus,bta,if_pos rfl] at hq
           simp -implicitDefEqProofs (disch:=omega) only [h1,h3,h4,hh1_0,hlt,hc,hld,hhas,hx1,hk0',hzi,hge,hu0,hu1,hus,go_sem,↓reduceIte,rA,rS,rE,rL,reduceCtorEq]
           try refine And.intro (by omega) ?_
           refine (hI _ _).2 ⟨x.id,?_,?_,?_,?_,?_,?_,?_⟩
           .exact hq
           .exact Or.inr ⟨Nat.succ_pos _,x,by rw [Nat.add_sub_cancel]; exact hc,rfl⟩
           .omega
           all_goals exact cl0
          ·rw [decide_eq_false hus,Bool.and_false,if_neg Bool.false_ne_true] at hq
           subst hq
           simp -implicitDefEqProofs (disch:=omega) only [h1,h3,h4,hh1_0,hlt,hc,hld,hhas,hx1,hk0',hzi,hge,hu0,hu1,hus,go_sem,↓reduceIte,rA,rS,rE,rL,reduceCtorEq]
      ·have hhas2 : (findT h.t x.group).isSome = false:=by
        rw [findT,if_pos hb]
        rcases idxOf_lt h.t.nodes x.group with ⟨_,e2⟩ | ⟨q,_,e1,_⟩
        .rw [e2]; rfl
        .rw [e1] at hi; omega
       rw [hhas2] at hhas
       have hfi : fineT h x = false:=by unfold fineT; rw [decide_eq_false hi,Bool.and_false]
       rw [hfi,if_neg Bool.false_ne_true] at hq
       subst hq
       simp -implicitDefEqProofs (disch:=omega) only [h1,h3,h4,hh1_0,hlt,hc,hld,hhas,hx1,hk0',hzi,hge,go_sem,↓reduceIte,rA,rS,rE,rL,reduceCtorEq]
   ·rw [ldl (by omega),runT] at hq
    have e:=hend y hy hnl (by rw [hq]; exact fun e=>by cases e)
    rw [hq] at e
    have e2 : last < h.next:=by simpa [ltO] using e
    rw [hq]
    simp -implicitDefEqProofs (disch:=omega) only [h1,h3,h4,hh1_0,hge,e2,go_sem,↓reduceIte,rA,rS,rE,rL,reduceCtorEq]
def tasksOf (g : Int) (ts : List Tk) : List Int:=(ts.filter fun x=>decide (x.group = g)).map (·.id)
theorem tasksOf_cons (g : Int) (x : Tk) (r : List Tk) : tasksOf g (x :: r) = (if x.group = g then [x.id] else []) ++ tasksOf g r:=by
 unfold tasksOf
 by_cases h : x.group = g <;> simp [h]
noncomputable def crewL (g : Int) (ts : List Tk) : List Int:=compL ((tasksOf g ts).mergeSort fun x y=>decide (x <= y))
theorem crewL_nil (g : Int) (ts : List Tk) : (crewL g ts).length = 0 ↔ ∀ x ∈ ts,x.group ≠ g:=by
 have hm : (tasksOf g ts).length = 0 ↔ ∀ x ∈ ts,x.group ≠ g:=by
  unfold tasksOf
  rw [llm,List.length_eq_zero_iff,List.filter_eq_nil_iff]
  simp
 rw [<- hm]
 unfold crewL
 have hl : ((tasksOf g ts).mergeSort fun x y=>decide (x <= y)).length = (tasksOf g ts).length:=List.length_mergeSort _
 rw [<- hl]
 generalize ((tasksOf g ts).mergeSort fun x y=>decide (x <= y)) = l
 cases l with
 | nil=>simp [compL]
 | cons x r=>simp [compL]
theorem ctask1_eq (x : Tk) (g : Int) : V 103 [x.vv,.ptr (.arg 0 0) 0 0] [.box [.p (.int .i64 g)]] = some (.p (.bool (decide (x.group = g))),[.box [.p (.int .i64 g)]]):=by
 refine V_wp (vf:=vf103) rfl ?_
 simp -implicitDefEqProofs (disch:=omega) only [vf103,vb103,go_sem,↓reduceIte,rA,rS,rE,rL,reduceCtorEq]
theorem crewid_eq (x : Tk) : V 104 [x.vv] [] = some (.p (.int .i64 x.id),[]):=by
 refine V_wp (vf:=vf104) rfl ?_
 simp -implicitDefEqProofs (disch:=omega) only [vf104,vb104,go_sem,↓reduceIte,rA,rS,rE,rL,reduceCtorEq]
set_option maxHeartbeats 4000000 in
theorem those_eq (h : Hy) (g : Int) (hl : h.ts.length < 1000000) : V 102 [h.vv,.fn 103 [.ptr (.arg 0 0) 0 0],.p (.fn 104)] [.box [.p (.int .i64 g)]] = some (.fresh 1 ((crewL g h.ts).map (.int .i64)),[.box [.p (.int .i64 g)]]):=by
 refine V_wp (vf:=vf102) rfl ?_
 simp -implicitDefEqProofs (disch:=omega) only [vf102,vb102,go_sem,↓reduceIte,rA,rS,rE,rL,reduceCtorEq]
 obtain ⟨I,hI⟩ : ∃ I : Nat -> St -> Prop,∀ k s,I k s ↔ ∃ (acc : List Int) (w : Nat),tasksOf g h.ts = acc ++ tasksOf g (h.ts.drop k) /\ acc.length <= k /\ s.pe 1 = .fn 103 [.ptr (Id.arg 0 0) 0 0] /\ s.pe 2 = .p (.fn 104) /\ s.pe 7 = .own (.slot 7 0) w 0 acc.length /\ s.pe 11 = .p (tasksP h.ts) /\ s.pe 12 = .p (.int .i64 ↑h.ts.length) /\ s.pe 13 = .p (.int .i64 k) /\ s.h (.arg 0 0) = some (0,Ob.box [.p (.int .i64 g)]) /\ s.h (.slot 7 0) = some (w,Ob.arr 1 (acc.map (.int .i64))):=⟨_,fun _ _=>Iff.rfl⟩
 refine wp_count (h.ts.length) I ?_ ?_
 ·refine (hI _ _).2 ⟨[],0,?_,?_,?_,?_,?_,?_,?_,?_,?_,?_⟩
  ·rfl
  ·exact cl3
  all_goals exact cl0
 intro k s hk hIk
 obtain ⟨acc,w,hq,hac,h1,h2,h7,h11,h12,h13,ha0,hh7_0⟩:=(hI _ _).1 hIk
 clear hIk
 have htk : List.take acc.length (acc.map (PV.int .i64)) = acc.map (PV.int .i64):=ltl (by simp)
 simp -implicitDefEqProofs (disch:=omega) only [h1,h2,h7,h11,h12,h13,ha0,hh7_0,go_sem,↓reduceIte,rA,rS,rE,rL,reduceCtorEq]
 refine wp_if_d (fun hlt=>?_) (fun hge=>?_)
 ·have hc : h.ts[k]? = some h.ts[k]:=lgg (by omega)
  have hdr : h.ts.drop k = h.ts[k] :: h.ts.drop (k + 1):=ldg (by omega)
  generalize h.ts[k] = x at hc hdr
  rw [hdr,tasksOf_cons] at hq
  have hk1:=ctask1_eq x g
  have hk2:=crewid_eq x
  unfold Tk.vv at hk1 hk2
  by_cases hx : x.group = g
  ·rw [if_pos hx] at hq
   rw [decide_eq_true hx] at hk1
   have hq2 : tasksOf g h.ts = (acc ++ [x.id]) ++ tasksOf g (h.ts.drop (k + 1)):=by rw [hq]; simp
   clear hq
   simp -implicitDefEqProofs (disch:=omega) only [h1,h2,h7,h11,h12,h13,ha0,hh7_0,hlt,hc,hk1,hk2,htk,go_sem,↓reduceIte,rA,rS,rE,rL,reduceCtorEq]
   try refine And.intro (by omega) ?_
   refine (hI _ _).2 ⟨acc ++ [x.id],w + 1,?_,?_,?_,?_,?_,?_,?_,?_,?_,?_⟩
   .exact hq2
   .exact by rw [lla]; simp only [llc,lln]; omega
   all_goals exact cl0
  ·rw [if_neg hx,lna] at hq
   rw [decide_eq_false hx] at hk1
   simp -implicitDefEqProofs (disch:=omega) only [h1,h2,h7,h11,h12,h13,ha0,hh7_0,hlt,hc,hk1,go_sem,↓reduceIte,rA,rS,rE,rL,reduceCtorEq]
   try refine And.intro (by omega) ?_
   refine (hI _ _).2 ⟨acc,w,?_,?_,?_,?_,?_,?_,?_,?_,?_,?_⟩
   .exact hq
   .omega
   all_goals exact cl0
 ·rw [ldl (by omega),show tasksOf g [] = [] from rfl,lan] at hq
  have hs:=sort_x (zs:=acc) (by omega)
  have hml : (acc.mergeSort fun x y=>decide (x <= y)).length = acc.length:=List.length_mergeSort _
  unfold crewL
  rw [hq]
  generalize (acc.mergeSort fun x y=>decide (x <= y)) = m at hs hml ⊢
  have hcm:=compact_x (zs:=m) (by omega)
  rw [hml] at hcm
  have htk2 : List.take (compL m).length ((compL m ++ List.replicate (acc.length - (compL m).length) 0).map (PV.int .i64)) = (compL m).map (PV.int .i64):=by
   rw [lma,List.take_append_of_le_length (by simp),ltl (by simp)]
  generalize List.replicate (acc.length - (compL m).length) (0 : Int) = zz at hcm htk2
  simp -implicitDefEqProofs (disch:=omega) only [h1,h2,h7,h11,h12,h13,ha0,hh7_0,hge,htk,hs,hcm,htk2,go_sem,↓reduceIte,rA,rS,rE,rL,reduceCtorEq]
theorem ctasks_eq (h : Hy) (g : Int) (hl : h.ts.length < 1000000) : V 55 [h.vv,.p (.int .i64 g)] [] = some (.fresh 1 ((crewL g h.ts).map (.int .i64)),[]):=by
 refine V_wp (vf:=vf55) rfl ?_
 have hc:=those_eq h g hl
 have htk : List.take (crewL g h.ts).length ((crewL g h.ts).map (PV.int .i64)) = (crewL g h.ts).map (PV.int .i64):=ltl (by simp)
 simp -implicitDefEqProofs (disch:=omega) only [vf55,vb55,hc,htk,go_sem,↓reduceIte,rA,rS,rE,rL,reduceCtorEq]
abbrev Hy.fv (h : Hy) : VVal:=.agg [.fresh 6 (h.t.nodes.map Nd.pv),.p (.int .i64 h.t.next),.fresh 4 (h.ts.map Tk.pv),.p (.int .i64 h.next)]
def findM (h : Hy) (id : Int) : Option Tk:=if memOk h = true then findK h.ts id else none
set_option maxHeartbeats 2000000 in
theorem rfindK_eq (h : Hy) (id : Int) (hl : h.ts.length < 1000000) (hn : h.t.nodes.length < 1000000) : V 94 [h.vv,.p (.int .i64 id)] [] = some (.tup [((findM h id).getD zeroTk).vv,.p (.bool (findM h id).isSome)],[]):=by
 refine V_wp (vf:=vf94) rfl ?_
 have hc:=rmcheck_eq h hl hn
 unfold findM
 generalize memOk h = b at hc ⊢
 cases b
 ·rw [if_neg Bool.false_ne_true]
  simp -implicitDefEqProofs (disch:=omega) only [vf94,vb94,hc,go_sem,↓reduceIte,rA,rS,rE,rL,reduceCtorEq]
  simp only [Option.getD_none,Option.isSome_none,Tk.vv]
 rw [if_pos rfl]
 generalize hf : findK h.ts id = f
 simp -implicitDefEqProofs (disch:=omega) only [vf94,vb94,hc,go_sem,↓reduceIte,rA,rS,rE,rL,reduceCtorEq]
 obtain ⟨I,hI⟩ : ∃ I : Nat -> St -> Prop,∀ k s,I k s ↔ f = findK (h.ts.drop k) id /\ s.pe 1 = .p (.int .i64 id) /\ s.pe 2 = .ptr (.slot 2 0) 0 0 /\ s.pe 4 = .ptr (.slot 4 0) 0 0 /\ s.pe 6 = .p (.int .i64 k) /\ s.h (.slot 2 0) = some (0,Ob.box [.p (nodesP h.t.nodes),.p (.int .i64 h.t.next),.p (tasksP h.ts),.p (.int .i64 h.next)]) /\ s.h (.slot 4 0) = some (0,Ob.box [.p (.int .i64 0),.p (.int .i64 0),.p (.int .i64 0),.p (.int .i64 0)]):=⟨_,fun _ _=>Iff.rfl⟩
 refine wp_count (h.ts.length) I ?_ ?_
 ·refine (hI _ _).2 ⟨?_,?_,?_,?_,?_,?_,?_⟩
  ·exact hf.symm
  all_goals exact cl0
 intro k s hk hIk
 obtain ⟨hq,h1,h2,h4,h6,hh2_0,hh4_0⟩:=(hI _ _).1 hIk
 clear hIk
 simp -implicitDefEqProofs (disch:=omega) only [h1,h2,h4,h6,hh2_0,hh4_0,go_sem,↓reduceIte,rA,rS,rE,rL,reduceCtorEq]
 refine wp_if_d (fun hlt=>?_) (fun hge=>?_)
 ·have hc : h.ts[k]? = some h.ts[k]:=lgg (by omega)
  have hdr : h.ts.drop k = h.ts[k] :: h.ts.drop (k + 1):=ldg (by omega)
  generalize h.ts[k] = x at hc hdr
  rw [hdr,findK] at hq
  by_cases hx : x.id = id
  ·rw [if_pos hx] at hq
   subst hq
   simp -implicitDefEqProofs (disch:=omega) only [h1,h2,h4,h6,hh2_0,hh4_0,hlt,hc,hx,go_sem,↓reduceIte,rA,rS,rE,rL,reduceCtorEq]
   simp only [Option.getD_some,Option.isSome_some,Tk.vv,hx]
  ·rw [if_neg hx] at hq
   simp -implicitDefEqProofs (disch:=omega) only [h1,h2,h4,h6,hh2_0,hh4_0,hlt,hc,hx,go_sem,↓reduceIte,rA,rS,rE,rL,reduceCtorEq]
   try refine And.intro (by omega) ?_
   refine (hI _ _).2 ⟨?_,?_,?_,?_,?_,?_,?_⟩
   .exact hq
   all_goals exact cl0
 ·rw [ldl (by omega),findK] at hq
  subst hq
  simp -implicitDefEqProofs (disch:=omega) only [h1,h2,h4,h6,hh2_0,hh4_0,hge,go_sem,↓reduceIte,rA,rS,rE,rL,reduceCtorEq]
  simp only [Option.getD_none,Option.isSome_none,Tk.vv]
set_option maxHeartbeats 2000000 in
theorem rtasks_eq (h : Hy) (g : Int) (hl : h.ts.length < 1000000) (hn : h.t.nodes.length < 1000000) : V 13 [h.vv,.p (.int .i64 g)] [] = some (.fresh 1 ((if memOk h = true then tasksOf g h.ts else []).map (.int .i64)),[]):=by
 refine V_wp (vf:=vf13) rfl ?_
 have hc:=rmcheck_eq h hl hn
 generalize memOk h = b at hc ⊢
 cases b
 ·rw [if_neg Bool.false_ne_true]
  simp -implicitDefEqProofs (disch:=omega) only [vf13,vb13,hc,go_sem,↓reduceIte,rA,rS,rE,rL,reduceCtorEq]
 rw [if_pos rfl]
 simp -implicitDefEqProofs (disch:=omega) only [vf13,vb13,hc,go_sem,↓reduceIte,rA,rS,rE,rL,reduceCtorEq]
 obtain ⟨I,hI⟩ : ∃ I : Nat -> St -> Prop,∀ k s,I k s ↔ ∃ (acc : List Int) (w : Nat),tasksOf g h.ts = acc ++ tasksOf g (h.ts.drop k) /\ acc.length <= k /\ s.pe 1 = .p (.int .i64 g) /\ s.pe 2 = .ptr (.slot 2 0) 0 0 /\ s.pe 5 = .own (.slot 5 0) w 0 acc.length /\ s.pe 6 = .p (.int .i64 k) /\ s.h (.slot 2 0) = some (0,Ob.box [.p (nodesP h.t.nodes),.p (.int .i64 h.t.next),.p (tasksP h.ts),.p (.int .i64 h.next)]) /\ s.h (.slot 5 0) = some (w,Ob.arr 1 (acc.map (.int .i64))):=⟨_,fun _ _=>Iff.rfl⟩
 refine wp_count (h.ts.length) I ?_ ?_
 ·refine (hI _ _).2 ⟨[],0,?_,?_,?_,?_,?_,?_,?_,?_⟩
  ·rfl
  ·exact cl3
  all_goals exact cl0
 intro k s hk hIk
 obtain ⟨acc,w,hq,hac,h1,h2,h5,h6,hh2_0,hh5_0⟩:=(hI _ _).1 hIk
 clear hIk
 have htk : List.take acc.length (acc.map (PV.int .i64)) = acc.map (PV.int .i64):=ltl (by simp)
 simp -implicitDefEqProofs (disch:=omega) only [h1,h2,h5,h6,hh2_0,hh5_0,go_sem,↓reduceIte,rA,rS,rE,rL,reduceCtorEq]
 refine wp_if_d (fun hlt=>?_) (fun hge=>?_)
 ·have hc : h.ts[k]? = some h.ts[k]:=lgg (by omega)
  have hdr : h.ts.drop k = h.ts[k] :: h.ts.drop (k + 1):=ldg (by omega)
  generalize h.ts[k] = x at hc hdr
  rw [hdr,tasksOf_cons] at hq
  by_cases hx : x.group = g
  ·rw [if_pos hx] at hq
   have hq2 : tasksOf g h.ts = (acc ++ [x.id]) ++ tasksOf g (h.ts.drop (k + 1)):=by rw [hq]; simp
   clear hq
   simp -implicitDefEqProofs (disch:=omega) only [h1,h2,h5,h6,hh2_0,hh5_0,hlt,hc,hx,htk,go_sem,↓reduceIte,rA,rS,rE,rL,reduceCtorEq]
   try refine And.intro (by omega) ?_
   refine (hI _ _).2 ⟨acc ++ [x.id],w + 1,?_,?_,?_,?_,?_,?_,?_,?_⟩
   .exact hq2
   .exact by rw [lla]; simp only [llc,lln]; omega
   all_goals exact cl0
  ·rw [if_neg hx,lna] at hq
   simp -implicitDefEqProofs (disch:=omega) only [h1,h2,h5,h6,hh2_0,hh5_0,hlt,hc,hx,go_sem,↓reduceIte,rA,rS,rE,rL,reduceCtorEq]
   try refine And.intro (by omega) ?_
   refine (hI _ _).2 ⟨acc,w,?_,?_,?_,?_,?_,?_,?_,?_⟩
   .exact hq
   .omega
   all_goals exact cl0
 ·rw [ldl (by omega),show tasksOf g [] = [] from rfl,lan] at hq
  rw [hq]
  simp -implicitDefEqProofs (disch:=omega) only [h1,h2,h5,h6,hh2_0,hh5_0,hge,htk,go_sem,↓reduceIte,rA,rS,rE,rL,reduceCtorEq]
theorem rhcopy_eq (h : Hy) (hl : h.ts.length < 1000000) (hn : h.t.nodes.length < 1000000) : V 61 [h.vv] [] = some (h.fv,[]):=by
 refine V_wp (vf:=vf61) rfl ?_
 have hc:=rcopy_eq h.t hn
 simp -implicitDefEqProofs (disch:=omega) only [vf61,vb61,hc,go_sem,↓reduceIte,rA,rS,rE,rL,reduceCtorEq]
def upC (t : Tr) (n : Nd) : Int:=if n.id = 1 then 31 else ((findN t.nodes n.parent).getD zeroNd).control
def fromV (t : Tr) (n : Nd) : Int:=if n.kind = 1 then antI .i64 (upC t n) 6 else upC t n
theorem cfrom_eq (t : Tr) (n : Nd) (hn : t.nodes.length < 1000000) : V 54 [t.vv,n.vv] [] = some (.p (.int .i64 (fromV t n)),[]):=by
 refine V_wp (vf:=vf54) rfl ?_
 have hc:=ffind_eq t n.parent hn
 unfold fromV upC
 generalize (findN t.nodes n.parent).getD zeroNd = p at hc ⊢
 unfold Nd.vv at hc
 by_cases h1 : n.id = 1
 ·by_cases h2 : n.kind = 1
  .simp -implicitDefEqProofs (disch:=omega) only [vf54,vb54,h1,h2,go_sem,↓reduceIte,rA,rS,rE,rL,reduceCtorEq]
  .simp -implicitDefEqProofs (disch:=omega) only [vf54,vb54,h1,h2,go_sem,↓reduceIte,rA,rS,rE,rL,reduceCtorEq]
 ·by_cases h2 : n.kind = 1
  .simp -implicitDefEqProofs (disch:=omega) only [vf54,vb54,hc,h1,h2,go_sem,↓reduceIte,rA,rS,rE,rL,reduceCtorEq]
  .simp -implicitDefEqProofs (disch:=omega) only [vf54,vb54,hc,h1,h2,go_sem,↓reduceIte,rA,rS,rE,rL,reduceCtorEq]
theorem tchecked_eq (t : Tr) (hf : t.Fits) (hn : t.nodes.length < 1000000) : V 111 [t.vv] [] = some (if treeOk t = true then t.vv else .agg [.fresh 6 [],.p (.int .i64 0)],[]):=by
 refine V_wp (vf:=vf111) rfl ?_
 have hc:=tcheck_eq t hf hn
 generalize treeOk t = b at hc ⊢
 cases b
 .simp -implicitDefEqProofs (disch:=omega) only [vf111,vb111,hc,go_sem,↓reduceIte,rA,rS,rE,rL,reduceCtorEq]
 .simp -implicitDefEqProofs (disch:=omega) only [vf111,vb111,hc,go_sem,↓reduceIte,rA,rS,rE,rL,reduceCtorEq]
theorem tfind_eq (t : Tr) (id : Int) (hf : t.Fits) (hn : t.nodes.length < 1000000) : V 64 [t.vv,.p (.int .i64 id)] [] = some (.tup [((findT t id).getD zeroNd).vv,.p (.bool (findT t id).isSome)],[]):=by
 refine V_wp (vf:=vf64) rfl ?_
 have h1:=tchecked_eq t hf hn
 have h2:=ffind_eq t id hn
 have h3 : V 101 [.agg [.p (.slice 6 []),.p (.int .i64 0)],.p (.int .i64 id)] [] = some (.tup [zeroNd.vv,.p (.bool false)],[]):=ffind_eq ⟨[],0⟩ id (by decide)
 unfold findT
 by_cases hb : treeOk t = true
 ·rw [if_pos hb] at h1 ⊢
  generalize (findN t.nodes id).getD zeroNd = n at h2 ⊢
  unfold Nd.vv at h2
  simp -implicitDefEqProofs (disch:=omega) only [vf64,vb64,h1,h2,go_sem,↓reduceIte,rA,rS,rE,rL,reduceCtorEq]
 ·rw [if_neg hb] at h1 ⊢
  unfold Nd.vv at h3
  simp -implicitDefEqProofs (disch:=omega) only [vf64,vb64,h1,h3,go_sem,↓reduceIte,rA,rS,rE,rL,reduceCtorEq]
  simp only [Option.getD_none,Option.isSome_none,Nd.vv]
def availP (t : Tr) (id : Int) : Int:=match findT t id with
 | some n=>fromV t n
 | none=>0
theorem cavail_eq (t : Tr) (id : Int) (hf : t.Fits) (hn : t.nodes.length < 1000000) : V 22 [t.vv,.p (.int .i64 id)] [] = some (.p (.int .i64 (availP t id)),[]):=by
 refine V_wp (vf:=vf22) rfl ?_
 have h1:=tfind_eq t id hf hn
 unfold availP
 cases hq : findT t id with
 | none =>
  rw [hq] at h1
  simp only [Option.getD_none,Option.isSome_none,Nd.vv] at h1
  simp -implicitDefEqProofs (disch:=omega) only [vf22,vb22,h1,go_sem,↓reduceIte,rA,rS,rE,rL,reduceCtorEq]
 | some n =>
  rw [hq] at h1
  have h2:=cfrom_eq t n hn
  simp only [Option.getD_some,Option.isSome_some,Nd.vv] at h1 h2
  simp -implicitDefEqProofs (disch:=omega) only [vf22,vb22,h1,h2,go_sem,↓reduceIte,rA,rS,rE,rL,reduceCtorEq]
def actP (t : Tr) (id : Int) : Int:=if id = 1 then 0 else availP t id
theorem cacting_eq (t : Tr) (id : Int) (hf : t.Fits) (hn : t.nodes.length < 1000000) : V 12 [t.vv,.p (.int .i64 id)] [] = some (.p (.int .i64 (actP t id)),[]):=by
 refine V_wp (vf:=vf12) rfl ?_
 have h1:=cavail_eq t id hf hn
 unfold actP
 by_cases h : id = 1
 ·rw [if_pos h]
  simp -implicitDefEqProofs (disch:=omega) only [vf12,vb12,h,go_sem,↓reduceIte,rA,rS,rE,rL,reduceCtorEq]
 ·rw [if_neg h]
  simp -implicitDefEqProofs (disch:=omega) only [vf12,vb12,h,h1,go_sem,↓reduceIte,rA,rS,rE,rL,reduceCtorEq]
def nodeS (h : Hy) (n : Nd) : Bool:=decide (antI .i64 n.control (fromV h.t n) = 0) && (decide (n.id = 1) || decide (andI .i64 n.control 6 = 0) || decide (∀ x ∈ h.ts,x.group ≠ n.id))
def soundP (h : Hy) : Bool:=memOk h && h.t.nodes.all (nodeS h)
set_option maxHeartbeats 8000000 in
theorem csound_eq (h : Hy) (hf : h.t.Fits) (hl : h.ts.length < 1000000) (hn : h.t.nodes.length < 1000000) : V 14 [h.vv] [] = some (.p (.bool (soundP h)),[]):=by
 refine V_wp (vf:=vf14) rfl ?_
 have hc:=mcheck_eq h hf hl hn
 unfold soundP
 generalize memOk h = b at hc ⊢
 cases b
 ·simp -implicitDefEqProofs (disch:=omega) only [vf14,vb14,hc,go_sem,↓reduceIte,rA,rS,rE,rL,reduceCtorEq]
 rw [Bool.true_and]
 generalize hs : h.t.nodes.all (nodeS h) = sb
 simp -implicitDefEqProofs (disch:=omega) only [vf14,vb14,hc,go_sem,↓reduceIte,rA,rS,rE,rL,reduceCtorEq]
 obtain ⟨I,hI⟩ : ∃ I : Nat -> St -> Prop,∀ k s,I k s ↔ sb = (h.t.nodes.drop k).all (nodeS h) /\ s.pe 1 = .ptr (.slot 1 0) 0 0 /\ s.pe 10 = .p (nodesP h.t.nodes) /\ s.pe 11 = .p (.int .i64 ↑h.t.nodes.length) /\ s.pe 12 = .p (.int .i64 k) /\ s.h (.slot 1 0) = some (0,Ob.box [.p (nodesP h.t.nodes),.p (.int .i64 h.t.next),.p (tasksP h.ts),.p (.int .i64 h.next)]):=⟨_,fun _ _=>Iff.rfl⟩
 refine wp_count (h.t.nodes.length) I ?_ ?_
 ·refine (hI _ _).2 ⟨?_,?_,?_,?_,?_,?_⟩
  ·exact hs.symm
  all_goals exact cl0
 intro k s hk hIk
 obtain ⟨hq,h1,h10,h11,h12,hh1_0⟩:=(hI _ _).1 hIk
 clear hIk
 simp -implicitDefEqProofs (disch:=omega) only [h1,h10,h11,h12,hh1_0,go_sem,↓reduceIte,rA,rS,rE,rL,reduceCtorEq]
 refine wp_if_d (fun hlt=>?_) (fun hge=>?_)
 ·have hc : h.t.nodes[k]? = some h.t.nodes[k]:=lgg (by omega)
  have hdr : h.t.nodes.drop k = h.t.nodes[k] :: h.t.nodes.drop (k + 1):=ldg (by omega)
  generalize h.t.nodes[k] = n at hc hdr
  rw [hdr,List.all_cons] at hq
  have hfr:=cfrom_eq h.t n hn
  have htk:=ctasks_eq h n.id hl
  have hcr:=crewL_nil n.id h.ts
  unfold nodeS at hq
  generalize fromV h.t n = fv at hfr hq
  unfold Nd.vv at hfr
  by_cases h0 : antI .i64 n.control fv = 0
  ·rw [decide_eq_true h0,bta] at hq
   by_cases h1i : n.id = 1
   ·rw [decide_eq_true h1i,Bool.true_or,Bool.true_or,bta] at hq
    rw [h1i] at hfr
    simp -implicitDefEqProofs (disch:=omega) only [h1,h10,h11,h12,hh1_0,hlt,hc,hfr,h0,h1i,go_sem,↓reduceIte,rA,rS,rE,rL,reduceCtorEq]
    try refine And.intro (by omega) ?_
    refine (hI _ _).2 ⟨?_,?_,?_,?_,?_,?_⟩
    ·exact hq
    all_goals exact cl0
   ·rw [decide_eq_false h1i,Bool.false_or] at hq
    by_cases h6 : andI .i64 n.control 6 = 0
    ·rw [decide_eq_true h6,Bool.true_or,bta] at hq
     simp -implicitDefEqProofs (disch:=omega) only [h1,h10,h11,h12,hh1_0,hlt,hc,hfr,h0,h1i,h6,go_sem,↓reduceIte,rA,rS,rE,rL,reduceCtorEq]
     try refine And.intro (by omega) ?_
     refine (hI _ _).2 ⟨?_,?_,?_,?_,?_,?_⟩
     ·exact hq
     all_goals exact cl0
    ·rw [decide_eq_false h6,Bool.false_or] at hq
     by_cases hz : (crewL n.id h.ts).length = 0
     ·rw [decide_eq_true (hcr.1 hz),bta] at hq
      have hz2 : ¬ (0 : Int) < ((crewL n.id h.ts).length : Nat):=by omega
      simp -implicitDefEqProofs (disch:=omega) only [h1,h10,h11,h12,hh1_0,hlt,hc,hfr,h0,h1i,h6,htk,hz2,go_sem,↓reduceIte,rA,rS,rE,rL,reduceCtorEq]
      try refine And.intro (by omega) ?_
      refine (hI _ _).2 ⟨?_,?_,?_,?_,?_,?_⟩
      .exact hq
      all_goals exact cl0
     ·rw [decide_eq_false (fun e=>hz (hcr.2 e)),bfa] at hq
      have hz2 : (0 : Int) < ((crewL n.id h.ts).length : Nat):=by omega
      subst hq
      simp -implicitDefEqProofs (disch:=omega) only [h1,h10,h11,h12,hh1_0,hlt,hc,hfr,h0,h1i,h6,htk,hz2,go_sem,↓reduceIte,rA,rS,rE,rL,reduceCtorEq]
  ·rw [decide_eq_false h0,bfa,bfa] at hq
   subst hq
   simp -implicitDefEqProofs (disch:=omega) only [h1,h10,h11,h12,hh1_0,hlt,hc,hfr,h0,go_sem,↓reduceIte,rA,rS,rE,rL,reduceCtorEq]
 ·rw [ldl (by omega)] at hq
  subst hq
  simp -implicitDefEqProofs (disch:=omega) only [h1,h10,h11,h12,hh1_0,hge,go_sem,↓reduceIte,rA,rS,rE,rL,reduceCtorEq]
def actR (t : Tr) (id : Int) : Int:=match findT t id with
 | none=>0
 | some x=>if id = 1 then 0 else if x.kind = 1 then antI .i64 ((findT t x.parent).getD zeroNd).control 6 else ((findT t x.parent).getD zeroNd).control
theorem racting_eq (t : Tr) (id : Int) (hn : t.nodes.length < 1000000) : V 24 [t.vv,.p (.int .i64 id)] [] = some (.p (.int .i64 (actR t id)),[]):=by
 refine V_wp (vf:=vf24) rfl ?_
 have h1:=rfind_eq t id hn
 unfold actR
 cases hq : findT t id with
 | none =>
  rw [hq] at h1
  simp only [Option.getD_none,Option.isSome_none,Nd.vv] at h1
  simp -implicitDefEqProofs (disch:=omega) only [vf24,vb24,h1,go_sem,↓reduceIte,rA,rS,rE,rL,reduceCtorEq]
 | some x =>
  rw [hq] at h1
  simp only [Option.getD_some,Option.isSome_some,Nd.vv] at h1
  have h2:=rfind_eq t x.parent hn
  unfold Nd.vv at h2
  by_cases hi : id = 1
  ·subst hi
   simp -implicitDefEqProofs (disch:=omega) only [vf24,vb24,h1,go_sem,↓reduceIte,rA,rS,rE,rL,reduceCtorEq]
  ·by_cases hk : x.kind = 1
   .simp -implicitDefEqProofs (disch:=omega) only [vf24,vb24,h1,h2,hi,hk,go_sem,↓reduceIte,rA,rS,rE,rL,reduceCtorEq]
   .simp -implicitDefEqProofs (disch:=omega) only [vf24,vb24,h1,h2,hi,hk,go_sem,↓reduceIte,rA,rS,rE,rL,reduceCtorEq]
def availR (t : Tr) (id : Int) : Int:=match findT t id with
 | none=>0
 | some x=>if x.kind = 1 then antI .i64 (if id = 1 then 31 else actR t id) 6 else (if id = 1 then 31 else actR t id)
theorem ravail_eq (t : Tr) (id : Int) (hn : t.nodes.length < 1000000) : V 23 [t.vv,.p (.int .i64 id)] [] = some (.p (.int .i64 (availR t id)),[]):=by
 refine V_wp (vf:=vf23) rfl ?_
 have h1:=rfind_eq t id hn
 have h2:=racting_eq t id hn
 unfold availR
 generalize actR t id = a at h2 ⊢
 cases hq : findT t id with
 | none =>
  rw [hq] at h1
  simp only [Option.getD_none,Option.isSome_none,Nd.vv] at h1
  simp -implicitDefEqProofs (disch:=omega) only [vf23,vb23,h1,go_sem,↓reduceIte,rA,rS,rE,rL,reduceCtorEq]
 | some x =>
  rw [hq] at h1
  simp only [Option.getD_some,Option.isSome_some,Nd.vv] at h1
  by_cases hi : id = 1
  ·subst hi
   by_cases hk : x.kind = 1
   .simp -implicitDefEqProofs (disch:=omega) only [vf23,vb23,h1,hk,go_sem,↓reduceIte,rA,rS,rE,rL,reduceCtorEq]
   .simp -implicitDefEqProofs (disch:=omega) only [vf23,vb23,h1,hk,go_sem,↓reduceIte,rA,rS,rE,rL,reduceCtorEq]
  ·by_cases hk : x.kind = 1
   .simp -implicitDefEqProofs (disch:=omega) only [vf23,vb23,h1,h2,hi,hk,go_sem,↓reduceIte,rA,rS,rE,rL,reduceCtorEq]
   .simp -implicitDefEqProofs (disch:=omega) only [vf23,vb23,h1,h2,hi,hk,go_sem,↓reduceIte,rA,rS,rE,rL,reduceCtorEq]
def nodeR (h : Hy) (n : Nd) : Bool:=decide (antI .i64 n.control (availR h.t n.id) = 0) && (decide (n.id = 1) || decide (andI .i64 n.control 6 = 0) || decide (∀ x ∈ h.ts,x.group ≠ n.id))
def soundR (h : Hy) : Bool:=memOk h && h.t.nodes.all (nodeR h)
theorem tasksOf_nil (g : Int) (ts : List Tk) : (tasksOf g ts).length = 0 ↔ ∀ x ∈ ts,x.group ≠ g:=by
 unfold tasksOf
 rw [llm,List.length_eq_zero_iff,List.filter_eq_nil_iff]
 simp
set_option maxHeartbeats 8000000 in
theorem rsound_eq (h : Hy) (hl : h.ts.length < 1000000) (hn : h.t.nodes.length < 1000000) : V 20 [h.vv] [] = some (.p (.bool (soundR h)),[]):=by
 refine V_wp (vf:=vf20) rfl ?_
 have hc:=rmcheck_eq h hl hn
 unfold soundR
 have hrt:=fun g=>rtasks_eq h g hl hn
 generalize memOk h = b at hc hrt ⊢
 cases b
 ·simp -implicitDefEqProofs (disch:=omega) only [vf20,vb20,hc,go_sem,↓reduceIte,rA,rS,rE,rL,reduceCtorEq]
 rw [Bool.true_and]
 simp only [if_true] at hrt
 generalize hs : h.t.nodes.all (nodeR h) = sb
 simp -implicitDefEqProofs (disch:=omega) only [vf20,vb20,hc,go_sem,↓reduceIte,rA,rS,rE,rL,reduceCtorEq]
 obtain ⟨I,hI⟩ : ∃ I : Nat -> St -> Prop,∀ k s,I k s ↔ sb = (h.t.nodes.drop k).all (nodeR h) /\ s.pe 1 = .ptr (.slot 1 0) 0 0 /\ s.pe 3 = .p (.int .i64 k) /\ s.h (.slot 1 0) = some (0,Ob.box [.p (nodesP h.t.nodes),.p (.int .i64 h.t.next),.p (tasksP h.ts),.p (.int .i64 h.next)]):=⟨_,fun _ _=>Iff.rfl⟩
 refine wp_count (h.t.nodes.length) I ?_ ?_
 ·refine (hI _ _).2 ⟨?_,?_,?_,?_⟩
  ·exact hs.symm
  all_goals exact cl0
 intro k s hk hIk
 obtain ⟨hq,h1,h3,hh1_0⟩:=(hI _ _).1 hIk
 clear hIk
 simp -implicitDefEqProofs (disch:=omega) only [h1,h3,hh1_0,go_sem,↓reduceIte,rA,rS,rE,rL,reduceCtorEq]
 refine wp_if_d (fun hlt=>?_) (fun hge=>?_)
 ·have hc : h.t.nodes[k]? = some h.t.nodes[k]:=lgg (by omega)
  have hdr : h.t.nodes.drop k = h.t.nodes[k] :: h.t.nodes.drop (k + 1):=ldg (by omega)
  generalize h.t.nodes[k] = n at hc hdr
  rw [hdr,List.all_cons] at hq
  have hfr:=ravail_eq h.t n.id hn
  have htk:=hrt n.id
  have hcr:=tasksOf_nil n.id h.ts
  unfold nodeR at hq
  generalize availR h.t n.id = fv at hfr hq
  by_cases h0 : antI .i64 n.control fv = 0
  ·rw [decide_eq_true h0,bta] at hq
   by_cases h1i : n.id = 1
   ·rw [decide_eq_true h1i,Bool.true_or,Bool.true_or,bta] at hq
    rw [h1i] at hfr
    simp -implicitDefEqProofs (disch:=omega) only [h1,h3,hh1_0,hlt,hc,hfr,h0,h1i,go_sem,↓reduceIte,rA,rS,rE,rL,reduceCtorEq]
    try refine And.intro (by omega) ?_
    refine (hI _ _).2 ⟨?_,?_,?_,?_⟩
    ·exact hq
    all_goals exact cl0
   ·rw [decide_eq_false h1i,Bool.false_or] at hq
    by_cases h6 : andI .i64 n.control 6 = 0
    ·rw [decide_eq_true h6,Bool.true_or,bta] at hq
     simp -implicitDefEqProofs (disch:=omega) only [h1,h3,hh1_0,hlt,hc,hfr,h0,h1i,h6,go_sem,↓reduceIte,rA,rS,rE,rL,reduceCtorEq]
     try refine And.intro (by omega) ?_
     refine (hI _ _).2 ⟨?_,?_,?_,?_⟩
     ·exact hq
     all_goals exact cl0
    ·rw [decide_eq_false h6,Bool.false_or] at hq
     by_cases hz : (tasksOf n.id h.ts).length = 0
     ·rw [decide_eq_true (hcr.1 hz),bta] at hq
      have hz2 : ¬ (0 : Int) < ((tasksOf n.id h.ts).length : Nat):=by omega
      simp -implicitDefEqProofs (disch:=omega) only [h1,h3,hh1_0,hlt,hc,hfr,h0,h1i,h6,htk,hz2,go_sem,↓reduceIte,rA,rS,rE,rL,reduceCtorEq]
      try refine And.intro (by omega) ?_
      refine (hI _ _).2 ⟨?_,?_,?_,?_⟩
      .exact hq
      all_goals exact cl0
     ·rw [decide_eq_false (fun e=>hz (hcr.2 e)),bfa] at hq
      have hz2 : (0 : Int) < ((tasksOf n.id h.ts).length : Nat):=by omega
      subst hq
      simp -implicitDefEqProofs (disch:=omega) only [h1,h3,hh1_0,hlt,hc,hfr,h0,h1i,h6,htk,hz2,go_sem,↓reduceIte,rA,rS,rE,rL,reduceCtorEq]
  ·rw [decide_eq_false h0,bfa,bfa] at hq
   subst hq
   simp -implicitDefEqProofs (disch:=omega) only [h1,h3,hh1_0,hlt,hc,hfr,h0,go_sem,↓reduceIte,rA,rS,rE,rL,reduceCtorEq]
 ·rw [ldl (by omega)] at hq
  subst hq
  simp -implicitDefEqProofs (disch:=omega) only [h1,h3,hh1_0,hge,go_sem,↓reduceIte,rA,rS,rE,rL,reduceCtorEq]
abbrev newH : Hy:=⟨newT,[],1⟩
theorem rhnew_eq : V 42 [] [] = some (newH.fv,[]):=by
 refine V_wp (vf:=vf42) rfl ?_
 have hc:=rnew_eq
 simp -implicitDefEqProofs (disch:=omega) only [vf42,vb42,hc,go_sem,↓reduceIte,rA,rS,rE,rL,reduceCtorEq]
 rfl
abbrev noH : VVal:=.agg [.fresh 6 [],.p (.int .i64 0),.fresh 4 [],.p (.int .i64 0)]
def newK (h : Hy) (x : Tk) : Tk:=⟨h.next,if x.process = 0 then h.next else x.process,x.group,x.user⟩
abbrev addH (h : Hy) (x : Tk) : Hy:=⟨h.t,h.ts ++ [newK h x],h.next + 1⟩
def fullH (h : Hy) : Prop:=128 <= h.ts.length \/ 2147483647 < h.next
set_option maxHeartbeats 4000000 in
theorem rhadd_full (h : Hy) (x : Tk) (hf : fullH h) : V 93 [h.vv,x.vv] [] = some (.tup [noH,.p (.int .i64 0),.p (.int .i64 7)],[]):=by
 refine V_wp (vf:=vf93) rfl ?_
 by_cases h1 : 128 <= (h.ts.length : Int)
 .simp -implicitDefEqProofs (disch:=omega) only [vf93,vb93,h1,go_sem,↓reduceIte,rA,rS,rE,rL,reduceCtorEq]
 have h2 : 2147483647 < h.next:=by rcases hf with e | e <;> omega
 simp -implicitDefEqProofs (disch:=omega) only [vf93,vb93,h1,h2,go_sem,↓reduceIte,rA,rS,rE,rL,reduceCtorEq]
set_option maxHeartbeats 4000000 in
theorem rhadd_ok (h : Hy) (x : Tk) (hf : ¬ fullH h) (h00 : 0 <= h.next) (hl : h.ts.length < 1000000) (hn : h.t.nodes.length < 1000000) : V 93 [h.vv,x.vv] [] = some (.tup [(addH h x).fv,.p (.int .i64 h.next),.p (.int .i64 0)],[]):=by
 refine V_wp (vf:=vf93) rfl ?_
 have hc:=rhcopy_eq h hl hn
 have h1 : ¬ 128 <= (h.ts.length : Int):=fun e=>hf (.inl (by omega))
 have h2 : ¬ 2147483647 < h.next:=fun e=>hf (.inr e)
 have htk : List.take h.ts.length (h.ts.map Tk.pv) = h.ts.map Tk.pv:=ltl (by simp)
 by_cases h3 : x.process = 0
 ·have hk : newK h x = ⟨h.next,h.next,x.group,x.user⟩:=by unfold newK; rw [if_pos h3]
  simp -implicitDefEqProofs (disch:=omega) only [vf93,vb93,hc,h1,h2,h3,htk,go_sem,↓reduceIte,rA,rS,rE,rL,reduceCtorEq]
  simp [hk,Tk.pv]
 ·have hk : newK h x = ⟨h.next,x.process,x.group,x.user⟩:=by unfold newK; rw [if_neg h3]
  simp -implicitDefEqProofs (disch:=omega) only [vf93,vb93,hc,h1,h2,h3,htk,go_sem,↓reduceIte,rA,rS,rE,rL,reduceCtorEq]
  simp [hk,Tk.pv]
set_option maxHeartbeats 4000000 in
theorem rspawn_ok (h : Hy) (g u : Int) (hm : memOk h = true) (hu0 : 0 <= u) (hu1 : u <= 1048576) (hg : (findT h.t g).isSome = true) (hf : ¬ fullH h) (h00 : 0 <= h.next) (hl : h.ts.length < 1000000) (hn : h.t.nodes.length < 1000000) :
  V 46 [h.vv,.p (.int .i64 g),.p (.int .i64 u)] [] = some (.tup [(addH h ⟨0,0,g,u⟩).fv,.p (.int .i64 h.next),.p (.int .i64 0)],[]):=by
 refine V_wp (vf:=vf46) rfl ?_
 have hc:=rmcheck_eq h hl hn
 rw [hm] at hc
 have hh:=rhas_eq h.t g hn
 rw [hg] at hh
 have ha:=rhadd_ok h ⟨0,0,g,u⟩ hf h00 hl hn
 generalize addH h ⟨0,0,g,u⟩ = h' at ha ⊢
 simp only [Tk.vv] at ha
 have hu0' : ¬ u < 0:=by omega
 have hu1' : ¬ 1048576 < u:=by omega
 have ht1 : List.take h'.t.nodes.length (h'.t.nodes.map Nd.pv) = h'.t.nodes.map Nd.pv:=ltl (by simp)
 have ht2 : List.take h'.ts.length (h'.ts.map Tk.pv) = h'.ts.map Tk.pv:=ltl (by simp)
 simp -implicitDefEqProofs (disch:=omega) only [vf46,vb46,hc,hh,hu0',hu1',ha,ht1,ht2,go_sem,↓reduceIte,rA,rS,rE,rL,reduceCtorEq]
theorem memOk_tree {h : Hy} (hm : memOk h = true) : treeOk h.t = true:=by
 unfold memOk at hm
 simp only [bat] at hm
 exact hm.1.2
theorem findN_self : ∀ {ns : List Nd},(ns.Pairwise fun a b=>a.id < b.id) -> ∀ {n : Nd},n ∈ ns -> findN ns n.id = some n
 | [],_,_,h=>by cases h
 | m :: ns,hp,n,h=>by
  obtain ⟨h1,h2⟩:=lpw.1 hp
  unfold findN
  rw [List.find?_cons]
  rcases lmk.1 h with rfl | h
  ·simp
  ·have:=h1 n h
   have hne : decide (m.id = n.id) = false:=decide_eq_false (by omega)
   rw [hne]
   exact findN_self h2 h
theorem treeOk_control {t : Tr} (ht : treeOk t = true) {n : Nd} (hn : n ∈ t.nodes) : 0 <= n.control /\ n.control <= 31:=by
 obtain ⟨i,hi⟩:=lgm hn
 have:=(nodesOk_iff _ _).1 ((treeOk_iff t).1 ht).nodes i n hi
 simp only [nodeOk,bat,decide_eq_true_eq] at this
 exact ⟨this.1.2.1,this.1.2.2.1⟩
theorem tab6 : ∀ m : Fin 32,antI .i64 (antI .i64 ((m.val : Nat) : Int) 6) 6 = antI .i64 ((m.val : Nat) : Int) 6:=by decide +kernel
theorem ant6 {c : Int} (h0 : 0 <= c) (h1 : c <= 31) : antI .i64 (antI .i64 c 6) 6 = antI .i64 c 6:=by
 have:=tab6 ⟨c.toNat,by omega⟩
 simp only at this
 rwa [show ((c.toNat : Nat) : Int) = c by omega] at this
theorem avail_from {t : Tr} (ht : treeOk t = true) {n : Nd} (hn : n ∈ t.nodes) : availR t n.id = fromV t n:=by
 have hf : findT t n.id = some n:=by
  rw [findT,if_pos ht]
  exact findN_self ((treeOk_iff t).1 ht).inc hn
 have hp : findT t n.parent = findN t.nodes n.parent:=by rw [findT,if_pos ht]
 unfold availR fromV upC actR
 rw [hf]
 simp only [hp]
 have hpc : 0 <= ((findN t.nodes n.parent).getD zeroNd).control /\ ((findN t.nodes n.parent).getD zeroNd).control <= 31:=by
  cases hq : findN t.nodes n.parent with
  | none=>exact ⟨Int.le_refl _,by decide⟩
  | some p=>exact treeOk_control ht (List.mem_of_find?_eq_some hq)
 generalize ((findN t.nodes n.parent).getD zeroNd).control = c at hpc ⊢
 by_cases h1 : n.id = 1
 ·simp only [if_pos h1]
 ·simp only [if_neg h1]
  by_cases hk : n.kind = 1
  ·simp only [if_pos hk]
   exact ant6 hpc.1 hpc.2
  .simp only [if_neg hk]
theorem all_node {h : Hy} (ht : treeOk h.t = true) : h.t.nodes.all (nodeR h) = h.t.nodes.all (nodeS h):=by
 have hn : ∀ n ∈ h.t.nodes,nodeR h n = nodeS h n:=fun n hn=>by
  unfold nodeR nodeS
  rw [avail_from ht hn]
 rw [Bool.eq_iff_iff,List.all_eq_true,List.all_eq_true]
 exact ⟨fun hh n hm=>by rw [<- hn n hm]; exact hh n hm,fun hh n hm=>by rw [hn n hm]; exact hh n hm⟩
theorem sound_eq (h : Hy) : soundR h = soundP h:=by
 have key : ∀ (b x y : Bool),(b = true -> x = y) -> (b && x) = (b && y):=fun b x y e=>by
  cases b
  .simp
  .rw [e rfl]
 exact key (memOk h) _ _ fun hm=>all_node (memOk_tree hm)
set_option maxHeartbeats 4000000 in
theorem rspawn_cases (h : Hy) (g u : Int) (h00 : 0 <= h.next) (hl : h.ts.length < 1000000) (hn : h.t.nodes.length < 1000000) :
  (memOk h = true /\ 0 <= u /\ u <= 1048576 /\ (findT h.t g).isSome = true /\ ¬ fullH h /\ V 46 [h.vv,.p (.int .i64 g),.p (.int .i64 u)] [] = some (.tup [(addH h ⟨0,0,g,u⟩).fv,.p (.int .i64 h.next),.p (.int .i64 0)],[])) \/
  ∃ e : Int,e ≠ 0 /\ V 46 [h.vv,.p (.int .i64 g),.p (.int .i64 u)] [] = some (.tup [noH,.p (.int .i64 0),.p (.int .i64 e)],[]):=by
 have hc:=rmcheck_eq h hl hn
 by_cases hm : memOk h = true
 ·rw [hm] at hc
  by_cases hu0 : u < 0
  ·refine .inr ⟨1,by decide,V_wp (vf:=vf46) rfl ?_⟩
   simp -implicitDefEqProofs (disch:=omega) only [vf46,vb46,hc,hu0,go_sem,↓reduceIte,rA,rS,rE,rL,reduceCtorEq]
  by_cases hu1 : 1048576 < u
  ·refine .inr ⟨1,by decide,V_wp (vf:=vf46) rfl ?_⟩
   simp -implicitDefEqProofs (disch:=omega) only [vf46,vb46,hc,hu0,hu1,go_sem,↓reduceIte,rA,rS,rE,rL,reduceCtorEq]
  have hh:=rhas_eq h.t g hn
  by_cases hg : (findT h.t g).isSome = true
  ·by_cases hf : fullH h
   ·rw [hg] at hh
    refine .inr ⟨7,by decide,V_wp (vf:=vf46) rfl ?_⟩
    have ha:=rhadd_full h ⟨0,0,g,u⟩ hf
    simp only [Tk.vv] at ha
    simp -implicitDefEqProofs (disch:=omega) only [vf46,vb46,hc,hu0,hu1,hh,ha,go_sem,↓reduceIte,rA,rS,rE,rL,reduceCtorEq]
   .exact .inl ⟨hm,by omega,by omega,hg,hf,rspawn_ok h g u hm (by omega) (by omega) hg hf h00 hl hn⟩
  ·have hg2 : (findT h.t g).isSome = false:=by simpa using hg
   rw [hg2] at hh
   refine .inr ⟨4,by decide,V_wp (vf:=vf46) rfl ?_⟩
   simp -implicitDefEqProofs (disch:=omega) only [vf46,vb46,hc,hu0,hu1,hh,go_sem,↓reduceIte,rA,rS,rE,rL,reduceCtorEq]
 ·have hm2 : memOk h = false:=by simpa using hm
  rw [hm2] at hc
  refine .inr ⟨1,by decide,V_wp (vf:=vf46) rfl ?_⟩
  simp -implicitDefEqProofs (disch:=omega) only [vf46,vb46,hc,go_sem,↓reduceIte,rA,rS,rE,rL,reduceCtorEq]
set_option maxHeartbeats 4000000 in
theorem rclone_cases (h : Hy) (id : Int) (h00 : 0 <= h.next) (hl : h.ts.length < 1000000) (hn : h.t.nodes.length < 1000000) :
  (∃ x,memOk h = true /\ findK h.ts id = some x /\ ¬ fullH h /\ V 48 [h.vv,.p (.int .i64 id)] [] = some (.tup [(addH h x).fv,.p (.int .i64 h.next),.p (.int .i64 0)],[])) \/
  ∃ e : Int,e ≠ 0 /\ V 48 [h.vv,.p (.int .i64 id)] [] = some (.tup [noH,.p (.int .i64 0),.p (.int .i64 e)],[]):=by
 have hc:=rmcheck_eq h hl hn
 have hfi:=rfindK_eq h id hl hn
 unfold findM at hfi
 by_cases hm : memOk h = true
 ·rw [hm] at hc
  rw [if_pos hm] at hfi
  cases hq : findK h.ts id with
  | none =>
   rw [hq] at hfi
   simp only [Option.getD_none,Option.isSome_none,Tk.vv] at hfi
   refine .inr ⟨4,by decide,V_wp (vf:=vf48) rfl ?_⟩
   simp -implicitDefEqProofs (disch:=omega) only [vf48,vb48,hc,hfi,go_sem,↓reduceIte,rA,rS,rE,rL,reduceCtorEq]
  | some x =>
   rw [hq] at hfi
   simp only [Option.getD_some,Option.isSome_some,Tk.vv] at hfi
   by_cases hf : fullH h
   ·have ha:=rhadd_full h x hf
    simp only [Tk.vv] at ha
    refine .inr ⟨7,by decide,V_wp (vf:=vf48) rfl ?_⟩
    simp -implicitDefEqProofs (disch:=omega) only [vf48,vb48,hc,hfi,ha,go_sem,↓reduceIte,rA,rS,rE,rL,reduceCtorEq]
   ·have ha:=rhadd_ok h x hf h00 hl hn
    refine .inl ⟨x,hm,rfl,hf,V_wp (vf:=vf48) rfl ?_⟩
    generalize addH h x = h' at ha ⊢
    simp only [Tk.vv] at ha
    have ht1 : List.take h'.t.nodes.length (h'.t.nodes.map Nd.pv) = h'.t.nodes.map Nd.pv:=ltl (by simp)
    have ht2 : List.take h'.ts.length (h'.ts.map Tk.pv) = h'.ts.map Tk.pv:=ltl (by simp)
    simp -implicitDefEqProofs (disch:=omega) only [vf48,vb48,hc,hfi,ha,ht1,ht2,go_sem,↓reduceIte,rA,rS,rE,rL,reduceCtorEq]
 ·have hm2 : memOk h = false:=by simpa using hm
  rw [hm2] at hc
  refine .inr ⟨1,by decide,V_wp (vf:=vf48) rfl ?_⟩
  simp -implicitDefEqProofs (disch:=omega) only [vf48,vb48,hc,go_sem,↓reduceIte,rA,rS,rE,rL,reduceCtorEq]
def setN (ns : List Nd) (x : Nd) : List Nd:=ns.map fun n=>if n.id = x.id then x else n
theorem setN_len (ns : List Nd) (x : Nd) : (setN ns x).length = ns.length:=by simp [setN]
def setK (ns : List Nd) (x : Nd) (k : Nat) : List Nd:=setN (ns.take k) x ++ ns.drop k
theorem setK_len (ns : List Nd) (x : Nd) (k : Nat) : (setK ns x k).length = ns.length:=by
 unfold setK
 rw [lla,setN_len,llt,lld]
 omega
theorem setK_at {ns : List Nd} {x n : Nd} {k : Nat} (h : ns[k]? = some n) : (setK ns x k)[k]? = some n:=by
 have hk:=(lgs.1 h).1
 unfold setK
 rw [lgr (by rw [setN_len,llt]; omega),setN_len,llt,Nat.min_eq_left (by omega),Nat.sub_self,List.getElem?_drop]
 simpa using h
theorem setK_succ {ns : List Nd} {x n : Nd} {k : Nat} (h : ns[k]? = some n) : setK ns x (k + 1) = (setK ns x k).set k (if n.id = x.id then x else n):=by
 have hk:=(lgs.1 h).1
 have hd : ns.drop k = n :: ns.drop (k + 1):=by rw [ldg hk,(lgs.1 h).2]
 have ht : ns.take (k + 1) = ns.take k ++ [n]:=take_snoc h
 have hl : (setN (ns.take k) x).length = k:=by rw [setN_len,llt]; omega
 unfold setK
 rw [ht,hd,List.set_append_right _ _ (by omega),hl,Nat.sub_self,List.set_cons_zero]
 simp [setN]
set_option maxHeartbeats 4000000 in
theorem rset_eq (t : Tr) (x : Nd) (hn : t.nodes.length < 1000000) : V 67 [t.vv,x.vv] [] = some ((⟨setN t.nodes x,t.next⟩ : Tr).fv,[]):=by
 refine V_wp (vf:=vf67) rfl ?_
 have hc:=rcopy_eq t hn
 simp -implicitDefEqProofs (disch:=omega) only [vf67,vb67,hc,go_sem,↓reduceIte,rA,rS,rE,rL,reduceCtorEq]
 obtain ⟨I,hI⟩ : ∃ I : Nat -> St -> Prop,∀ k s,I k s ↔ s.pe 3 = .ptr (.slot 3 0) 0 0 /\ s.pe 4 = .ptr (.slot 4 0) 0 0 /\ s.pe 5 = .ptr (.slot 5 0) 0 0 /\ s.pe 6 = .p (.int .i64 k) /\ s.h (.slot 3 0) = some (0,Ob.box [.p (.int .i64 x.id),.p (.int .i64 x.parent),.p (PV.str x.name),.p (.int .i64 x.control),.p (.int .i64 x.kind),.p (.int .i64 x.owner)]) /\ s.h (.slot 4 0) = some (0,Ob.box [.own (.slot 4 1) 0 0 0,.p (.int .i64 0)]) /\ s.h (.slot 4 1) = some (0,Ob.arr 6 []) /\ s.h (.slot 5 0) = some (0,Ob.box [.own (.slot 8 1) 0 0 t.nodes.length,.p (.int .i64 t.next)]) /\ s.h (.slot 8 1) = some (0,Ob.arr 6 ((setK t.nodes x k).map Nd.pv)):=⟨_,fun _ _=>Iff.rfl⟩
 refine wp_count (t.nodes.length) I ?_ ?_
 ·refine (hI _ _).2 ⟨?_,?_,?_,?_,?_,?_,?_,?_,?_⟩
  all_goals exact cl0
 intro k s hk hIk
 obtain ⟨h3,h4,h5,h6,hh3_0,hh4_0,hh4_1,hh5_0,hh8_1⟩:=(hI _ _).1 hIk
 clear hIk
 have hlk:=setK_len t.nodes x k
 simp -implicitDefEqProofs (disch:=omega) only [h3,h4,h5,h6,hh3_0,hh4_0,hh4_1,hh5_0,hh8_1,go_sem,↓reduceIte,rA,rS,rE,rL,reduceCtorEq]
 refine wp_if_d (fun hlt=>?_) (fun hge=>?_)
 ·have hc : t.nodes[k]? = some t.nodes[k]:=lgg (by omega)
  generalize t.nodes[k] = n at hc
  have hat:=setK_at (x:=x) hc
  have hsu:=setK_succ (x:=x) hc
  have hset : ∀ m : Nd,((setK t.nodes x k).map Nd.pv).set k m.pv = ((setK t.nodes x k).set k m).map Nd.pv:=fun m=>by rw [List.map_set]
  by_cases hx : n.id = x.id
  ·rw [if_pos hx] at hsu
   have hset1:=hset x
   rw [<- hsu] at hset1
   have hset2 : ((setK t.nodes x k).map Nd.pv).set k (.agg [.int .i64 x.id,.int .i64 x.parent,.str x.name,.int .i64 x.control,.int .i64 x.kind,.int .i64 x.owner]) = (setK t.nodes x (k + 1)).map Nd.pv:=hset1
   clear hset1 hset hsu
   simp -implicitDefEqProofs (disch:=omega) only [h3,h4,h5,h6,hh3_0,hh4_0,hh4_1,hh5_0,hh8_1,hlt,hat,hx,hset2,go_sem,↓reduceIte,rA,rS,rE,rL,reduceCtorEq]
   try refine And.intro (by omega) ?_
   refine (hI _ _).2 ⟨?_,?_,?_,?_,?_,?_,?_,?_,?_⟩
   all_goals exact cl0
  ·rw [if_neg hx] at hsu
   have hself : (setK t.nodes x k).set k n = setK t.nodes x k:=by
    apply List.ext_getElem?
    intro j
    rw [List.getElem?_set]
    by_cases hj : k = j
    ·subst hj
     rw [if_pos rfl,if_pos (by omega),hat]
    .rw [if_neg hj]
   rw [hself] at hsu
   simp -implicitDefEqProofs (disch:=omega) only [h3,h4,h5,h6,hh3_0,hh4_0,hh4_1,hh5_0,hh8_1,hlt,hat,hx,go_sem,↓reduceIte,rA,rS,rE,rL,reduceCtorEq]
   try refine And.intro (by omega) ?_
   refine (hI _ _).2 ⟨?_,?_,?_,?_,?_,?_,?_,?_,?_⟩
   all_goals exact cl0
 ·have hk : k = t.nodes.length:=by omega
  have hend : setK t.nodes x k = setN t.nodes x:=by
   unfold setK
   rw [ltl (by omega),ldl (by omega),lan]
  have htk : List.take t.nodes.length ((setN t.nodes x).map Nd.pv) = (setN t.nodes x).map Nd.pv:=ltl (Nat.le_of_eq (by rw [llm,setN_len]))
  rw [hend] at hh8_1 hlk
  simp -implicitDefEqProofs (disch:=omega) only [h3,h4,h5,h6,hh3_0,hh4_0,hh4_1,hh5_0,hh8_1,hge,htk,go_sem,↓reduceIte,rA,rS,rE,rL,reduceCtorEq]
def moveK (id g : Int) (x : Tk) : Tk:=if x.id = id then ⟨x.id,x.process,g,x.user⟩ else x
def moveL (id g : Int) (ts : List Tk) : List Tk:=ts.map (moveK id g)
def moveN (id g : Int) (ts : List Tk) (k : Nat) : List Tk:=moveL id g (ts.take k) ++ ts.drop k
theorem moveN_len (id g : Int) (ts : List Tk) (k : Nat) : (moveN id g ts k).length = ts.length:=by
 unfold moveN moveL
 rw [lla,llm,llt,lld]
 omega
theorem moveN_at {id g : Int} {ts : List Tk} {x : Tk} {k : Nat} (h : ts[k]? = some x) : (moveN id g ts k)[k]? = some x:=by
 have hk:=(lgs.1 h).1
 unfold moveN moveL
 rw [lgr (by rw [llm,llt]; omega),llm,llt,Nat.min_eq_left (by omega),Nat.sub_self,List.getElem?_drop]
 simpa using h
theorem moveN_succ {id g : Int} {ts : List Tk} {x : Tk} {k : Nat} (h : ts[k]? = some x) : moveN id g ts (k + 1) = (moveN id g ts k).set k (moveK id g x):=by
 have hk:=(lgs.1 h).1
 have hd : ts.drop k = x :: ts.drop (k + 1):=by rw [ldg hk,(lgs.1 h).2]
 have ht : ts.take (k + 1) = ts.take k ++ [x]:=take_snoc h
 have hl : (moveL id g (ts.take k)).length = k:=by unfold moveL; rw [llm,llt]; omega
 unfold moveN
 rw [ht,hd,List.set_append_right _ _ (by omega),hl,Nat.sub_self,List.set_cons_zero]
 simp [moveL]
set_option maxHeartbeats 8000000 in
theorem rplace_ok (h : Hy) (id g : Int) (hm : memOk h = true) (hk : (findK h.ts id).isSome = true) (hg : (findT h.t g).isSome = true) (hl : h.ts.length < 1000000) (hn : h.t.nodes.length < 1000000) :
  V 96 [h.vv,.p (.int .i64 id),.p (.int .i64 g)] [] = some (.tup [(⟨h.t,moveL id g h.ts,h.next⟩ : Hy).fv,.p (.int .i64 0)],[]):=by
 refine V_wp (vf:=vf96) rfl ?_
 have hc:=rmcheck_eq h hl hn
 rw [hm] at hc
 have hfi:=rfindK_eq h id hl hn
 unfold findM at hfi
 rw [if_pos hm,hk] at hfi
 unfold Tk.vv at hfi
 have hh:=rhas_eq h.t g hn
 rw [hg] at hh
 have hcp:=rhcopy_eq h hl hn
 simp -implicitDefEqProofs (disch:=omega) only [vf96,vb96,hc,hfi,hh,hcp,go_sem,↓reduceIte,rA,rS,rE,rL,reduceCtorEq]
 obtain ⟨I,hI⟩ : ∃ I : Nat -> St -> Prop,∀ k s,I k s ↔ s.pe 1 = .p (.int .i64 id) /\ s.pe 2 = .p (.int .i64 g) /\ s.pe 6 = .ptr (.slot 6 0) 0 0 /\ s.pe 10 = .ptr (.slot 10 0) 0 0 /\ s.pe 11 = .p (.int .i64 k) /\ s.h (.slot 6 0) = some (0,Ob.box [.own (.slot 6 1) 0 0 0,.p (.int .i64 0),.own (.slot 6 3) 0 0 0,.p (.int .i64 0)]) /\ s.h (.slot 6 1) = some (0,Ob.arr 6 []) /\ s.h (.slot 6 3) = some (0,Ob.arr 4 []) /\ s.h (.slot 10 0) = some (0,Ob.box [.own (.slot 33 1) 0 0 h.t.nodes.length,.p (.int .i64 h.t.next),.own (.slot 33 3) 0 0 h.ts.length,.p (.int .i64 h.next)]) /\ s.h (.slot 33 1) = some (0,Ob.arr 6 (List.map Nd.pv h.t.nodes)) /\ s.h (.slot 33 3) = some (0,Ob.arr 4 ((moveN id g h.ts k).map Tk.pv)):=⟨_,fun _ _=>Iff.rfl⟩
 refine wp_count (h.ts.length) I ?_ ?_
 ·refine (hI _ _).2 ⟨?_,?_,?_,?_,?_,?_,?_,?_,?_,?_,?_⟩
  all_goals exact cl0
 intro k s hk hIk
 obtain ⟨h1,h2,h6,h10,h11,hh6_0,hh6_1,hh6_3,hh10_0,hh33_1,hh33_3⟩:=(hI _ _).1 hIk
 clear hIk
 have hlk:=moveN_len id g h.ts k
 simp -implicitDefEqProofs (disch:=omega) only [h1,h2,h6,h10,h11,hh6_0,hh6_1,hh6_3,hh10_0,hh33_1,hh33_3,go_sem,↓reduceIte,rA,rS,rE,rL,reduceCtorEq]
 refine wp_if_d (fun hlt=>?_) (fun hge=>?_)
 ·have hc : h.ts[k]? = some h.ts[k]:=lgg (by omega)
  generalize h.ts[k] = x at hc
  have hat:=moveN_at (id:=id) (g:=g) hc
  have hsu:=moveN_succ (id:=id) (g:=g) hc
  have hset : ∀ m : Tk,((moveN id g h.ts k).map Tk.pv).set k m.pv = ((moveN id g h.ts k).set k m).map Tk.pv:=fun m=>by rw [List.map_set]
  by_cases hx : x.id = id
  ·have hset1:=hset (moveK id g x)
   rw [<- hsu] at hset1
   unfold moveK at hset1
   rw [if_pos hx] at hset1
   have hset2 : ((moveN id g h.ts k).map Tk.pv).set k (.agg [.int .i64 x.id,.int .i64 x.process,.int .i64 g,.int .i64 x.user]) = (moveN id g h.ts (k + 1)).map Tk.pv:=hset1
   rw [hx] at hset2
   clear hset1 hset hsu
   simp -implicitDefEqProofs (disch:=omega) only [h1,h2,h6,h10,h11,hh6_0,hh6_1,hh6_3,hh10_0,hh33_1,hh33_3,hlt,hat,hx,hset2,go_sem,↓reduceIte,rA,rS,rE,rL,reduceCtorEq]
   try refine And.intro (by omega) ?_
   refine (hI _ _).2 ⟨?_,?_,?_,?_,?_,?_,?_,?_,?_,?_,?_⟩
   all_goals exact cl0
  ·have hself : (moveN id g h.ts k).set k (moveK id g x) = moveN id g h.ts k:=by
    unfold moveK
    rw [if_neg hx]
    apply List.ext_getElem?
    intro j
    rw [List.getElem?_set]
    by_cases hj : k = j
    ·subst hj
     rw [if_pos rfl,if_pos (by omega),hat]
    .rw [if_neg hj]
   rw [hself] at hsu
   simp -implicitDefEqProofs (disch:=omega) only [h1,h2,h6,h10,h11,hh6_0,hh6_1,hh6_3,hh10_0,hh33_1,hh33_3,hlt,hat,hx,go_sem,↓reduceIte,rA,rS,rE,rL,reduceCtorEq]
   try refine And.intro (by omega) ?_
   refine (hI _ _).2 ⟨?_,?_,?_,?_,?_,?_,?_,?_,?_,?_,?_⟩
   all_goals exact cl0
 ·have hk : k = h.ts.length:=by omega
  have hend : moveN id g h.ts k = moveL id g h.ts:=by
   unfold moveN
   rw [ltl (by omega),ldl (by omega),lan]
  rw [hend] at hh33_3 hlk
  have htk1 : List.take h.t.nodes.length (h.t.nodes.map Nd.pv) = h.t.nodes.map Nd.pv:=ltl (by simp)
  have htk2 : List.take h.ts.length ((moveL id g h.ts).map Tk.pv) = (moveL id g h.ts).map Tk.pv:=ltl (Nat.le_of_eq (by rw [llm,hlk]))
  simp -implicitDefEqProofs (disch:=omega) only [h1,h2,h6,h10,h11,hh6_0,hh6_1,hh6_3,hh10_0,hh33_1,hh33_3,hge,htk1,htk2,go_sem,↓reduceIte,rA,rS,rE,rL,reduceCtorEq]
def stayB (id : Int) (x : Tk) : Bool:=decide (x.id ≠ id) && decide (x.process ≠ id)
def exitL (id : Int) (ts : List Tk) : List Tk:=ts.filter (stayB id)
theorem exitL_cons (id : Int) (x : Tk) (r : List Tk) : exitL id (x :: r) = (if stayB id x = true then [x] else []) ++ exitL id r:=by
 unfold exitL
 rw [lfl]
 split <;> simp
set_option maxHeartbeats 8000000 in
theorem rexit_ok (h : Hy) (id : Int) (hm : memOk h = true) (hk : (findK h.ts id).isSome = true) (hl : h.ts.length < 1000000) (hn : h.t.nodes.length < 1000000) :
  V 51 [h.vv,.p (.int .i64 id)] [] = some (.tup [(⟨h.t,exitL id h.ts,h.next⟩ : Hy).fv,.p (.int .i64 0)],[]):=by
 refine V_wp (vf:=vf51) rfl ?_
 have hc:=rmcheck_eq h hl hn
 rw [hm] at hc
 have hfi:=rfindK_eq h id hl hn
 unfold findM at hfi
 rw [if_pos hm,hk] at hfi
 unfold Tk.vv at hfi
 have hcp:=rcopy_eq h.t hn
 simp -implicitDefEqProofs (disch:=omega) only [vf51,vb51,hc,hfi,hcp,go_sem,↓reduceIte,rA,rS,rE,rL,reduceCtorEq]
 obtain ⟨I,hI⟩ : ∃ I : Nat -> St -> Prop,∀ k s,I k s ↔ ∃ (acc : List Tk) (w : Nat),exitL id h.ts = acc ++ exitL id (h.ts.drop k) /\ acc.length <= k /\ s.pe 1 = .p (.int .i64 id) /\ s.pe 2 = .ptr (.slot 2 0) 0 0 /\ s.pe 4 = .ptr (.slot 4 0) 0 0 /\ s.pe 8 = .ptr (.slot 8 0) 0 0 /\ s.pe 9 = .p (.int .i64 k) /\ s.h (.slot 2 0) = some (0,Ob.box [.p (nodesP h.t.nodes),.p (.int .i64 h.t.next),.p (tasksP h.ts),.p (.int .i64 h.next)]) /\ s.h (.slot 4 0) = some (0,Ob.box [.own (.slot 4 1) 0 0 0,.p (.int .i64 0),.own (.slot 4 3) 0 0 0,.p (.int .i64 0)]) /\ s.h (.slot 4 1) = some (0,Ob.arr 6 []) /\ s.h (.slot 4 3) = some (0,Ob.arr 4 []) /\ s.h (.slot 8 0) = some (0,Ob.box [.own (.slot 26 1) 0 0 h.t.nodes.length,.p (.int .i64 h.t.next),.own (.slot 29 3) w 0 acc.length,.p (.int .i64 h.next)]) /\ s.h (.slot 26 1) = some (0,Ob.arr 6 (List.map Nd.pv h.t.nodes)) /\ s.h (.slot 29 3) = some (w,Ob.arr 4 (acc.map Tk.pv)):=⟨_,fun _ _=>Iff.rfl⟩
 refine wp_count (h.ts.length) I ?_ ?_
 ·refine (hI _ _).2 ⟨[],0,?_,?_,?_,?_,?_,?_,?_,?_,?_,?_,?_,?_,?_,?_⟩
  ·rfl
  ·exact cl3
  all_goals exact cl0
 intro k s hk hIk
 obtain ⟨acc,w,hq,hac,h1,h2,h4,h8,h9,hh2_0,hh4_0,hh4_1,hh4_3,hh8_0,hh26_1,hh29_3⟩:=(hI _ _).1 hIk
 clear hIk
 have htk : List.take acc.length (acc.map Tk.pv) = acc.map Tk.pv:=ltl (by simp)
 simp -implicitDefEqProofs (disch:=omega) only [h1,h2,h4,h8,h9,hh2_0,hh4_0,hh4_1,hh4_3,hh8_0,hh26_1,hh29_3,go_sem,↓reduceIte,rA,rS,rE,rL,reduceCtorEq]
 refine wp_if_d (fun hlt=>?_) (fun hge=>?_)
 ·have hc : h.ts[k]? = some h.ts[k]:=lgg (by omega)
  have hdr : h.ts.drop k = h.ts[k] :: h.ts.drop (k + 1):=ldg (by omega)
  generalize h.ts[k] = x at hc hdr
  rw [hdr,exitL_cons] at hq
  by_cases h1x : x.id = id
  ·have hs : stayB id x = false:=by simp [stayB,h1x]
   rw [hs,if_neg Bool.false_ne_true,lna] at hq
   have hn1 : ¬ x.id ≠ id:=fun e=>e h1x
   simp -implicitDefEqProofs (disch:=omega) only [h1,h2,h4,h8,h9,hh2_0,hh4_0,hh4_1,hh4_3,hh8_0,hh26_1,hh29_3,hlt,hc,h1x,go_sem,↓reduceIte,rA,rS,rE,rL,reduceCtorEq]
   try refine And.intro (by omega) ?_
   refine (hI _ _).2 ⟨acc,w,?_,?_,?_,?_,?_,?_,?_,?_,?_,?_,?_,?_,?_,?_⟩
   ·exact hq
   ·omega
   all_goals exact cl0
  ·by_cases h2x : x.process = id
   ·have hs : stayB id x = false:=by simp [stayB,h2x]
    rw [hs,if_neg Bool.false_ne_true,lna] at hq
    simp -implicitDefEqProofs (disch:=omega) only [h1,h2,h4,h8,h9,hh2_0,hh4_0,hh4_1,hh4_3,hh8_0,hh26_1,hh29_3,hlt,hc,h1x,h2x,go_sem,↓reduceIte,rA,rS,rE,rL,reduceCtorEq]
    try refine And.intro (by omega) ?_
    refine (hI _ _).2 ⟨acc,w,?_,?_,?_,?_,?_,?_,?_,?_,?_,?_,?_,?_,?_,?_⟩
    .exact hq
    .omega
    all_goals exact cl0
   ·have hs : stayB id x = true:=by simp [stayB,h1x,h2x]
    rw [hs,if_pos rfl] at hq
    have hq2 : exitL id h.ts = (acc ++ [x]) ++ exitL id (h.ts.drop (k + 1)):=by rw [hq]; simp
    clear hq
    simp -implicitDefEqProofs (disch:=omega) only [h1,h2,h4,h8,h9,hh2_0,hh4_0,hh4_1,hh4_3,hh8_0,hh26_1,hh29_3,hlt,hc,h1x,h2x,htk,go_sem,↓reduceIte,rA,rS,rE,rL,reduceCtorEq]
    try refine And.intro (by omega) ?_
    refine (hI _ _).2 ⟨acc ++ [x],w + 1,?_,?_,?_,?_,?_,?_,?_,?_,?_,?_,?_,?_,?_,?_⟩
    .exact hq2
    .exact by rw [lla]; simp only [llc,lln]; omega
    all_goals exact cl0
 ·rw [ldl (by omega),show exitL id [] = [] from rfl,lan] at hq
  have htk1 : List.take h.t.nodes.length (h.t.nodes.map Nd.pv) = h.t.nodes.map Nd.pv:=ltl (by simp)
  rw [hq]
  simp -implicitDefEqProofs (disch:=omega) only [h1,h2,h4,h8,h9,hh2_0,hh4_0,hh4_1,hh4_3,hh8_0,hh26_1,hh29_3,hge,htk1,htk,go_sem,↓reduceIte,rA,rS,rE,rL,reduceCtorEq]
def ctlV (L : List Int) (a : Nat) : Int:=([1,9,31,2,25,4,0,32,-1] : List Int).getD (nextV L a 9).toNat 0
theorem dctl_eq (L : List Int) (a : Nat) (hL : L.length < 4611686018427387904) : V 25 [.ptr (.arg 0 0) 0 0] [diceB L a] = some (.p (.int .i64 (ctlV L a)),[diceB L (nextA L a 9)]):=by
 refine V_wp (vf:=vf25) rfl ?_
 have hc:=next_eq L a 9 hL (by omega)
 have h0:=nextV_nonneg L a 9
 have h1:=nextV_lt L a (n:=9) (by omega)
 have hg : ([.int .i64 1,.int .i64 9,.int .i64 31,.int .i64 2,.int .i64 25,.int .i64 4,.int .i64 0,.int .i64 32,.int .i64 (-1)] : List PV)[(nextV L a 9).toNat]? = some (.int .i64 (ctlV L a)):=by
  unfold ctlV
  have hi : (nextV L a 9).toNat < 9:=by omega
  generalize (nextV L a 9).toNat = i at hi ⊢
  match i,hi with
  | 0,_=>rfl
  | 1,_=>rfl
  | 2,_=>rfl
  | 3,_=>rfl
  | 4,_=>rfl
  | 5,_=>rfl
  | 6,_=>rfl
  | 7,_=>rfl
  | 8,_=>rfl
 simp -implicitDefEqProofs (disch:=omega) only [vf25,vb25,hc,h0,hg,go_sem,↓reduceIte,rA,rS,rE,rL,reduceCtorEq]
theorem dtask_ok (L : List Int) (a : Nat) (h : Hy) (hL : L.length < 4611686018427387904) (hl : h.ts.length < 1000000) (hn : h.t.nodes.length < 1000000) : ∃ (id : Int) (a' : Nat),V 49 [.ptr (.arg 0 0) 0 0,h.vv] [diceB L a] = some (.p (.int .i64 id),[diceB L a']):=by
 have hb:=bool_eq L a 15 hL (by omega) (by omega)
 generalize nextA L a 15 = a1 at hb
 generalize decide (nextV L a 15 = 15 - 1) = bo at hb
 have h9:=next_eq L a1 9 hL (by omega)
 have h90:=nextV_nonneg L a1 9
 have h91:=nextV_lt L a1 (n:=9) (by omega)
 have hw : IntKind.i64.wrap (nextV L a1 9 - 1) = nextV L a1 9 - 1:=wrap64 (by omega) (by omega)
 cases bo
 ·by_cases hz : h.ts.length = 0
  ·have hz1 : (h.ts.length : Int) = 0:=by omega
   refine ⟨nextV L a1 9 - 1,nextA L a1 9,V_wp (vf:=vf49) rfl ?_⟩
   simp -implicitDefEqProofs (disch:=omega) only [vf49,vb49,hb,hz1,h9,go_sem,↓reduceIte,rA,rS,rE,rL,reduceCtorEq]
  ·have hz1 : ¬ (h.ts.length : Int) = 0:=by omega
   have hk:=next_eq L a1 h.ts.length hL (by omega)
   have hk0:=nextV_nonneg L a1 h.ts.length
   have hk1:=nextV_lt L a1 (n:=h.ts.length) (by omega)
   have hx : h.ts[(nextV L a1 h.ts.length).toNat]? = some (h.ts[(nextV L a1 h.ts.length).toNat]'(by omega)):=lgg (by omega)
   generalize h.ts[(nextV L a1 h.ts.length).toNat]'(by omega) = x at hx
   refine ⟨x.id,nextA L a1 h.ts.length,V_wp (vf:=vf49) rfl ?_⟩
   simp -implicitDefEqProofs (disch:=omega) only [vf49,vb49,hb,hz1,hk,hk0,hx,go_sem,↓reduceIte,rA,rS,rE,rL,reduceCtorEq]
 ·refine ⟨nextV L a1 9 - 1,nextA L a1 9,V_wp (vf:=vf49) rfl ?_⟩
  simp -implicitDefEqProofs (disch:=omega) only [vf49,vb49,hb,h9,go_sem,↓reduceIte,rA,rS,rE,rL,reduceCtorEq]
set_option maxHeartbeats 4000000 in
theorem domain_ok (t : Tr) (id : Int) (hn : t.nodes.length < 1000000) : ∃ (d : Int) (b : Bool),V 95 [t.vv,.p (.int .i64 id)] [] = some (.tup [.p (.int .i64 d),.p (.bool b)],[]):=by
 suffices hw : wp (callF V vf95 [t.vv,.p (.int .i64 id)] []) (fun r=>∃ (d : Int) (b : Bool),r = (.tup [.p (.int .i64 d),.p (.bool b)],[])) by
  obtain ⟨r,hr,d,b,rfl⟩:=hw
  exact ⟨d,b,V_fix (f:=95) (vf:=vf95) rfl hr⟩
 have ha:=ranc_eq t id hn
 have hal : (ancR t id).length < 1000000:=by
  have h1:=upR_length t.nodes.reverse id
  rw [List.length_reverse] at h1
  unfold ancR
  split
  ·show (upR t.nodes.reverse id).length < _
   omega
  ·simp
 generalize ancR t id = l at ha hal
 simp -implicitDefEqProofs (disch:=omega) only [vf95,vb95,ha,go_sem,↓reduceIte,rA,rS,rE,rL,reduceCtorEq]
 obtain ⟨I,hI⟩ : ∃ I : Nat -> St -> Prop,∀ k s,I k s ↔ s.pe 2 = .ptr (.slot 2 0) 0 0 /\ s.pe 6 = .own (.slot 12 1) 0 0 l.length /\ s.pe 7 = .p (.int .i64 k) /\ s.h (.slot 2 0) = some (0,Ob.box [.p (nodesP t.nodes),.p (.int .i64 t.next)]) /\ s.h (.slot 12 1) = some (0,Ob.arr 1 (List.map (.int .i64) l)):=⟨_,fun _ _=>Iff.rfl⟩
 refine wp_count (l.length) I ?_ ?_
 ·refine (hI _ _).2 ⟨?_,?_,?_,?_,?_⟩
  all_goals exact cl0
 intro k s hk hIk
 obtain ⟨h2,h6,h7,hh2_0,hh12_1⟩:=(hI _ _).1 hIk
 clear hIk
 simp -implicitDefEqProofs (disch:=omega) only [h2,h6,h7,hh2_0,hh12_1,go_sem,↓reduceIte,rA,rS,rE,rL,reduceCtorEq]
 refine wp_if_d (fun hlt=>?_) (fun hge=>?_)
 ·have hc : l[k]? = some l[k]:=lgg (by omega)
  generalize l[k] = g at hc
  have hfi:=rfind_eq t g hn
  generalize (findT t g).isSome = b0 at hfi
  generalize (findT t g).getD zeroNd = x at hfi
  unfold Nd.vv at hfi
  by_cases hk1 : x.kind = 1
  ·simp -implicitDefEqProofs (disch:=omega) only [h2,h6,h7,hh2_0,hh12_1,hlt,hc,hfi,hk1,go_sem,↓reduceIte,rA,rS,rE,rL,reduceCtorEq]
   try refine And.intro (by omega) ?_
   refine (hI _ _).2 ⟨?_,?_,?_,?_,?_⟩
   all_goals exact cl0
  ·simp -implicitDefEqProofs (disch:=omega) only [h2,h6,h7,hh2_0,hh12_1,hlt,hc,hfi,hk1,go_sem,↓reduceIte,rA,rS,rE,rL,reduceCtorEq]
   exact ⟨_,_,rfl⟩
 ·simp -implicitDefEqProofs (disch:=omega) only [h2,h6,h7,hh2_0,hh12_1,hge,go_sem,↓reduceIte,rA,rS,rE,rL,reduceCtorEq]
  exact ⟨_,_,rfl⟩
theorem findN_first {t : Tr} (ht : treeOk t = true) {i : Nat} {x : Nd} (hx : t.nodes[i]? = some x) (hi : 0 < i) : ∃ (j : Nat) (p : Nd),j < i /\ t.nodes[j]? = some p /\ p.id = x.parent:=by
 have hno:=(nodesOk_iff _ _).1 ((treeOk_iff t).1 ht).nodes i x hx
 rw [lna] at hno
 have hil:=(lgs.1 hx).1
 obtain ⟨l,hl⟩ : ∃ l,(t.nodes.take i).getLast? = some l:=by
  cases hq : (t.nodes.take i).getLast? with
  | none =>
   rw [List.getLast?_eq_none_iff] at hq
   have:=congrArg List.length hq
   rw [llt,lln] at this
   omega
  | some l=>exact ⟨l,rfl⟩
 obtain ⟨_,_,_,_,p,hp,he⟩:=(nodeOk_some hl).1 hno
 obtain ⟨j,hj⟩:=lgm hp
 have hjl:=(lgs.1 hj).1
 rw [llt] at hjl
 rw [List.getElem?_take,if_pos (by omega)] at hj
 exact ⟨j,p,by omega,hj,he⟩
theorem findT_pos {t : Tr} {id : Int} {x : Nd} (hx : findT t id = some x) : treeOk t = true /\ ∃ i : Nat,t.nodes[i]? = some x /\ x.id = id:=by
 unfold findT at hx
 split at hx
 ·rename_i ht
  obtain ⟨i,hi⟩:=lgm (List.mem_of_find?_eq_some hx)
  have:=List.find?_some hx
  exact ⟨ht,i,hi,by simpa using this⟩
 .cases hx
theorem inc_lt {t : Tr} (h : TreeOk t) {i j : Nat} {x y : Nd} (hi : t.nodes[i]? = some x) (hj : t.nodes[j]? = some y) (he : x.id = y.id) : i = j:=by
 obtain ⟨hil,hix⟩:=lgs.1 hi
 obtain ⟨hjl,hjy⟩:=lgs.1 hj
 have hp:=List.pairwise_iff_getElem.1 h.inc
 rcases Nat.lt_trichotomy i j with h1 | h1 | h1
 ·have:=hp i j hil hjl h1
  rw [hix,hjy] at this
  omega
 ·exact h1
 ·have:=hp j i hjl hil h1
  rw [hix,hjy] at this
  omega
theorem par_lt {t : Tr} (h : TreeOk t) {i j : Nat} {x p : Nd} (hi : t.nodes[i]? = some x) (hj : t.nodes[j]? = some p) (he : p.id = x.parent) : j < i:=by
 have ht:=(treeOk_iff t).2 h
 rcases Nat.eq_zero_or_pos i with h0 | h0
 ·subst h0
  obtain ⟨r,ns,hr,h1,h2⟩:=h.root
  rw [hr] at hi
  cases hi
  have h3 : p.id ≥ 1:=by
   rcases Nat.eq_zero_or_pos j with h0 | h0
   ·subst h0
    rw [hr] at hj
    cases hj
    omega
   ·have hp:=List.pairwise_iff_getElem.1 h.inc 0 j (by rw [hr]; simp) (lgs.1 hj).1 h0
    rw [(lgs.1 hj).2] at hp
    simp only [hr,List.getElem_cons_zero] at hp
    omega
  omega
 ·obtain ⟨j',p',hlt,hj',he'⟩:=findN_first ht hi h0
  have:=inc_lt h hj hj' (by omega)
  omega
set_option maxHeartbeats 4000000 in
theorem type_step (t : Tr) (id : Int) (hn : t.nodes.length < 1000000)
  (ih : ∀ p,findT t ((findT t id).getD zeroNd).parent = some p -> ∃ v : Int,V 91 [t.vv,.p (.int .i64 p.id)] [] = some (.p (.int .i64 v),[])) :
  ∃ v : Int,V 91 [t.vv,.p (.int .i64 id)] [] = some (.p (.int .i64 v),[]):=by
 suffices hw : wp (callF V vf91 [t.vv,.p (.int .i64 id)] []) (fun r=>∃ (v : Int),r = (.p (.int .i64 v),[])) by
  obtain ⟨r,hr,d,rfl⟩:=hw
  exact ⟨d,V_fix (f:=91) (vf:=vf91) rfl hr⟩
 have hfi:=rfind_eq t id hn
 cases hq : findT t id with
 | none =>
  rw [hq] at hfi
  simp only [Option.getD_none,Option.isSome_none,Nd.vv] at hfi
  simp -implicitDefEqProofs (disch:=omega) only [vf91,vb91,hfi,go_sem,↓reduceIte,rA,rS,rE,rL,reduceCtorEq]
  exact ⟨_,rfl⟩
 | some x =>
  rw [hq] at hfi ih
  simp only [Option.getD_some,Option.isSome_some,Nd.vv] at hfi ih
  by_cases hk : x.kind = 1
  ·simp -implicitDefEqProofs (disch:=omega) only [vf91,vb91,hfi,hk,go_sem,↓reduceIte,rA,rS,rE,rL,reduceCtorEq]
   exact ⟨_,rfl⟩
  have hp:=rfind_eq t x.parent hn
  have hkd:=rkids_eq t id hn
  have hkl : (kids t id).length < 1000000:=by
   unfold kids
   split
   ·rw [llm]
    have:=List.length_filter_le (fun n : Nd=>decide (n.parent = id)) t.nodes
    omega
   ·simp
  generalize kids t id = l at hkd hkl
  cases hqp : findT t x.parent with
  | none =>
   rw [hqp] at hp
   simp only [Option.getD_none,Option.isSome_none,Nd.vv] at hp
   simp -implicitDefEqProofs (disch:=omega) only [vf91,vb91,hfi,hk,hp,hkd,go_sem,↓reduceIte,rA,rS,rE,rL,reduceCtorEq]
   obtain ⟨I,hI⟩ : ∃ I : Nat -> St -> Prop,∀ k s,I k s ↔ s.pe 2 = .ptr (.slot 2 0) 0 0 /\ s.pe 9 = .own (.slot 46 1) 0 0 l.length /\ s.pe 10 = .p (.int .i64 k) /\ s.h (.slot 2 0) = some (0,Ob.box [.p (nodesP t.nodes),.p (.int .i64 t.next)]) /\ s.h (.slot 46 1) = some (0,Ob.arr 1 (List.map (.int .i64) l)):=⟨_,fun _ _=>Iff.rfl⟩
   refine wp_count (l.length) I ?_ ?_
   ·refine (hI _ _).2 ⟨?_,?_,?_,?_,?_⟩
    all_goals exact cl0
   intro k s hk hIk
   obtain ⟨h2,h9,h10,hh2_0,hh46_1⟩:=(hI _ _).1 hIk
   clear hIk
   simp -implicitDefEqProofs (disch:=omega) only [h2,h9,h10,hh2_0,hh46_1,go_sem,↓reduceIte,rA,rS,rE,rL,reduceCtorEq]
   refine wp_if_d (fun hlt=>?_) (fun hge=>?_)
   ·have hc : l[k]? = some l[k]:=lgg (by omega)
    generalize l[k] = g at hc
    have hfc:=rfind_eq t g hn
    generalize (findT t g).isSome = b0 at hfc
    generalize (findT t g).getD zeroNd = y at hfc
    unfold Nd.vv at hfc
    by_cases hk1 : y.kind = 1
    ·simp -implicitDefEqProofs (disch:=omega) only [h2,h9,h10,hh2_0,hh46_1,hlt,hc,hfc,hk1,go_sem,↓reduceIte,rA,rS,rE,rL,reduceCtorEq]
     exact ⟨_,rfl⟩
    ·simp -implicitDefEqProofs (disch:=omega) only [h2,h9,h10,hh2_0,hh46_1,hlt,hc,hfc,hk1,go_sem,↓reduceIte,rA,rS,rE,rL,reduceCtorEq]
     try refine And.intro (by omega) ?_
     refine (hI _ _).2 ⟨?_,?_,?_,?_,?_⟩
     all_goals exact cl0
   ·simp -implicitDefEqProofs (disch:=omega) only [h2,h9,h10,hh2_0,hh46_1,hge,go_sem,↓reduceIte,rA,rS,rE,rL,reduceCtorEq]
    exact ⟨_,rfl⟩
  | some p =>
   rw [hqp] at hp
   simp only [Option.getD_some,Option.isSome_some,Nd.vv] at hp
   by_cases hpk : p.kind = 1
   ·simp -implicitDefEqProofs (disch:=omega) only [vf91,vb91,hfi,hk,hp,hpk,go_sem,↓reduceIte,rA,rS,rE,rL,reduceCtorEq]
    exact ⟨_,rfl⟩
   obtain ⟨v,hv⟩:=ih p hqp
   by_cases hv3 : v = 3
   ·simp -implicitDefEqProofs (disch:=omega) only [vf91,vb91,hfi,hk,hp,hpk,hv,hv3,go_sem,↓reduceIte,rA,rS,rE,rL,reduceCtorEq]
    exact ⟨_,rfl⟩
   simp -implicitDefEqProofs (disch:=omega) only [vf91,vb91,hfi,hk,hp,hpk,hv,hv3,hkd,go_sem,↓reduceIte,rA,rS,rE,rL,reduceCtorEq]
   obtain ⟨I,hI⟩ : ∃ I : Nat -> St -> Prop,∀ k s,I k s ↔ s.pe 2 = .ptr (.slot 2 0) 0 0 /\ s.pe 9 = .own (.slot 46 1) 0 0 l.length /\ s.pe 10 = .p (.int .i64 k) /\ s.h (.slot 2 0) = some (0,Ob.box [.p (nodesP t.nodes),.p (.int .i64 t.next)]) /\ s.h (.slot 46 1) = some (0,Ob.arr 1 (List.map (.int .i64) l)):=⟨_,fun _ _=>Iff.rfl⟩
   refine wp_count (l.length) I ?_ ?_
   ·refine (hI _ _).2 ⟨?_,?_,?_,?_,?_⟩
    all_goals exact cl0
   intro k s hk hIk
   obtain ⟨h2,h9,h10,hh2_0,hh46_1⟩:=(hI _ _).1 hIk
   clear hIk
   simp -implicitDefEqProofs (disch:=omega) only [h2,h9,h10,hh2_0,hh46_1,go_sem,↓reduceIte,rA,rS,rE,rL,reduceCtorEq]
   refine wp_if_d (fun hlt=>?_) (fun hge=>?_)
   ·have hc : l[k]? = some l[k]:=lgg (by omega)
    generalize l[k] = g at hc
    have hfc:=rfind_eq t g hn
    generalize (findT t g).isSome = b0 at hfc
    generalize (findT t g).getD zeroNd = y at hfc
    unfold Nd.vv at hfc
    by_cases hk1 : y.kind = 1
    ·simp -implicitDefEqProofs (disch:=omega) only [h2,h9,h10,hh2_0,hh46_1,hlt,hc,hfc,hk1,go_sem,↓reduceIte,rA,rS,rE,rL,reduceCtorEq]
     exact ⟨_,rfl⟩
    ·simp -implicitDefEqProofs (disch:=omega) only [h2,h9,h10,hh2_0,hh46_1,hlt,hc,hfc,hk1,go_sem,↓reduceIte,rA,rS,rE,rL,reduceCtorEq]
     try refine And.intro (by omega) ?_
     refine (hI _ _).2 ⟨?_,?_,?_,?_,?_⟩
     all_goals exact cl0
   ·simp -implicitDefEqProofs (disch:=omega) only [h2,h9,h10,hh2_0,hh46_1,hge,go_sem,↓reduceIte,rA,rS,rE,rL,reduceCtorEq]
    exact ⟨_,rfl⟩
theorem type_at {t : Tr} (hn : t.nodes.length < 1000000) : ∀ (i : Nat) (x : Nd),treeOk t = true -> t.nodes[i]? = some x -> ∃ v : Int,V 91 [t.vv,.p (.int .i64 x.id)] [] = some (.p (.int .i64 v),[]):=by
 intro i
 induction i using Nat.strongRecOn with
 | _ i ih =>
  intro x ht hx
  refine type_step t x.id hn fun p hp=>?_
  have h:=(treeOk_iff t).1 ht
  have hf : findT t x.id = some x:=by
   rw [findT,if_pos ht]
   exact findN_self h.inc (lmg hx)
  rw [hf,Option.getD_some] at hp
  obtain ⟨_,j,hj,he⟩:=findT_pos hp
  exact ih j (par_lt h hx hj he) p ht hj
theorem type_ok (t : Tr) (id : Int) (hn : t.nodes.length < 1000000) : ∃ v : Int,V 91 [t.vv,.p (.int .i64 id)] [] = some (.p (.int .i64 v),[]):=by
 refine type_step t id hn fun p hp=>?_
 obtain ⟨ht,j,hj,_⟩:=findT_pos hp
 exact type_at hn j p ht hj
def IsB (h : Hy) (r : VVal × List Ob) : Prop:=∃ b : Bool,r = (.p (.bool b),[]) /\ (b = true -> soundR h = true)
set_option maxHeartbeats 16000000 in
theorem fits_ok (h : Hy) (hl : h.ts.length < 1000000) (hn : h.t.nodes.length < 1000000) : ∃ b : Bool,V 90 [h.vv] [] = some (.p (.bool b),[]) /\ (b = true -> soundR h = true):=by
 suffices hw : wp (callF V vf90 [h.vv] []) (IsB h) by
  obtain ⟨r,hr,b,rfl,hb⟩:=hw
  exact ⟨b,V_fix (f:=90) (vf:=vf90) rfl hr,hb⟩
 have hs := rsound_eq h hl hn
 by_cases hS : soundR h = false
 ·rw [hS] at hs
  simp -implicitDefEqProofs (disch:=omega) only [vf90,vb90,hs,go_sem,↓reduceIte,rA,rS,rE,rL,reduceCtorEq]
  exact ⟨false,rfl,fun e=>by cases e⟩
 have hS : soundR h = true:=by simpa using hS
 rw [hS] at hs
 have fin : ∀ b : Bool,IsB h (.p (.bool b),[]):=fun b=>⟨b,rfl,fun _=>hS⟩
 simp -implicitDefEqProofs (disch:=omega) only [vf90,vb90,hs,go_sem,↓reduceIte,rA,rS,rE,rL,reduceCtorEq]
 obtain ⟨I,hI⟩ : ∃ I : Nat -> St -> Prop,∀ k s,I k s ↔ s.pe 1 = .ptr (.slot 1 0) 0 0 /\ s.pe 3 = .p (.int .i64 k) /\ s.h (.slot 1 0) = some (0,Ob.box [.p (nodesP h.t.nodes),.p (.int .i64 h.t.next),.p (tasksP h.ts),.p (.int .i64 h.next)]):=⟨_,fun _ _=>Iff.rfl⟩
 refine wp_count (h.ts.length) I ?_ ?_
 ·refine (hI _ _).2 ⟨?_,?_,?_⟩
  all_goals exact cl0
 intro k s hk hIk
 obtain ⟨h1,h3,hh1_0⟩:=(hI _ _).1 hIk
 clear hIk
 simp -implicitDefEqProofs (disch:=omega) only [h1,h3,hh1_0,go_sem,↓reduceIte,rA,rS,rE,rL,reduceCtorEq]
 refine wp_if_d (fun hlt=>?_) (fun hge=>?_)
 ·have hc : h.ts[k]? = some h.ts[k]:=lgg (by omega)
  generalize h.ts[k] = x at hc
  have hfi:=rfindK_eq h x.process hl hn
  generalize (findM h x.process).isSome = b0 at hfi
  generalize (findM h x.process).getD zeroTk = p at hfi
  unfold Tk.vv at hfi
  obtain ⟨d1,b1,hd1⟩:=domain_ok h.t x.group hn
  obtain ⟨d2,b2,hd2⟩:=domain_ok h.t p.group hn
  by_cases hd : d1 = d2
  ·simp -implicitDefEqProofs (disch:=omega) only [h1,h3,hh1_0,hlt,hc,hfi,hd1,hd2,hd,go_sem,↓reduceIte,rA,rS,rE,rL,reduceCtorEq]
   try refine And.intro (by omega) ?_
   refine (hI _ _).2 ⟨?_,?_,?_⟩
   all_goals exact cl0
  ·simp -implicitDefEqProofs (disch:=omega) only [h1,h3,hh1_0,hlt,hc,hfi,hd1,hd2,hd,go_sem,↓reduceIte,rA,rS,rE,rL,reduceCtorEq]
   exact fin _
 ·simp -implicitDefEqProofs (disch:=omega) only [h1,h3,hh1_0,hge,go_sem,↓reduceIte,rA,rS,rE,rL,reduceCtorEq]
  obtain ⟨J,hJ⟩ : ∃ I : Nat -> St -> Prop,∀ j s,I j s ↔ s.pe 1 = .ptr (.slot 1 0) 0 0 /\ s.pe 10 = .p (.int .i64 j) /\ s.h (.slot 1 0) = some (0,Ob.box [.p (nodesP h.t.nodes),.p (.int .i64 h.t.next),.p (tasksP h.ts),.p (.int .i64 h.next)]):=⟨_,fun _ _=>Iff.rfl⟩
  refine wp_count (h.t.nodes.length) J ?_ ?_
  ·refine (hJ _ _).2 ⟨?_,?_,?_⟩
   all_goals exact cl0
  intro j s hj hJk
  obtain ⟨h1,h10,hh1_0⟩:=(hJ _ _).1 hJk
  clear hJk
  simp -implicitDefEqProofs (disch:=omega) only [h1,h10,hh1_0,go_sem,↓reduceIte,rA,rS,rE,rL,reduceCtorEq]
  refine wp_if_d (fun hlt=>?_) (fun hge=>?_)
  ·have hc : h.t.nodes[j]? = some h.t.nodes[j]:=lgg (by omega)
   generalize h.t.nodes[j] = x at hc
   have hp:=rfind_eq h.t x.parent hn
   generalize (findT h.t x.parent).isSome = b0 at hp
   generalize (findT h.t x.parent).getD zeroNd = p at hp
   unfold Nd.vv at hp
   obtain ⟨v,hv⟩:=type_ok h.t x.id hn
   obtain ⟨v2,hv2⟩:=type_ok h.t p.id hn
   have htk:=rtasks_eq h x.id hl hn
   generalize (if memOk h = true then tasksOf x.id h.ts else ([] : List Int)) = tl at htk
   by_cases h3 : v = 3
   ·by_cases hc0 : x.control = 0
    ·by_cases hz : tl.length = 0
     ·have hz2 : ¬ (0 : Int) < (tl.length : Nat):=by omega
      by_cases hk : x.kind = 1
      ·by_cases hpi : p.id = 1
       ·rw [hpi] at hv2
        by_cases ht3 : v2 = 3
        ·simp -implicitDefEqProofs (disch:=omega) only [h1,h10,hh1_0,hlt,hc,hp,hv,h3,hc0,htk,hz2,hk,hpi,hv2,ht3,go_sem,↓reduceIte,rA,rS,rE,rL,reduceCtorEq]
         exact fin _
        ·simp -implicitDefEqProofs (disch:=omega) only [h1,h10,hh1_0,hlt,hc,hp,hv,h3,hc0,htk,hz2,hk,hpi,hv2,ht3,go_sem,↓reduceIte,rA,rS,rE,rL,reduceCtorEq]
         try refine And.intro (by omega) ?_
         refine (hJ _ _).2 ⟨?_,?_,?_⟩
         all_goals exact cl0
       ·by_cases hp6 : andI .i64 p.control 6 = 0
        ·by_cases ht3 : v2 = 3
         ·simp -implicitDefEqProofs (disch:=omega) only [h1,h10,hh1_0,hlt,hc,hp,hv,h3,hc0,htk,hz2,hk,hpi,hp6,hv2,ht3,go_sem,↓reduceIte,rA,rS,rE,rL,reduceCtorEq]
          exact fin _
         ·simp -implicitDefEqProofs (disch:=omega) only [h1,h10,hh1_0,hlt,hc,hp,hv,h3,hc0,htk,hz2,hk,hpi,hp6,hv2,ht3,go_sem,↓reduceIte,rA,rS,rE,rL,reduceCtorEq]
          try refine And.intro (by omega) ?_
          refine (hJ _ _).2 ⟨?_,?_,?_⟩
          all_goals exact cl0
        ·simp -implicitDefEqProofs (disch:=omega) only [h1,h10,hh1_0,hlt,hc,hp,hv,h3,hc0,htk,hz2,hk,hpi,hp6,go_sem,↓reduceIte,rA,rS,rE,rL,reduceCtorEq]
         exact fin _
      ·simp -implicitDefEqProofs (disch:=omega) only [h1,h10,hh1_0,hlt,hc,hp,hv,h3,hc0,htk,hz2,hk,go_sem,↓reduceIte,rA,rS,rE,rL,reduceCtorEq]
       try refine And.intro (by omega) ?_
       refine (hJ _ _).2 ⟨?_,?_,?_⟩
       all_goals exact cl0
     ·have hz2 : (0 : Int) < (tl.length : Nat):=by omega
      simp -implicitDefEqProofs (disch:=omega) only [h1,h10,hh1_0,hlt,hc,hp,hv,h3,hc0,htk,hz2,go_sem,↓reduceIte,rA,rS,rE,rL,reduceCtorEq]
      exact fin _
    ·simp -implicitDefEqProofs (disch:=omega) only [h1,h10,hh1_0,hlt,hc,hp,hv,h3,hc0,go_sem,↓reduceIte,rA,rS,rE,rL,reduceCtorEq]
     exact fin _
   ·by_cases hk : x.kind = 1
    ·by_cases hpi : p.id = 1
     ·rw [hpi] at hv2
      by_cases ht3 : v2 = 3
      ·simp -implicitDefEqProofs (disch:=omega) only [h1,h10,hh1_0,hlt,hc,hp,hv,h3,hk,hpi,hv2,ht3,go_sem,↓reduceIte,rA,rS,rE,rL,reduceCtorEq]
       exact fin _
      ·simp -implicitDefEqProofs (disch:=omega) only [h1,h10,hh1_0,hlt,hc,hp,hv,h3,hk,hpi,hv2,ht3,go_sem,↓reduceIte,rA,rS,rE,rL,reduceCtorEq]
       try refine And.intro (by omega) ?_
       refine (hJ _ _).2 ⟨?_,?_,?_⟩
       all_goals exact cl0
     ·by_cases hp6 : andI .i64 p.control 6 = 0
      ·by_cases ht3 : v2 = 3
       ·simp -implicitDefEqProofs (disch:=omega) only [h1,h10,hh1_0,hlt,hc,hp,hv,h3,hk,hpi,hp6,hv2,ht3,go_sem,↓reduceIte,rA,rS,rE,rL,reduceCtorEq]
        exact fin _
       ·simp -implicitDefEqProofs (disch:=omega) only [h1,h10,hh1_0,hlt,hc,hp,hv,h3,hk,hpi,hp6,hv2,ht3,go_sem,↓reduceIte,rA,rS,rE,rL,reduceCtorEq]
        try refine And.intro (by omega) ?_
        refine (hJ _ _).2 ⟨?_,?_,?_⟩
        all_goals exact cl0
      ·simp -implicitDefEqProofs (disch:=omega) only [h1,h10,hh1_0,hlt,hc,hp,hv,h3,hk,hpi,hp6,go_sem,↓reduceIte,rA,rS,rE,rL,reduceCtorEq]
       exact fin _
    ·simp -implicitDefEqProofs (disch:=omega) only [h1,h10,hh1_0,hlt,hc,hp,hv,h3,hk,go_sem,↓reduceIte,rA,rS,rE,rL,reduceCtorEq]
     try refine And.intro (by omega) ?_
     refine (hJ _ _).2 ⟨?_,?_,?_⟩
     all_goals exact cl0
  ·simp -implicitDefEqProofs (disch:=omega) only [h1,h10,hh1_0,hge,go_sem,↓reduceIte,rA,rS,rE,rL,reduceCtorEq]
   exact fin _
def setB (n : Int) : Bool:=decide (0 <= n) && decide (n <= 31)
theorem rsetn_eq (n : Int) : V 65 [.p (.int .i64 n)] [] = some (.p (.bool (setB n)),[]):=by
 refine V_wp (vf:=vf65) rfl ?_
 unfold setB
 by_cases h0 : 0 <= n
 ·by_cases h1 : n <= 31
  .simp -implicitDefEqProofs (disch:=omega) only [vf65,vb65,h0,h1,go_sem,↓reduceIte,rA,rS,rE,rL,reduceCtorEq]
  .simp -implicitDefEqProofs (disch:=omega) only [vf65,vb65,h0,h1,go_sem,↓reduceIte,rA,rS,rE,rL,reduceCtorEq]
 .simp -implicitDefEqProofs (disch:=omega) only [vf65,vb65,h0,go_sem,↓reduceIte,rA,rS,rE,rL,reduceCtorEq]
def nowI (x : Nd) (add drop : Int) : Int:=orI .i64 (antI .i64 x.control drop) add
def dropB (ns : List Nd) (id drop : Int) : Bool:=ns.any fun n=>decide (n.parent = id) && decide (andI .i64 n.control drop ≠ 0)
def wrE (h : Hy) (id add drop : Int) : Int :=
 if soundR h = true /\ setB add = true /\ setB drop = true /\ andI .i64 add drop = 0 then
  match findT h.t id with
  | none=>4
  | some x=>if antI .i64 add (availR h.t id) = 0 then if dropB h.t.nodes id drop = true then 9 else if antI .i64 (andI .i64 (nowI x add drop) 6) x.control = 0 \/ id = 1 \/ (∀ y ∈ h.ts,y.group ≠ id) then 0 else 6 else 9
 else 1
def wrH (h : Hy) (x : Nd) (add drop : Int) : Hy:=⟨⟨setN h.t.nodes ⟨x.id,x.parent,x.name,nowI x add drop,x.kind,x.owner⟩,h.t.next⟩,h.ts,h.next⟩
def wrO (h : Hy) (id add drop : Int) : VVal:=if wrE h id add drop = 0 then (wrH h ((findT h.t id).getD zeroNd) add drop).fv else noH
theorem kids_drop {t : Tr} (ht : treeOk t = true) {id : Int} {x : Nd} (hx : findT t id = some x) (drop : Int) : (kids t id).any (fun i=>decide (andI .i64 ((findT t i).getD zeroNd).control drop ≠ 0)) = dropB t.nodes id drop:=by
 have h:=(treeOk_iff t).1 ht
 have hf : ∀ n ∈ t.nodes,findT t n.id = some n:=fun n hn=>by rw [findT,if_pos ht]; exact findN_self h.inc hn
 unfold kids dropB
 rw [hx,Option.isSome_some,if_pos rfl]
 rw [Bool.eq_iff_iff,List.any_eq_true,List.any_eq_true]
 constructor
 ·rintro ⟨i,hi,hd⟩
  obtain ⟨n,hn,rfl⟩:=lmm.1 hi
  obtain ⟨hn1,hn2⟩:=List.mem_filter.1 hn
  rw [hf n hn1] at hd
  exact ⟨n,hn1,by rw [hn2,bta]; exact hd⟩
 ·rintro ⟨n,hn,hd⟩
  rw [bat] at hd
  refine ⟨n.id,lmm.2 ⟨n,List.mem_filter.2 ⟨hn,hd.1⟩,rfl⟩,?_⟩
  rw [hf n hn]
  exact hd.2
set_option maxHeartbeats 16000000 in
theorem rwrite_eq (h : Hy) (id add drop : Int) (hl : h.ts.length < 1000000) (hn : h.t.nodes.length < 1000000) :
  V 26 [h.vv,.p (.int .i64 id),.p (.int .i64 add),.p (.int .i64 drop)] [] = some (.tup [wrO h id add drop,.p (.int .i64 (wrE h id add drop))],[]):=by
 refine V_wp (vf:=vf26) rfl ?_
 have hs:=rsound_eq h hl hn
 have ha:=rsetn_eq add
 have hd:=rsetn_eq drop
 have err : ∀ e : Int,wrE h id add drop = e -> e ≠ 0 -> (VVal.tup [noH,.p (.int .i64 e)],([] : List Ob)) = (VVal.tup [wrO h id add drop,.p (.int .i64 (wrE h id add drop))],([] : List Ob)):=fun e he hne=>by
  unfold wrO
  rw [he,if_neg hne]
 by_cases hS : soundR h = false
 ·have he : wrE h id add drop = 1:=by unfold wrE; rw [if_neg (fun e=>by rw [hS] at e; exact Bool.false_ne_true e.1)]
  rw [hS] at hs
  simp -implicitDefEqProofs (disch:=omega) only [vf26,vb26,hs,go_sem,↓reduceIte,rA,rS,rE,rL,reduceCtorEq]
  exact err 1 he (by decide)
 by_cases hA : setB add = false
 ·have hS : soundR h = true:=by simpa using hS
  have he : wrE h id add drop = 1:=by unfold wrE; rw [if_neg (fun e=>by rw [hA] at e; exact Bool.false_ne_true e.2.1)]
  rw [hS] at hs
  rw [hA] at ha
  simp -implicitDefEqProofs (disch:=omega) only [vf26,vb26,hs,ha,go_sem,↓reduceIte,rA,rS,rE,rL,reduceCtorEq]
  exact err 1 he (by decide)
 by_cases hD : setB drop = false
 ·have hS : soundR h = true:=by simpa using hS
  have hA : setB add = true:=by simpa using hA
  have he : wrE h id add drop = 1:=by unfold wrE; rw [if_neg (fun e=>by rw [hD] at e; exact Bool.false_ne_true e.2.2.1)]
  rw [hS] at hs
  rw [hA] at ha
  rw [hD] at hd
  simp -implicitDefEqProofs (disch:=omega) only [vf26,vb26,hs,ha,hd,go_sem,↓reduceIte,rA,rS,rE,rL,reduceCtorEq]
  exact err 1 he (by decide)
 have hS : soundR h = true:=by simpa using hS
 have hA : setB add = true:=by simpa using hA
 have hD : setB drop = true:=by simpa using hD
 rw [hS] at hs
 rw [hA] at ha
 rw [hD] at hd
 by_cases h0 : andI .i64 add drop = 0
 rotate_left
 ·have he : wrE h id add drop = 1:=by unfold wrE; rw [if_neg (fun e=>h0 e.2.2.2)]
  simp -implicitDefEqProofs (disch:=omega) only [vf26,vb26,hs,ha,hd,h0,go_sem,↓reduceIte,rA,rS,rE,rL,reduceCtorEq]
  exact err 1 he (by decide)
 have hm : memOk h = true:=by
  unfold soundR at hS
  rw [bat] at hS
  exact hS.1
 have ht:=memOk_tree hm
 have hfi:=rfind_eq h.t id hn
 cases hq : findT h.t id with
 | none =>
  have he : wrE h id add drop = 4:=by unfold wrE; rw [if_pos ⟨hS,hA,hD,h0⟩,hq]
  rw [hq] at hfi
  simp only [Option.getD_none,Option.isSome_none,Nd.vv] at hfi
  simp -implicitDefEqProofs (disch:=omega) only [vf26,vb26,hs,ha,hd,h0,hfi,go_sem,↓reduceIte,rA,rS,rE,rL,reduceCtorEq]
  exact err 4 he (by decide)
 | some x =>
  rw [hq] at hfi
  simp only [Option.getD_some,Option.isSome_some,Nd.vv] at hfi
  have hav:=ravail_eq h.t id hn
  have heq : wrE h id add drop = if antI .i64 add (availR h.t id) = 0 then if dropB h.t.nodes id drop = true then 9 else if antI .i64 (andI .i64 (nowI x add drop) 6) x.control = 0 \/ id = 1 \/ (∀ y ∈ h.ts,y.group ≠ id) then 0 else 6 else 9:=by
   unfold wrE; rw [if_pos ⟨hS,hA,hD,h0⟩,hq]
  generalize availR h.t id = av at hav heq
  by_cases h1 : antI .i64 add av = 0
  rotate_left
  ·rw [if_neg h1] at heq
   simp -implicitDefEqProofs (disch:=omega) only [vf26,vb26,hs,ha,hd,h0,hfi,hav,h1,go_sem,↓reduceIte,rA,rS,rE,rL,reduceCtorEq]
   exact err 9 heq (by decide)
  rw [if_pos h1] at heq
  have hkd:=rkids_eq h.t id hn
  have hkl : (kids h.t id).length < 1000000:=by
   unfold kids
   split
   ·rw [llm]
    have:=List.length_filter_le (fun n : Nd=>decide (n.parent = id)) h.t.nodes
    omega
   ·simp
  have hdr:=kids_drop ht hq drop
  rw [<- hdr] at heq
  clear hdr
  generalize hkk : kids h.t id = l at hkd hkl heq
  generalize hab : l.any (fun i=>decide (andI .i64 ((findT h.t i).getD zeroNd).control drop ≠ 0)) = ab at heq
  simp -implicitDefEqProofs (disch:=omega) only [vf26,vb26,hs,ha,hd,h0,hfi,hav,h1,hkd,go_sem,↓reduceIte,rA,rS,rE,rL,reduceCtorEq]
  obtain ⟨I,hI⟩ : ∃ I : Nat -> St -> Prop,∀ k s,I k s ↔ ab = (l.drop k).any (fun i=>decide (andI .i64 ((findT h.t i).getD zeroNd).control drop ≠ 0)) /\ s.pe 1 = .p (.int .i64 id) /\ s.pe 2 = .p (.int .i64 add) /\ s.pe 3 = .p (.int .i64 drop) /\ s.pe 4 = .ptr (.slot 4 0) 0 0 /\ s.pe 8 = .ptr (.slot 8 0) 0 0 /\ s.pe 10 = .ptr (.slot 10 0) 0 0 /\ s.pe 12 = .own (.slot 60 1) 0 0 l.length /\ s.pe 13 = .p (.int .i64 k) /\ s.h (.slot 4 0) = some (0,Ob.box [.p (nodesP h.t.nodes),.p (.int .i64 h.t.next),.p (tasksP h.ts),.p (.int .i64 h.next)]) /\ s.h (.slot 8 0) = some (0,Ob.box [.own (.slot 8 1) 0 0 0,.p (.int .i64 0),.own (.slot 8 3) 0 0 0,.p (.int .i64 0)]) /\ s.h (.slot 8 1) = some (0,Ob.arr 6 []) /\ s.h (.slot 8 3) = some (0,Ob.arr 4 []) /\ s.h (.slot 10 0) = some (0,Ob.box [.p (.int .i64 x.id),.p (.int .i64 x.parent),.p (PV.str x.name),.p (.int .i64 x.control),.p (.int .i64 x.kind),.p (.int .i64 x.owner)]) /\ s.h (.slot 60 1) = some (0,Ob.arr 1 (List.map (.int .i64) l)):=⟨_,fun _ _=>Iff.rfl⟩
  refine wp_count (l.length) I ?_ ?_
  ·refine (hI _ _).2 ⟨?_,?_,?_,?_,?_,?_,?_,?_,?_,?_,?_,?_,?_,?_,?_⟩
   ·exact hab.symm
   all_goals exact cl0
  intro k s hk hIk
  obtain ⟨hqa,h1,h2,h3,h4,h8,h10,h12,h13,hh4_0,hh8_0,hh8_1,hh8_3,hh10_0,hh60_1⟩:=(hI _ _).1 hIk
  clear hIk
  simp -implicitDefEqProofs (disch:=omega) only [h1,h2,h3,h4,h8,h10,h12,h13,hh4_0,hh8_0,hh8_1,hh8_3,hh10_0,hh60_1,go_sem,↓reduceIte,rA,rS,rE,rL,reduceCtorEq]
  refine wp_if_d (fun hlt=>?_) (fun hge=>?_)
  ·have hc : l[k]? = some l[k]:=lgg (by omega)
   have hdr : l.drop k = l[k] :: l.drop (k + 1):=ldg (by omega)
   generalize l[k] = g at hc hdr
   rw [hdr,List.any_cons] at hqa
   have hfc:=rfind_eq h.t g hn
   generalize (findT h.t g).isSome = b0 at hfc
   generalize (findT h.t g).getD zeroNd = y at hfc hqa
   unfold Nd.vv at hfc
   by_cases hy : andI .i64 y.control drop = 0
   ·rw [decide_eq_false (fun e=>e hy),Bool.false_or] at hqa
    simp -implicitDefEqProofs (disch:=omega) only [h1,h2,h3,h4,h8,h10,h12,h13,hh4_0,hh8_0,hh8_1,hh8_3,hh10_0,hh60_1,hlt,hc,hfc,hy,go_sem,↓reduceIte,rA,rS,rE,rL,reduceCtorEq]
    try refine And.intro (by omega) ?_
    refine (hI _ _).2 ⟨?_,?_,?_,?_,?_,?_,?_,?_,?_,?_,?_,?_,?_,?_,?_⟩
    ·exact hqa
    all_goals exact cl0
   ·rw [decide_eq_true hy,Bool.true_or] at hqa
    rw [hqa,if_pos rfl] at heq
    simp -implicitDefEqProofs (disch:=omega) only [h1,h2,h3,h4,h8,h10,h12,h13,hh4_0,hh8_0,hh8_1,hh8_3,hh10_0,hh60_1,hlt,hc,hfc,hy,go_sem,↓reduceIte,rA,rS,rE,rL,reduceCtorEq]
    exact err 9 heq (by decide)
  ·rw [ldl (by omega),List.any_nil] at hqa
   rw [hqa,if_neg Bool.false_ne_true] at heq
   have htk:=rtasks_eq h id hl hn
   rw [if_pos hm] at htk
   have hcp:=rhcopy_eq h hl hn
   have hse:=rset_eq h.t ⟨x.id,x.parent,x.name,nowI x add drop,x.kind,x.owner⟩ hn
   have hsl:=setN_len h.t.nodes ⟨x.id,x.parent,x.name,nowI x add drop,x.kind,x.owner⟩
   have hout : wrH h x add drop = ⟨⟨setN h.t.nodes ⟨x.id,x.parent,x.name,nowI x add drop,x.kind,x.owner⟩,h.t.next⟩,h.ts,h.next⟩:=rfl
   have hoo : wrE h id add drop = 0 -> wrO h id add drop = (wrH h x add drop).fv:=fun e=>by
    unfold wrO
    rw [e,if_pos rfl,hq,Option.getD_some]
   rw [hout] at hoo
   generalize setN h.t.nodes ⟨x.id,x.parent,x.name,nowI x add drop,x.kind,x.owner⟩ = ns at hse hsl hoo
   unfold nowI at hse heq
   simp only [Nd.vv] at hse
   have ht1 : List.take h.t.nodes.length (ns.map Nd.pv) = ns.map Nd.pv:=ltl (Nat.le_of_eq (by rw [llm,hsl]))
   have ht1' : List.take ns.length (ns.map Nd.pv) = ns.map Nd.pv:=ltl (by simp)
   have ht2 : List.take h.ts.length (h.ts.map Tk.pv) = h.ts.map Tk.pv:=ltl (by simp)
   have fin : wrE h id add drop = 0 -> (VVal.tup [(⟨⟨ns,h.t.next⟩,h.ts,h.next⟩ : Hy).fv,.p (.int .i64 0)],([] : List Ob)) = (VVal.tup [wrO h id add drop,.p (.int .i64 (wrE h id add drop))],([] : List Ob)):=fun e=>by
    rw [hoo e,e]
   by_cases h6 : antI .i64 (andI .i64 (orI .i64 (antI .i64 x.control drop) add) 6) x.control = 0
   ·rw [if_pos (Or.inl h6)] at heq
    simp -implicitDefEqProofs (disch:=omega) only [h1,h2,h3,h4,h8,h10,h12,h13,hh4_0,hh8_0,hh8_1,hh8_3,hh10_0,hh60_1,hge,h6,hcp,hse,ht1,ht1',ht2,go_sem,↓reduceIte,rA,rS,rE,rL,reduceCtorEq]
    exact fin heq
   ·by_cases hi1 : id = 1
    ·rw [if_pos (Or.inr (Or.inl hi1))] at heq
     subst hi1
     simp -implicitDefEqProofs (disch:=omega) only [h1,h2,h3,h4,h8,h10,h12,h13,hh4_0,hh8_0,hh8_1,hh8_3,hh10_0,hh60_1,hge,h6,hcp,hse,ht1,ht1',ht2,go_sem,↓reduceIte,rA,rS,rE,rL,reduceCtorEq]
     exact fin heq
    ·have hz:=tasksOf_nil id h.ts
     by_cases hz0 : (tasksOf id h.ts).length = 0
     ·rw [if_pos (Or.inr (Or.inr (hz.1 hz0)))] at heq
      have hz2 : ¬ (0 : Int) < ((tasksOf id h.ts).length : Nat):=by omega
      simp -implicitDefEqProofs (disch:=omega) only [h1,h2,h3,h4,h8,h10,h12,h13,hh4_0,hh8_0,hh8_1,hh8_3,hh10_0,hh60_1,hge,h6,hi1,htk,hz2,hcp,hse,ht1,ht1',ht2,go_sem,↓reduceIte,rA,rS,rE,rL,reduceCtorEq]
      exact fin heq
     ·rw [if_neg (fun e=>by rcases e with e | e | e; exact h6 e; exact hi1 e; exact hz0 (hz.2 e))] at heq
      have hz2 : (0 : Int) < ((tasksOf id h.ts).length : Nat):=by omega
      simp -implicitDefEqProofs (disch:=omega) only [h1,h2,h3,h4,h8,h10,h12,h13,hh4_0,hh8_0,hh8_1,hh8_3,hh10_0,hh60_1,hge,h6,hi1,htk,hz2,go_sem,↓reduceIte,rA,rS,rE,rL,reduceCtorEq]
      exact err 6 heq (by decide)
def ResH (P : Hy -> Prop) (r : VVal × List Ob) : Prop:=(∃ h' : Hy,r = (.tup [h'.fv,.p (.int .i64 0)],[]) /\ P h') \/ ∃ e : Int,e ≠ 0 /\ r = (.tup [noH,.p (.int .i64 e)],[])
theorem ResH_err {P : Hy -> Prop} (e : Int) (he : e ≠ 0) : ResH P (.tup [noH,.p (.int .i64 e)],[]):=.inr ⟨e,he,rfl⟩
set_option maxHeartbeats 16000000 in
theorem enable_ok (h : Hy) (id add drop : Int) (hl : h.ts.length < 1000000) (hn : h.t.nodes.length < 1000000) :
  wp (callF V vf88 [h.vv,.p (.int .i64 id),.p (.int .i64 add),.p (.int .i64 drop)] []) (ResH fun h'=>soundR h' = true):=by
 obtain ⟨b,hb,_⟩:=fits_ok h hl hn
 cases b
 ·simp -implicitDefEqProofs (disch:=omega) only [vf88,vb88,hb,go_sem,↓reduceIte,rA,rS,rE,rL,reduceCtorEq]
  exact ResH_err _ (by decide)
 have hw:=rwrite_eq h id add drop hl hn
 unfold wrO at hw
 generalize wrE h id add drop = e at hw
 by_cases he : e = 0
 ·subst he
  rw [if_pos rfl] at hw
  have hl2 : (wrH h ((findT h.t id).getD zeroNd) add drop).ts.length < 1000000:=hl
  have hn2 : (wrH h ((findT h.t id).getD zeroNd) add drop).t.nodes.length < 1000000:=by
   unfold wrH
   rw [setN_len]
   exact hn
  generalize wrH h ((findT h.t id).getD zeroNd) add drop = h' at hw hl2 hn2
  obtain ⟨b2,hb2,hs⟩:=fits_ok h' hl2 hn2
  have ht1 : List.take h'.t.nodes.length (h'.t.nodes.map Nd.pv) = h'.t.nodes.map Nd.pv:=ltl (by simp)
  have ht2 : List.take h'.ts.length (h'.ts.map Tk.pv) = h'.ts.map Tk.pv:=ltl (by simp)
  cases b2
  ·simp -implicitDefEqProofs (disch:=omega) only [vf88,vb88,hb,hw,hb2,ht1,ht2,go_sem,↓reduceIte,rA,rS,rE,rL,reduceCtorEq]
   exact ResH_err _ (by decide)
  ·simp -implicitDefEqProofs (disch:=omega) only [vf88,vb88,hb,hw,hb2,ht1,ht2,go_sem,↓reduceIte,rA,rS,rE,rL,reduceCtorEq]
   exact .inl ⟨h',rfl,hs rfl⟩
 ·rw [if_neg he] at hw
  simp -implicitDefEqProofs (disch:=omega) only [vf88,vb88,hb,hw,he,go_sem,↓reduceIte,rA,rS,rE,rL,reduceCtorEq]
  exact ResH_err _ he
set_option maxHeartbeats 16000000 in
theorem convert_ok (h : Hy) (id : Int) (hl : h.ts.length < 1000000) (hn : h.t.nodes.length < 1000000) :
  wp (callF V vf89 [h.vv,.p (.int .i64 id)] []) (ResH fun h'=>soundR h' = true):=by
 obtain ⟨b,hb,hbs⟩:=fits_ok h hl hn
 cases b
 ·simp -implicitDefEqProofs (disch:=omega) only [vf89,vb89,hb,go_sem,↓reduceIte,rA,rS,rE,rL,reduceCtorEq]
  exact ResH_err _ (by decide)
 have hS:=hbs rfl
 have hm : memOk h = true:=by
  unfold soundR at hS
  rw [bat] at hS
  exact hS.1
 have hfi:=rfind_eq h.t id hn
 cases hq : findT h.t id with
 | none =>
  rw [hq] at hfi
  simp only [Option.getD_none,Option.isSome_none,Nd.vv] at hfi
  simp -implicitDefEqProofs (disch:=omega) only [vf89,vb89,hb,hfi,go_sem,↓reduceIte,rA,rS,rE,rL,reduceCtorEq]
  exact ResH_err _ (by decide)
 | some x =>
  rw [hq] at hfi
  simp only [Option.getD_some,Option.isSome_some,Nd.vv] at hfi
  by_cases hi : id = 1
  ·subst hi
   simp -implicitDefEqProofs (disch:=omega) only [vf89,vb89,hb,hfi,go_sem,↓reduceIte,rA,rS,rE,rL,reduceCtorEq]
   exact ResH_err _ (by decide)
  by_cases hk : x.kind = 1
  ·simp -implicitDefEqProofs (disch:=omega) only [vf89,vb89,hb,hfi,hi,hk,go_sem,↓reduceIte,rA,rS,rE,rL,reduceCtorEq]
   exact ResH_err _ (by decide)
  have hp:=rfind_eq h.t x.parent hn
  generalize (findT h.t x.parent).isSome = b0 at hp
  generalize (findT h.t x.parent).getD zeroNd = p at hp
  unfold Nd.vv at hp
  obtain ⟨v,hv⟩:=type_ok h.t p.id hn
  by_cases hv3 : v = 3
  ·simp -implicitDefEqProofs (disch:=omega) only [vf89,vb89,hb,hfi,hi,hk,hp,hv,hv3,go_sem,↓reduceIte,rA,rS,rE,rL,reduceCtorEq]
   exact ResH_err _ (by decide)
  have htk:=rtasks_eq h id hl hn
  rw [if_pos hm] at htk
  have hcp:=rhcopy_eq h hl hn
  have hse:=rset_eq h.t ⟨x.id,x.parent,x.name,x.control,1,x.owner⟩ hn
  have hsl:=setN_len h.t.nodes ⟨x.id,x.parent,x.name,x.control,1,x.owner⟩
  generalize setN h.t.nodes ⟨x.id,x.parent,x.name,x.control,1,x.owner⟩ = ns at hse hsl
  simp only [Nd.vv] at hse
  have ht1 : List.take h.t.nodes.length (ns.map Nd.pv) = ns.map Nd.pv:=ltl (Nat.le_of_eq (by rw [llm,hsl]))
  have ht1' : List.take ns.length (ns.map Nd.pv) = ns.map Nd.pv:=ltl (by simp)
  have ht2 : List.take h.ts.length (h.ts.map Tk.pv) = h.ts.map Tk.pv:=ltl (by simp)
  obtain ⟨b2,hb2,hs2⟩:=fits_ok (⟨⟨ns,h.t.next⟩,h.ts,h.next⟩ : Hy) hl (by simp only; omega)
  have hpc : ∃ c : Bool,c = decide (p.id ≠ 1 /\ andI .i64 p.control 6 ≠ 0):=⟨_,rfl⟩
  have tailp : ∀ (hpi : p.id = 1),wp (callF V vf89 [h.vv,.p (.int .i64 id)] []) (ResH fun h'=>soundR h' = true):=fun hpi=>by
   rw [hpi] at hv
   by_cases hx6 : andI .i64 x.control 6 = 0
   ·by_cases hz0 : (tasksOf id h.ts).length = 0
    ·have hz2 : ¬ (0 : Int) < ((tasksOf id h.ts).length : Nat):=by omega
     cases b2
     ·simp -implicitDefEqProofs (disch:=omega) only [vf89,vb89,hb,hfi,hi,hk,hp,hv,hv3,hpi,hx6,hcp,hse,htk,hz2,hb2,ht1,ht1',ht2,go_sem,↓reduceIte,rA,rS,rE,rL,reduceCtorEq]
      exact ResH_err _ (by decide)
     ·simp -implicitDefEqProofs (disch:=omega) only [vf89,vb89,hb,hfi,hi,hk,hp,hv,hv3,hpi,hx6,hcp,hse,htk,hz2,hb2,ht1,ht1',ht2,go_sem,↓reduceIte,rA,rS,rE,rL,reduceCtorEq]
      exact .inl ⟨⟨⟨ns,h.t.next⟩,h.ts,h.next⟩,rfl,hs2 rfl⟩
    ·have hz2 : (0 : Int) < ((tasksOf id h.ts).length : Nat):=by omega
     simp -implicitDefEqProofs (disch:=omega) only [vf89,vb89,hb,hfi,hi,hk,hp,hv,hv3,hpi,hx6,hcp,hse,htk,hz2,go_sem,↓reduceIte,rA,rS,rE,rL,reduceCtorEq]
     exact ResH_err _ (by decide)
   ·simp -implicitDefEqProofs (disch:=omega) only [vf89,vb89,hb,hfi,hi,hk,hp,hv,hv3,hpi,hx6,go_sem,↓reduceIte,rA,rS,rE,rL,reduceCtorEq]
    exact ResH_err _ (by decide)
  by_cases hpi : p.id = 1
  ·exact tailp hpi
  by_cases hp6 : andI .i64 p.control 6 = 0
  ·by_cases hx6 : andI .i64 x.control 6 = 0
   ·by_cases hz0 : (tasksOf id h.ts).length = 0
    ·have hz2 : ¬ (0 : Int) < ((tasksOf id h.ts).length : Nat):=by omega
     cases b2
     ·simp -implicitDefEqProofs (disch:=omega) only [vf89,vb89,hb,hfi,hi,hk,hp,hv,hv3,hpi,hp6,hx6,hcp,hse,htk,hz2,hb2,ht1,ht1',ht2,go_sem,↓reduceIte,rA,rS,rE,rL,reduceCtorEq]
      exact ResH_err _ (by decide)
     ·simp -implicitDefEqProofs (disch:=omega) only [vf89,vb89,hb,hfi,hi,hk,hp,hv,hv3,hpi,hp6,hx6,hcp,hse,htk,hz2,hb2,ht1,ht1',ht2,go_sem,↓reduceIte,rA,rS,rE,rL,reduceCtorEq]
      exact .inl ⟨⟨⟨ns,h.t.next⟩,h.ts,h.next⟩,rfl,hs2 rfl⟩
    ·have hz2 : (0 : Int) < ((tasksOf id h.ts).length : Nat):=by omega
     simp -implicitDefEqProofs (disch:=omega) only [vf89,vb89,hb,hfi,hi,hk,hp,hv,hv3,hpi,hp6,hx6,hcp,hse,htk,hz2,go_sem,↓reduceIte,rA,rS,rE,rL,reduceCtorEq]
     exact ResH_err _ (by decide)
   ·simp -implicitDefEqProofs (disch:=omega) only [vf89,vb89,hb,hfi,hi,hk,hp,hv,hv3,hpi,hp6,hx6,go_sem,↓reduceIte,rA,rS,rE,rL,reduceCtorEq]
    exact ResH_err _ (by decide)
  ·simp -implicitDefEqProofs (disch:=omega) only [vf89,vb89,hb,hfi,hi,hk,hp,hv,hv3,hpi,hp6,go_sem,↓reduceIte,rA,rS,rE,rL,reduceCtorEq]
   exact ResH_err _ (by decide)
def AdmB (h : Hy) (g : Int) : Prop:=soundR h = true /\ ∃ x,findT h.t g = some x /\ (g = 1 \/ andI .i64 x.control 6 = 0)
set_option maxHeartbeats 16000000 in
theorem admits_ok (h : Hy) (g : Int) (hl : h.ts.length < 1000000) (hn : h.t.nodes.length < 1000000) :
  ∃ e : Int,V 45 [h.vv,.p (.int .i64 g)] [] = some (.p (.int .i64 e),[]) /\ (e = 0 -> AdmB h g):=by
 suffices hw : wp (callF V vf45 [h.vv,.p (.int .i64 g)] []) (fun r=>∃ e : Int,r = (.p (.int .i64 e),[]) /\ (e = 0 -> AdmB h g)) by
  obtain ⟨r,hr,e,rfl,he⟩:=hw
  exact ⟨e,V_fix (f:=45) (vf:=vf45) rfl hr,he⟩
 have err : ∀ e : Int,e ≠ 0 -> ∃ e' : Int,((VVal.p (.int .i64 e),([] : List Ob)) : VVal × List Ob) = (.p (.int .i64 e'),[]) /\ (e' = 0 -> AdmB h g):=fun e he=>⟨e,rfl,fun h0=>absurd h0 he⟩
 obtain ⟨b,hb,hbs⟩:=fits_ok h hl hn
 cases b
 ·simp -implicitDefEqProofs (disch:=omega) only [vf45,vb45,hb,go_sem,↓reduceIte,rA,rS,rE,rL,reduceCtorEq]
  exact err _ (by decide)
 have hS:=hbs rfl
 have hfi:=rfind_eq h.t g hn
 cases hq : findT h.t g with
 | none =>
  rw [hq] at hfi
  simp only [Option.getD_none,Option.isSome_none,Nd.vv] at hfi
  simp -implicitDefEqProofs (disch:=omega) only [vf45,vb45,hb,hfi,go_sem,↓reduceIte,rA,rS,rE,rL,reduceCtorEq]
  exact err _ (by decide)
 | some x =>
  rw [hq] at hfi
  simp only [Option.getD_some,Option.isSome_some,Nd.vv] at hfi
  obtain ⟨v,hv⟩:=type_ok h.t g hn
  by_cases hv3 : v = 3
  ·simp -implicitDefEqProofs (disch:=omega) only [vf45,vb45,hb,hfi,hv,hv3,go_sem,↓reduceIte,rA,rS,rE,rL,reduceCtorEq]
   exact err _ (by decide)
  by_cases hg : g = 1
  ·subst hg
   simp -implicitDefEqProofs (disch:=omega) only [vf45,vb45,hb,hfi,hv,hv3,go_sem,↓reduceIte,rA,rS,rE,rL,reduceCtorEq]
   exact ⟨_,rfl,fun _=>⟨hS,x,hq,.inl rfl⟩⟩
  by_cases h6 : andI .i64 x.control 6 = 0
  ·simp -implicitDefEqProofs (disch:=omega) only [vf45,vb45,hb,hfi,hv,hv3,hg,h6,go_sem,↓reduceIte,rA,rS,rE,rL,reduceCtorEq]
   exact ⟨_,rfl,fun _=>⟨hS,x,hq,.inr h6⟩⟩
  ·simp -implicitDefEqProofs (disch:=omega) only [vf45,vb45,hb,hfi,hv,hv3,hg,h6,go_sem,↓reduceIte,rA,rS,rE,rL,reduceCtorEq]
   exact err _ (by decide)
set_option maxHeartbeats 16000000 in
theorem attach_ok (h : Hy) (id g : Int) (hl : h.ts.length < 1000000) (hn : h.t.nodes.length < 1000000) :
  wp (callF V vf50 [h.vv,.p (.int .i64 id),.p (.int .i64 g)] []) (ResH fun h'=>AdmB h g /\ h' = ⟨h.t,moveL id g h.ts,h.next⟩):=by
 obtain ⟨b,hb,hbs⟩:=fits_ok h hl hn
 cases b
 ·simp -implicitDefEqProofs (disch:=omega) only [vf50,vb50,hb,go_sem,↓reduceIte,rA,rS,rE,rL,reduceCtorEq]
  exact ResH_err _ (by decide)
 have hS:=hbs rfl
 have hm : memOk h = true:=by
  unfold soundR at hS
  rw [bat] at hS
  exact hS.1
 have hfi:=rfindK_eq h id hl hn
 unfold findM at hfi
 rw [if_pos hm] at hfi
 cases hq : findK h.ts id with
 | none =>
  rw [hq] at hfi
  simp only [Option.getD_none,Option.isSome_none,Tk.vv] at hfi
  simp -implicitDefEqProofs (disch:=omega) only [vf50,vb50,hb,hfi,go_sem,↓reduceIte,rA,rS,rE,rL,reduceCtorEq]
  exact ResH_err _ (by decide)
 | some x =>
  rw [hq] at hfi
  simp only [Option.getD_some,Option.isSome_some,Tk.vv] at hfi
  have hh:=rhas_eq h.t g hn
  by_cases hg : (findT h.t g).isSome = false
  ·rw [hg] at hh
   simp -implicitDefEqProofs (disch:=omega) only [vf50,vb50,hb,hfi,hh,go_sem,↓reduceIte,rA,rS,rE,rL,reduceCtorEq]
   exact ResH_err _ (by decide)
  have hg : (findT h.t g).isSome = true:=by
   cases e : (findT h.t g).isSome with
   | true=>rfl
   | false=>exact absurd e hg
  rw [hg] at hh
  obtain ⟨e,he,hadm⟩:=admits_ok h g hl hn
  by_cases he0 : e = 0
  ·subst he0
   obtain ⟨d1,b1,hd1⟩:=domain_ok h.t g hn
   obtain ⟨d2,b2,hd2⟩:=domain_ok h.t x.group hn
   by_cases hd : d1 = d2
   ·have hpl:=rplace_ok h id g hm (by rw [hq]; rfl) hg hl hn
    have hml : (moveL id g h.ts).length = h.ts.length:=by unfold moveL; rw [llm]
    have hP : (⟨h.t,moveL id g h.ts,h.next⟩ : Hy) = ⟨h.t,moveL id g h.ts,h.next⟩:=rfl
    generalize moveL id g h.ts = l at hpl hml hP
    have ht1 : List.take h.t.nodes.length (h.t.nodes.map Nd.pv) = h.t.nodes.map Nd.pv:=ltl (by simp)
    have ht2 : List.take l.length (l.map Tk.pv) = l.map Tk.pv:=ltl (by simp)
    have ht3 : List.take h.ts.length (l.map Tk.pv) = l.map Tk.pv:=ltl (by simp [hml])
    simp -implicitDefEqProofs (disch:=omega) only [vf50,vb50,hb,hfi,hh,he,hd1,hd2,hd,hpl,ht1,ht2,ht3,go_sem,↓reduceIte,rA,rS,rE,rL,reduceCtorEq]
    exact .inl ⟨⟨h.t,l,h.next⟩,rfl,hadm rfl,rfl⟩
   ·simp -implicitDefEqProofs (disch:=omega) only [vf50,vb50,hb,hfi,hh,he,hd1,hd2,hd,go_sem,↓reduceIte,rA,rS,rE,rL,reduceCtorEq]
    exact ResH_err _ (by decide)
  ·simp -implicitDefEqProofs (disch:=omega) only [vf50,vb50,hb,hfi,hh,he,he0,go_sem,↓reduceIte,rA,rS,rE,rL,reduceCtorEq]
   exact ResH_err _ he0
end Go.V
