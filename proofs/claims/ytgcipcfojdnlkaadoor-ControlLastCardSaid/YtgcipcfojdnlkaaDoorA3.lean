/- Part 3 of the proof. -/
import Derived.Test.YtgcipcfojdnlkaaDoorA1
import Derived.Lib.SplitLaws
import Derived.Lib.Join
import Derived.Lib.TrailingZeros
import Derived.Test.YtgcipcfojdnlkaaDoorA2
set_option linter.unusedSectionVars false
set_option linter.unusedSimpArgs false
set_option linter.unusedVariables false
open Nat renaming reduceAdd → rA, reduceSub → rS, reduceEqDiff → rE, reduceLeDiff → rL, le_refl → lrf
open List renaming getElem?_eq_getElem → lgg, mem_of_getElem? → lmg, drop_eq_getElem_cons → ldg, mem_cons_of_mem → lmc, map_cons → lpc, drop_of_length_le → ldl, append_nil → lan, mem_map → lmm, mem_cons_self → lms, map_append → lma, take_of_length_le → ltl, length_cons → llc, length_append → lla, map_nil → lpn, length_nil → lln, length_map → llm, length_take → llt, cons_append → lca
namespace Go.V
def unS : PV -> Option ByteArray
 | .str s=>some s
 | _=>none
theorem unS_eq {x : PV} {s : ByteArray} (h : unS x = some s) : x = .str s:=by
 unfold unS at h
 split at h
 .simp at h; rw [h]
 .cases h
abbrev splitS (s sep : ByteArray) : List ByteArray:=Lib.splitB sep 0 (Lib.countB s sep) s
abbrev joinS (xs : List ByteArray) (sep : ByteArray) : ByteArray:=⟨(Lib.join (xs.map (·.data.toList)) sep.data.toList).toArray⟩
def XSplit (args : List VVal) (H : List Ob) : Option (VVal × List Ob):=match args,H with
 | [.p (.str s),.p (.str sep)],[]=>gd (s.size < 4294967281) <| gd (1 <= sep.size) <| some (.fresh 1 ((splitS s sep).map PV.str),[])
 | _,_=>none
def XJoin (args : List VVal) (H : List Ob) : Option (VVal × List Ob):=match args,H with
 | [.own (.arg 0 0) 0 0 n,.p (.str sep)],[.arr 1 xs]=>gd (n = xs.length) <| gd (n <= 140737488355328) <| ob (mapO unS xs) fun ss=>gd ((Lib.join (ss.map (·.data.toList)) sep.data.toList).length <= 140737488355328) <| some (.p (.str (joinS ss sep)),[.arr 1 xs])
 | _,_=>none
def XTz (args : List VVal) (H : List Ob) : Option (VVal × List Ob):=match args,H with
 | [.p (.int .u64 n)],[]=>gd (0 <= n /\ n < 18446744073709551616) <| some (.p (.int .i64 (Lib.ctz 64 n.toNat)),[])
 | _,_=>none
noncomputable def XS : Sig:=fun f args H=>if f = 14 then XSplit args H else if f = 13 then XJoin args H else if f = 21 then XTz args H else none
noncomputable abbrev V : Sig:=vcall prog XS
theorem XS_none {f : FuncId} {vf : VFunc} (hf : prog f = some vf) (args : List VVal) (H : List Ob) : XS f args H = none:=by
 unfold XS
 by_cases h1 : f = 14
 ·subst h1
  exact absurd hf (by simp [prog])
 ·by_cases h2 : f = 13
  ·subst h2
   exact absurd hf (by simp [prog])
  ·by_cases h3 : f = 21
   ·subst h3
    exact absurd hf (by simp [prog])
   .rw [if_neg h1,if_neg h2,if_neg h3]
theorem V_fix {f : FuncId} {vf : VFunc} (hf : prog f = some vf) {args : List VVal} {H : List Ob} {r : VVal × List Ob} (h : callF V vf args H = some r) : V f args H = some r:=vcall_fix (XS_none hf) hf h
theorem V_wp {f : FuncId} {vf : VFunc} (hf : prog f = some vf) {args : List VVal} {H : List Ob} {r : VVal × List Ob} (h : wp (callF V vf args H) (· = r)) : V f args H = some r:=V_fix hf (eq_of_wp h)
theorem V_x {f : FuncId} {args : List VVal} {H : List Ob} {r : VVal × List Ob} (h : XS f args H = some r) : V f args H = some r:=vcall_of (n:=0) h
theorem split_x {s sep : ByteArray} (hs : s.size < 4294967281) (h1 : 1 <= sep.size) : V 14 [.p (.str s),.p (.str sep)] [] = some (.fresh 1 ((splitS s sep).map PV.str),[]):=V_x (by
 simp only [XS,if_true,XSplit,gd,if_pos hs,if_pos h1])
theorem mapO_unS : ∀ (ss : List ByteArray),mapO unS (ss.map PV.str) = some ss
 | []=>rfl
 | s :: ss=>by
  simp only [lpc,mapO,unS,ob,mapO_unS ss]
theorem join_x {ss : List ByteArray} {sep : ByteArray} (hn : ss.length <= 140737488355328) (h : (Lib.join (ss.map (·.data.toList)) sep.data.toList).length <= 140737488355328) : V 13 [.own (.arg 0 0) 0 0 ss.length,.p (.str sep)] [.arr 1 (ss.map PV.str)] = some (.p (.str (joinS ss sep)),[.arr 1 (ss.map PV.str)]):=V_x (by
 have e : (13 : Nat) ≠ 14:=by decide
 simp only [XS,if_neg e,if_true,XJoin,llm,mapO_unS,gd,ob,if_pos hn,if_pos h])
theorem tz_x {n : Int} (h0 : 0 <= n) (h1 : n < 18446744073709551616) : V 21 [.p (.int .u64 n)] [] = some (.p (.int .i64 (Lib.ctz 64 n.toNat)),[]):=V_x (by
 have e : (21 : Nat) ≠ 14:=by decide
 have e2 : (21 : Nat) ≠ 13:=by decide
 simp only [XS,if_neg e,if_neg e2,if_true,XTz,gd,h0,h1,and_self])
def eachL (m : Nat) : List Int:=(([0,1,2,3,4] : List Nat).filter fun k=>m.testBit k).map fun k=>((2 ^ k : Nat) : Int)
def wordS (c : Int) : ByteArray:=if c = 1 then ⟨#[99,112,117]⟩ else if c = 2 then ⟨#[109,101,109,111,114,121]⟩ else if c = 4 then ⟨#[105,111]⟩ else if c = 8 then ⟨#[112,105,100,115]⟩ else ⟨#[99,112,117,115,101,116]⟩
abbrev namesL (m : Nat) : List ByteArray:=(eachL m).map wordS
theorem tabA : ∀ m : Fin 32,andI .i64 (m.val : Nat) 31 = (m.val : Nat) /\ IntKind.u64.wrap (m.val : Nat) = (m.val : Nat) /\ antI .i64 31 (m.val : Nat) = ((31 - m.val : Nat) : Int):=by decide +kernel
theorem tabB : ∀ m : Fin 32,m.val ≠ 0 -> eachL m.val = ((2 ^ Lib.ctz 64 m.val : Nat) : Int) :: eachL (m.val &&& (m.val - 1)) /\ m.val &&& (m.val - 1) < m.val /\ IntKind.u64.wrap ((m.val : Nat) - 1) = ((m.val - 1 : Nat) : Int) /\ andI .u64 (m.val : Nat) ((m.val - 1 : Nat) : Int) = ((m.val &&& (m.val - 1) : Nat) : Int) /\
  shlI .i64 1 ((Lib.ctz 64 m.val : Nat) : Int) = ((2 ^ Lib.ctz 64 m.val : Nat) : Int):=by decide +kernel
set_option maxHeartbeats 1000000 in
theorem each_eq (m : Nat) (hm : m < 32) : V 15 [.p (.int .i64 m)] [] = some (.fresh 1 ((eachL m).map (.int .i64)),[]):=by
 refine V_wp (vf:=vf15) rfl ?_
 obtain ⟨a1,a2,_⟩:=tabA ⟨m,hm⟩
 simp only at a1 a2
 simp -implicitDefEqProofs (disch:=omega) only [vf15,vb15,a1,a2,go_sem,↓reduceIte,rA,rS,rE,rL,reduceCtorEq]
 obtain ⟨R,hR⟩ : ∃ I : Nat -> St -> Prop,∀ r s,I r s ↔ ∃ (acc : List Int) (w : Nat),r < 32 /\ eachL m = acc ++ eachL r /\ acc.length + r <= 32 /\ s.pe 3 = .own (.slot 3 0) w 0 acc.length /\ s.pe 4 = .p (.int .u64 r) /\ s.h (.slot 3 0) = some (w,Ob.arr 1 (acc.map (.int .i64))):=⟨_,fun _ _=>Iff.rfl⟩
 refine wp_meas R id (m) ?_ ?_
 ·refine (hR _ _).2 ⟨[],0,?_,?_,?_,?_,?_,?_⟩
  .exact hm
  .rfl
  .exact by simp; omega
  all_goals exact cl0
 intro r s hRk
 obtain ⟨acc,w,hb,ha,hl,h3,h4,hh3_0⟩:=(hR _ _).1 hRk
 clear hRk
 by_cases hb0 : r = 0
 ·subst hb0
  have e : eachL 0 = []:=by decide
  rw [e,lan] at ha
  subst ha
  simp -implicitDefEqProofs (disch:=omega) only [h3,h4,hh3_0,Int.natCast_zero,go_sem,↓reduceIte,rA,rS,rE,rL,reduceCtorEq]
  rw [ltl (by simp)]
 ·have hz : ¬ (r : Int) = 0:=by omega
  obtain ⟨b1,b2,b3,b4,b5⟩:=tabB ⟨r,hb⟩ hb0
  simp only at b1 b2 b3 b4 b5
  have ht:=tz_x (n:=(r : Int)) (by omega) (by omega)
  rw [Int.toNat_natCast] at ht
  have hc0 : (0 : Int) <= (Lib.ctz 64 r : Nat):=Int.natCast_nonneg _
  rw [b1,List.append_cons] at ha
  generalize ((2 ^ Lib.ctz 64 r : Nat) : Int) = c at b5 ha
  generalize r &&& (r - 1) = r' at b2 b4 ha
  generalize Lib.ctz 64 r = z at ht b5 hc0
  have htk : List.take acc.length (acc.map (PV.int .i64)) = acc.map (PV.int .i64):=ltl (by simp)
  clear b1
  simp -implicitDefEqProofs (disch:=omega) only [h3,h4,hh3_0,hz,ht,b3,b4,b5,hc0,htk,go_sem,↓reduceIte,rA,rS,rE,rL,reduceCtorEq]
  refine ⟨r',by simp only [id]; omega,(hR _ _).2 ⟨acc ++ [c],w + 1,?_,?_,?_,?_,?_,?_⟩⟩
  .omega
  .exact ha
  .exact by simp; omega
  all_goals exact cl0
theorem word_eq (c : Int) : V 16 [.p (.int .i64 c)] [] = some (.p (.str (wordS c)),[]):=by
 refine V_wp (vf:=vf16) rfl ?_
 unfold wordS
 have f1 : ¬ (2 : Int) = 1:=by decide
 have f2 : ¬ (4 : Int) = 1:=by decide
 have f3 : ¬ (4 : Int) = 2:=by decide
 have f4 : ¬ (8 : Int) = 1:=by decide
 have f5 : ¬ (8 : Int) = 2:=by decide
 have f6 : ¬ (8 : Int) = 4:=by decide
 by_cases h1 : c = 1
 ·subst h1
  simp -implicitDefEqProofs (disch:=omega) only [vf16,vb16,go_sem,↓reduceIte,rA,rS,rE,rL,reduceCtorEq]
 ·by_cases h2 : c = 2
  ·subst h2
   simp -implicitDefEqProofs (disch:=omega) only [vf16,vb16,f1,go_sem,↓reduceIte,rA,rS,rE,rL,reduceCtorEq]
  ·by_cases h4 : c = 4
   ·subst h4
    simp -implicitDefEqProofs (disch:=omega) only [vf16,vb16,f2,f3,go_sem,↓reduceIte,rA,rS,rE,rL,reduceCtorEq]
   ·by_cases h8 : c = 8
    ·subst h8
     simp -implicitDefEqProofs (disch:=omega) only [vf16,vb16,f4,f5,f6,go_sem,↓reduceIte,rA,rS,rE,rL,reduceCtorEq]
    .simp -implicitDefEqProofs (disch:=omega) only [vf16,vb16,h1,h2,h4,h8,go_sem,↓reduceIte,rA,rS,rE,rL,reduceCtorEq]
theorem eachL_len : ∀ m : Fin 32,(eachL m.val).length <= 5:=by decide +kernel
theorem wordS_size (c : Int) : (wordS c).size <= 6:=by
 unfold wordS
 repeat' split
 all_goals decide
theorem take_snoc {α : Type} {l : List α} {k : Nat} {x : α} (h : l[k]? = some x) : l.take (k + 1) = l.take k ++ [x]:=by
 rw [List.take_add_one,h]
 rfl
abbrev spB : ByteArray:=⟨#[32]⟩
set_option maxHeartbeats 1000000 in
theorem names_eq (m : Nat) (hm : m < 32) : V 12 [.p (.int .i64 m)] [] = some (.fresh 1 ((namesL m).map PV.str),[]):=by
 refine V_wp (vf:=vf12) rfl ?_
 have h1:=each_eq m hm
 have hl:=eachL_len ⟨m,hm⟩
 simp only at hl
 unfold namesL
 generalize eachL m = l at h1 hl ⊢
 simp -implicitDefEqProofs (disch:=omega) only [vf12,vb12,h1,go_sem,↓reduceIte,rA,rS,rE,rL,reduceCtorEq]
 obtain ⟨I,hI⟩ : ∃ I : Nat -> St -> Prop,∀ k s,I k s ↔ ∃ (w : Nat),s.pe 3 = .own (.slot 3 0) w 0 k /\ s.pe 7 = .own (.slot 7 1) 0 0 l.length /\ s.pe 8 = .p (.int .i64 l.length) /\ s.pe 9 = .p (.int .i64 k) /\ s.h (.slot 3 0) = some (w,Ob.arr 1 (((l.take k).map wordS).map PV.str)) /\ s.h (.slot 7 1) = some (0,Ob.arr 1 (l.map (.int .i64))):=⟨_,fun _ _=>Iff.rfl⟩
 refine wp_count (l.length) I ?_ ?_
 ·refine (hI _ _).2 ⟨0,?_,?_,?_,?_,?_,?_⟩
  all_goals exact cl0
 intro k s hk hIk
 obtain ⟨w,h3,h7,h8,h9,hh3_0,hh7_1⟩:=(hI _ _).1 hIk
 clear hIk
 simp -implicitDefEqProofs (disch:=omega) only [h3,h7,h8,h9,hh3_0,hh7_1,go_sem,↓reduceIte,rA,rS,rE,rL,reduceCtorEq]
 refine wp_if_d (fun hlt=>?_) (fun hge=>?_)
 ·have hc : l[k]? = some l[k]:=lgg (by omega)
  have htk:=take_snoc hc
  generalize l[k] = c at hc htk
  have hw:=word_eq c
  have ht3 : List.take k (((l.take k).map wordS).map PV.str) = ((l.take k).map wordS).map PV.str:=ltl (by simp; omega)
  have ht4 : ((l.take (k + 1)).map wordS).map PV.str = ((l.take k).map wordS).map PV.str ++ [PV.str (wordS c)]:=by rw [htk]; simp
  simp -implicitDefEqProofs (disch:=omega) only [h3,h7,h8,h9,hh3_0,hh7_1,hlt,hc,hw,ht3,go_sem,↓reduceIte,rA,rS,rE,rL,reduceCtorEq]
  try refine And.intro (by omega) ?_
  refine (hI _ _).2 ⟨w + 1,?_,?_,?_,?_,?_,?_⟩
  all_goals exact cl0
 ·have hk : k = l.length:=by omega
  subst hk
  rw [List.take_length] at hh3_0
  have ht : List.take l.length ((l.map wordS).map PV.str) = (l.map wordS).map PV.str:=ltl (by simp)
  simp -implicitDefEqProofs (disch:=omega) only [h3,h7,h8,h9,hh3_0,hh7_1,hge,ht,go_sem,↓reduceIte,rA,rS,rE,rL,reduceCtorEq]
theorem join_len (xs : List ByteArray) (h : ∀ x ∈ xs,x.size <= 6) (hl : xs.length <= 5) : (Lib.join (xs.map (·.data.toList)) spB.data.toList).length <= 140737488355328:=by
 cases xs with
 | nil=>exact Nat.zero_le _
 | cons x r =>
  rw [lpc,Lib.join_cons,lla,Lib.joinTail_length,llm]
  have h1 : x.data.toList.length <= 6:=h x (lms ..)
  have h2 : ∀ r : List ByteArray,(∀ x ∈ r,x.size <= 6) -> Lib.lens (r.map (·.data.toList)) <= 6 * r.length:=by
   intro r
   induction r with
   | nil=>simp [Lib.lens]
   | cons y r ih =>
    intro hr
    have:=ih fun z hz=>hr z (lmc _ hz)
    have h3 : y.data.toList.length <= 6:=hr y (lms ..)
    simp only [Lib.lens,lpc,List.sum_cons,llc] at this ⊢
    omega
  have h3:=h2 r fun z hz=>h z (lmc _ hz)
  have h4 : spB.data.toList.length = 1:=rfl
  rw [h4]
  rw [llc] at hl
  omega
theorem format_eq (m : Nat) (hm : m < 32) : V 10 [.p (.int .i64 m)] [] = some (.p (.str (joinS (namesL m) spB)),[]):=by
 refine V_wp (vf:=vf10) rfl ?_
 have h1:=names_eq m hm
 have hl : (namesL m).length <= 5:=by simpa using eachL_len ⟨m,hm⟩
 have hj:=join_len (namesL m) (fun x hx=>by obtain ⟨c,_,rfl⟩:=lmm.1 hx; exact wordS_size c) hl
 have h2:=join_x (ss:=namesL m) (sep:=spB) (by omega) hj
 generalize namesL m = l at h1 h2 ⊢
 have ht : List.take l.length (l.map PV.str) = l.map PV.str:=ltl (by simp)
 simp -implicitDefEqProofs (disch:=omega) only [vf10,vb10,h1,h2,ht,go_sem,↓reduceIte,rA,rS,rE,rL,reduceCtorEq]
abbrev plusB (c : Int) : ByteArray:=⟨#[43]⟩ ++ wordS c
abbrev minusB (c : Int) : ByteArray:=⟨#[45]⟩ ++ wordS c
def signW (w : ByteArray) : List Int -> Option (Int × Bool)
 | []=>none
 | c :: cs=>if w = plusB c then some (c,true) else if w = minusB c then some (c,false) else signW w cs
def stepW (s : Int × Int) (q : Int × Bool) : Int × Int:=if q.2 then (orI .i64 s.1 q.1,antI .i64 s.2 q.1) else (antI .i64 s.1 q.1,orI .i64 s.2 q.1)
def parseW : List ByteArray -> Int × Int -> Option (Int × Int)
 | [],s=>some s
 | w :: ws,s=>if w = ⟨#[]⟩ then parseW ws s else match signW w [1,2,4,8,16] with
  | none=>none
  | some q=>parseW ws (stepW s q)
def parseR : Option (Int × Int) -> VVal
 | some r=>.tup [.p (.int .i64 r.1),.p (.int .i64 r.2),.p (.int .i64 0)]
 | none=>.tup [.p (.int .i64 0),.p (.int .i64 0),.p (.int .i64 2)]
theorem eachL_31 : eachL 31 = [1,2,4,8,16]:=by decide +kernel
set_option maxHeartbeats 4000000 in
theorem parse_eq (s : ByteArray) (hs : s.size < 4294967281) : V 11 [.p (.str s)] [] = some (parseR (parseW (splitS s spB) (0,0)),[]):=by
 refine V_wp (vf:=vf11) rfl ?_
 have h1:=split_x (sep:=spB) hs (by decide)
 have h2 : V 15 [.p (.int .i64 31)] [] = some (.fresh 1 ((eachL 31).map (.int .i64)),[]):=each_eq 31 (by omega)
 rw [eachL_31] at h2
 simp only [lpc,lpn] at h2
 have hlen : (splitS s spB).length <= 4294967281:=by
  have e1:=Lib.splitB_all spB (by decide) 0 _ s rfl
  have e2:=Lib.countB_le spB (by decide) s.size s (lrf _)
  show (Lib.splitB spB 0 (Lib.countB s spB) s).length <= _
  omega
 generalize splitS s spB = ws at h1 hlen ⊢
 simp -implicitDefEqProofs (disch:=omega) only [vf11,vb11,h1,go_sem,↓reduceIte,rA,rS,rE,rL,reduceCtorEq]
 obtain ⟨I,hI⟩ : ∃ I : Nat -> St -> Prop,∀ k s,I k s ↔ ∃ (st : Int × Int),parseW ws (0,0) = parseW (ws.drop k) st /\ s.pe 5 = .p (.int .i64 st.1) /\ s.pe 6 = .p (.int .i64 st.2) /\ s.pe 12 = .own (.slot 12 1) 0 0 ws.length /\ s.pe 13 = .p (.int .i64 ↑ws.length) /\ s.pe 14 = .p (.int .i64 k) /\ s.h (.slot 12 1) = some (0,Ob.arr 1 (List.map PV.str ws)):=⟨_,fun _ _=>Iff.rfl⟩
 refine wp_count (ws.length) I ?_ ?_
 ·refine (hI _ _).2 ⟨(0,0),?_,?_,?_,?_,?_,?_,?_⟩
  ·rfl
  all_goals exact cl0
 intro k s hk hIk
 obtain ⟨st,hp,h5,h6,h12,h13,h14,hh12_1⟩:=(hI _ _).1 hIk
 clear hIk
 simp -implicitDefEqProofs (disch:=omega) only [h5,h6,h12,h13,h14,hh12_1,go_sem,↓reduceIte,rA,rS,rE,rL,reduceCtorEq]
 refine wp_if_d (fun hlt=>?_) (fun hge=>?_)
 ·have hc : ws[k]? = some ws[k]:=lgg (by omega)
  have hdr : ws.drop k = ws[k] :: ws.drop (k + 1):=ldg (by omega)
  generalize ws[k] = x at hc hdr
  rw [hdr] at hp
  by_cases he : x = ⟨#[]⟩
  ·have hd : decide (x = ⟨#[]⟩) = true:=decide_eq_true he
   simp only [parseW,if_pos he] at hp
   simp -implicitDefEqProofs (disch:=omega) only [h5,h6,h12,h13,h14,hh12_1,hlt,hc,hd,go_sem,↓reduceIte,rA,rS,rE,rL,reduceCtorEq]
   try refine And.intro (by omega) ?_
   refine (hI _ _).2 ⟨st,?_,?_,?_,?_,?_,?_,?_⟩
   ·exact hp
   all_goals exact cl0
  ·have hd : decide (x = ⟨#[]⟩) = false:=decide_eq_false he
   simp only [parseW,if_neg he] at hp
   generalize hsg : signW x [1,2,4,8,16] = q0 at hp
   simp -implicitDefEqProofs (disch:=omega) only [h5,h6,h12,h13,h14,hh12_1,hlt,hc,hd,h2,go_sem,↓reduceIte,rA,rS,rE,rL,reduceCtorEq]
   obtain ⟨J,hJ⟩ : ∃ I : Nat -> St -> Prop,∀ j s,I j s ↔ ∃ (v20_1 : Nat),q0 = signW x (([1,2,4,8,16] : List Int).drop j) /\ s.pe 5 = .p (.int .i64 st.fst) /\ s.pe 6 = .p (.int .i64 st.snd) /\ s.pe 8 = .p (PV.str x) /\ s.pe 12 = .own (.slot 12 1) 0 0 ws.length /\ s.pe 13 = .p (.int .i64 ↑ws.length) /\ s.pe 14 = .p (.int .i64 ↑k) /\ s.pe 20 = .own (.slot 20 1) v20_1 0 5 /\ s.pe 21 = .p (.int .i64 ↑5) /\ s.pe 22 = .p (.int .i64 j) /\ s.h (.slot 12 1) = some (0,Ob.arr 1 (List.map PV.str ws)) /\ s.h (.slot 20 1) = some (v20_1,Ob.arr 1 [PV.int IntKind.i64 1,PV.int IntKind.i64 2,PV.int IntKind.i64 4,PV.int IntKind.i64 8,PV.int IntKind.i64 16]):=⟨_,fun _ _=>Iff.rfl⟩
   refine wp_count (5) J ?_ ?_
   ·refine (hJ _ _).2 ⟨nv (fzOb [20] s.h (.slot 20 1)),?_,?_,?_,?_,?_,?_,?_,?_,?_,?_,?_,?_⟩
    ·exact hsg.symm
    all_goals exact cl0
   intro j s hj hJk
   obtain ⟨v20_1,hq,h5,h6,h8,h12,h13,h14,h20,h21,h22,hh12_1,hh20_1⟩:=(hJ _ _).1 hJk
   clear hJk
   simp -implicitDefEqProofs (disch:=omega) only [h5,h6,h8,h12,h13,h14,h20,h21,h22,hh12_1,hh20_1,go_sem,↓reduceIte,rA,rS,rE,rL,reduceCtorEq]
   refine wp_if_d (fun hlt2=>?_) (fun hge2=>?_)
   ·obtain ⟨c,hcj,hdj⟩ : ∃ c,([PV.int IntKind.i64 1,PV.int IntKind.i64 2,PV.int IntKind.i64 4,PV.int IntKind.i64 8,PV.int IntKind.i64 16] : List PV)[j]? = some (.int .i64 c) /\ ([1,2,4,8,16] : List Int).drop j = c :: ([1,2,4,8,16] : List Int).drop (j + 1):=by
     have hj5 : j < 5:=by omega
     match j,hj5 with
     | 0,_=>exact ⟨_,rfl,rfl⟩
     | 1,_=>exact ⟨_,rfl,rfl⟩
     | 2,_=>exact ⟨_,rfl,rfl⟩
     | 3,_=>exact ⟨_,rfl,rfl⟩
     | 4,_=>exact ⟨_,rfl,rfl⟩
    rw [hdj] at hq
    simp only [signW] at hq
    have hw:=word_eq c
    have z1 : (⟨#[43]⟩ : ByteArray).size = 1:=rfl
    have z2 : (⟨#[45]⟩ : ByteArray).size = 1:=rfl
    have hws:=wordS_size c
    by_cases hp1 : x = ⟨#[43]⟩ ++ wordS c
    ·have d1 : decide (x = ⟨#[43]⟩ ++ wordS c) = true:=decide_eq_true hp1
     rw [if_pos hp1] at hq
     rw [hq] at hp
     simp -implicitDefEqProofs (disch:=omega) only [h5,h6,h8,h12,h13,h14,h20,h21,h22,hh12_1,hh20_1,hlt2,hcj,hw,d1,go_sem,↓reduceIte,rA,rS,rE,rL,reduceCtorEq]
     try refine And.intro (by omega) ?_
     refine (hI _ _).2 ⟨(orI .i64 st.1 c,antI .i64 st.2 c),?_,?_,?_,?_,?_,?_,?_⟩
     ·exact hp
     all_goals exact cl0
    ·have d1 : decide (x = ⟨#[43]⟩ ++ wordS c) = false:=decide_eq_false hp1
     rw [if_neg hp1] at hq
     by_cases hp2 : x = ⟨#[45]⟩ ++ wordS c
     ·have d2 : decide (x = ⟨#[45]⟩ ++ wordS c) = true:=decide_eq_true hp2
      rw [if_pos hp2] at hq
      rw [hq] at hp
      simp -implicitDefEqProofs (disch:=omega) only [h5,h6,h8,h12,h13,h14,h20,h21,h22,hh12_1,hh20_1,hlt2,hcj,hw,d1,d2,go_sem,↓reduceIte,rA,rS,rE,rL,reduceCtorEq]
      try refine And.intro (by omega) ?_
      refine (hI _ _).2 ⟨(antI .i64 st.1 c,orI .i64 st.2 c),?_,?_,?_,?_,?_,?_,?_⟩
      .exact hp
      all_goals exact cl0
     ·have d2 : decide (x = ⟨#[45]⟩ ++ wordS c) = false:=decide_eq_false hp2
      rw [if_neg hp2] at hq
      simp -implicitDefEqProofs (disch:=omega) only [h5,h6,h8,h12,h13,h14,h20,h21,h22,hh12_1,hh20_1,hlt2,hcj,hw,d1,d2,go_sem,↓reduceIte,rA,rS,rE,rL,reduceCtorEq]
      try refine And.intro (by omega) ?_
      refine (hJ _ _).2 ⟨v20_1,?_,?_,?_,?_,?_,?_,?_,?_,?_,?_,?_,?_⟩
      .exact hq
      all_goals exact cl0
   ·rw [ldl (by simp; omega)] at hq
    simp only [signW] at hq
    rw [hq] at hp
    simp only at hp
    rw [hp]
    unfold parseR
    simp -implicitDefEqProofs (disch:=omega) only [h5,h6,h8,h12,h13,h14,h20,h21,h22,hh12_1,hh20_1,hge2,go_sem,↓reduceIte,rA,rS,rE,rL,reduceCtorEq]
 ·rw [ldl (by omega)] at hp
  simp only [parseW] at hp
  rw [hp]
  unfold parseR
  simp -implicitDefEqProofs (disch:=omega) only [h5,h6,h12,h13,h14,hh12_1,hge,go_sem,↓reduceIte,rA,rS,rE,rL,reduceCtorEq]
def cutL : List UInt8 -> List (List UInt8)
 | []=>[[]]
 | b :: l=>if b = 32 then [] :: cutL l else match cutL l with
  | x :: xs=>(b :: x) :: xs
  | []=>[[b]]
theorem cutL_split : ∀ l : List UInt8,Lib.splitK [32] 0 (Lib.count l [32]) l = cutL l
 | []=>rfl
 | b :: l=>by
  have ih:=cutL_split l
  by_cases hb : b = 32
  ·subst hb
   have hix : Lib.index (32 :: l) [32] = 0:=by rw [Lib.index]; simp [List.isPrefixOf]
   rw [Lib.count_cons_eq,Nat.add_comm,Lib.splitK,hix]
   simp only [cutL,if_pos]
   rw [if_neg (by decide)]
   simp only [Int.toNat_zero,Nat.zero_add,List.take_zero,llc,lln,List.drop_succ_cons,List.drop_zero,ih]
  ·have hp : ([32] : List UInt8).isPrefixOf (b :: l) = false:=by simp [List.isPrefixOf,Ne.symm hb]
   have hix : Lib.index (b :: l) [32] = if Lib.index l [32] == -1 then -1 else Lib.index l [32] + 1:=by rw [Lib.index,hp]; simp
   rw [Lib.count_cons_ne b 32 l hb]
   simp only [cutL,if_neg hb]
   rw [<- ih]
   by_cases hm : Lib.index l [32] = -1
   ·rw [Lib.count_miss hm,Lib.splitK,Lib.splitK]
   ·have hge:=Lib.index_ge l [32]
    obtain ⟨j,hj⟩ : ∃ j : Nat,Lib.index l [32] = j:=⟨(Lib.index l [32]).toNat,by omega⟩
    have hix' : Lib.index (b :: l) [32] = ((j + 1 : Nat) : Int):=by rw [hix,if_neg (fun e=>hm (beq_iff_eq.1 e)),hj]; omega
    have hn : ¬ ((((j : Nat) : Int)) == -1) = true:=fun e=>by have:=beq_iff_eq.1 e; omega
    have hn' : ¬ ((((j + 1 : Nat) : Int)) == -1) = true:=fun e=>by have:=beq_iff_eq.1 e; omega
    rw [Lib.count_hit (by simp) hj,Nat.add_comm,Lib.splitK,Lib.splitK,hix',hj,if_neg hn,if_neg hn']
    simp only [Int.toNat_natCast,Nat.add_zero,llc,lln,List.take_succ_cons,List.drop_succ_cons]
theorem cutL_ne : ∀ l,cutL l ≠ []
 | []=>by simp [cutL]
 | b :: l=>by
  unfold cutL
  split
  .simp
  .split <;> simp
theorem cutL_app : ∀ a b : List UInt8,cutL (a ++ 32 :: b) = cutL a ++ cutL b
 | [],b=>by simp [cutL]
 | x :: a,b=>by
  have ih:=cutL_app a b
  rw [lca]
  simp only [cutL]
  by_cases hx : x = 32
  ·rw [if_pos hx,if_pos hx,ih]; rfl
  ·rw [if_neg hx,if_neg hx,ih]
   cases h : cutL a with
   | nil=>exact absurd h (cutL_ne a)
   | cons y ys=>rfl
theorem splitS_cut (s : ByteArray) : (splitS s spB).map (·.data.toList) = cutL s.data.toList:=by
 rw [splitS,Lib.splitB_data]
 exact cutL_split _
theorem bytes_inj : ∀ {a b : List ByteArray},a.map (·.data.toList) = b.map (·.data.toList) -> a = b
 | [],[],_=>rfl
 | x :: a,y :: b,h=>by
  simp only [lpc,List.cons.injEq] at h
  rw [bytes_inj h.2]
  congr 1
  obtain ⟨⟨x⟩⟩:=x
  obtain ⟨⟨y⟩⟩:=y
  simp only at h
  rw [h.1]
theorem splitS_app (a b : ByteArray) : splitS (a ++ (spB ++ b)) spB = splitS a spB ++ splitS b spB:=by
 apply bytes_inj
 rw [lma,splitS_cut,splitS_cut,splitS_cut,<- cutL_app]
 simp
theorem parseW_app : ∀ (a b : List ByteArray) (s : Int × Int),parseW (a ++ b) s = (parseW a s).bind (parseW b)
 | [],b,s=>rfl
 | w :: a,b,s=>by
  rw [lca]
  simp only [parseW]
  split
  ·exact parseW_app a b s
  ·split
   .rfl
   .exact parseW_app a b _
abbrev readW (s : ByteArray) (r : Int × Int) : Prop:=parseW (splitS s spB) (0,0) = some r
theorem readW_app {s b : ByteArray} {r : Int × Int} (h : readW s r) : parseW (splitS (s ++ (spB ++ b)) spB) (0,0) = parseW (splitS b spB) r:=by
 rw [splitS_app,parseW_app,h]
 rfl
abbrev gapB (g : Nat) : ByteArray:=if g = 0 then ⟨#[32]⟩ else if g = 1 then ⟨#[32,32]⟩ else ⟨#[32,32,32]⟩
theorem readW_word {s w : ByteArray} {r r' : Int × Int} {q : Int × Bool} (g : Nat) (h : readW s r) (hw : ∀ r,parseW (splitS w spB) r = some (stepW r q)) (e : r' = stepW r q) : readW (s ++ gapB g ++ w) r':=by
 subst e
 have h1 : ∀ {s : ByteArray},readW s r -> readW (s ++ spB) r:=fun {s} h=>by
  have:=readW_app (b:=⟨#[]⟩) h
  rw [show spB ++ (⟨#[]⟩ : ByteArray) = spB from rfl] at this
  rw [readW,this]
  rfl
 have h2 : ∀ {s : ByteArray},readW s r -> readW (s ++ (spB ++ w)) (stepW r q):=fun {s} h=>by
  rw [readW,readW_app h,hw]
 unfold gapB
 split
 ·rw [ByteArray.append_assoc]; exact h2 h
 ·split
  ·rw [show (⟨#[32,32]⟩ : ByteArray) = spB ++ spB from rfl,<- ByteArray.append_assoc,ByteArray.append_assoc]
   exact h2 (h1 h)
  ·rw [show (⟨#[32,32,32]⟩ : ByteArray) = spB ++ spB ++ spB from rfl,<- ByteArray.append_assoc,<- ByteArray.append_assoc,ByteArray.append_assoc]
   exact h2 (h1 (h1 h))
theorem readW_end {s : ByteArray} {r : Int × Int} (h : readW s r) : readW (s ++ spB) r:=by
 have:=readW_app (b:=⟨#[]⟩) h
 rw [show spB ++ (⟨#[]⟩ : ByteArray) = spB from rfl] at this
 rw [readW,this]
 rfl
theorem split_words : ∀ k : Fin 5,splitS (⟨#[43]⟩ ++ wordS ((2 ^ k.val : Nat) : Int)) spB = [⟨#[43]⟩ ++ wordS ((2 ^ k.val : Nat) : Int)] /\ splitS (⟨#[45]⟩ ++ wordS ((2 ^ k.val : Nat) : Int)) spB = [⟨#[45]⟩ ++ wordS ((2 ^ k.val : Nat) : Int)] /\
  signW (⟨#[43]⟩ ++ wordS ((2 ^ k.val : Nat) : Int)) [1,2,4,8,16] = some (((2 ^ k.val : Nat) : Int),true) /\ signW (⟨#[45]⟩ ++ wordS ((2 ^ k.val : Nat) : Int)) [1,2,4,8,16] = some (((2 ^ k.val : Nat) : Int),false) /\
  ¬ (⟨#[43]⟩ ++ wordS ((2 ^ k.val : Nat) : Int)) = ⟨#[]⟩ /\ ¬ (⟨#[45]⟩ ++ wordS ((2 ^ k.val : Nat) : Int)) = ⟨#[]⟩ /\ joinS (namesL (2 ^ k.val)) spB = wordS ((2 ^ k.val : Nat) : Int):=by decide +kernel
theorem plus_word (k : Nat) (hk : k < 5) (r : Int × Int) : parseW (splitS (⟨#[43]⟩ ++ wordS ((2 ^ k : Nat) : Int)) spB) r = some (stepW r (((2 ^ k : Nat) : Int),true)):=by
 obtain ⟨h1,_,h3,_,h5,_⟩:=split_words ⟨k,hk⟩
 simp only at h1 h3 h5
 rw [h1]
 simp only [parseW,if_neg h5,h3]
theorem minus_word (k : Nat) (hk : k < 5) (r : Int × Int) : parseW (splitS (⟨#[45]⟩ ++ wordS ((2 ^ k : Nat) : Int)) spB) r = some (stepW r (((2 ^ k : Nat) : Int),false)):=by
 obtain ⟨_,h2,_,h4,_,h6,_⟩:=split_words ⟨k,hk⟩
 simp only at h2 h4 h6
 rw [h2]
 simp only [parseW,if_neg h6,h4]
theorem ok_sane : parseW (splitS ⟨#[43,99,112,117,32,45,105,111]⟩ spB) (0,0) = some (1,4):=by decide +kernel
theorem ok_format : joinS (namesL 9) spB = ⟨#[99,112,117,32,112,105,100,115]⟩:=by decide +kernel
set_option maxHeartbeats 1000000 in
theorem sane7_eq : V 6 [] [] = some (.p (.bool true),[]):=by
 refine V_wp (vf:=vf6) rfl ?_
 have h1:=parse_eq ⟨#[43,99,112,117,32,45,105,111]⟩ (by decide)
 rw [ok_sane] at h1
 simp only [parseR] at h1
 have h2 : V 10 [.p (.int .i64 9)] [] = some (.p (.str (joinS (namesL 9) spB)),[]):=format_eq 9 (by omega)
 rw [ok_format] at h2
 simp -implicitDefEqProofs (disch:=omega) only [vf6,vb6,h1,h2,go_sem,↓reduceIte,rA,rS,rE,rL,reduceCtorEq]
def txtL (p : ByteArray) (l : List ByteArray) (s : ByteArray) : ByteArray:=l.foldl (fun s x=>s ++ (p ++ x)) s
theorem ok_back : ∀ m : Fin 32,parseW (splitS (txtL ⟨#[32,45]⟩ (namesL (31 - m.val)) (txtL ⟨#[32,43]⟩ (namesL m.val) ⟨#[]⟩)) spB) (0,0) = some (((m.val : Nat) : Int),((31 - m.val : Nat) : Int)):=by decide +kernel
theorem tabW : ∀ m : Fin 32,IntKind.i64.wrap ((m.val : Nat) : Int) = ((m.val : Nat) : Int):=by decide +kernel
theorem txt_take {p : ByteArray} {l : List ByteArray} {s : ByteArray} {k : Nat} {x : ByteArray} (h : l[k]? = some x) : txtL p (l.take (k + 1)) s = txtL p (l.take k) s ++ (p ++ x):=by
 rw [take_snoc h]
 simp [txtL]
theorem txt_size {p : ByteArray} (hp : p.size = 2) : ∀ (l : List ByteArray) (s : ByteArray),(∀ x ∈ l,x.size <= 6) -> (txtL p l s).size <= s.size + 8 * l.length
 | [],s,_=>by simp [txtL]
 | x :: l,s,h=>by
  have:=txt_size hp l (s ++ (p ++ x)) fun y hy=>h y (lmc _ hy)
  have h1:=h x (lms ..)
  simp only [txtL,List.foldl_cons,llc] at this ⊢
  rw [ByteArray.size_append,ByteArray.size_append,hp] at this
  omega
set_option maxHeartbeats 4000000 in
theorem controlBack_eq (n : Int) (h0 : 0 <= n) (hn : n < 256) : V 4 [.p (.int .u8 n)] [] = some (.p (.bool true),[]):=by
 refine V_wp (vf:=vf4) rfl ?_
 obtain ⟨m,hm,hm2⟩ : ∃ m : Nat,m < 32 /\ n.tmod 32 = (m : Int):=⟨(n % 32).toNat,by omega,by rw [Int.tmod_eq_emod_of_nonneg h0]; omega⟩
 have hsane:=sane7_eq
 have h1:=names_eq m hm
 have h2:=names_eq (31 - m) (by omega)
 obtain ⟨a1,_,a3⟩:=tabA ⟨m,hm⟩
 simp only at a1 a3
 have hb:=ok_back ⟨m,hm⟩
 simp only at hb
 have w1 : ∀ x ∈ namesL m,x.size <= 6:=fun x hx=>by obtain ⟨c,_,rfl⟩:=lmm.1 hx; exact wordS_size c
 have w2 : ∀ x ∈ namesL (31 - m),x.size <= 6:=fun x hx=>by obtain ⟨c,_,rfl⟩:=lmm.1 hx; exact wordS_size c
 have l1 : (namesL m).length <= 5:=by simpa using eachL_len ⟨m,hm⟩
 have l2 : (namesL (31 - m)).length <= 5:=by simpa using eachL_len ⟨31 - m,by omega⟩
 have z1:=txt_size (p:=⟨#[32,43]⟩) rfl (namesL m) ⟨#[]⟩ w1
 have z2:=txt_size (p:=⟨#[32,45]⟩) rfl (namesL (31 - m)) (txtL ⟨#[32,43]⟩ (namesL m) ⟨#[]⟩) w2
 have e0 : (⟨#[]⟩ : ByteArray).size = 0:=rfl
 have hp:=parse_eq (txtL ⟨#[32,45]⟩ (namesL (31 - m)) (txtL ⟨#[32,43]⟩ (namesL m) ⟨#[]⟩)) (by omega)
 rw [hb] at hp
 simp only [parseR] at hp
 generalize namesL m = A at *
 generalize namesL (31 - m) = B at *
 have hwr : IntKind.i64.wrap (m : Int) = m:=tabW ⟨m,hm⟩
 simp -implicitDefEqProofs (disch:=omega) only [vf4,vb4,hm2,hwr,h1,go_sem,↓reduceIte,rA,rS,rE,rL,reduceCtorEq]
 obtain ⟨I,hI⟩ : ∃ I : Nat -> St -> Prop,∀ k s,I k s ↔ s.pe 3 = .p (.int .i64 ↑m) /\ s.pe 4 = .p (.str (txtL ⟨#[32,43]⟩ (A.take k) ⟨#[]⟩)) /\ s.pe 16 = .own (.slot 16 1) 0 0 A.length /\ s.pe 17 = .p (.int .i64 ↑A.length) /\ s.pe 18 = .p (.int .i64 k) /\ s.h (.slot 16 1) = some (0,Ob.arr 1 (List.map PV.str A)):=⟨_,fun _ _=>Iff.rfl⟩
 refine wp_count (A.length) I ?_ ?_
 ·refine (hI _ _).2 ⟨?_,?_,?_,?_,?_,?_⟩
  all_goals exact cl0
 intro k s hk hIk
 obtain ⟨h3,h4,h16,h17,h18,hh16_1⟩:=(hI _ _).1 hIk
 clear hIk
 simp -implicitDefEqProofs (disch:=omega) only [h3,h4,h16,h17,h18,hh16_1,go_sem,↓reduceIte,rA,rS,rE,rL,reduceCtorEq]
 refine wp_if_d (fun hlt=>?_) (fun hge=>?_)
 ·have hc : A[k]? = some A[k]:=lgg (by omega)
  have htx:=txt_take (p:=⟨#[32,43]⟩) (s:=⟨#[]⟩) hc
  have hzk:=txt_size (p:=⟨#[32,43]⟩) rfl (A.take k) ⟨#[]⟩ (fun x hx=>w1 x (List.mem_of_mem_take hx))
  rw [llt] at hzk
  have hx:=w1 _ (lmg hc)
  generalize A[k] = x at hc htx hx
  have hpx : ((⟨#[32,43]⟩ : ByteArray) ++ x).size = 2 + x.size:=by rw [ByteArray.size_append]; rfl
  have hl2 : (⟨#[32,43]⟩ : ByteArray).size = 2:=rfl
  simp -implicitDefEqProofs (disch:=omega) only [h3,h4,h16,h17,h18,hh16_1,hlt,hc,go_sem,↓reduceIte,rA,rS,rE,rL,reduceCtorEq]
  try refine And.intro (by omega) ?_
  refine (hI _ _).2 ⟨?_,?_,?_,?_,?_,?_⟩
  all_goals exact cl0
 ·rw [ltl (by omega)] at h4
  simp -implicitDefEqProofs (disch:=omega) only [h3,h4,h16,h17,h18,hh16_1,hge,a3,h2,go_sem,↓reduceIte,rA,rS,rE,rL,reduceCtorEq]
  obtain ⟨J,hJ⟩ : ∃ I : Nat -> St -> Prop,∀ j s,I j s ↔ ∃ (v29_1 : Nat),s.pe 3 = .p (.int .i64 ↑m) /\ s.pe 4 = .p (.str (txtL ⟨#[32,45]⟩ (B.take j) (txtL ⟨#[32,43]⟩ A ⟨#[]⟩))) /\ s.pe 29 = .own (.slot 29 1) v29_1 0 B.length /\ s.pe 30 = .p (.int .i64 ↑B.length) /\ s.pe 31 = .p (.int .i64 j) /\ s.h (.slot 29 1) = some (v29_1,Ob.arr 1 (List.map PV.str B)):=⟨_,fun _ _=>Iff.rfl⟩
  refine wp_count (B.length) J ?_ ?_
  ·refine (hJ _ _).2 ⟨nv (s.h (.slot 29 1)),?_,?_,?_,?_,?_,?_⟩
   all_goals exact cl0
  intro j s hj hJk
  obtain ⟨v29_1,h3,h4,h29,h30,h31,hh29_1⟩:=(hJ _ _).1 hJk
  clear hJk
  simp -implicitDefEqProofs (disch:=omega) only [h3,h4,h29,h30,h31,hh29_1,go_sem,↓reduceIte,rA,rS,rE,rL,reduceCtorEq]
  refine wp_if_d (fun hlt2=>?_) (fun hge2=>?_)
  ·have hc : B[j]? = some B[j]:=lgg (by omega)
   have htx:=txt_take (p:=⟨#[32,45]⟩) (s:=txtL ⟨#[32,43]⟩ A ⟨#[]⟩) hc
   have hzk:=txt_size (p:=⟨#[32,45]⟩) rfl (B.take j) (txtL ⟨#[32,43]⟩ A ⟨#[]⟩) (fun x hx=>w2 x (List.mem_of_mem_take hx))
   rw [llt] at hzk
   have hx:=w2 _ (lmg hc)
   generalize B[j] = x at hc htx hx
   have hpx : ((⟨#[32,45]⟩ : ByteArray) ++ x).size = 2 + x.size:=by rw [ByteArray.size_append]; rfl
   have hl2 : (⟨#[32,45]⟩ : ByteArray).size = 2:=rfl
   simp -implicitDefEqProofs (disch:=omega) only [h3,h4,h29,h30,h31,hh29_1,hlt2,hc,go_sem,↓reduceIte,rA,rS,rE,rL,reduceCtorEq]
   try refine And.intro (by omega) ?_
   refine (hJ _ _).2 ⟨v29_1,?_,?_,?_,?_,?_,?_⟩
   all_goals exact cl0
  ·rw [ltl (by omega)] at h4
   simp -implicitDefEqProofs (disch:=omega) only [h3,h4,h29,h30,h31,hh29_1,hge2,hp,a3,hsane,go_sem,↓reduceIte,rA,rS,rE,rL,reduceCtorEq]
end Go.V
