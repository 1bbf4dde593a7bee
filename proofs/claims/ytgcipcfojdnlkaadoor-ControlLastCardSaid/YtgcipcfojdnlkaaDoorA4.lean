/- Part 4 of the proof. -/
import Derived.Test.YtgcipcfojdnlkaaDoorA3
set_option linter.unusedSectionVars false
set_option linter.unusedSimpArgs false
set_option linter.unusedVariables false
open Nat renaming reduceAdd → rA, reduceSub → rS, reduceEqDiff → rE, reduceLeDiff → rL
open List renaming getElem?_eq_getElem → lgg, mem_map → lmm, take_of_length_le → ltl, length_map → llm
open Bool renaming false_eq_true → bft
namespace Go.V
structure Nd where
 id : Int
 parent : Int
 name : ByteArray
 control : Int
 kind : Int
 owner : Int
 deriving DecidableEq
def Nd.pv (n : Nd) : PV:=.agg [.int .i64 n.id,.int .i64 n.parent,.str n.name,.int .i64 n.control,.int .i64 n.kind,.int .i64 n.owner]
def Nd.vv (n : Nd) : VVal:=.agg [.p (.int .i64 n.id),.p (.int .i64 n.parent),.p (.str n.name),.p (.int .i64 n.control),.p (.int .i64 n.kind),.p (.int .i64 n.owner)]
abbrev nodesP (ns : List Nd) : PV:=.slice 6 (ns.map Nd.pv)
structure Tr where
 nodes : List Nd
 next : Int
abbrev Tr.vv (t : Tr) : VVal:=.agg [.p (nodesP t.nodes),.p (.int .i64 t.next)]
abbrev intsP (xs : List Int) : PV:=.slice 1 (xs.map (.int .i64))
attribute [go_sem] Nd.pv solid
theorem nodes_flat (ns : List Nd) : (ns.map Nd.pv).all PV.flat = true:=by
 rw [List.all_eq_true]
 intro x hx
 obtain ⟨n,_,rfl⟩:=lmm.1 hx
 rfl
theorem ints_flat (k : IntKind) (xs : List Int) : (xs.map (PV.int k)).all PV.flat = true:=by
 rw [List.all_eq_true]
 intro x hx
 obtain ⟨n,_,rfl⟩:=lmm.1 hx
 rfl
attribute [go_sem] nodes_flat ints_flat
theorem light_eq (xs : List PV) : V 5 [.p (.slice 1 xs)] [] = some (.p (.bool (decide (xs.length <= 600))),[]):=by
 refine V_fix (vf:=vf5) rfl ?_
 simp -implicitDefEqProofs (disch:=omega) only [vf5,vb5,go_sem,↓reduceIte,rA,rS,rE,rL,reduceCtorEq]
 simp only [show (600 : Int) = ((600 : Nat) : Int) from rfl,Int.ofNat_le]
abbrev diceB (L : List Int) (a : Nat) : Ob:=.box [.p (intsP L),.p (.int .i64 a)]
theorem roll_eq (L : List Int) : V 7 [.p (intsP L)] [] = some (.boxed [.p (intsP L),.p (.int .i64 0)],[]):=by
 refine V_fix (vf:=vf7) rfl ?_
 simp -implicitDefEqProofs (disch:=omega) only [vf7,vb7,go_sem,↓reduceIte,rA,rS,rE,rL,reduceCtorEq]
def nextV (L : List Int) (a : Nat) (n : Int) : Int:=if 1 <= n then (L.getD a 0) % n else 0
def nextA (L : List Int) (a : Nat) (n : Int) : Nat:=if a < L.length /\ 1 <= n then a + 1 else a
theorem emod_tmod {x n : Int} (h : 1 <= n) : x % n = if x.tmod n < 0 then x.tmod n + n else x.tmod n:=by
 have h3:=Int.emod_nonneg x (show n ≠ 0 by omega)
 have h4:=Int.emod_lt_of_pos x (show 0 < n by omega)
 have h5:=Int.tmod_eq_emod (a:=x) (b:=n)
 rw [h5]
 split <;> split <;> omega
theorem next_eq (L : List Int) (a : Nat) (n : Int) (hL : L.length < 4611686018427387904) (hn : n < 4611686018427387904) : V 8 [.ptr (.arg 0 0) 0 0,.p (.int .i64 n)] [diceB L a] = some (.p (.int .i64 (nextV L a n)),[diceB L (nextA L a n)]):=by
 refine V_wp (vf:=vf8) rfl ?_
 by_cases ha : L.length <= a
 ·simp -implicitDefEqProofs (disch:=omega) only [vf8,vb8,ha,go_sem,↓reduceIte,rA,rS,rE,rL,reduceCtorEq]
  simp [nextV,nextA,List.getD_eq_getElem?_getD,List.getElem?_eq_none ha,Nat.not_lt.2 ha]
 ·have hx : L[a]? = some (L.getD a 0):=by
   rw [List.getD_eq_getElem?_getD,lgg (by omega)]; rfl
  have ht : (((a : Int) + 1 - 1).toNat) = a:=by omega
  simp -implicitDefEqProofs (disch:=omega) only [vf8,vb8,ha,go_sem,↓reduceIte,rA,rS,rE,rL,reduceCtorEq]
  repeat' ((first | refine wp_grn_d (fun hb=>?_) (fun hb=>?_) | refine wp_gtn_d (fun hb=>?_) (fun hb=>?_) | refine wp_gr_d (fun hb=>?_) (fun hb=>?_) | refine wp_gt_d (fun hb=>?_) (fun hb=>?_) | refine wp_gr (fun hb=>?_) (fun hb=>?_) | refine wp_gt (fun hb=>?_) (fun hb=>?_) | refine wp_nt_d (fun hb=>?_) (fun hb=>?_) | refine wp_nt (fun hb=>?_) (fun hb=>?_) | refine wp_if_d (fun hb=>?_) (fun hb=>?_) | refine wp_if (fun hb=>?_) (fun hb=>?_)) <;> simp -implicitDefEqProofs (disch:=omega) only [hb,hx,ht,go_sem,↓reduceIte,rA,rS,rE,rL,reduceCtorEq])
  ·simp [nextV,nextA,show ¬ 1 <= n by omega]
  ·have:=emod_tmod (x:=L.getD a 0) (n:=n) (by omega)
   rw [if_pos (by assumption)] at this
   have h1:=Int.tmod_lt_of_pos (L.getD a 0) (show 0 < n by omega)
   have h2:=Int.emod_nonneg (L.getD a 0) (show n ≠ 0 by omega)
   rw [wrap64 (by omega) (by omega),<- this]
   simp only [nextV,nextA,show 1 <= n by omega,show a < L.length by omega,and_self,if_true,diceB,Int.natCast_add,Int.natCast_one]
  ·have:=emod_tmod (x:=L.getD a 0) (n:=n) (by omega)
   rw [if_neg (by assumption)] at this
   rw [<- this]
   simp only [nextV,nextA,show 1 <= n by omega,show a < L.length by omega,and_self,if_true,diceB,Int.natCast_add,Int.natCast_one]
theorem nextV_nonneg (L : List Int) (a : Nat) (n : Int) : 0 <= nextV L a n:=by
 unfold nextV
 split
 .exact Int.emod_nonneg _ (by omega)
 .omega
theorem nextV_lt (L : List Int) (a : Nat) {n : Int} (h : 1 <= n) : nextV L a n < n:=by
 unfold nextV
 rw [if_pos h]
 exact Int.emod_lt_of_pos _ (by omega)
theorem take_map_self {α β : Type} (f : α -> β) (l : List α) : List.take l.length (l.map f) = l.map f:=by
 rw [ltl (by simp)]
theorem take_map_snoc {α β : Type} (f : α -> β) (l : List α) (x : β) : List.take (l.length + 1) (l.map f ++ [x]) = l.map f ++ [x]:=by
 rw [ltl (by simp)]
attribute [go_sem] take_map_self take_map_snoc
attribute [go_sem] Nd.vv
theorem bool_eq7 (L : List Int) (a : Nat) (n : Int) (hL : L.length < 4611686018427387904) (h1 : 1 <= n) (hn : n < 4611686018427387904) : V 9 [.ptr (.arg 0 0) 0 0,.p (.int .i64 n)] [diceB L a] = some (.p (.bool (decide (nextV L a n = n - 1))),[diceB L (nextA L a n)]):=by
 refine V_wp (vf:=vf9) rfl ?_
 have hc:=next_eq L a n hL hn
 simp -implicitDefEqProofs (disch:=omega) only [vf9,vb9,hc,go_sem,↓reduceIte,rA,rS,rE,rL,reduceCtorEq]
theorem tabK : ∀ k : Fin 5,IntKind.u64.wrap ((k.val : Nat) : Int) = ((k.val : Nat) : Int) /\ shlI .i64 1 ((k.val : Nat) : Int) = ((2 ^ k.val : Nat) : Int) /\ 2 ^ k.val < 32:=by decide +kernel
set_option maxHeartbeats 4000000 in
theorem controlLast_eq (L : List Int) : V 3 [.p (intsP L)] [] = some (.p (.bool true),[]):=by
  refine V_wp (vf := vf3) rfl ?_
  have hsane := sane7_eq
  have hli := light_eq (L.map (.int .i64))
  rw [List.length_map] at hli
  by_cases hlen : ¬ L.length ≤ 600
  · simp -implicitDefEqProofs (disch:=omega) only [vf3,vb3,hli,hlen,hsane,go_sem,↓reduceIte,rA,rS,rE,rL,reduceCtorEq]
  have hlen := Decidable.not_not.1 hlen
  have hL : L.length < 4611686018427387904:=by omega
  have hroll := roll_eq L
  have hn0 := next_eq L 0 8 hL (by omega)
  have hn1 := nextV_nonneg L 0 8
  have hn2 := nextV_lt L 0 (n := 8) (by omega)
  rw [show diceB L 0 = Ob.box [.p (intsP L),.p (.int .i64 0)] from rfl] at hn0
  generalize nextA L 0 8 = a0 at hn0
  obtain ⟨n, hn⟩ : ∃ n : Nat, nextV L 0 8 = (n : Int):=⟨(nextV L 0 8).toNat, by omega⟩
  rw [hn] at hn0 hn1 hn2
  simp -implicitDefEqProofs (disch:=omega) only [vf3,vb3,hli,hlen,hroll,hn0,go_sem,↓reduceIte,rA,rS,rE,rL,reduceCtorEq]
  obtain ⟨I, hI⟩ : ∃ I : Nat → St → Prop, ∀ k s, I k s ↔ ∃ (a : Nat) (t : ByteArray) (st : Int × Int), readW t st /\ t.size <= 16 * k /\ s.pe 3 = .ptr (.slot 17 1) 0 0 /\ s.pe 4 = .p (.str t) /\ s.pe 5 = .p (.int .i64 st.1) /\ s.pe 6 = .p (.int .i64 st.2) /\ s.pe 7 = .p (.int .i64 ((n : Int) - k)) /\ s.h (.slot 17 1) = some (0, Ob.box [.p (intsP L), .p (.int .i64 ↑a)]):=⟨_, fun _ _=>Iff.rfl⟩
  refine wp_count (n) I ?_ ?_
  · refine (hI _ _).2 ⟨a0, ⟨#[]⟩, (0, 0), ?_, ?_, ?_, ?_, ?_, ?_, ?_, ?_⟩
    · exact by decide +kernel
    · exact by decide
    all_goals exact cl0
  intro k s hk hIk
  obtain ⟨a, t, st, hr, hz, h3, h4, h5, h6, h7, hh17_1⟩:=(hI _ _).1 hIk
  clear hIk
  simp -implicitDefEqProofs (disch:=omega) only [h3,h4,h5,h6,h7,hh17_1,go_sem,↓reduceIte,rA,rS,rE,rL,reduceCtorEq]
  refine wp_if_d (fun hlt => ?_) (fun hge => ?_)
  · have hk5 := next_eq L a 5 hL (by omega)
    have hk1 := nextV_nonneg L a 5
    have hk2 := nextV_lt L a (n := 5) (by omega)
    obtain ⟨q, hq⟩ : ∃ q : Nat, nextV L a 5 = (q : Int):=⟨(nextV L a 5).toNat, by omega⟩
    rw [hq] at hk5 hk1 hk2
    generalize nextA L a 5 = a1 at hk5
    have hg3 := next_eq L a1 3 hL (by omega)
    have hg1 := nextV_nonneg L a1 3
    have hg2 := nextV_lt L a1 (n := 3) (by omega)
    obtain ⟨g, hg⟩ : ∃ g : Nat, nextV L a1 3 = (g : Int):=⟨(nextV L a1 3).toNat, by omega⟩
    rw [hg] at hg3 hg1 hg2
    generalize nextA L a1 3 = a2 at hg3
    have hb := bool_eq7 L a2 2 hL (by omega) (by omega)
    generalize nextA L a2 2 = a3 at hb
    generalize hbo : decide (nextV L a2 2 = 2 - 1) = bo at hb
    have hgg : ([.str ⟨#[32]⟩, .str ⟨#[32,32]⟩, .str ⟨#[32,32,32]⟩] : List PV)[g]? = some (.str (gapB g)):=by
      match g, hg2 with
      | 0, _ => rfl
      | 1, _ => rfl
      | 2, _ => rfl
    have hgz : (gapB g).size ≤ 3 := by unfold gapB; repeat' split
                                       all_goals decide
    obtain ⟨t1,t2,t3⟩:=tabK ⟨q,by omega⟩
    simp only at t1 t2 t3
    have hf:=format_eq (2 ^ q) t3
    rw [(split_words ⟨q,by omega⟩).2.2.2.2.2.2] at hf
    have hws:=wordS_size ((2 ^ q : Nat) : Int)
    have z1 : (⟨#[43]⟩ : ByteArray).size = 1:=rfl
    have z2 : (⟨#[45]⟩ : ByteArray).size = 1:=rfl
    have hq5 : q < 5:=by omega
    have r1:=readW_word (r':=_) g hr (plus_word q hq5) rfl
    have r2:=readW_word (r':=_) g hr (minus_word q hq5) rfl
    simp only [stepW,if_true,bft,if_false] at r1 r2
    generalize gapB g = G at hgg hgz r1 r2
    simp only at hf
    generalize ((2 ^ q : Nat) : Int) = c at t2 hf hws r1 r2
    generalize wordS c = w at hf hws r1 r2
    have z4 : (t ++ G).size = t.size + G.size:=ByteArray.size_append
    have z5 : ((⟨#[43]⟩ : ByteArray) ++ w).size = 1 + w.size:=ByteArray.size_append
    have z6 : ((⟨#[45]⟩ : ByteArray) ++ w).size = 1 + w.size:=ByteArray.size_append
    cases bo
    · simp -implicitDefEqProofs (disch:=omega) only [h3,h4,h5,h6,h7,hh17_1,hlt,hk5,hg3,hb,hgg,t1,t2,hf,go_sem,↓reduceIte,rA,rS,rE,rL,reduceCtorEq]
      try refine And.intro (by omega) ?_
      refine (hI _ _).2 ⟨a3,t ++ G ++ (⟨#[45]⟩ ++ w),(antI .i64 st.1 c,orI .i64 st.2 c),?_,?_,?_,?_,?_,?_,?_,?_⟩
      .exact r2
      .exact by have z7:=(ByteArray.size_append : (t ++ G ++ (⟨#[45]⟩ ++ w)).size = _); have z8:=(ByteArray.size_append : (t ++ G ++ (⟨#[43]⟩ ++ w)).size = _); omega
      all_goals exact cl0
    · simp -implicitDefEqProofs (disch:=omega) only [h3,h4,h5,h6,h7,hh17_1,hlt,hk5,hg3,hb,hgg,t1,t2,hf,go_sem,↓reduceIte,rA,rS,rE,rL,reduceCtorEq]
      try refine And.intro (by omega) ?_
      refine (hI _ _).2 ⟨a3,t ++ G ++ (⟨#[43]⟩ ++ w),(orI .i64 st.1 c,antI .i64 st.2 c),?_,?_,?_,?_,?_,?_,?_,?_⟩
      .exact r1
      .exact by have z7:=(ByteArray.size_append : (t ++ G ++ (⟨#[45]⟩ ++ w)).size = _); have z8:=(ByteArray.size_append : (t ++ G ++ (⟨#[43]⟩ ++ w)).size = _); omega
      all_goals exact cl0
  · have hkn : k = n:=by omega
    have hz1 : (t ++ ⟨#[32]⟩).size <= 4000:=by rw [ByteArray.size_append]; have : (⟨#[32]⟩ : ByteArray).size = 1:=rfl; omega
    have z3 : (⟨#[32]⟩ : ByteArray).size = 1:=rfl
    have hp:=parse_eq (t ++ ⟨#[32]⟩) (by omega)
    rw [readW_end hr] at hp
    simp only [parseR] at hp
    simp -implicitDefEqProofs (disch:=omega) only [h3,h4,h5,h6,h7,hh17_1,hge,hp,hsane,go_sem,↓reduceIte,rA,rS,rE,rL,reduceCtorEq]
end Go.V
