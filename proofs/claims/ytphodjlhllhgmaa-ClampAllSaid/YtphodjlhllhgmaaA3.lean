/- Part 3 of the proof. -/
import Derived.Test.YtphodjlhllhgmaaA2
set_option linter.unusedSectionVars false
set_option linter.unusedSimpArgs false
set_option linter.unusedVariables false
open Nat renaming reduceAdd → rA, reduceSub → rS, reduceEqDiff → rE, reduceLeDiff → rL
open List renaming getElem?_eq_getElem → lgg, length_map → llm
namespace Go.V
set_option maxHeartbeats 8000000 in
theorem clampAll_eq (L : List Int) (group use : Int) (gs us : List Int) : V 3 [.p (intsP L),.p (.int .i64 group),.p (.int .i64 use),.p (intsP gs),.p (intsP us)] [] = some (.p (.bool true),[]):=by
 refine V_wp (vf:=vf3) rfl ?_
 have hli:=light_eq (L.map (PV.int .i64))
 rw [llm] at hli
 by_cases hL : L.length <= 600
 rotate_left
 ·rw [decide_eq_false hL] at hli
  simp -implicitDefEqProofs (disch:=omega) only [vf3,law_eq,hli,sane_eq,go_sem,↓reduceIte,rA,rS,rE,rL,reduceCtorEq]
 rw [decide_eq_true hL] at hli
 by_cases hgs : (50 : Int) < gs.length
 ·simp -implicitDefEqProofs (disch:=omega) only [vf3,law_eq,hli,hgs,sane_eq,go_sem,↓reduceIte,rA,rS,rE,rL,reduceCtorEq]
 by_cases hus : (50 : Int) < us.length
 ·simp -implicitDefEqProofs (disch:=omega) only [vf3,law_eq,hli,hgs,hus,sane_eq,go_sem,↓reduceIte,rA,rS,rE,rL,reduceCtorEq]
 have hro:=roll_eq L
 have htr : V 7 [.ptr (.arg 0 0) 0 0,.p (.int .i64 7)] [.box [.p (intsP L),.p (.int .i64 0)]] = some ((dTree L 0 7).1.vv,[diceB L (dTree L 0 7).2]):=tree_eq L 0 7 (by omega) (by omega)
 have hok:=dTree_ok L 0 7
 generalize dTree L 0 7 = ta at htr hok
 obtain ⟨t,a0⟩:=ta
 simp only at htr hok
 have hlen:=hok.len
 have hcl:=clamps_eq L a0 t (by omega) (by omega)
 have hclen:=dClamps_length L t.nodes a0
 generalize dClamps L a0 t.nodes = la at hcl hclen
 obtain ⟨l,a1⟩:=la
 simp only at hcl hclen
 have hpos : 0 < l.length:=by omega
 have hnx:=fun a (k : Nat) (h : 1 <= k) (h2 : k < 1000000)=>next_eq L a k (by omega) (by omega)
 have n1:=next_eq L a1 l.length (by omega) (by omega)
 have p1:=nextV_nonneg L a1 l.length
 have q1:=nextV_lt L a1 (n:=l.length) (by omega)
 generalize nextA L a1 l.length = a2 at n1
 obtain ⟨i,hi⟩:=Int.eq_ofNat_of_zero_le p1
 rw [hi] at n1 q1
 have hc : l[i]? = some l[i]:=lgg (by omega)
 generalize l[i] = c0 at hc
 have n2:=next_eq L a2 4 (by omega) (by omega)
 have p2:=nextV_nonneg L a2 4
 have q2:=nextV_lt L a2 (n:=4) (by omega)
 generalize nextA L a2 4 = a3 at n2
 have n3:=next_eq L a3 3 (by omega) (by omega)
 have p3:=nextV_nonneg L a3 3
 have q3:=nextV_lt L a3 (n:=3) (by omega)
 have hcases : nextV L a2 4 = 0 \/ nextV L a2 4 = 1 \/ nextV L a2 4 = 2 \/ nextV L a2 4 = 3:=by omega
 have hg:=fun a=>group_eq L a t (by omega) (by omega)
 have nn:=fun a=>next_eq L a 12000 (by omega) (by omega)
 clear hcases
 simp -implicitDefEqProofs (maxSteps:=2000000) (disch:=omega) only [vf3,law_eq,hli,hgs,hus,hro,htr,hcl,n1,hc,n2,hg,nn,hpos,q1,go_sem,↓reduceIte,rA,rS,rE,rL,reduceCtorEq]
 refine wp_mono (claw_blk L group use gs us t l i a3 _ c0 ⟨p2,q2⟩ hL (by omega) (by omega) hc _ ?_ ?_) ?_
 ·unfold EnvT
  simp -implicitDefEqProofs (disch:=omega) only [go_sem,↓reduceIte,rA,rS,rE,rL,reduceCtorEq]
 ·unfold EnvA
  simp -implicitDefEqProofs (disch:=omega) only [go_sem,↓reduceIte,rA,rS,rE,rL,reduceCtorEq]
 ·rintro ⟨e,s⟩ ⟨e0,b,odd,e1,e2⟩
  simp only at e0 e1 e2
  subst e0
  simp -implicitDefEqProofs (disch:=omega) only [go_sem,↓reduceIte,rA,rS,rE,rL,reduceCtorEq]
  exact claw_tail L group use gs us t l odd b hL hgs hus hok hclen s e1 e2
end Go.V
