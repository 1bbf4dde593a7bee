/- Part 3 of the proof. -/
import Derived.Test.YtekkdllchjmhdaaGreatF2
set_option linter.unusedSectionVars false
set_option linter.unusedSimpArgs false
set_option linter.unusedVariables false
set_option maxHeartbeats 32000000
open Nat renaming le_refl → lrf
open List renaming getElem?_eq_getElem → lgg, getElem?_eq_some_iff → lgs, mem_of_getElem? → lmg, drop_eq_getElem_cons → ldg, mem_cons_of_mem → lmc, map_cons → lpc, drop_of_length_le → ldl, nil_append → lna, append_assoc → laa, append_nil → lan, mem_map → lmm, mem_cons_self → lms, map_append → lma, take_of_length_le → ltl, getElem?_of_mem → lgm, length_cons → llc, length_append → lla, flatMap_cons → lfc, mem_cons → lmk, map_nil → lpn, mem_append → lmp, length_map → llm, eq_nil_of_length_eq_zero → lez, getElem_mem → lgk, length_take → llt, length_drop → lld, pairwise_cons → lpw, foldl_append → lfa
open Option renaming some.injEq → osi
open Bool renaming and_eq_true → bat, false_and → bfa, false_eq_true → bft, true_and → bta, not_false → bnf, and_self → bas
namespace Go.V
theorem Jq (l:List Ch) (id:Int) (hl:l.length<1000000):V 57 [.p (Ap l),.p (.int .i64 id)] []=some (.p (.int .i64 (Ak l id)),[]):=by
 refine Ac (vf:=vf57) rfl ?_
 refine w0 ?_
 obtain ⟨I,hI⟩:=lpI fun k s=>Ak l id=Ak (l.drop k) id/\s.pe 0=.p (Ap l)/\s.pe 1=.p (.int .i64 id)/\s.pe 5=.p (.int .i64 k)
 refine Aj (l.length) I ?_ ?_
 ·refine (hI _ _).2 ?_
  and_intros
  ·exact cl3
  all_goals exact cl0
 intro k s hk hIk
 obtain ⟨hq,hH⟩:=(hI _ _).1 hIk
 clear hIk
 refine w1 hH ?_
 refine Ae (fun hlt=>?_) (fun hge=>?_)
 ·have hm:l[k]?=some l[k]:=lgg hlt
  generalize l[k]=c at hm
  have hst:=Pb hm hq
  by_cases hp:c.group=id
  ·rw [if_pos hp] at hst
   exact z5 hH hlt hm hp hst
  ·rw [if_neg hp] at hst
   simp -implicitDefEqProofs (disch:=omega) only [hH,hlt,hm,hp,go_sem]
   try refine ai ?_
   refine (hI _ _).2 ?_
   and_intros
   .exact hst
   all_goals exact cl0
 ·rw [ldl (by omega)] at hq
  simp -implicitDefEqProofs (disch:=omega) only [hH,hge,hq,Ak,go_sem]
theorem IN (t:Tr) (l:List Ch) (hn:t.nodes.length<1000000) (hl:l.length<1000000):V 130 [t.vv,.p (Ap l)] []=some (.p (.bool (BM t l)),[]):=by
 refine Ac (vf:=vf130) rfl ?_
 have hc:=Fa t hn
 unfold BM
 cases ht:AX t with
 | false =>
  rw [ht] at hc
  simp -implicitDefEqProofs (disch:=omega) only [vf130,Mb,hc,bfa,go_sem]
 | true =>
  rw [ht] at hc
  rw [bta]
  refine w1 hc ?_
  obtain ⟨I,hI⟩:=lpI fun k s=>Bz (Ag t.nodes) 0 1152921504606846976 none l=Bz (Ag t.nodes) 0 1152921504606846976 (Eu l k) (l.drop k)/\s.pe 1=.p (Ap l)/\s.pe 2=.ptr (.slot 2 0) 0 0/\s.pe 5=.p (.int .i64 k)/\s.h (.slot 2 0)=some (0,Ob.box [.p (An t.nodes),.p (.int .i64 t.next)])
  refine Aj (l.length) I ?_ ?_
  ·refine (hI _ _).2 ?_
   and_intros
   ·exact cl3
   all_goals exact cl0
  intro k s hk hIk
  obtain ⟨hq,h1,h2,hH⟩:=(hI _ _).1 hIk
  clear hIk
  refine w3 h1 h2 hH ?_
  refine Ae (fun hlt=>?_) (fun hge=>?_)
  ·have hm:l[k]?=some l[k]:=lgg hlt
   generalize l[k]=c at hm
   have hg:=LC hq hm
   have hb':=LW hq hm
   have hfi:=DU t c.group hn
   rw [ER ht] at hfi
   have hkn:Ag t.nodes c.group=(AS t.nodes c.group).isSome:=rfl
   generalize (AS t.nodes c.group).isSome=kn at hfi hkn
   by_cases hk0:(0:Int)<k
   ·obtain ⟨e,he,he'⟩:=LM hm hk0
    have hk1:(0:Int)<=(k:Int) - 1:=by omega
    rw [KS hk0 he,hkn] at hg hb'
    refine w9 h1 h2 hH hlt hm hfi hk0 hk1 he' ?_
    repeat' ((first|refine AM ?_ ?_|refine AL ?_ ?_|refine AP ?_ ?_|refine AO ?_ ?_|refine AJ ?_ ?_|refine AI ?_ ?_|refine AN ?_ ?_|refine AK ?_ ?_|refine Ae ?_ ?_|refine AR ?_ ?_)<;>intro hb<;>simp -implicitDefEqProofs (disch:=omega) only [hb,h1,h2,hH,hlt,hm,hfi,hk0,hk1,he',go_sem])
    all_goals first
     | (rw [hb' (by first|(rintro ⟨h1,h2,h3,h4⟩;omega)|simp_all)];done)
     | skip
    try refine ai ?_
    refine (hI _ _).2 ?_
    and_intros
    ·exact hg ⟨by first|assumption|(cases kn<;>simp_all),by omega,by omega,by omega⟩
    all_goals exact cl0
   ·rw [KR hk0,hkn] at hg hb'
    refine w7 h1 h2 hH hlt hm hfi hk0 ?_
    repeat' ((first|refine AM ?_ ?_|refine AL ?_ ?_|refine AP ?_ ?_|refine AO ?_ ?_|refine AJ ?_ ?_|refine AI ?_ ?_|refine AN ?_ ?_|refine AK ?_ ?_|refine Ae ?_ ?_|refine AR ?_ ?_)<;>intro hb<;>simp -implicitDefEqProofs (disch:=omega) only [hb,h1,h2,hH,hlt,hm,hfi,hk0,go_sem])
    all_goals first
     | (rw [hb' (by first|(rintro ⟨h1,h2,h3⟩;omega)|simp_all)];done)
     | skip
    try refine ai ?_
    refine (hI _ _).2 ?_
    and_intros
    .exact hg ⟨by first|assumption|(cases kn<;>simp_all),by omega,by omega⟩
    all_goals exact cl0
  ·have hT:=LV hq (by omega)
   exact z5 h1 h2 hH hge hT
theorem QK (t:Tr) (a:List Ch) (id now:Int) (hn:t.nodes.length<1000000) (hl:a.length<1000000):V 56 [t.vv,.p (Ap a),.p (.int .i64 id),.p (.int .i64 now)] []=some (.p (.bool (CI t a id now)),[]):=by
 refine Ac (vf:=vf56) rfl ?_
 have h1:=IN t a hn hl
 have h2:=DU t id hn
 have h3:=Jq a id hl
 unfold CI
 cases hc:BM t a with
 | false =>
  rw [hc] at h1
  simp -implicitDefEqProofs (disch:=omega) only [vf56,J2,h1,bfa,go_sem]
 | true =>
  rw [hc] at h1
  have htr:AX t=true:=by
   unfold BM at hc
   simp only [bat] at hc
   exact hc.1
  rw [ER htr] at h2
  change V 83 _ _=some (.p (.bool (Ag t.nodes id)),[]) at h2
  cases hk:Ag t.nodes id with
  | false =>
   rw [hk] at h2
   simp -implicitDefEqProofs (disch:=omega) only [vf56,J2,h1,h2,bfa,bta,go_sem]
  | true =>
   rw [hk] at h2
   simp -implicitDefEqProofs (disch:=omega) only [vf56,J2,h1,h2,h3,bta,go_sem]
theorem Yb (t:Tr) (a:List Ch) (id share cost now margin:Int) (hn:t.nodes.length<1000000) (hl:a.length<1000000):V 199 [t.vv,.p (Ap a),.p (.int .i64 id),.p (.int .i64 share),.p (.int .i64 cost),.p (.int .i64 now),.p (.int .i64 margin)] []=some (.tup [.fresh 2 ((Cb t a id share cost now margin).1.map Ch.pv),.p (.int .i64 (Cb t a id share cost now margin).2)],[]):=by
 refine Ac (vf:=vf199) rfl ?_
 have h1 := IN t a hn hl
 have h2 := DU t id hn
 have h3 := Jq a id hl
 have h4 := QK t a id now hn hl
 unfold Cb
 cases hc : BM t a with
 | false =>
  rw [hc] at h1
  exact y1 h1
 | true =>
  rw [hc] at h1
  have hcc := hc
  unfold BM at hcc
  simp only [bat] at hcc
  have hA : AscOk (Ag t.nodes) 0 1152921504606846976 a:=(EQ _ _ _ _).1 hcc.2
  have hown := Qa hA (by omega) (by omega) id
  rw [ER hcc.1] at h2
  change V 83 _ _=some (.p (.bool (Ag t.nodes id)),[]) at h2
  rw [if_pos rfl]
  cases hk : Ag t.nodes id with
  | false =>
   rw [hk] at h2
   exact y2 h1 h2
  | true =>
   rw [hk] at h2
   rw [if_pos rfl]
   rw [CI, hc, hk, bta, bta] at h4
   by_cases c1:1<=share/\share<=1073741824
   ·have c1a : ¬ share<1:=by omega
    have c1b : ¬ 1073741824<share:=by omega
    by_cases c2:1<=cost/\cost<=4294967296
    ·have c2a:¬ cost<1:=by omega
     have c2b:¬ 4294967296<cost:=by omega
     by_cases c3:0<=now/\now<=576460752303423488
     ·have c3a:¬ now<0:=by omega
      have c3b:¬ 576460752303423488<now:=by omega
      by_cases c4:0<=margin/\margin<=1073741824
      ·have c4a:¬ margin<0:=by omega
       have c4b:¬ 1073741824<margin:=by omega
       rw [if_pos ⟨c1,c2,c3,c4⟩]
       have hnn:0<=cost*1073741824+share - 1:=by omega
       have hq:=Int.tdiv_eq_ediv_of_nonneg (b:=share) hnn
       have hq1:(cost*1073741824+share - 1) / share<=cost*1073741824+share - 1:=Int.ediv_le_self _ hnn
       have hq0:0<=(cost*1073741824+share - 1) / share:=Int.ediv_nonneg hnn (by omega)
       unfold Hc
       generalize Ak a id=o at h3 hown h4
       generalize (cost*1073741824+share - 1) / share=z at hq hq0 hq1
       by_cases c5:now<o
       ·rw [if_pos c5]
        rw [decide_eq_false (by omega)] at h4
        simp -implicitDefEqProofs (disch:=omega) only [vf199,If,h1,h2,h3,h4,c1a,c1b,c2a,c2b,c3a,c3b,c4a,c4b,go_sem]
        try rfl
       ·rw [if_neg c5]
        rw [decide_eq_true (by omega)] at h4
        have hw1:IntKind.i64.wrap (cost*1073741824)=cost*1073741824:=En (by omega) (by omega)
        have hne:share ≠ 0:=by omega
        generalize hm:max (max o (now - margin)) 0=M
        have hM:0<=M/\M<=1152921504606846976:=by omega
        by_cases c6:1152921504606846976<M+z
        ·rw [if_pos c6]
         simp -implicitDefEqProofs (disch:=omega) only [vf199,If,h1,h2,h3,h4,c1a,c1b,c2a,c2b,c3a,c3b,c4a,c4b,hw1,hne,hq,hm,c6,go_sem]
         try rfl
        ·rw [if_neg c6]
         unfold Gf
         simp -implicitDefEqProofs (disch:=omega) only [vf199,If,h1,h2,h3,h4,c1a,c1b,c2a,c2b,c3a,c3b,c4a,c4b,hw1,hne,hq,hm,c6,go_sem]
         obtain ⟨I,hI⟩:=lpI fun k s=>∃ (acc:List Ch) (d:Bool) (w:Nat),withGo id (M+z) false a=acc++withGo id (M+z) d (a.drop k)/\acc.length<=2*k/\s.pe 1=.p (Ap a)/\s.pe 2=.p (.int .i64 id)/\s.pe 16=.p (.int .i64 (M+z))/\s.pe 17=.own (.slot 17 0) w 0 acc.length/\s.pe 18=.p (.bool d)/\s.pe 19=.p (.int .i64 k)/\s.h (.slot 17 0)=some (w,Ob.arr 2 (acc.map Ch.pv))
         refine Aj (a.length) I ?_ ?_
         ·refine (hI _ _).2 ⟨[],false,0,?_⟩
          and_intros
          ·rfl
          ·exact cl3
          all_goals exact cl0
         intro k s hk hIk
         obtain ⟨acc,d,w,hw,hal,h1,h2,hH⟩:=(hI _ _).1 hIk
         clear hIk
         refine w3 h1 h2 hH ?_
         refine Ae (fun hlt=>?_) (fun hge=>?_)
         ·have hm:a[k]?=some a[k]:=lgg hlt
          have hd:a.drop k=a[k]::a.drop (k+1):=ldg hlt
          generalize a[k]=c at hm hd
          rw [hd,withGo] at hw
          cases d with
          | true =>
           by_cases he:c.group=id
           ·simp only [he,Bool.not_true,bfa,bft,if_false,if_true,lna,lan,Bool.true_or] at hw
            simp -implicitDefEqProofs (disch:=omega) only [h1,h2,hH,hlt,hm,he,go_sem]
            try refine ai ?_
            refine (hI _ _).2 ⟨acc,true,w,?_⟩
            and_intros
            ·exact hw
            ·omega
            all_goals exact cl0
           ·simp only [he,Bool.not_true,bfa,bft,if_false,lna,Bool.true_or,<- laa] at hw
            simp -implicitDefEqProofs (disch:=omega) only [h1,h2,hH,hlt,hm,he,go_sem]
            try refine ai ?_
            refine (hI _ _).2 ⟨acc++[c],true,w+1,?_⟩
            and_intros
            ·exact hw
            ·exact by simp;omega
            all_goals exact cl0
          | false =>
           by_cases hge:id<=c.group
           ·by_cases he:c.group=id
            ·simp only [he,Int.le_refl,decide_true,bnf,bas,if_true,lan,Bool.or_true,<- laa] at hw
             simp -implicitDefEqProofs (disch:=omega) only [h1,h2,hH,hlt,hm,hge,he,Int.le_refl,decide_true,go_sem]
             try refine ai ?_
             refine (hI _ _).2 ⟨acc++[⟨id,M+z⟩],true,w+1,?_⟩
             and_intros
             .exact hw
             .exact by simp;omega
             all_goals exact cl0
            ·simp only [he,hge,decide_true,bnf,bas,if_true,if_false,Bool.or_true,<- laa] at hw
             simp -implicitDefEqProofs (disch:=omega) only [h1,h2,hH,hlt,hm,hge,he,go_sem]
             try refine ai ?_
             refine (hI _ _).2 ⟨acc++[⟨id,M+z⟩]++[c],true,w+1+1,?_⟩
             and_intros
             .exact hw
             .exact by simp;omega
             all_goals exact cl0
           ·have he:¬ c.group=id:=by omega
            simp only [he,hge,decide_false,bnf,Bool.and_false,bft,if_false,lna,Bool.or_false,<- laa] at hw
            simp -implicitDefEqProofs (disch:=omega) only [h1,h2,hH,hlt,hm,hge,he,go_sem]
            try refine ai ?_
            refine (hI _ _).2 ⟨acc++[c],false,w+1,?_⟩
            and_intros
            .exact hw
            .exact by simp;omega
            all_goals exact cl0
         ·rw [ldl (by omega),withGo] at hw
          cases d with
          | true =>
           simp only [if_true,lan] at hw
           refine w4 h1 h2 hH hge ?_
           rw [hw]
          | false =>
           simp only [bft,if_false] at hw
           refine w4 h1 h2 hH hge ?_
           rw [hw]
           simp [Ch.pv]
      ·rw [if_neg (fun h=>c4 h.2.2.2)]
       by_cases c4a:margin<0
       ·exact y9 h1 h2 c1a c1b c2a c2b c3a c3b c4a
       ·have c4b:1073741824<margin:=by omega
        exact y10 h1 h2 c1a c1b c2a c2b c3a c3b c4a c4b
     ·rw [if_neg (fun h=>c3 h.2.2.1)]
      by_cases c3a:now<0
      ·exact y7 h1 h2 c1a c1b c2a c2b c3a
      ·have c3b:576460752303423488<now:=by omega
       exact y8 h1 h2 c1a c1b c2a c2b c3a c3b
    ·rw [if_neg (fun h=>c2 h.2.1)]
     by_cases c2a:cost<1
     ·exact y5 h1 h2 c1a c1b c2a
     ·have c2b:4294967296<cost:=by omega
      exact y6 h1 h2 c1a c1b c2a c2b
   ·rw [if_neg (fun h=>c1 h.1)]
    by_cases c1a:share<1
    ·exact y3 h1 h2 c1a
    ·have c1b:1073741824<share:=by omega
     exact y4 h1 h2 c1a c1b
theorem ZN {kn:Int->Bool} {hi:Int} {a:List Ch} (h:AscOk kn 0 hi a) {id v:Int} (hk:kn id=true) (h0:0<=v) (h1:v<=hi):AscOk kn 0 hi (Gf a id v):=by
 unfold Gf
 refine ⟨fun c hc=>?_,IJ id v a false h.inc,fun c hc=>?_⟩
 ·rcases E6 id v a false c hc with ⟨_,rfl⟩|⟨hm,_⟩
  .exact hk
  .exact h.known c hm
 ·rcases E6 id v a false c hc with ⟨_,rfl⟩|⟨hm,_⟩
  .exact ⟨h0,h1⟩
  .exact h.range c hm
theorem OU {t:Tr} {a:List Ch} {id share cost now margin:Int} (h:(Cb t a id share cost now margin).2=0):AscOk (Ag t.nodes) 0 1152921504606846976 (Cb t a id share cost now margin).1:=by
 unfold Cb at h ⊢
 split at h
 ·rename_i hc
  rw [if_pos hc]
  unfold BM at hc
  simp only [bat] at hc
  have hA:=(EQ _ _ _ _).1 hc.2
  split at h
  ·rename_i hk
   rw [if_pos hk]
   split at h
   ·rename_i hr
    rw [if_pos hr]
    split at h
    ·simp at h
    ·rename_i hn
     rw [if_neg hn]
     split at h
     ·simp at h
     ·rename_i hv
      rw [if_neg hv]
      refine ZN hA hk ?_ (by omega)
      unfold Hc
      have:0<=(cost*1073741824+share - 1) / share:=Int.ediv_nonneg (by omega) (by omega)
      omega
   .simp at h
  .simp at h
 .simp at h
def NInv (t:Tr) (a:List Ch) (now:Int) (pre:List Int) (best:Int):Prop :=
 (best=0/\∀ x∈pre,CI t a x now=false) \/
 (best ≠ 0/\best∈pre/\CI t a best now=true/\∀ x∈pre,CI t a x now=true->Ak a best<Ak a x \/ (Ak a best=Ak a x/\best<=x))
theorem NInv.skip {t:Tr} {a:List Ch} {now:Int} {pre:List Int} {best x:Int} (h:NInv t a now pre best) (hx:CI t a x now=false):NInv t a now (pre++[x]) best:=by
 rcases h with ⟨h1,h2⟩|⟨h1,h2,h3,h4⟩
 ·refine Or.inl ⟨h1,fun y hy=>?_⟩
  rcases lmp.1 hy with hy|hy
  .exact h2 y hy
  .rw [List.mem_singleton] at hy;subst hy;exact hx
 ·refine Or.inr ⟨h1,List.mem_append_left _ h2,h3,fun y hy hm=>?_⟩
  rcases lmp.1 hy with hy|hy
  .exact h4 y hy hm
  .rw [List.mem_singleton] at hy;subst hy;rw [hx] at hm;cases hm
theorem NInv.take {t:Tr} {a:List Ch} {now:Int} {pre:List Int} {best x:Int} (h:NInv t a now pre best) (hx:CI t a x now=true) (h0:x ≠ 0) (hb:best=0 \/ Ak a x<Ak a best \/ (Ak a x=Ak a best/\x<best)):NInv t a now (pre++[x]) x:=by
 refine Or.inr ⟨h0,List.mem_append_right _ (List.mem_singleton.2 rfl),hx,fun y hy hm=>?_⟩
 rcases lmp.1 hy with hy|hy
 ·rcases h with ⟨h1,h2⟩|⟨h1,h2,h3,h4⟩
  ·rw [h2 y hy] at hm;cases hm
  ·have:=h4 y hy hm
   omega
 .rw [List.mem_singleton] at hy;subst hy;exact Or.inr ⟨rfl,Int.le_refl _⟩
theorem NInv.keep {t:Tr} {a:List Ch} {now:Int} {pre:List Int} {best x:Int} (h:NInv t a now pre best) (hb:¬ (best=0 \/ Ak a x<Ak a best \/ (Ak a x=Ak a best/\x<best))):NInv t a now (pre++[x]) best:=by
 rcases h with ⟨h1,h2⟩|⟨h1,h2,h3,h4⟩
 ·exact absurd (Or.inl h1) hb
 ·refine Or.inr ⟨h1,List.mem_append_left _ h2,h3,fun y hy hm=>?_⟩
  rcases lmp.1 hy with hy|hy
  .exact h4 y hy hm
  .rw [List.mem_singleton] at hy;subst hy;omega
theorem QX {t:Tr} {a:List Ch} {x now:Int} (h:CI t a x now=true):x ≠ 0:=by
 unfold CI BM at h
 simp only [bat] at h
 obtain ⟨n,hn,rfl⟩:=CY h.1.2
 have:=((Bo t).1 h.1.1.1).pos n hn
 omega
structure Pt where
 group:Int
 usage:Int
 protect:Int
 own:Int
 room:Int
 deriving DecidableEq
def Pt.pv (c:Pt):PV:=.agg [.int .i64 c.group,.int .i64 c.usage,.int .i64 c.protect,.int .i64 c.own,.int .i64 c.room]
abbrev Pt.vv (c:Pt):VVal:=.agg [.p (.int .i64 c.group),.p (.int .i64 c.usage),.p (.int .i64 c.protect),.p (.int .i64 c.own),.p (.int .i64 c.room)]
attribute [go_sem] Pt.pv
theorem ZO (l:List Pt):(l.map Pt.pv).all PV.flat=true:=by
 rw [List.all_eq_true]
 intro x hx
 obtain ⟨n,_,rfl⟩:=lmm.1 hx
 rfl
attribute [go_sem] ZO
def InN (ns:List Nd) (x:Int):Prop:=∃ (i:Nat) (n:Nd),ns[i]?=some n/\n.id=x
theorem KX {t:Tr} (h:TreeOk t) {x:Int} (hx:InN t.nodes x):AC t.nodes t.nodes.length x=x::(kidsN t.nodes x).flatMap (AC t.nodes t.nodes.length):=by
 obtain ⟨i,n,hn,rfl⟩:=hx
 have hi:=(lgs.1 hn).1
 obtain ⟨N,hN⟩:∃ N,t.nodes.length=N+1:=⟨t.nodes.length - 1,by omega⟩
 have e1:AC t.nodes t.nodes.length n.id=AC t.nodes (N+1) n.id:=by rw [hN]
 rw [e1,AC]
 congr 1
 refine Kd fun y hy=>?_
 obtain ⟨j,m,hm,hp,rfl⟩:=CN.1 hy
 have:=h.kid hn hm hp
 exact X0 h _ _ j m hm (by omega) (by omega)
theorem Zk {t:Tr} (h:TreeOk t) {x:Int} (hx:InN t.nodes x):AC t.nodes t.nodes.length x ≠ []:=by
 rw [KX h hx]
 simp
theorem Ly {t:Tr} (h:TreeOk t):∀ (l:List Int),(∀ x∈l,InN t.nodes x)->l.length<=(l.flatMap (AC t.nodes t.nodes.length)).length
 | [],_=>by simp
 | x::l,hl=>by
  have h1:=Ly h l (fun y hy=>hl y (by simp [hy]))
  have h2:=List.length_pos_iff.2 (Zk h (hl x (by simp)))
  rw [lfc,lla,llc]
  omega
theorem K6 (ns:List Nd) (x:Int):(kidsN ns x).length<=ns.length:=by
 rw [kidsN,llm]
 exact List.length_filter_le _ _
theorem zb0 {t:Tr} (id:Int) (h:TreeOk t):V 212 [t.vv,.p (.int .i64 id)] []=some (.fresh 1 ((BP t id).map (.int .i64)),[]):=by
 refine Ac (vf:=vf212) rfl ?_
 have hlen:=h.len
 have hat:=SY t id (by omega)
 by_cases hneg:Ew t.nodes id<0
 ·have hfn:=(Jl t.nodes id)
  have hemp:BP t id=[]:=by
   rcases hfn with ⟨_,h2⟩|⟨k,_,h2,_⟩
   ·simp [BP,Bb,h2]
   ·omega
  exact z3 hat hneg hemp
 ·have hin:InN t.nodes id:=by
   obtain ⟨k,m,_,hkm,hfm,hme⟩:=(Jl t.nodes id).resolve_left (fun h=>hneg h.1)
   exact ⟨k,m,hkm,hme⟩
  have hsub:BP t id=AC t.nodes t.nodes.length id:=by
   obtain ⟨k,m,_,hkm,hfm,hme⟩:=(Jl t.nodes id).resolve_left (fun h=>hneg h.1)
   simp [BP,Bb,(Bo t).2 h,hfm]
  have hsl:=Lj h id
  rw [hsub] at hsl
  rw [hsub]
  refine w2 hat hneg ?_
  obtain ⟨I,hI⟩:=lpI fun k s=>∃ (out:List Int) (nx:List Int) (ww:Nat) (d:Nat) (e:Nat),out.length=k/\(∀ x∈nx,InN t.nodes x)/\out++nx.flatMap (AC t.nodes t.nodes.length)=AC t.nodes t.nodes.length id/\((d=12/\e=0) \/ (d=34/\e=1))/\s.pe 2=.ptr (.slot 2 0) 0 0/\s.pe 5=.own (.slot 5 0) ww 0 out.length/\(∃ v,s.pe 6=.own (.slot d e) v 0 (nx.length)/\s.h (.slot d e)=some (v,Ob.arr 1 (nx.map (.int .i64))))/\s.h (.slot 2 0)=some (0,Ob.box [.p (An t.nodes),.p (.int .i64 t.next)])/\s.h (.slot 5 0)=some (ww,Ob.arr 1 (out.map (.int .i64)))
  refine Aj (t.nodes.length) I ?_ ?_
  ·refine (hI _ _).2 ⟨[],[id],0,12,0,?_⟩
   and_intros
   ·rfl
   ·exact by simpa using hin
   ·exact by simp
   ·exact Or.inl ⟨rfl,rfl⟩
   all_goals first|exact cl0|(simp -implicitDefEqProofs (disch:=omega) only [lma,go_sem]<;>(refine ⟨_,rfl,?_⟩;first|rfl|(simp -implicitDefEqProofs (disch:=omega) only [lma,go_sem];done)|(simp -implicitDefEqProofs (disch:=omega) only [lma,go_sem];rfl)))
  intro k s hk hIk
  obtain ⟨out,nx,ww,d,e,hol,hall,hall',hde,h2,h5,⟨v6,h6,hhd_e⟩,hH⟩:=(hI _ _).1 hIk
  clear hIk
  rcases hde with ⟨rfl,rfl⟩|⟨rfl,rfl⟩
  ·rcases nx with -|⟨x,rest⟩
   ·rw [List.flatMap_nil,lan] at hall'
    refine w6 h2 h5 h6 hhd_e hH @M2 ?_
    rw [hall']
   have hpos:(0:Int)<((rest.length+1:Nat):Int):=by omega
   by_cases hlt:out.length<t.nodes.length
   ·have hx:=hall x (by simp)
    have hkids:=Lz t x (by omega)
    have hkl:=K6 t.nodes x
    have hrl:rest.length<=64:=by
     have h1:=congrArg List.length hall'
     have h2:=Ly h (x::rest) hall
     rw [lla] at h1
     rw [llc] at h2
     omega
    simp -implicitDefEqProofs (disch:=omega) only [h2,h5,h6,hhd_e,hH,hlt,hkids,hpos,Int.toNat_zero,List.getElem?_cons_zero,Int.toNat_one,List.drop_succ_cons,List.drop_zero,llm,Nat.add_sub_cancel,Nat.min_self,go_sem]
    have hnx:∀ y∈kidsN t.nodes x++rest,InN t.nodes y:=by
     intro y hy
     rcases lmp.1 hy with hy|hy
     ·obtain ⟨j,m,hm,_,hme⟩:=CN.1 hy
      exact ⟨j,m,hm,hme⟩
     ·exact hall y (by simp [hy])
    have hnx':(out++[x])++(kidsN t.nodes x++rest).flatMap (AC t.nodes t.nodes.length)=AC t.nodes t.nodes.length id:=by
     rw [<- hall',lfc,KX h hx,List.flatMap_append]
     simp
    try refine ai ?_
    refine (hI _ _).2 ⟨out++[x],kidsN t.nodes x++rest,ww+1,34,1,?_⟩
    and_intros
    ·exact by simp [hol]
    ·exact hnx
    ·exact hnx'
    ·exact Or.inr ⟨rfl,rfl⟩
    all_goals first|exact cl0|(simp -implicitDefEqProofs (disch:=omega) only [h2,h5,h6,hhd_e,hH,lma,go_sem]<;>(refine ⟨_,rfl,?_⟩;first|rfl|(simp -implicitDefEqProofs (disch:=omega) only [h2,h5,h6,hhd_e,hH,lma,go_sem];done)|(simp -implicitDefEqProofs (disch:=omega) only [h2,h5,h6,hhd_e,hH,lma,go_sem];rfl)))
   ·have hz:(x::rest).flatMap (AC t.nodes t.nodes.length)=[]:=by
     have h1:=congrArg List.length hall'
     rw [lla] at h1
     exact lez (by omega)
    rw [hz,lan] at hall'
    refine w7 h2 h5 h6 hhd_e hH hlt hpos ?_
    rw [hall']
  ·rcases nx with -|⟨x,rest⟩
   ·rw [List.flatMap_nil,lan] at hall'
    refine w6 h2 h5 h6 hhd_e hH @M2 ?_
    rw [hall']
   have hpos:(0:Int)<((rest.length+1:Nat):Int):=by omega
   by_cases hlt:out.length<t.nodes.length
   ·have hx:=hall x (by simp)
    have hkids:=Lz t x (by omega)
    have hkl:=K6 t.nodes x
    have hrl:rest.length<=64:=by
     have h1:=congrArg List.length hall'
     have h2:=Ly h (x::rest) hall
     rw [lla] at h1
     rw [llc] at h2
     omega
    simp -implicitDefEqProofs (disch:=omega) only [h2,h5,h6,hhd_e,hH,hlt,hkids,hpos,Int.toNat_zero,List.getElem?_cons_zero,Int.toNat_one,List.drop_succ_cons,List.drop_zero,llm,Nat.add_sub_cancel,Nat.min_self,go_sem]
    have hnx:∀ y∈kidsN t.nodes x++rest,InN t.nodes y:=by
     intro y hy
     rcases lmp.1 hy with hy|hy
     ·obtain ⟨j,m,hm,_,hme⟩:=CN.1 hy
      exact ⟨j,m,hm,hme⟩
     .exact hall y (by simp [hy])
    have hnx':(out++[x])++(kidsN t.nodes x++rest).flatMap (AC t.nodes t.nodes.length)=AC t.nodes t.nodes.length id:=by
     rw [<- hall',lfc,KX h hx,List.flatMap_append]
     simp
    try refine ai ?_
    refine (hI _ _).2 ⟨out++[x],kidsN t.nodes x++rest,ww+1,34,1,?_⟩
    and_intros
    ·exact by simp [hol]
    ·exact hnx
    ·exact hnx'
    ·exact Or.inr ⟨rfl,rfl⟩
    all_goals first|exact cl0|(simp -implicitDefEqProofs (disch:=omega) only [h2,h5,h6,hhd_e,hH,lma,go_sem]<;>(refine ⟨_,rfl,?_⟩;first|rfl|(simp -implicitDefEqProofs (disch:=omega) only [h2,h5,h6,hhd_e,hH,lma,go_sem];done)|(simp -implicitDefEqProofs (disch:=omega) only [h2,h5,h6,hhd_e,hH,lma,go_sem];rfl)))
   ·have hz:(x::rest).flatMap (AC t.nodes t.nodes.length)=[]:=by
     have h1:=congrArg List.length hall'
     rw [lla] at h1
     exact lez (by omega)
    rw [hz,lan] at hall'
    refine w7 h2 h5 h6 hhd_e hH hlt hpos ?_
    rw [hall']
def Bm (l:List Int):List Int:=l.mergeSort fun x y=>decide (x<=y)
theorem Qf:∀ (l:List Int),Ad unI (l.map (.int .i64))=some l
 | []=>rfl
 | x::l=>by
  have:=Qf l
  rw [lpc]
  show ob (some x) (fun y=>ob (Ad unI (List.map (PV.int .i64) l)) fun ys=>some (y::ys))=_
  rw [this,Ah,Ah]
theorem zbb (l:List Int) (hl:l.length<1000000):V 120 [.own (.arg 0 0) 0 0 l.length] [.arr 1 (l.map (.int .i64))]=some (.tup [],[.arr 1 ((Bm l).map (.int .i64))]):=by
 refine V_x ?_
 have h1:l.length=(l.map (PV.int .i64)).length:=by simp
 have h2:l.length<4611686018427387904:=by omega
 simp only [XS,if_pos,XI,gd,if_pos h1,if_pos h2,Qf,Ah,Bm]
theorem Nf (l:List Int):(Bm l).length=l.length:=List.length_mergeSort l
abbrev maxR:Int:=4611686018427387904
structure Bk where
 rate:Int
 per:Int
 burst:Int
 level:Int
 now:Int
 deriving DecidableEq
abbrev Bk.cs (b:Bk):List PV:=[.int .i64 b.rate,.int .i64 b.per,.int .i64 b.burst,.int .i64 b.level,.int .i64 b.now]
abbrev Bk.vv (b:Bk):VVal:=.agg [.p (.int .i64 b.rate),.p (.int .i64 b.per),.p (.int .i64 b.burst),.p (.int .i64 b.level),.p (.int .i64 b.now)]
structure Cp where
 group:Int
 rp:Bk
 wp:Bk
 ro:Bk
 wo:Bk
 deriving DecidableEq
def Cp.pv (c:Cp):PV:=.agg [.int .i64 c.group,.int .i64 c.rp.rate,.int .i64 c.rp.per,.int .i64 c.rp.burst,.int .i64 c.rp.level,.int .i64 c.rp.now,.int .i64 c.wp.rate,.int .i64 c.wp.per,.int .i64 c.wp.burst,.int .i64 c.wp.level,.int .i64 c.wp.now,.int .i64 c.ro.rate,.int .i64 c.ro.per,.int .i64 c.ro.burst,.int .i64 c.ro.level,.int .i64 c.ro.now,.int .i64 c.wo.rate,.int .i64 c.wo.per,.int .i64 c.wo.burst,.int .i64 c.wo.level,.int .i64 c.wo.now]
structure Rq where
 task:Int
 group:Int
 at_:Int
 pages:Int
 write:Bool
 time:Int
 deriving DecidableEq
def Rq.pv (r:Rq):PV:=.agg [.int .i64 r.task,.int .i64 r.group,.int .i64 r.at_,.int .i64 r.pages,.bool r.write,.int .i64 r.time]
abbrev Rq.vv (r:Rq):VVal:=.agg [.p (.int .i64 r.task),.p (.int .i64 r.group),.p (.int .i64 r.at_),.p (.int .i64 r.pages),.p (.bool r.write),.p (.int .i64 r.time)]
structure Fl where
 r:Rq
 done:Int
 deriving DecidableEq
def Fl.pv (f:Fl):PV:=.agg [.int .i64 f.r.task,.int .i64 f.r.group,.int .i64 f.r.at_,.int .i64 f.r.pages,.bool f.r.write,.int .i64 f.r.time,.int .i64 f.done]
structure Dp where
 group:Int
 target:Int
 depth:Int
 deriving DecidableEq
def Dp.pv (d:Dp):PV:=.agg [.int .i64 d.group,.int .i64 d.target,.int .i64 d.depth]
structure Mdl where
 rb:Int
 rp:Int
 wb:Int
 wp:Int
 seek:Int
 deriving DecidableEq
structure Dv where
 m:Mdl
 speed:Int
 margin:Int
 now:Int
 free:Int
 head:Int
 weights:List Ch
 buckets:List Cp
 depths:List Dp
 v:List Ch
 queue:List Rq
 flights:List Fl
attribute [go_sem] Rq.pv Fl.pv Dp.pv
theorem YY (l:List Cp):(l.map Cp.pv).all PV.flat=true:=by
 rw [List.all_eq_true]
 intro x hx
 obtain ⟨n,_,rfl⟩:=lmm.1 hx
 rfl
theorem ZA (l:List Rq):(l.map Rq.pv).all PV.flat=true:=by
 rw [List.all_eq_true]
 intro x hx
 obtain ⟨n,_,rfl⟩:=lmm.1 hx
 rfl
theorem zaq (l:List Fl):(l.map Fl.pv).all PV.flat=true:=by
 rw [List.all_eq_true]
 intro x hx
 obtain ⟨n,_,rfl⟩:=lmm.1 hx
 rfl
theorem zaA (l:List Dp):(l.map Dp.pv).all PV.flat=true:=by
 rw [List.all_eq_true]
 intro x hx
 obtain ⟨n,_,rfl⟩:=lmm.1 hx
 rfl
attribute [go_sem] YY ZA zaq zaA
def inZ (n lo hi:Int):Bool:=decide (lo<=n/\n<=hi)
def BH (b:Bk):Bool:=inZ b.per 1 1048576 && inZ b.now 0 1048576 && (if b.rate=maxR then decide (b.burst=0) && decide (b.level=0) else inZ b.rate 0 1073741824 && inZ b.burst 0 1073741824 && inZ b.level 0 (b.burst*b.per))
def AD (b:Bk) (now:Int):Bk:=if b.rate=maxR then { b with now:=now } else { b with level:=min (b.level+b.rate*(now - b.now)) (b.burst*b.per),now:=now }
def AH (b:Bk):Int:=if b.rate=maxR then 1073741824 else b.level / b.per
def Bh (b:Bk) (n:Int):Bk:=if b.rate=maxR then b else if b.level / b.per<n then b else { b with level:=b.level - n*b.per }
def Aw (r:Rq):Bool:=inZ r.task 0 2147483647 && inZ r.group 1 2147483647 && inZ r.at_ 0 16777216 && inZ r.pages 1 4096 && decide (r.at_+r.pages<=16777216) && inZ r.time 0 1048576
def B7 (m:Mdl):Bool:=inZ m.rb 0 1000000 && inZ m.rp 0 1000000 && inZ m.wb 0 1000000 && inZ m.wp 0 1000000 && inZ m.seek 0 1000000
def Cx (m:Mdl) (r:Rq) (head:Int):Int:=(if r.write then m.wb+m.wp*r.pages else m.rb+m.rp*r.pages)+(if r.at_=head then 0 else m.seek)
def getD (l:List Dp) (id:Int):Dp:=match l with
 | []=>⟨id,0,256⟩
 | x::r=>if x.group=id then x else getD r id
def AT (fs:List Fl) (id:Int):Int:=((fs.filter fun f=>decide (f.r.group=id)).length:Int)
def Gd (t:Tr) (fs:List Fl) (g:Int):Int:=Am ((AC t.nodes t.nodes.length g).map (AT fs))
def Fn (t:Tr) (ds:List Dp) (fs:List Fl) (id:Int):Bool:=(ancF t.nodes t.nodes.length id).all fun g=>decide (Gd t fs g<(getD ds g).depth)
def A1:List Cp->Int->Option Cp
 | [],_=>none
 | c::l,id=>if c.group=id then some c else A1 l id
def kpB (c:Cp) (w:Bool):Bk:=if w then c.wp else c.rp
def koB (c:Cp) (w:Bool):Bk:=if w then c.wo else c.ro
def Cu (l:List Cp) (r:Rq) (g:Int):Bool:=match A1 l g with
 | none=>true
 | some c=>decide (r.pages<=AH (kpB c r.write)) && decide (1<=AH (koB c r.write))
def C2 (t:Tr) (d:Dv) (r:Rq):Bool:=Fn t d.depths d.flights r.group && (ancF t.nodes t.nodes.length r.group).all (Cu d.buckets r)
def A5 (t:Tr) (d:Dv):List Int->List Rq->List Int
 | _,[]=>[]
 | seen,r::q=>(if r.group∈seen then [] else if C2 t d r=true then [r.group] else [])++A5 t d (r.group::seen) q
def AZ (t:Tr) (a:List Ch) (now:Int):Int->List Int->Int
 | best,[]=>best
 | best,x::l=>AZ t a now (if CI t a x now=true/\(best=0 \/ Ak a x<Ak a best \/ (Ak a x=Ak a best/\x<best)) then x else best) l
def actL (d:Dv):List Int:=d.queue.map (·.group)++d.flights.map (·.r.group)
def Bw (c:Cp) (r:Rq):Cp:=if r.write then { c with wp:=Bh c.wp r.pages,wo:=Bh c.wo 1 } else { c with rp:=Bh c.rp r.pages,ro:=Bh c.ro 1 }
def BQ:List Cp->Int->(Cp->Cp)->List Cp
 | [],_,_=>[]
 | c::l,id,f=>if c.group=id then f c::l else c::BQ l id f
def Fi (t:Tr) (l:List Cp) (r:Rq):List Cp:=(ancF t.nodes t.nodes.length r.group).foldl (fun l g=>BQ l g fun c=>Bw c r) l
def BA:List Rq->Int->List Rq
 | [],_=>[]
 | r::q,g=>if r.group=g then q else r::BA q g
def Be:List Rq->Int->Option Rq
 | [],_=>none
 | r::q,g=>if r.group=g then some r else Be q g
def Cy (l:List Fl) (f:Fl):List Fl:=l.takeWhile (fun x=>decide (x.done<=f.done))++f::l.dropWhile (fun x=>decide (x.done<=f.done))
def BI (d:Dv) (r:Rq):Int:=max (Cx d.m r d.head) 1
def Cq (t:Tr) (d:Dv) (g:Int):Int:=shr t (Ao d.weights) (onB t (actL d)) g
def Bn (d:Dv) (r:Rq):Int:=max d.free ((d.now - 1)*d.speed)+BI d r
def A7 (d:Dv) (r:Rq):Int:=max (d.now+1) ((Bn d r+d.speed - 1) / d.speed)
def Ds (t:Tr) (d:Dv) (g:Int) (r:Rq) (v:List Ch):Dv :=
  { d with v:=v,buckets:=Fi t d.buckets r,queue:=BA d.queue g,head:=r.at_+r.pages,free:=Bn d r,flights:=Cy d.flights ⟨r,A7 d r⟩ }
def DM (now:Int) (c:Cp):Cp:=⟨c.group,AD c.rp now,AD c.wp now,AD c.ro now,AD c.wo now⟩
def Bs (d:Dv):Dv:={ d with now:=d.now+1,buckets:=d.buckets.map (DM (d.now+1)),flights:=d.flights.dropWhile fun f=>decide (f.done<=d.now+1) }
def CF (d:Dv):List Fl:=d.flights.takeWhile fun f=>decide (f.done<=d.now+1)
def Cv (t:Tr):Nat->Dv->Dv
 | 0,d=>d
 | k+1,d=>if d.now*d.speed<=d.free then d else
  let g:=AZ t d.v (d.now*d.speed) 0 (Bm (A5 t d [] d.queue))
  if g=0 then d else match Be d.queue g with
  | none=>d
  | some r =>
   let i:=Cb t d.v g (Cq t d g) (BI d r) (d.now*d.speed) d.margin
   if i.2 ≠ 0 then d else Cv t k (Ds t d g r i.1)
def Bx (t:Tr) (d:Dv):Dv:=Cv t (d.queue.length+1) (Bs d)
def CJ (kn:Int->Bool) (ok:Cp->Bool):Option Int->List Cp->Bool
 | _,[]=>true
 | p,c::l=>kn c.group && Cr p c.group && ok c && CJ kn ok (some c.group) l
def BT (kn:Int->Bool):Option Int->List Dp->Bool
 | _,[]=>true
 | p,c::l=>kn c.group && Cr p c.group && (inZ c.target 0 1048576 && inZ c.depth 1 256) && BT kn (some c.group) l
def AY (now:Int) (b:Bk):Bool:=BH b && decide (b.per=100) && decide (b.now=now)
def Br (now:Int) (c:Cp):Bool:=AY now c.rp && AY now c.wp && AY now c.ro && AY now c.wo
def F3 (p:Option Int) (n:Int):Bool:=match p with|none=>true|some q=>decide (q<=n)
def Dx (kn:Int->Bool):Option Int->List Fl->Bool
 | _,[]=>true
 | p,f::l=>(Aw f.r && kn f.r.group) && inZ f.done 0 1125899906842624 && F3 p f.done && Dx kn (some f.done) l
def Dc (m:Mdl) (speed margin:Int):Bool:=B7 m && inZ speed 1 1000000 && inZ margin 0 1073741824
def DC (t:Tr) (d:Dv):Bool :=
 AX t && Dc d.m d.speed d.margin && inZ d.now 0 1048576 && inZ d.free 0 1125899906842624 && inZ d.head 0 16777216 && EW t d.weights && BT (Ag t.nodes) none d.depths && BM t d.v &&
 decide (d.queue.length+d.flights.length<=256) && CJ (Ag t.nodes) (Br d.now) none d.buckets && d.queue.all (fun r=>Aw r && Ag t.nodes r.group) && Dx (Ag t.nodes) none d.flights
theorem Co {n lo hi:Int}:inZ n lo hi=true ↔ lo<=n/\n<=hi:=by simp [inZ]
theorem KI {p:Option Int} {g:Int}:Cr p g=true ↔ ∀ q,p=some q->q<g:=by
 cases p<;>simp [Cr]
theorem Cn {kn:Int->Bool} {ok:Cp->Bool}:∀ {l:List Cp} {p:Option Int},CJ kn ok p l=true ↔ (∀ c∈l,kn c.group=true/\ok c=true)/\l.Pairwise (fun a b=>a.group<b.group)/\∀ q,p=some q->∀ c∈l,q<c.group
 | [],p=>by simp [CJ]
 | c::l,p=>by
  simp only [CJ,bat,KI,Cn (l:=l),lmk,lpw,forall_eq_or_imp,osi]
  constructor
  ·rintro ⟨⟨⟨h1,h2⟩,h3⟩,h4,h5,h6⟩
   exact ⟨⟨⟨h1,h3⟩,h4⟩,⟨fun b hb=>h6 _ rfl b hb,h5⟩,fun q hq=>⟨h2 q hq,fun b hb=>Int.lt_trans (h2 q hq) (h6 _ rfl b hb)⟩⟩
  ·rintro ⟨⟨⟨h1,h3⟩,h4⟩,⟨h6,h5⟩,h7⟩
   exact ⟨⟨⟨h1,fun q hq=>(h7 q hq).1⟩,h3⟩,h4,h5,fun q hq b hb=>by subst hq;exact h6 b hb⟩
theorem Xa {p:Option Int} {g:Int}:F3 p g=true ↔ ∀ q,p=some q->q<=g:=by
 cases p<;>simp [F3]
theorem Eh {kn:Int->Bool}:∀ {l:List Fl} {p:Option Int},Dx kn p l=true ↔ (∀ f∈l,(Aw f.r=true/\kn f.r.group=true)/\0<=f.done/\f.done<=1125899906842624)/\l.Pairwise (fun a b=>a.done<=b.done)/\∀ q,p=some q->∀ f∈l,q<=f.done
 | [],p=>by simp [Dx]
 | f::l,p=>by
  simp only [Dx,bat,Xa,Co,Eh (l:=l),lmk,lpw,forall_eq_or_imp,osi]
  constructor
  ·rintro ⟨⟨⟨⟨h1,h2⟩,h3⟩,h4⟩,h5,h6,h7⟩
   exact ⟨⟨⟨⟨h1,h2⟩,h3⟩,h5⟩,⟨fun b hb=>h7 _ rfl b hb,h6⟩,fun q hq=>⟨h4 q hq,fun b hb=>Int.le_trans (h4 q hq) (h7 _ rfl b hb)⟩⟩
  ·rintro ⟨⟨⟨⟨h1,h2⟩,h3⟩,h5⟩,⟨h7,h6⟩,h8⟩
   exact ⟨⟨⟨⟨h1,h2⟩,h3⟩,fun q hq=>(h8 q hq).1⟩,h5,h6,fun q hq b hb=>by subst hq;exact h7 b hb⟩
structure DvOk (t:Tr) (d:Dv):Prop where
 tree:TreeOk t
 cfg:Dc d.m d.speed d.margin=true
 now:0<=d.now/\d.now<=1048576
 free:0<=d.free/\d.free<=1125899906842624
 head:0<=d.head/\d.head<=16777216
 w:AscOk (Ag t.nodes) 1 10000 d.weights
 dp:BT (Ag t.nodes) none d.depths=true
 v:AscOk (Ag t.nodes) 0 1152921504606846976 d.v
 len:d.queue.length+d.flights.length<=256
 bk:CJ (Ag t.nodes) (Br d.now) none d.buckets=true
 q:∀ r∈d.queue,Aw r=true/\Ag t.nodes r.group=true
 fl:Dx (Ag t.nodes) none d.flights=true
theorem dvOk_iff {t:Tr} {d:Dv}:DC t d=true ↔ DvOk t d:=by
 simp only [DC,bat,Co,decide_eq_true_eq,List.all_eq_true,Gz,BM,EQ,Bo]
 constructor
 ·rintro ⟨⟨⟨⟨⟨⟨⟨⟨⟨⟨⟨h1,h2⟩,h3⟩,h4⟩,h5⟩,h6⟩,h7⟩,h8⟩,h9⟩,h10⟩,h11⟩,h12⟩
  exact ⟨h1,h2,h3,h4,h5,h6.2,h7,h8.2,h9,h10,h11,h12⟩
 ·rintro ⟨h1,h2,h3,h4,h5,h6,h7,h8,h9,h10,h11,h12⟩
  exact ⟨⟨⟨⟨⟨⟨⟨⟨⟨⟨⟨h1,h2⟩,h3⟩,h4⟩,h5⟩,⟨h1,h6⟩⟩,h7⟩,⟨h1,h8⟩⟩,h9⟩,h10⟩,h11⟩,h12⟩
theorem Bc {b:Bk}:BH b=true ↔ (1<=b.per/\b.per<=1048576)/\(0<=b.now/\b.now<=1048576)/\((b.rate=maxR/\b.burst=0/\b.level=0) \/ (b.rate ≠ maxR/\(0<=b.rate/\b.rate<=1073741824)/\(0<=b.burst/\b.burst<=1073741824)/\0<=b.level/\b.level<=b.burst*b.per)):=by
 unfold BH
 by_cases h:b.rate=maxR
 ·rw [if_pos h]
  simp only [bat,Co,decide_eq_true_eq,h,true_and,ne_eq,not_true_eq_false,false_and,or_false,and_assoc]
 ·rw [if_neg h]
  simp only [bat,Co,h,false_and,ne_eq,not_false_eq_true,true_and,false_or,and_assoc]
theorem AE {now:Int} {b:Bk}:AY now b=true ↔ BH b=true/\b.per=100/\b.now=now:=by
 simp only [AY,bat,decide_eq_true_eq,and_assoc]
theorem JG {now:Int} {b:Bk} (h:AY now b=true) (hn:now+1<=1048576) (h0:0<=now):AY (now+1) (AD b (now+1))=true:=by
 rw [AE,Bc] at h
 obtain ⟨⟨h1,h2,h3⟩,h4,h5⟩:=h
 rw [AE,Bc]
 unfold AD
 rcases h3 with ⟨e,h6,h7⟩|⟨e,h6,h7,h8⟩
 ·rw [if_pos e]
  exact ⟨⟨h1,by simp only;omega,.inl ⟨e,h6,h7⟩⟩,h4,rfl⟩
 ·rw [if_neg e]
  refine ⟨⟨h1,by simp only;omega,.inr ⟨e,h6,h7,?_⟩⟩,h4,rfl⟩
  simp only
  have hb:0<=b.burst*b.per:=Int.mul_nonneg h7.1 (by omega)
  have hr:0<=b.rate*(now+1 - b.now):=Int.mul_nonneg h6.1 (by omega)
  omega
theorem Jz {now:Int} {b:Bk} (h:AY now b=true) {n:Int} (hn:0<=n):AY now (Bh b n)=true:=by
 have h':=h
 rw [AE,Bc] at h
 obtain ⟨⟨h1,h2,h3⟩,h4,h5⟩:=h
 unfold Bh
 by_cases e:b.rate=maxR
 ·rw [if_pos e];exact h'
 ·rw [if_neg e]
  by_cases hl:b.level / b.per<n
  ·rw [if_pos hl];exact h'
  ·rw [if_neg hl,AE,Bc]
   rcases h3 with ⟨e',_⟩|⟨_,h6,h7,h8⟩
   ·exact absurd e' e
   ·refine ⟨⟨h1,h2,.inr ⟨e,h6,h7,?_⟩⟩,h4,h5⟩
    simp only
    have hk:n*b.per<=b.level:=by
     have:=Int.mul_le_mul_of_nonneg_right (show n<=b.level / b.per by omega) (show 0<=b.per by omega)
     have h9:=Int.ediv_mul_le b.level (show b.per ≠ 0 by omega)
     omega
    have:0<=n*b.per:=Int.mul_nonneg hn (by omega)
    omega
theorem Cf {now:Int} {c:Cp}:Br now c=true ↔ AY now c.rp=true/\AY now c.wp=true/\AY now c.ro=true/\AY now c.wo=true:=by
 simp only [Br,bat,and_assoc]
theorem Zt {l:List Cp} {id:Int} {f:Cp->Cp}:∀ {c:Cp},c∈BQ l id f->c∈l \/ ∃ c0∈l,c=f c0:=by
 induction l with
 | nil=>intro c h;simp [BQ] at h
 | cons x l ih =>
  intro c h
  unfold BQ at h
  split at h
  ·rcases lmk.1 h with rfl|h
   ·exact .inr ⟨x,lms ..,rfl⟩
   ·exact .inl (lmc _ h)
  ·rcases lmk.1 h with rfl|h
   ·exact .inl (lms ..)
   ·rcases ih h with h|⟨c0,h0,e⟩
    .exact .inl (lmc _ h)
    .exact .inr ⟨c0,lmc _ h0,e⟩
theorem NE {f:Cp->Cp} (hf:∀ c,(f c).group=c.group) (id:Int):∀ l:List Cp,(BQ l id f).map (·.group)=l.map (·.group)
 | []=>rfl
 | c::l=>by
  unfold BQ
  split
  .simp [hf]
  .simp [NE hf id l]
theorem Wj {l m:List Cp} (h:l.map (·.group)=m.map (·.group)):l.Pairwise (fun a b=>a.group<b.group) ↔ m.Pairwise (fun a b=>a.group<b.group):=by
 rw [<- List.pairwise_map (f:=Cp.group) (R:=fun a b=>a<b),<- List.pairwise_map (f:=Cp.group) (R:=fun a b=>a<b),h]
theorem PI {kn:Int->Bool} {ok ok':Cp->Bool} {l m:List Cp} (h:l.map (·.group)=m.map (·.group)) (hl:CJ kn ok none l=true) (hm:∀ c∈m,ok' c=true):CJ kn ok' none m=true:=by
 rw [Cn] at hl ⊢
 refine ⟨fun c hc=>⟨?_,hm c hc⟩,(Wj h).1 hl.2.1,fun q hq=>by cases hq⟩
 have:c.group∈l.map (·.group):=by rw [h];exact List.mem_map_of_mem hc
 obtain ⟨c0,h0,e⟩:=lmm.1 this
 rw [<- e]
 exact (hl.1 c0 h0).1
theorem Wa (c:Cp) (r:Rq):(Bw c r).group=c.group:=by unfold Bw;split<;>rfl
theorem Zn {now:Int} {c:Cp} {r:Rq} (h:Br now c=true) (hp:0<=r.pages):Br now (Bw c r)=true:=by
 rw [Cf] at h ⊢
 obtain ⟨h1,h2,h3,h4⟩:=h
 unfold Bw
 split
 .exact ⟨h1,Jz h2 hp,h3,Jz h4 (by omega)⟩
 .exact ⟨Jz h1 hp,h2,Jz h3 (by omega),h4⟩
theorem IX {t:Tr} {now:Int} {r:Rq} (hp:0<=r.pages) {kn:Int->Bool}:∀ (gs:List Int) (l:List Cp),CJ kn (Br now) none l=true->CJ kn (Br now) none (gs.foldl (fun l g=>BQ l g fun c=>Bw c r) l)=true
 | [],l,h=>h
 | g::gs,l,h=>IX (t:=t) hp gs _ (PI (NE (fun c=>Wa c r) g l).symm h fun c hc=>by
   rw [Cn] at h
   rcases Zt hc with hc|⟨c0,h0,rfl⟩
   .exact (h.1 c hc).2
   .exact Zn (h.1 c0 h0).2 hp)
theorem HD {g:Int}:∀ {l:List Rq} {r:Rq},Be l g=some r->r∈l/\r.group=g
 | [],r,h=>by cases h
 | x::l,r,h=>by
  unfold Be at h
  split at h
  .rename_i e;cases h;exact ⟨lms ..,e⟩
  .obtain ⟨h1,h2⟩:=HD h;exact ⟨lmc _ h1,h2⟩
theorem Fe {g:Int}:∀ {l:List Rq} {r:Rq},Be l g=some r->(BA l g).length+1=l.length
 | [],r,h=>by cases h
 | x::l,r,h=>by
  unfold Be at h
  unfold BA
  split at h
  .rename_i e;rw [if_pos e];rfl
  .rename_i e;rw [if_neg e,llc,Fe h];rfl
theorem P3 (g:Int):∀ l:List Rq,List.Sublist (BA l g) l
 | []=>List.Sublist.refl _
 | x::l=>by
  unfold BA
  split
  .exact List.sublist_cons_self _ _
  .exact (P3 g l).cons_cons x
theorem Lt (l:List Fl) (f:Fl):(Cy l f).length=l.length+1:=by
 unfold Cy
 rw [lla,llc]
 have:=congrArg List.length (List.takeWhile_append_dropWhile (p:=fun x:Fl=>decide (x.done<=f.done)) (l:=l))
 rw [lla] at this
 omega
theorem Qm {l:List Fl} {f x:Fl}:x∈Cy l f ↔ x=f \/ x∈l:=by
 have:=List.takeWhile_append_dropWhile (p:=fun x:Fl=>decide (x.done<=f.done)) (l:=l)
 have h2:x∈l ↔ x∈l.takeWhile (fun x=>decide (x.done<=f.done)) \/ x∈l.dropWhile (fun x=>decide (x.done<=f.done)):=by
  rw [<- lmp,this]
 unfold Cy
 rw [lmp,lmk,h2]
 exact ⟨fun h=>by rcases h with h|h|h<;>simp [h],fun h=>by rcases h with h|h|h<;>simp [h]⟩
theorem Wv {l:List Fl} (f:Fl) (h:l.Pairwise fun a b=>a.done<=b.done):(Cy l f).Pairwise fun a b=>a.done<=b.done:=by
 induction l with
 | nil=>simp [Cy]
 | cons x l ih =>
  rw [lpw] at h
  by_cases hx:x.done<=f.done
  ·have e:Cy (x::l) f=x::Cy l f:=by simp [Cy,hx]
   rw [e,lpw]
   refine ⟨fun y hy=>?_,ih h.2⟩
   rcases Qm.1 hy with rfl|hy
   .exact hx
   .exact h.1 y hy
  ·have e:Cy (x::l) f=f::x::l:=by simp [Cy,hx]
   rw [e,lpw]
   refine ⟨fun y hy=>?_,lpw.2 h⟩
   rcases lmk.1 hy with rfl|hy
   .omega
   .have:=h.1 y hy;omega
theorem CL {r:Rq}:Aw r=true ↔ (0<=r.task/\r.task<=2147483647)/\(1<=r.group/\r.group<=2147483647)/\(0<=r.at_/\r.at_<=16777216)/\(1<=r.pages/\r.pages<=4096)/\r.at_+r.pages<=16777216/\0<=r.time/\r.time<=1048576:=by
 simp only [Aw,bat,Co,decide_eq_true_eq,and_assoc]
theorem Ec {m:Mdl} {speed margin:Int}:Dc m speed margin=true ↔ B7 m=true/\(1<=speed/\speed<=1000000)/\0<=margin/\margin<=1073741824:=by
 simp only [Dc,bat,Co,and_assoc]
theorem E5 {m:Mdl}:B7 m=true ↔ (0<=m.rb/\m.rb<=1000000)/\(0<=m.rp/\m.rp<=1000000)/\(0<=m.wb/\m.wb<=1000000)/\(0<=m.wp/\m.wp<=1000000)/\0<=m.seek/\m.seek<=1000000:=by
 simp only [B7,bat,Co,and_assoc]
theorem BZ {a b A B:Int} (h0:0<=a) (h1:a<=A) (h2:0<=b) (h3:b<=B):0<=a*b/\a*b<=A*B:=by
 refine ⟨Int.mul_nonneg h0 h2,?_⟩
 have e1:=Int.mul_le_mul_of_nonneg_right h1 h2
 have e2:=Int.mul_le_mul_of_nonneg_left h3 (show 0<=A by omega)
 omega
theorem XH {m:Mdl} (hm:B7 m=true) {r:Rq} (hr:Aw r=true) (head:Int):0<=Cx m r head/\Cx m r head<=4098000000:=by
 rw [E5] at hm
 rw [CL] at hr
 have h1:=BZ (a:=m.rp) (b:=r.pages) (A:=1000000) (B:=4096) hm.2.1.1 hm.2.1.2 (by omega) (by omega)
 have h2:=BZ (a:=m.wp) (b:=r.pages) (A:=1000000) (B:=4096) hm.2.2.2.1.1 hm.2.2.2.1.2 (by omega) (by omega)
 unfold Cx
 split<;>split<;>omega
theorem LZ {t:Tr} {d:Dv} (h:DvOk t d) (hn:d.now<1048576):DvOk t (Bs d) where
 tree:=h.tree
 cfg:=h.cfg
 now:=by have:=h.now;show 0<=d.now+1/\d.now+1<=_;omega
 free:=h.free
 head:=h.head
 w := h.w
 dp:=h.dp
 v := h.v
 len:=by
  have:=h.len
  have h2:=(List.dropWhile_sublist (l:=d.flights) fun f=>decide (f.done<=d.now+1)).length_le
  show d.queue.length+(d.flights.dropWhile _).length<=256
  omega
 bk:=by
  have hb:=h.bk
  refine PI ?_ hb fun c hc=>?_
  ·show _=(d.buckets.map (DM (d.now+1))).map (·.group)
   rw [List.map_map]
   rfl
  ·obtain ⟨c0,h0,rfl⟩:=lmm.1 hc
   have:=(Cn.1 hb).1 c0 h0
   rw [Cf] at this
   have hnn:=h.now
   exact Cf.2 ⟨JG this.2.1 (by omega) hnn.1,JG this.2.2.1 (by omega) hnn.1,JG this.2.2.2.1 (by omega) hnn.1,JG this.2.2.2.2 (by omega) hnn.1⟩
 q:=h.q
 fl:=by
  have:=Eh.1 h.fl
  have hs:=List.dropWhile_sublist (l:=d.flights) fun f=>decide (f.done<=d.now+1)
  exact Eh.2 ⟨fun f hf=>this.1 f (hs.subset hf),this.2.1.sublist hs,fun q hq=>by cases hq⟩
theorem Fm (n lo hi:Int):V 175 [.p (.int .i64 n),.p (.int .i64 lo),.p (.int .i64 hi)] []=some (.p (.bool (inZ n lo hi)),[]):=by
 refine Ac (vf:=vf175) rfl ?_
 unfold inZ
 by_cases h1:lo<=n
 ·by_cases h2:n<=hi
  ·rw [decide_eq_true ⟨h1,h2⟩]
   exact z2 h1 h2
  ·rw [decide_eq_false (fun h=>h2 h.2)]
   exact z2 h1 h2
 ·rw [decide_eq_false (fun h=>h1 h.1)]
  exact z1 h1
theorem Fg (b:Bk):V 176 [b.vv] []=some (.p (.bool (decide (b.rate=maxR))),[]):=by
 refine Ac (vf:=vf176) rfl ?_
 exact z0
theorem HK (b:Bk):V 174 [b.vv] []=some (.p (.bool (BH b)),[]):=by
 refine Ac (vf:=vf174) rfl ?_
 have i1:=Fm b.per 1 1048576
 have i2:=Fm b.now 0 1048576
 have i3:=Fm b.rate 0 1073741824
 have i4:=Fm b.burst 0 1073741824
 have i5:=Fm b.level 0 (b.burst*b.per)
 have op:=Fg b
 unfold BH
 cases h1:inZ b.per 1 1048576 with
 | false =>
  rw [h1] at i1
  simp -implicitDefEqProofs (disch:=omega) only [vf174,Fp,i1,bfa,go_sem]
 | true =>
  rw [h1] at i1
  cases h2:inZ b.now 0 1048576 with
  | false =>
   rw [h2] at i2
   simp -implicitDefEqProofs (disch:=omega) only [vf174,Fp,i1,i2,bfa,bta,go_sem]
  | true =>
   rw [h2] at i2
   by_cases hm:b.rate=maxR
   ·rw [decide_eq_true hm] at op
    rw [if_pos hm]
    cases hb:decide (b.burst=0) with
    | false=>simp -implicitDefEqProofs (disch:=omega) only [vf174,Fp,i1,i2,op,hb,bta,bfa,go_sem]
    | true=>simp -implicitDefEqProofs (disch:=omega) only [vf174,Fp,i1,i2,op,hb,bta,go_sem]
   ·rw [decide_eq_false hm] at op
    rw [if_neg hm]
    cases h3:inZ b.rate 0 1073741824 with
    | false =>
     rw [h3] at i3
     simp -implicitDefEqProofs (disch:=omega) only [vf174,Fp,i1,i2,op,i3,bfa,bta,go_sem]
    | true =>
     rw [h3] at i3
     cases h4:inZ b.burst 0 1073741824 with
     | false =>
      rw [h4] at i4
      simp -implicitDefEqProofs (disch:=omega) only [vf174,Fp,i1,i2,op,i3,i4,bfa,bta,go_sem]
     | true =>
      rw [h4] at i4
      have e1:=Co.1 h1
      have e4:=Co.1 h4
      have hr:=BZ e4.1 e4.2 (show 0<=b.per by omega) e1.2
      simp -implicitDefEqProofs (disch:=omega) only [vf174,Fp,i1,i2,op,i3,i4,i5,bta,go_sem]
theorem F0 (b:Bk) (now:Int) (h:BH b=true) (h1:b.now<=now) (h2:now<=1048576):V 115 [b.vv,.p (.int .i64 now)] []=some (.tup [(AD b now).vv,.p (.int .i64 0)],[]):=by
 refine Ac (vf:=vf115) rfl ?_
 have hv:=HK b
 rw [h] at hv
 rw [Bc] at h
 obtain ⟨hp,hw,hc⟩:=h
 have i1:=Fm now 0 1048576
 rw [show inZ now 0 1048576=true from Co.2 ⟨by omega,h2⟩] at i1
 have hlt:¬ now<b.now:=by omega
 have op:=Fg b
 unfold AD
 rcases hc with ⟨e,hb,hl⟩|⟨e,hr,hb,hl⟩
 ·rw [if_pos e]
  rw [decide_eq_true e] at op
  exact z4 hv i1 hlt op
 ·rw [if_neg e]
  rw [decide_eq_false e] at op
  have m1:=BZ hr.1 hr.2 (show 0<=now - b.now by omega) (show now - b.now<=1048576 by omega)
  have m2:=BZ hb.1 hb.2 (show 0<=b.per by omega) hp.2
  exact z4 hv i1 hlt op
theorem H9 (b:Bk) (h:BH b=true):V 181 [b.vv] []=some (.p (.int .i64 (AH b)),[]):=by
 refine Ac (vf:=vf181) rfl ?_
 have hv:=HK b
 rw [h] at hv
 rw [Bc] at h
 obtain ⟨hp,hw,hc⟩:=h
 have op:=Fg b
 unfold AH
 rcases hc with ⟨e,hb,hl⟩|⟨e,hr,hb,hl⟩
 ·rw [if_pos e]
  rw [decide_eq_true e] at op
  exact z2 hv op
 ·rw [if_neg e]
  rw [decide_eq_false e] at op
  have m2:=BZ hb.1 hb.2 (show 0<=b.per by omega) hp.2
  have hp0:¬ b.per=0:=by omega
  have hq:b.level.tdiv b.per=b.level / b.per:=Int.tdiv_eq_ediv_of_nonneg hl.1
  have hq0:0<=b.level / b.per:=Int.ediv_nonneg hl.1 (by omega)
  have hq1:b.level / b.per<=b.level:=Int.ediv_le_self _ hl.1
  exact z4 hv op hp0 hq
abbrev Mdl.cs (m:Mdl):List VVal:=[.p (.int .i64 m.rb),.p (.int .i64 m.rp),.p (.int .i64 m.wb),.p (.int .i64 m.wp),.p (.int .i64 m.seek)]
abbrev Mdl.vv (m:Mdl):VVal:=.agg m.cs
theorem F7 (n lo hi:Int):V 170 [.p (.int .i64 n),.p (.int .i64 lo),.p (.int .i64 hi)] []=some (.p (.bool (inZ n lo hi)),[]):=by
 refine Ac (vf:=vf170) rfl ?_
 unfold inZ
 by_cases h1:lo<=n
 ·by_cases h2:n<=hi
  ·rw [decide_eq_true ⟨h1,h2⟩]
   exact z2 h1 h2
  ·rw [decide_eq_false (fun h=>h2 h.2)]
   exact z2 h1 h2
 ·rw [decide_eq_false (fun h=>h1 h.1)]
  exact z1 h1
theorem He (n lo hi:Int):V 109 [.p (.int .i64 n),.p (.int .i64 lo),.p (.int .i64 hi)] []=some (.p (.bool (inZ n lo hi)),[]):=by
 refine Ac (vf:=vf109) rfl ?_
 unfold inZ
 by_cases h1:lo<=n
 ·by_cases h2:n<=hi
  ·rw [decide_eq_true ⟨h1,h2⟩]
   exact z2 h1 h2
  ·rw [decide_eq_false (fun h=>h2 h.2)]
   exact z2 h1 h2
 ·rw [decide_eq_false (fun h=>h1 h.1)]
  exact z1 h1
theorem Ja (r:Rq):V 102 [r.vv] []=some (.p (.bool (Aw r)),[]):=by
 refine Ac (vf:=vf102) rfl ?_
 have i1:=F7 r.task 0 2147483647
 have i2:=F7 r.group 1 2147483647
 have i3:=F7 r.at_ 0 16777216
 have i4:=F7 r.pages 1 4096
 have i5:=F7 r.time 0 1048576
 unfold Aw
 cases h1:inZ r.task 0 2147483647 with
 | false =>
  rw [h1] at i1
  simp -implicitDefEqProofs (disch:=omega) only [vf102,Gb,i1,bfa,go_sem]
 | true =>
  rw [h1] at i1
  cases h2:inZ r.group 1 2147483647 with
  | false =>
   rw [h2] at i2
   simp -implicitDefEqProofs (disch:=omega) only [vf102,Gb,i1,i2,bfa,bta,go_sem]
  | true =>
   rw [h2] at i2
   cases h3:inZ r.at_ 0 16777216 with
   | false =>
    rw [h3] at i3
    simp -implicitDefEqProofs (disch:=omega) only [vf102,Gb,i1,i2,i3,bfa,bta,go_sem]
   | true =>
    rw [h3] at i3
    cases h4:inZ r.pages 1 4096 with
    | false =>
     rw [h4] at i4
     simp -implicitDefEqProofs (disch:=omega) only [vf102,Gb,i1,i2,i3,i4,bfa,bta,go_sem]
    | true =>
     rw [h4] at i4
     have e3:=Co.1 h3
     have e4:=Co.1 h4
     by_cases h5:r.at_+r.pages<=16777216
     .simp -implicitDefEqProofs (disch:=omega) only [vf102,Gb,i1,i2,i3,i4,i5,h5,bta,go_sem]
     .simp -implicitDefEqProofs (disch:=omega) only [vf102,Gb,i1,i2,i3,i4,i5,h5,bfa,bta,go_sem]
def E2 (l:List Int):Bool:=l.all fun n=>inZ n 0 1000000
theorem OQ (m:Mdl):V 141 [m.vv] []=some (.p (.bool (B7 m)),[]):=by
 refine Ac (vf:=vf141) rfl ?_
 have hM:B7 m=E2 [m.rb,m.rp,m.wb,m.wp,m.seek]:=by simp [E2,B7,Bool.and_assoc]
 rw [hM]
 refine w0 ?_
 obtain ⟨I,hI⟩:=lpI fun k s=>E2 [m.rb,m.rp,m.wb,m.wp,m.seek]=E2 ([m.rb,m.rp,m.wb,m.wp,m.seek].drop k)/\s.pe 2=.p (.bool false)/\s.pe 15=m.vv/\s.pe 16=.p (.int .i64 k)
 refine Aj (5) I ?_ ?_
 ·refine (hI _ _).2 ?_
  and_intros
  ·exact cl3
  all_goals exact cl0
 intro k s hk hIk
 obtain ⟨hq,hH⟩:=(hI _ _).1 hIk
 clear hIk
 refine w1 hH ?_
 refine Ae (fun hlt=>?_) (fun hge=>?_)
 ·have hk5':(k:Int)<5:=hlt
  have hk5:k<5:=by omega
  obtain ⟨n,hm,hcs⟩:∃ n,[m.rb,m.rp,m.wb,m.wp,m.seek][k]?=some n/\m.cs[k*1]?=some (.p (.int .i64 n)):=by
   have:k=0 \/ k=1 \/ k=2 \/ k=3 \/ k=4:=by omega
   rcases this with rfl|rfl|rfl|rfl|rfl<;>exact ⟨_,rfl,rfl⟩
  have hd:E2 ([m.rb,m.rp,m.wb,m.wp,m.seek].drop k)=(inZ n 0 1000000 && E2 ([m.rb,m.rp,m.wb,m.wp,m.seek].drop (k+1))):=by
   have hk:k<[m.rb,m.rp,m.wb,m.wp,m.seek].length:=hk5
   rw [ldg hk,E2,List.all_cons]
   rw [lgg hk] at hm
   cases hm
   rfl
  rw [hd] at hq
  have hin:=F7 n 0 1000000
  cases hb:inZ n 0 1000000 with
  | false =>
   rw [hb] at hin hq
   have hF:E2 [m.rb,m.rp,m.wb,m.wp,m.seek]=false:=hq.trans (bfa _)
   exact z5 hH hlt hcs hin hF
  | true =>
   rw [hb] at hin hq
   simp -implicitDefEqProofs (disch:=omega) only [hH,hlt,hcs,hin,go_sem]
   try refine ai ?_
   refine (hI _ _).2 ?_
   and_intros
   .exact hq.trans (bta _)
   all_goals exact cl0
 ·have hT:E2 [m.rb,m.rp,m.wb,m.wp,m.seek]=true:=by
   rw [hq,List.drop_eq_nil_of_le (by simp;omega)]
   rfl
  exact z3 hH hge hT
theorem L4 (n lo hi:Int):V 173 [.p (.int .i64 n),.p (.int .i64 lo),.p (.int .i64 hi)] []=some (.p (.bool (inZ n lo hi)),[]):=by
 refine Ac (vf:=vf173) rfl ?_
 unfold inZ
 by_cases h1:lo<=n
 ·by_cases h2:n<=hi
  ·rw [decide_eq_true ⟨h1,h2⟩]
   exact z2 h1 h2
  ·rw [decide_eq_false (fun h=>h2 h.2)]
   exact z2 h1 h2
 ·rw [decide_eq_false (fun h=>h1 h.1)]
  exact z1 h1
theorem zab (id:Int):V 208 [.p (.int .i64 id)] []=some (.agg [.p (.int .i64 id),.p (.int .i64 0),.p (.int .i64 256)],[]):=by
 refine Ac (vf:=vf208) rfl ?_
 exact z0
abbrev BJ (l:List Dp):PV:=.slice 3 (l.map Dp.pv)
abbrev Dp.vv (d:Dp):VVal:=.agg [.p (.int .i64 d.group),.p (.int .i64 d.target),.p (.int .i64 d.depth)]
def Fs (l:List Dp):Nat->Option Int
 | 0=>none
 | k+1=>l[k]?.map Dp.group
theorem Y2 {kn:Int->Bool} {l:List Dp} {k:Nat} {c:Dp} (hm:l[k]?=some c):BT kn (Fs l k) (l.drop k)=(kn c.group && Cr (Fs l k) c.group && (inZ c.target 0 1048576 && inZ c.depth 1 256) && BT kn (Fs l (k+1)) (l.drop (k+1))):=by
 have hk:=(lgs.1 hm).1
 rw [ldg hk]
 have e:l[k]=c:=by rw [lgg hk] at hm;exact Option.some.inj hm
 rw [e,BT]
 simp [Fs,hm]
theorem Pl (t:Tr) (l:List Dp) (hf:t.Fits) (hn:t.nodes.length<1000000) (hl:l.length<1000000):V 111 [t.vv,.p (BJ l)] []=some (.p (.bool (AX t && BT (Ag t.nodes) none l)),[]):=by
 refine Ac (vf:=vf111) rfl ?_
 have hc:=IW t hf hn
 cases ht:AX t with
 | false =>
  rw [ht] at hc
  simp -implicitDefEqProofs (disch:=omega) only [vf111,Mf,hc,bfa,go_sem]
 | true =>
  rw [ht] at hc
  rw [Bool.true_and]
  refine w1 hc ?_
  obtain ⟨I,hI⟩:=lpI fun k s=>BT (Ag t.nodes) none l=BT (Ag t.nodes) (Fs l k) (l.drop k)/\s.pe 1=.p (BJ l)/\s.pe 2=.ptr (.slot 2 0) 0 0/\s.pe 12=.p (BJ l)/\s.pe 13=.p (.int .i64 l.length)/\s.pe 14=.p (.int .i64 k)/\s.h (.slot 2 0)=some (0,.box [.p (An t.nodes),.p (.int .i64 t.next)])
  refine Aj (l.length) I ?_ ?_
  ·refine (hI _ _).2 ?_
   and_intros
   ·exact cl3
   all_goals exact cl0
  intro k s hk hIk
  obtain ⟨hq,hH⟩:=(hI _ _).1 hIk
  clear hIk
  refine w1 hH ?_
  refine Ae (fun hlt=>?_) (fun hge=>?_)
  ·have hm:l[k]?=some l[k]:=lgg hlt
   generalize l[k]=c at hm
   rw [Y2 hm] at hq
   have hfi:=GQ t c.group hn
   have hkn:Ag t.nodes c.group=(AS t.nodes c.group).isSome:=rfl
   generalize (AS t.nodes c.group).getD zeroNd=nd at hfi
   rw [← hkn] at hfi
   have i1:=L4 c.target 0 1048576
   have i2:=L4 c.depth 1 256
   cases hA:Ag t.nodes c.group with
   | false =>
    rw [hA] at hfi hq
    simp -implicitDefEqProofs (disch:=omega) only [hH,hlt,hm,hfi,hq,Nd.vv,bfa,go_sem]
   | true =>
    rw [hA,bta] at hq
    rw [hA] at hfi
    have ord:(∃ e:Dp,0<k/\l[k - 1]?=some e/\(Cr (Fs l k) c.group=decide (e.group<c.group))) \/ (k=0/\Cr (Fs l k) c.group=true):=by
     cases k with
     | zero=>exact .inr ⟨rfl,rfl⟩
     | succ k' =>
      have hk':k'<l.length:=by omega
      refine .inl ⟨l[k'],by omega,by simp,?_⟩
      simp [Fs,lgg hk',Cr]
    rcases ord with ⟨e,hk0,he,hpo⟩|⟨hk0,hpo⟩
    ·have hk0':(0:Int)<k:=by omega
     have hk1:(0:Int)<=(k:Int) - 1:=by omega
     have hk2:((k:Int) - 1).toNat=k - 1:=by omega
     rw [hpo] at hq
     by_cases hB:e.group<c.group
     ·rw [decide_eq_true hB,bta] at hq
      have hB':¬ c.group<=e.group:=by omega
      cases hC:inZ c.target 0 1048576 with
      | false =>
       rw [hC] at i1 hq
       simp -implicitDefEqProofs (disch:=omega) only [hH,hlt,hm,hfi,hq,Nd.vv,hk0',hk1,hk2,he,hB',i1,bfa,go_sem]
      | true =>
       rw [hC] at i1 hq
       cases hD:inZ c.depth 1 256 with
       | false =>
        rw [hD] at i2 hq
        simp -implicitDefEqProofs (disch:=omega) only [hH,hlt,hm,hfi,hq,Nd.vv,hk0',hk1,hk2,he,hB',i1,i2,bfa,Bool.and_false,go_sem]
       | true =>
        rw [hD] at i2 hq
        simp -implicitDefEqProofs (disch:=omega) only [hH,hlt,hm,hfi,Nd.vv,hk0',hk1,hk2,he,hB',i1,i2,go_sem]
        try refine ai ?_
        refine (hI _ _).2 ?_
        and_intros
        .exact by simpa using hq
        all_goals exact cl0
     ·rw [decide_eq_false hB,bfa,bfa] at hq
      have hB':c.group<=e.group:=by omega
      simp -implicitDefEqProofs (disch:=omega) only [hH,hlt,hm,hfi,hq,Nd.vv,hk0',hk1,hk2,he,hB',go_sem]
    ·have hk0':¬ (0:Int)<k:=by omega
     rw [hpo,bta] at hq
     cases hC:inZ c.target 0 1048576 with
     | false =>
      rw [hC] at i1 hq
      simp -implicitDefEqProofs (disch:=omega) only [hH,hlt,hm,hfi,hq,Nd.vv,hk0',i1,bfa,go_sem]
     | true =>
      rw [hC] at i1 hq
      cases hD:inZ c.depth 1 256 with
      | false =>
       rw [hD] at i2 hq
       simp -implicitDefEqProofs (disch:=omega) only [hH,hlt,hm,hfi,hq,Nd.vv,hk0',i1,i2,bfa,Bool.and_false,go_sem]
      | true =>
       rw [hD] at i2 hq
       simp -implicitDefEqProofs (disch:=omega) only [hH,hlt,hm,hfi,Nd.vv,hk0',i1,i2,go_sem]
       try refine ai ?_
       refine (hI _ _).2 ?_
       and_intros
       .exact by simpa using hq
       all_goals exact cl0
  ·have hT:BT (Ag t.nodes) none l=true:=by
    rw [hq,List.drop_eq_nil_of_le (by omega)]
    rfl
   exact z3 hH hge hT
theorem GM (t:Tr) (id:Int) (hn:t.nodes.length<1000000):V 73 [t.vv,.p (.int .i64 id)] []=some (.p (.bool (Ag t.nodes id)),[]):=by
 refine Ac (vf:=vf73) rfl ?_
 have hfi:=GQ t id hn
 unfold Ag
 generalize (AS t.nodes id).getD zeroNd=nd at hfi
 generalize (AS t.nodes id).isSome=b at hfi
 simp -implicitDefEqProofs (disch:=omega) only [vf73,Tg,hfi,Nd.vv,go_sem]
abbrev FD (m:Mdl) (speed margin:Int):VVal:=.agg [.p (.int .i64 m.rb),.p (.int .i64 m.rp),.p (.int .i64 m.wb),.p (.int .i64 m.wp),.p (.int .i64 m.seek),.p (.int .i64 speed),.p (.int .i64 margin)]
theorem OP (m:Mdl) (speed margin:Int):V 63 [FD m speed margin] []=some (.p (.bool (Dc m speed margin)),[]):=by
 refine Ac (vf:=vf63) rfl ?_
 have i0:=OQ m
 have i1:=He speed 1 1000000
 have i2:=He margin 0 1073741824
 unfold Dc
 cases h0:B7 m with
 | false =>
  rw [h0] at i0
  simp -implicitDefEqProofs (disch:=omega) only [vf63,JZ,i0,bfa,go_sem]
 | true =>
  rw [h0] at i0
  cases h1:inZ speed 1 1000000 with
  | false =>
   rw [h1] at i1
   simp -implicitDefEqProofs (disch:=omega) only [vf63,JZ,i0,i1,bfa,bta,go_sem]
  | true =>
   rw [h1] at i1
   simp -implicitDefEqProofs (disch:=omega) only [vf63,JZ,i0,i1,i2,bta,go_sem]
theorem I9 (b:Bk) (now:Int):V 113 [b.vv,.p (.int .i64 now)] []=some (.p (.bool (AY now b)),[]):=by
 refine Ac (vf:=vf113) rfl ?_
 have i0:=HK b
 unfold AY
 cases h0:BH b with
 | false =>
  rw [h0] at i0
  simp -implicitDefEqProofs (disch:=omega) only [vf113,JO,i0,bfa,go_sem]
 | true =>
  rw [h0] at i0
  cases h1:decide (b.per=100) with
  | false=>simp -implicitDefEqProofs (disch:=omega) only [vf113,JO,i0,h1,bfa,bta,go_sem]
  | true=>simp -implicitDefEqProofs (disch:=omega) only [vf113,JO,i0,h1,bta,go_sem]
theorem NS (t:Tr) (r:Rq) (hn:t.nodes.length<1000000):V 114 [t.vv,r.vv] []=some (.p (.bool (Aw r && Ag t.nodes r.group)),[]):=by
 refine Ac (vf:=vf114) rfl ?_
 have i0:=Ja r
 have i1:=GM t r.group hn
 cases h0:Aw r with
 | false =>
  rw [h0] at i0
  simp -implicitDefEqProofs (disch:=omega) only [vf114,Md,i0,bfa,go_sem]
 | true =>
  rw [h0] at i0
  simp -implicitDefEqProofs (disch:=omega) only [vf114,Md,i0,i1,bta,go_sem]
abbrev Hq (l:List Cp):PV:=.slice 21 (l.map Cp.pv)
abbrev C5 (l:List Rq):PV:=.slice 6 (l.map Rq.pv)
abbrev Io (l:List Fl):PV:=.slice 7 (l.map Fl.pv)
abbrev Dv.vv (d:Dv):VVal:=.agg [.p (.int .i64 d.m.rb),.p (.int .i64 d.m.rp),.p (.int .i64 d.m.wb),.p (.int .i64 d.m.wp),.p (.int .i64 d.m.seek),.p (.int .i64 d.speed),.p (.int .i64 d.margin),.p (.int .i64 d.now),.p (.int .i64 d.free),.p (.int .i64 d.head),.p (Ap d.weights),.p (Hq d.buckets),.p (BJ d.depths),.p (Ap d.v),.p (C5 d.queue),.p (Io d.flights)]
abbrev dvC (d:Dv):List VVal:=[.p (.int .i64 d.m.rb),.p (.int .i64 d.m.rp),.p (.int .i64 d.m.wb),.p (.int .i64 d.m.wp),.p (.int .i64 d.m.seek),.p (.int .i64 d.speed),.p (.int .i64 d.margin),.p (.int .i64 d.now),.p (.int .i64 d.free),.p (.int .i64 d.head),.p (Ap d.weights),.p (Hq d.buckets),.p (BJ d.depths),.p (Ap d.v),.p (C5 d.queue),.p (Io d.flights)]
structure Dv.Small (d:Dv):Prop where
 w:d.weights.length<1000000
 b:d.buckets.length<1000000
 p:d.depths.length<1000000
 v:d.v.length<1000000
 q:d.queue.length<1000000
 f:d.flights.length<1000000
def Ft (l:List Cp):Nat->Option Int
 | 0=>none
 | k+1=>l[k]?.map Cp.group
theorem Y3 {kn:Int->Bool} {ok:Cp->Bool} {l:List Cp} {k:Nat} {c:Cp} (hm:l[k]?=some c):CJ kn ok (Ft l k) (l.drop k)=(kn c.group && Cr (Ft l k) c.group && ok c && CJ kn ok (Ft l (k+1)) (l.drop (k+1))):=by
 have hk:=(lgs.1 hm).1
 rw [ldg hk]
 have e:l[k]=c:=by rw [lgg hk] at hm;exact Option.some.inj hm
 rw [e,CJ]
 simp [Ft,hm]
def Fr (l:List Fl):Nat->Option Int
 | 0=>none
 | k+1=>l[k]?.map Fl.done
theorem YN {kn:Int->Bool} {l:List Fl} {k:Nat} {c:Fl} (hm:l[k]?=some c):Dx kn (Fr l k) (l.drop k)=((Aw c.r && kn c.r.group) && inZ c.done 0 1125899906842624 && F3 (Fr l k) c.done && Dx kn (Fr l (k+1)) (l.drop (k+1))):=by
 have hk:=(lgs.1 hm).1
 rw [ldg hk]
 have e:l[k]=c:=by rw [lgg hk] at hm;exact Option.some.inj hm
 rw [e,Dx]
 simp [Fr,hm]
def BR {α:Type} (p:α->Bool) (l:List α):Int:=match l.findIdx? p with
 | some i=>i
 | none=>-1
theorem FY {α:Type} {p:α->Bool} {l:List α} {k:Nat} {m:α} (hm:l[k]?=some m) (h:∀ (i:Nat) (n:α),i<k->l[i]?=some n->p n=false) (he:p m=true):BR p l=k:=by
 unfold BR
 have:l.findIdx? p=some k:=by
  rw [List.findIdx?_eq_some_iff_getElem]
  refine ⟨(lgs.1 hm).1,by rw [(lgs.1 hm).2];exact he,fun j hj=>?_⟩
  have hl:j<l.length:=Nat.lt_trans hj (lgs.1 hm).1
  simpa using h j l[j] hj (lgg hl)
 rw [this]
theorem FM {α:Type} {p:α->Bool} {l:List α} (h:∀ n∈l,p n=false):BR p l=-1:=by
 unfold BR
 have:l.findIdx? p=none:=by
  rw [List.findIdx?_eq_none_iff]
  intro x hx
  simpa using h x hx
 rw [this]
theorem E8 {α:Type} (p:α->Bool) (l:List α):(BR p l=-1/\∀ n∈l,p n=false) \/ ∃ (k:Nat) (m:α),BR p l=k/\l[k]?=some m/\p m=true/\∀ (i:Nat) (n:α),i<k->l[i]?=some n->p n=false:=by
 unfold BR
 cases h:l.findIdx? p with
 | none =>
  left
  rw [List.findIdx?_eq_none_iff] at h
  exact ⟨rfl,fun n hn=>by simpa using h n hn⟩
 | some k =>
  right
  rw [List.findIdx?_eq_some_iff_getElem] at h
  obtain ⟨h1,h2,h3⟩:=h
  refine ⟨k,l[k],rfl,lgg h1,h2,fun i n hi hn=>?_⟩
  have:=h3 i hi
  rw [<- (lgs.1 hn).2]
  simpa using this
theorem G5 {α:Type} {p:α->Bool} {l:List α} {k:Nat} {m:α} (hm:l[k]?=some m) (h:∀ (i:Nat) (n:α),i<k->l[i]?=some n->p n=false) (he:p m=false):∀ (i:Nat) (n:α),i<k+1->l[i]?=some n->p n=false:=fun i n hi hn=>by
 by_cases hk:i=k
 ·subst hk
  rw [hm] at hn
  cases hn
  exact he
 .exact h i n (by omega) hn
theorem zaM (c:Cp) (id:Int):V 204 [.agg (c.pv.cells.map .p),.ptr (.arg 0 0) 0 0] [.box [.p (.int .i64 id)]]=some (.p (.bool (decide (c.group=id))),[.box [.p (.int .i64 id)]]):=by
 refine Ac (vf:=vf204) rfl ?_
 simp -implicitDefEqProofs (disch:=omega) only [vf204,RM,Cp.pv,PV.cells,go_sem]
theorem Y0 (r:Rq) (id:Int):V 122 [r.vv,.ptr (.arg 0 0) 0 0] [.box [.p (.int .i64 id)]]=some (.p (.bool (decide (r.group=id))),[.box [.p (.int .i64 id)]]):=by
 refine Ac (vf:=vf122) rfl ?_
 exact z0
theorem YW (r:Rq):V 225 [r.vv] []=some (.p (.bool (!Aw r)),[]):=by
 refine Ac (vf:=vf225) rfl ?_
 have i0:=Ja r
 exact z1 i0
theorem LS (ns:List Cp) (id:Int) (hl:ns.length<1000000):V 146 [.p (Hq ns),.fn 204 [.ptr (.arg 0 0) 0 0]] [.box [.p (.int .i64 id)]]=some (.p (.int .i64 (BR (fun c=>decide (c.group=id)) ns)),[.box [.p (.int .i64 id)]]):=by
 refine Ac (vf:=vf146) rfl ?_
 refine w0 ?_
 refine Aj ns.length (fun k s=>(∀ (i:Nat) (n:Cp),i<k->ns[i]?=some n->decide (n.group=id)=false)/\s.pe 0=.p (Hq ns)/\s.pe 1=.fn 204 [.ptr (.arg 0 0) 0 0]/\s.pe 7=.p (.int .i64 ns.length)/\s.pe 8=.p (.int .i64 k)/\s.h (.arg 0 0)=some (0,.box [.p (.int .i64 id)])) ?_ ?_
 ·exact ⟨by omega,rfl,rfl,rfl,rfl,rfl⟩
 ·rintro k s hk ⟨hall,h0,h1,h7,h8,hh⟩
  refine w5 h0 h1 h7 h8 hh ?_
  refine Ae (fun hlt=>?_) (fun hge=>?_)
  ·have hm:ns[k]?=some ns[k]:=lgg hlt
   generalize ns[k]=m at hm
   have hc:=zaM m id
   simp only [Cp.pv,PV.cells,lpc,lpn] at hc
   cases hb:decide (m.group=id) with
   | true =>
    rw [hb] at hc
    simp -implicitDefEqProofs (disch:=omega) only [h0,h1,h7,h8,hh,hm,hc,Cp.pv,go_sem]
    rw [FY hm hall hb]
   | false =>
    rw [hb] at hc
    simp -implicitDefEqProofs (disch:=omega) only [h0,h1,h7,h8,hh,hm,hc,Cp.pv,go_sem]
    exact ⟨hlt,G5 hm hall hb,by simp only [Int.natCast_add,Int.natCast_one]⟩
  ·refine w6 h0 h1 h7 h8 hh hge ?_
   rw [FM]
   intro n hn
   obtain ⟨i,hi⟩:=lgm hn
   exact hall i n (by have:=(lgs.1 hi).1;omega) hi
theorem zbP (ns:List Rq) (id:Int) (hl:ns.length<1000000):V 121 [.p (C5 ns),.fn 122 [.ptr (.arg 0 0) 0 0]] [.box [.p (.int .i64 id)]]=some (.p (.int .i64 (BR (fun c=>decide (c.group=id)) ns)),[.box [.p (.int .i64 id)]]):=by
 refine Ac (vf:=vf121) rfl ?_
 refine w0 ?_
 refine Aj ns.length (fun k s=>(∀ (i:Nat) (n:Rq),i<k->ns[i]?=some n->decide (n.group=id)=false)/\s.pe 0=.p (C5 ns)/\s.pe 1=.fn 122 [.ptr (.arg 0 0) 0 0]/\s.pe 7=.p (.int .i64 ns.length)/\s.pe 8=.p (.int .i64 k)/\s.h (.arg 0 0)=some (0,.box [.p (.int .i64 id)])) ?_ ?_
 ·exact ⟨by omega,rfl,rfl,rfl,rfl,rfl⟩
 ·rintro k s hk ⟨hall,h0,h1,h7,h8,hh⟩
  refine w5 h0 h1 h7 h8 hh ?_
  refine Ae (fun hlt=>?_) (fun hge=>?_)
  ·have hm:ns[k]?=some ns[k]:=lgg hlt
   generalize ns[k]=m at hm
   have hc:=Y0 m id
   cases hb:decide (m.group=id) with
   | true =>
    rw [hb] at hc
    refine w7 h0 h1 h7 h8 hh hm hc ?_
    rw [FY hm hall hb]
   | false =>
    rw [hb] at hc
    refine w7 h0 h1 h7 h8 hh hm hc ?_
    exact ⟨hlt,G5 hm hall hb,by simp only [Int.natCast_add,Int.natCast_one]⟩
  ·refine w6 h0 h1 h7 h8 hh hge ?_
   rw [FM]
   intro n hn
   obtain ⟨i,hi⟩:=lgm hn
   exact hall i n (by have:=(lgs.1 hi).1;omega) hi
theorem zbO (ns:List Rq) (hl:ns.length<1000000):V 121 [.p (C5 ns),.p (.fn 225)] []=some (.p (.int .i64 (BR (fun c=>!Aw c) ns)),[]):=by
 refine Ac (vf:=vf121) rfl ?_
 refine w0 ?_
 refine Aj ns.length (fun k s=>(∀ (i:Nat) (n:Rq),i<k->ns[i]?=some n->(!Aw n)=false)/\s.pe 0=.p (C5 ns)/\s.pe 1=.p (.fn 225)/\s.pe 7=.p (.int .i64 ns.length)/\s.pe 8=.p (.int .i64 k)) ?_ ?_
 ·exact ⟨by omega,rfl,rfl,rfl,rfl⟩
 ·rintro k s hk ⟨hall,h0,h1,h7,h8⟩
  refine w4 h0 h1 h7 h8 ?_
  refine Ae (fun hlt=>?_) (fun hge=>?_)
  ·have hm:ns[k]?=some ns[k]:=lgg hlt
   generalize ns[k]=m at hm
   have hc:=YW m
   cases hb:!Aw m with
   | true =>
    rw [hb] at hc
    refine w6 h0 h1 h7 h8 hm hc ?_
    rw [FY hm hall hb]
   | false =>
    rw [hb] at hc
    refine w6 h0 h1 h7 h8 hm hc ?_
    exact ⟨hlt,G5 hm hall hb,by simp only [Int.natCast_add,Int.natCast_one]⟩
  ·refine w5 h0 h1 h7 h8 hge ?_
   rw [FM]
   intro n hn
   obtain ⟨i,hi⟩:=lgm hn
   exact hall i n (by have:=(lgs.1 hi).1;omega) hi
theorem YX (m:Mdl) (r:Rq) (head:Int) (hm:B7 m=true) (hr:Aw r=true) (hh:0<=head/\head<=16777216):V 184 [m.vv,.p (C5 [r]),.p (.int .i64 head)] []=some (.p (.int .i64 0),[]):=by
 refine Ac (vf:=vf184) rfl ?_
 have i0:=OQ m
 rw [hm] at i0
 have hc:V 224 [.p (C5 [r]),.p (.fn 225)] []=some (.p (.bool false),[]):=by
  refine Ac (vf:=vf224) rfl ?_
  have hi:=zbO [r] (by simp)
  rw [FM (fun n hn=>by rw [List.mem_singleton] at hn;subst hn;rw [hr];rfl)] at hi
  have hd:decide ((0:Int)<=-1)=false:=rfl
  exact z2 hi hd
 have i1:=F7 head 0 16777216
 rw [show inZ head 0 16777216=true from Co.2 hh] at i1
 exact z3 i0 hc i1
theorem zaL (m:Mdl) (r:Rq) (head:Int) (hm:B7 m=true) (hr:Aw r=true):V 185 [m.vv,r.vv,.p (.int .i64 head)] []=some (.p (.int .i64 (Cx m r head)),[]):=by
 refine Ac (vf:=vf185) rfl ?_
 rw [E5] at hm
 rw [CL] at hr
 have h1:=BZ (a:=m.rp) (b:=r.pages) (A:=1000000) (B:=4096) hm.2.1.1 hm.2.1.2 (by omega) (by omega)
 have h2:=BZ (a:=m.wp) (b:=r.pages) (A:=1000000) (B:=4096) hm.2.2.2.1.1 hm.2.2.2.1.2 (by omega) (by omega)
 have e1:([.p (.int .i64 m.rb),.p (.int .i64 m.wb)]:List VVal)[Int.toNat 0*1]?=some (.p (.int .i64 m.rb)):=rfl
 have e2:([.p (.int .i64 m.rb),.p (.int .i64 m.wb)]:List VVal)[Int.toNat 1*1]?=some (.p (.int .i64 m.wb)):=rfl
 have e3:([.p (.int .i64 m.rp),.p (.int .i64 m.wp)]:List VVal)[Int.toNat 0*1]?=some (.p (.int .i64 m.rp)):=rfl
 have e4:([.p (.int .i64 m.rp),.p (.int .i64 m.wp)]:List VVal)[Int.toNat 1*1]?=some (.p (.int .i64 m.wp)):=rfl
 unfold Cx
 cases hw:r.write with
 | false =>
  by_cases ha:r.at_=head
  .simp -implicitDefEqProofs (disch:=omega) only [vf185,JK,hw,ha,e1,e2,e3,e4,Int.add_zero,go_sem]
  .exact z6 hw ha e1 e2 e3 e4
 | true =>
  by_cases ha:r.at_=head
  .simp -implicitDefEqProofs (disch:=omega) only [vf185,JK,hw,ha,e1,e2,e3,e4,Int.add_zero,go_sem]
  .exact z6 hw ha e1 e2 e3 e4
theorem zb5 (m:Mdl) (r:Rq) (head:Int) (hm:B7 m=true) (hr:Aw r=true) (hh:0<=head/\head<=16777216):V 123 [m.vv,r.vv,.p (.int .i64 head)] []=some (.tup [.p (.int .i64 (Cx m r head)),.p (.int .i64 0)],[]):=by
 refine Ac (vf:=vf123) rfl ?_
 have i0:=YX m r head hm hr hh
 have i0:V 184 [.agg m.cs,.p (.slice 6 [r.pv]),.p (.int .i64 head)] []=some (.p (.int .i64 0),[]):=i0
 simp only [Rq.pv] at i0
 have i1:=zaL m r head hm hr
 exact z2 i0 i1
theorem EO (t : Tr) (d : Dv) (hf : t.Fits) (hn : t.nodes.length<1000000) (hs : d.Small) : V 51 [t.vv,d.vv] []=some (.p (.bool (DC t d)),[]):=by
 refine Ac (vf := vf51) rfl ?_
 obtain ⟨hs1, hs2, hs3, hs4, hs5, hs6⟩:=hs
 have j0 := IW t hf hn
 have j1 := OP d.m d.speed d.margin
 have j2 := He d.now 0 1048576
 have j3 := He d.free 0 1125899906842624
 have j4 := He d.head 0 16777216
 have j5 := Pn t d.weights hf hn hs1
 have j6 := Pl t d.depths hf hn hs3
 have j7 := K9 t d.v hf hn hs4
 obtain ⟨X, hX⟩ : ∃ X, DC t d=X:=⟨_, rfl⟩
 rw [hX]
 unfold DC at hX
 cases c0 : AX t with
 | false =>
  rw [c0] at j0
  have hF : X = false:=by
   rw [← hX]
   simp [c0, ]
  simp -implicitDefEqProofs (disch:=omega) only [vf51,Ex,llm,j0,hF,go_sem]
 | true =>
  rw [c0] at j0
  rw [c0, Bool.true_and] at j6
  cases c1 : Dc d.m d.speed d.margin with
  | false =>
   rw [c1] at j1
   have hF : X = false:=by
    rw [← hX]
    simp [c0, c1, ]
   simp -implicitDefEqProofs (disch:=omega) only [vf51,Ex,llm,j0,j1,hF,go_sem]
  | true =>
   rw [c1] at j1
   cases c2 : inZ d.now 0 1048576 with
   | false =>
    rw [c2] at j2
    have hF : X = false:=by
     rw [← hX]
     simp [c0, c1, c2, ]
    simp -implicitDefEqProofs (disch:=omega) only [vf51,Ex,llm,j0,j1,j2,hF,go_sem]
   | true =>
    rw [c2] at j2
    cases c3 : inZ d.free 0 1125899906842624 with
    | false =>
     rw [c3] at j3
     have hF : X = false:=by
      rw [← hX]
      simp [c0, c1, c2, c3, ]
     simp -implicitDefEqProofs (disch:=omega) only [vf51,Ex,llm,j0,j1,j2,j3,hF,go_sem]
    | true =>
     rw [c3] at j3
     cases c4 : inZ d.head 0 16777216 with
     | false =>
      rw [c4] at j4
      have hF : X = false:=by
       rw [← hX]
       simp [c0, c1, c2, c3, c4, ]
      simp -implicitDefEqProofs (disch:=omega) only [vf51,Ex,llm,j0,j1,j2,j3,j4,hF,go_sem]
     | true =>
      rw [c4] at j4
      cases c5 : EW t d.weights with
      | false =>
       rw [c5] at j5
       have hF : X = false:=by
        rw [← hX]
        simp [c0, c1, c2, c3, c4, c5, ]
       simp -implicitDefEqProofs (disch:=omega) only [vf51,Ex,llm,j0,j1,j2,j3,j4,j5,hF,go_sem]
      | true =>
       rw [c5] at j5
       cases c6 : BT (Ag t.nodes) none d.depths with
       | false =>
        rw [c6] at j6
        have hF : X=false:=by
         rw [← hX]
         simp [c0, c1, c2, c3, c4, c5, c6, ]
        simp -implicitDefEqProofs (disch:=omega) only [vf51,Ex,llm,j0,j1,j2,j3,j4,j5,j6,hF,go_sem]
       | true =>
        rw [c6] at j6
        cases c7 : BM t d.v with
        | false =>
         rw [c7] at j7
         have hF : X=false:=by
          rw [← hX]
          simp [c0, c1, c2, c3, c4, c5, c6, c7, ]
         simp -implicitDefEqProofs (disch:=omega) only [vf51,Ex,llm,j0,j1,j2,j3,j4,j5,j6,j7,hF,go_sem]
        | true =>
         rw [c7] at j7
         by_cases c8:d.queue.length+d.flights.length<=256
         ·have c8a : ¬ (256 : Int)<(d.queue.length : Int)+(d.flights.length : Int):=by omega
          have hY : X=(CJ (Ag t.nodes) (Br d.now) none d.buckets && d.queue.all (fun r=>Aw r && Ag t.nodes r.group) && Dx (Ag t.nodes) none d.flights):=by
           rw [← hX]
           simp [c0,c1,c2,c3,c4,c5,c6,c7,c8,Bool.and_assoc]
          refine w9 j0 j1 j2 j3 j4 j5 j6 j7 c8a ?_
          obtain ⟨I,hI⟩:=lpI fun k s=>CJ (Ag t.nodes) (Br d.now) none d.buckets=CJ (Ag t.nodes) (Br d.now) (Ft d.buckets k) (d.buckets.drop k)/\s.pe 2=.ptr (.slot 2 0) 0 0/\s.pe 3=.ptr (.slot 3 0) 0 0/\s.pe 68=.p (Hq d.buckets)/\s.pe 69=.p (.int .i64 d.buckets.length)/\s.pe 70=.p (.int .i64 k)/\s.h (.slot 2 0)=some (0,.box [.p (An t.nodes),.p (.int .i64 t.next)])/\s.h (.slot 3 0)=some (0,.box (dvC d))
          refine Aj (d.buckets.length) I ?_ ?_
          ·refine (hI _ _).2 ?_
           and_intros
           ·exact cl3
           all_goals exact cl0
          intro k s hk hIk
          obtain ⟨hq,hH⟩:=(hI _ _).1 hIk
          clear hIk
          refine w1 hH ?_
          refine Ae (fun hlt=>?_) (fun hge=>?_)
          ·have hm : d.buckets[k]?=some d.buckets[k]:=lgg hlt
           generalize d.buckets[k]=c at hm
           rw [Y3 hm] at hq
           have k0 := GM t c.group hn
           have k1 := I9 c.rp d.now
           have k2 := I9 c.wp d.now
           have k3 := I9 c.ro d.now
           have k4 := I9 c.wo d.now
           have ord:(∃ e,0<k/\d.buckets[k - 1]?=some e/\(Cr (Ft d.buckets k) c.group=decide (e.group<c.group))) \/ (k=0/\Cr (Ft d.buckets k) c.group=true):=by
            cases k with
            | zero => exact .inr ⟨rfl,rfl⟩
            | succ k' =>
             have hk':k'<d.buckets.length:=by omega
             refine .inl ⟨d.buckets[k'],by omega,by simp,?_⟩
             simp [Ft,lgg hk',Cr]
           rcases ord with ⟨e,hk0,he,hpo⟩|⟨hk0,hpo⟩
           ·have hk0':(0:Int)<k:=by omega
            have hk1:(0:Int)<=(k:Int) - 1:=by omega
            have hk2:((k:Int) - 1).toNat=k - 1:=by omega
            cases b0:Ag t.nodes c.group with
            | false =>
             rw [b0] at k0
             have hF:X=false:=by rw [hY,hq];simp [b0]
             simp -implicitDefEqProofs (disch:=omega) only [hH,hlt,hm,Cp.pv,hk0',hk1,hk2,he,k0,hF,go_sem]
            | true =>
             rw [b0] at k0
             by_cases hR':e.group<c.group
             ·have hR:¬ c.group<=e.group:=by omega
              cases c0:AY d.now c.rp with
              | false =>
               rw [c0] at k1
               have hF:X=false:=by
                rw [hY,hq]
                simp [c0,Br,b0]
               simp -implicitDefEqProofs (disch:=omega) only [hH,hlt,hm,Cp.pv,hk0',hk1,hk2,he,k0,hR,k1,hF,go_sem]
              | true =>
               rw [c0] at k1
               cases c1:AY d.now c.wp with
               | false =>
                rw [c1] at k2
                have hF:X=false:=by
                 rw [hY,hq]
                 simp [c0,c1,Br,b0]
                simp -implicitDefEqProofs (disch:=omega) only [hH,hlt,hm,Cp.pv,hk0',hk1,hk2,he,k0,hR,k1,k2,hF,go_sem]
               | true =>
                rw [c1] at k2
                cases c2:AY d.now c.ro with
                | false =>
                 rw [c2] at k3
                 have hF:X=false:=by
                  rw [hY,hq]
                  simp [c0,c1,c2,Br,b0]
                 simp -implicitDefEqProofs (disch:=omega) only [hH,hlt,hm,Cp.pv,hk0',hk1,hk2,he,k0,hR,k1,k2,k3,hF,go_sem]
                | true =>
                 rw [c2] at k3
                 cases c3:AY d.now c.wo with
                 | false =>
                  rw [c3] at k4
                  have hF:X=false:=by
                   rw [hY,hq]
                   simp [c0,c1,c2,c3,Br,b0]
                  simp -implicitDefEqProofs (disch:=omega) only [hH,hlt,hm,Cp.pv,hk0',hk1,hk2,he,k0,hR,k1,k2,k3,k4,hF,go_sem]
                 | true =>
                  rw [c3] at k4
                  simp -implicitDefEqProofs (disch:=omega) only [hH,hlt,hm,Cp.pv,hk0',hk1,hk2,he,k0,hR,k1,k2,k3,k4,go_sem]
                  try refine ai ?_
                  refine (hI _ _).2 ?_
                  and_intros
                  .exact by rw [hq];simp [Br,b0,c0,c1,c2,c3,hpo,hR']
                  all_goals exact cl0
             ·have hR:c.group<=e.group:=by omega
              have hF:X=false:=by rw [hY,hq,hpo];simp [b0,hR']
              simp -implicitDefEqProofs (disch:=omega) only [hH,hlt,hm,Cp.pv,hk0',hk1,hk2,he,k0,hR,hF,go_sem]
           ·have hk0':¬ (0:Int)<k:=by omega
            cases b0:Ag t.nodes c.group with
            | false =>
             rw [b0] at k0
             have hF:X=false:=by rw [hY,hq];simp [b0]
             simp -implicitDefEqProofs (disch:=omega) only [hH,hlt,hm,Cp.pv,hk0',k0,hF,go_sem]
            | true =>
             rw [b0] at k0
             cases c0:AY d.now c.rp with
             | false =>
              rw [c0] at k1
              have hF:X=false:=by
               rw [hY,hq]
               simp [c0,Br,b0]
              simp -implicitDefEqProofs (disch:=omega) only [hH,hlt,hm,Cp.pv,hk0',k0,k1,hF,go_sem]
             | true =>
              rw [c0] at k1
              cases c1:AY d.now c.wp with
              | false =>
               rw [c1] at k2
               have hF:X=false:=by
                rw [hY,hq]
                simp [c0,c1,Br,b0]
               simp -implicitDefEqProofs (disch:=omega) only [hH,hlt,hm,Cp.pv,hk0',k0,k1,k2,hF,go_sem]
              | true =>
               rw [c1] at k2
               cases c2:AY d.now c.ro with
               | false =>
                rw [c2] at k3
                have hF:X=false:=by
                 rw [hY,hq]
                 simp [c0,c1,c2,Br,b0]
                simp -implicitDefEqProofs (disch:=omega) only [hH,hlt,hm,Cp.pv,hk0',k0,k1,k2,k3,hF,go_sem]
               | true =>
                rw [c2] at k3
                cases c3:AY d.now c.wo with
                | false =>
                 rw [c3] at k4
                 have hF:X=false:=by
                  rw [hY,hq]
                  simp [c0,c1,c2,c3,Br,b0]
                 simp -implicitDefEqProofs (disch:=omega) only [hH,hlt,hm,Cp.pv,hk0',k0,k1,k2,k3,k4,hF,go_sem]
                | true =>
                 rw [c3] at k4
                 simp -implicitDefEqProofs (disch:=omega) only [hH,hlt,hm,Cp.pv,hk0',k0,k1,k2,k3,k4,go_sem]
                 try refine ai ?_
                 refine (hI _ _).2 ?_
                 and_intros
                 .exact by rw [hq];simp [Br,b0,c0,c1,c2,c3,hpo]
                 all_goals exact cl0
          ·have hT:CJ (Ag t.nodes) (Br d.now) none d.buckets=true:=by
            rw [hq,List.drop_eq_nil_of_le (by omega)];rfl
           rw [hT,bta] at hY
           refine w2 hH hge ?_
           obtain ⟨A,hA⟩:=lpI fun k s=>d.queue.all (fun r=>Aw r && Ag t.nodes r.group)=(d.queue.drop k).all (fun r=>Aw r && Ag t.nodes r.group)/\s.pe 2=.ptr (.slot 2 0) 0 0/\s.pe 3=.ptr (.slot 3 0) 0 0/\s.pe 130=.p (C5 d.queue)/\s.pe 131=.p (.int .i64 d.queue.length)/\s.pe 132=.p (.int .i64 k)/\s.h (.slot 2 0)=some (0,.box [.p (An t.nodes),.p (.int .i64 t.next)])/\s.h (.slot 3 0)=some (0,.box (dvC d))
           refine Aj (d.queue.length) A ?_ ?_
           ·refine (hA _ _).2 ?_
            and_intros
            ·exact cl3
            all_goals exact cl0
           intro k s hk hAk
           obtain ⟨hq,hH⟩:=(hA _ _).1 hAk
           clear hAk
           refine w1 hH ?_
           refine Ae (fun hlt=>?_) (fun hge=>?_)
           ·have hm:d.queue[k]?=some d.queue[k]:=lgg hlt
            have hlt2:k<d.queue.length:=by omega
            have hd:(d.queue.drop k).all (fun r=>Aw r && Ag t.nodes r.group)=((Aw d.queue[k] && Ag t.nodes d.queue[k].group) && (d.queue.drop (k+1)).all (fun r=>Aw r && Ag t.nodes r.group)):=by
             rw [ldg (by omega),List.all_cons]
            generalize d.queue[k]=c at hm hd
            rw [hd] at hq
            have k0:=NS t c hn
            cases b0:Aw c && Ag t.nodes c.group with
            | false =>
             rw [b0] at k0 hq
             have hF:X=false:=by rw [hY,hq,bfa,bfa]
             exact z5 hH hlt hm k0 hF
            | true =>
             rw [b0] at k0 hq
             simp -implicitDefEqProofs (disch:=omega) only [hH,hlt,hm,k0,go_sem]
             try refine ai ?_
             refine (hA _ _).2 ?_
             and_intros
             ·exact hq.trans (bta _)
             all_goals exact cl0
           ·have hT:d.queue.all (fun r=>Aw r && Ag t.nodes r.group)=true:=by
             rw [hq,List.drop_eq_nil_of_le (by omega)];rfl
            rw [hT,bta] at hY
            refine w2 hH hge ?_
            obtain ⟨B,hB⟩:=lpI fun k s=>Dx (Ag t.nodes) none d.flights=Dx (Ag t.nodes) (Fr d.flights k) (d.flights.drop k)/\s.pe 2=.ptr (.slot 2 0) 0 0/\s.pe 3=.ptr (.slot 3 0) 0 0/\s.pe 142=.p (Io d.flights)/\s.pe 143=.p (.int .i64 d.flights.length)/\s.pe 144=.p (.int .i64 k)/\s.h (.slot 2 0)=some (0,.box [.p (An t.nodes),.p (.int .i64 t.next)])/\s.h (.slot 3 0)=some (0,.box (dvC d))
            refine Aj (d.flights.length) B ?_ ?_
            ·refine (hB _ _).2 ?_
             and_intros
             ·exact cl3
             all_goals exact cl0
            intro k s hk hBk
            obtain ⟨hq,hH⟩:=(hB _ _).1 hBk
            clear hBk
            refine w1 hH ?_
            refine Ae (fun hlt=>?_) (fun hge=>?_)
            ·have hm:d.flights[k]?=some d.flights[k]:=lgg hlt
             generalize d.flights[k]=c at hm
             rw [YN hm] at hq
             have k0:=NS t c.r hn
             have k1:=He c.done 0 1125899906842624
             have ord:(∃ e,0<k/\d.flights[k - 1]?=some e/\(F3 (Fr d.flights k) c.done=decide (e.done<=c.done))) \/ (k=0/\F3 (Fr d.flights k) c.done=true):=by
              cases k with
              | zero=>exact .inr ⟨rfl,rfl⟩
              | succ k' =>
               have hk':k'<d.flights.length:=by omega
               refine .inl ⟨d.flights[k'],by omega,by simp,?_⟩
               simp [Fr,lgg hk',F3]
             rcases ord with ⟨e,hk0,he,hpo⟩|⟨hk0,hpo⟩
             ·have hk0':(0:Int)<k:=by omega
              have hk1:(0:Int)<=(k:Int) - 1:=by omega
              have hk2:((k:Int) - 1).toNat=k - 1:=by omega
              cases b0:Aw c.r && Ag t.nodes c.r.group with
              | false =>
               rw [b0] at k0 hq
               have hF:X=false:=by rw [hY,hq,bfa,bfa,bfa]
               exact z9 hH hlt hm hk0' hk1 hk2 he k0 hF
              | true =>
               rw [b0] at k0 hq
               cases b1:inZ c.done 0 1125899906842624 with
               | false =>
                rw [b1] at k1 hq
                have hF:X=false:=by rw [hY,hq];rfl
                exact z10 hH hlt hm hk0' hk1 hk2 he k0 k1 hF
               | true =>
                rw [b1,hpo] at hq
                rw [b1] at k1
                by_cases hR':e.done<=c.done
                ·have hR:¬ c.done<e.done:=by omega
                 rw [decide_eq_true hR'] at hq
                 simp -implicitDefEqProofs (disch:=omega) only [hH,hlt,hm,hk0',hk1,hk2,he,k0,k1,hR,go_sem]
                 try refine ai ?_
                 refine (hB _ _).2 ?_
                 and_intros
                 .exact by simpa using hq
                 all_goals exact cl0
                ·have hR:c.done<e.done:=by omega
                 rw [decide_eq_false hR'] at hq
                 have hF:X=false:=by rw [hY,hq];rfl
                 exact z11 hH hlt hm hk0' hk1 hk2 he k0 k1 hR hF
             ·have hk0':¬ (0:Int)<k:=by omega
              cases b0:Aw c.r && Ag t.nodes c.r.group with
              | false =>
               rw [b0] at k0 hq
               have hF:X=false:=by rw [hY,hq,bfa,bfa,bfa]
               exact z6 hH hlt hm hk0' k0 hF
              | true =>
               rw [b0] at k0 hq
               cases b1:inZ c.done 0 1125899906842624 with
               | false =>
                rw [b1] at k1 hq
                have hF:X=false:=by rw [hY,hq];rfl
                exact z7 hH hlt hm hk0' k0 k1 hF
               | true =>
                rw [b1,hpo] at hq
                rw [b1] at k1
                simp -implicitDefEqProofs (disch:=omega) only [hH,hlt,hm,hk0',k0,k1,go_sem]
                try refine ai ?_
                refine (hB _ _).2 ?_
                and_intros
                .exact by simpa using hq
                all_goals exact cl0
            ·have hT:Dx (Ag t.nodes) none d.flights=true:=by
              rw [hq,List.drop_eq_nil_of_le (by omega)];rfl
             rw [hT] at hY
             exact z3 hH hge hY
         ·have c8a:(256:Int)<(d.queue.length:Int)+(d.flights.length:Int):=by omega
          have hF:X=false:=by
           rw [<- hX]
           simp [c8]
          exact z10 j0 j1 j2 j3 j4 j5 j6 j7 c8a hF
theorem HY {b:Bk} (h:BH b=true):AD b b.now=b:=by
 rw [Bc] at h
 obtain ⟨_,_,hc⟩:=h
 unfold AD
 rcases hc with ⟨e,_,_⟩|⟨e,hr,hb,hl⟩
 .rw [if_pos e]
 .rw [if_neg e,Int.sub_self,Int.mul_zero,Int.add_zero,show min b.level (b.burst*b.per)=b.level by omega]
theorem zaO (b:Bk) (n:Int) (h:BH b=true) (hn:0<=n/\n<=AH b):V 188 [b.vv,.p (.int .i64 b.now),.p (.int .i64 n)] []=some (.tup [(Bh b n).vv,.p (.int .i64 0)],[]):=by
 refine Ac (vf:=vf188) rfl ?_
 have hw:=((Bc.1 h).2.1)
 have i0:=F0 b b.now h (Int.le_refl _) hw.2
 rw [HY h] at i0
 have i1:=H9 b h
 have op:=Fg b
 have hlt:¬ AH b<n:=by omega
 have ht:AH b<=1073741824:=by
  unfold AH
  split
  ·omega
  ·rename_i e
   rcases (Bc.1 h).2.2 with ⟨e',_⟩|⟨_,hr,hb,hl⟩
   ·exact absurd e' e
   ·have h1:=Int.ediv_le_ediv (show 0<b.per by have:=(Bc.1 h).1;omega) hl.2
    rw [Int.mul_ediv_cancel _ (show b.per ≠ 0 by have:=(Bc.1 h).1;omega)] at h1
    omega
 have i2:=Fm n 0 1073741824
 rw [show inZ n 0 1073741824=true from Co.2 ⟨hn.1,by omega⟩] at i2
 unfold Bh
 by_cases e:b.rate=maxR
 ·rw [if_pos e]
  rw [decide_eq_true e] at op
  exact z5 i0 i1 i2 op hlt
 ·rw [if_neg e]
  rw [decide_eq_false e] at op
  have e2:AH b=b.level / b.per:=by unfold AH;rw [if_neg e]
  rw [if_neg (by omega)]
  rcases (Bc.1 h).2.2 with ⟨e',_⟩|⟨_,hr,hb,hl⟩
  ·exact absurd e' e
  ·have hp:=(Bc.1 h).1
   have hk:n*b.per<=b.level:=by
    have:=Int.mul_le_mul_of_nonneg_right (show n<=b.level / b.per by omega) (show 0<=b.per by omega)
    have h9:=Int.ediv_mul_le b.level (show b.per ≠ 0 by omega)
    omega
   have hk0:0<=n*b.per:=Int.mul_nonneg hn.1 (by omega)
   have hl1:=BZ hb.1 hb.2 (show 0<=b.per by omega) hp.2
   exact z5 i0 i1 i2 op hlt
abbrev B2 (t:Tr) (d:Dv):Ob:=.box [.p (.int .i64 d.m.rb),.p (.int .i64 d.m.rp),.p (.int .i64 d.m.wb),.p (.int .i64 d.m.wp),.p (.int .i64 d.m.seek),.p (.int .i64 d.speed),.p (.int .i64 d.margin),.p (.int .i64 d.now),.p (.int .i64 d.free),.p (.int .i64 d.head),.own (.arg 1 0) 0 0 d.weights.length,.own (.arg 2 0) 0 0 d.buckets.length,.own (.arg 3 0) 0 0 d.depths.length,.p (Ap d.v),.own (.arg 4 0) 0 0 d.queue.length,.own (.arg 5 0) 0 0 d.flights.length,.p (An t.nodes),.p (.int .i64 t.next)]
abbrev mH (t:Tr) (d:Dv):List Ob:=[B2 t d,.arr 2 (d.weights.map Ch.pv),.arr 21 (d.buckets.map Cp.pv),.arr 3 (d.depths.map Dp.pv),.arr 6 (d.queue.map Rq.pv),.arr 7 (d.flights.map Fl.pv)]
theorem Z7 (t:Tr) (d:Dv) (id:Int) (hb:d.buckets.length<1000000):V 159 [.ptr (.arg 0 0) 0 0,.p (.int .i64 id)] (mH t d)=some (.p (.int .i64 (BR (fun c=>decide (c.group=id)) d.buckets)),mH t d):=by
 refine Ac (vf:=vf159) rfl ?_
 have i0:=LS d.buckets id hb
 exact z1 i0
theorem Ql (xs:List PV) (i:Nat) (w:Bool):V 180 [.eptr (.arg 0 0) 0 i 0,.p (.bool w)] [.arr 21 xs]=some (.tup [.eptr (.arg 0 0) 0 i (if w then 6 else 1),.eptr (.arg 0 0) 0 i (if w then 16 else 11)],[.arr 21 xs]):=by
 refine Ac (vf:=vf180) rfl ?_
 cases w with
 | false=>simp -implicitDefEqProofs (disch:=omega) only [vf180,Ma,go_sem]
 | true=>simp -implicitDefEqProofs (disch:=omega) only [vf180,Ma,go_sem]
theorem Y7 (t:Tr) (d:Dv) (hq:d.queue.length<1000000) (hf:d.flights.length<1000000):V 125 [.ptr (.arg 0 0) 0 0] (mH t d)=some (.fresh 1 ((actL d).map (.int .i64)),mH t d):=by
 refine Ac (vf:=vf125) rfl ?_
 refine w0 ?_
 refine Aj d.queue.length (fun k s=>∃ (acc:List Int) (v:Nat),acc=(d.queue.take k).map (·.group)/\acc.length=k/\s.pe 0=.ptr (.arg 0 0) 0 0/\s.pe 3=.own (.slot 3 0) v 0 acc.length/\s.pe 12=.own (.arg 4 0) 0 0 d.queue.length/\s.pe 13=.p (.int .i64 d.queue.length)/\s.pe 14=.p (.int .i64 k)/\s.h (.slot 3 0)=some (v,.arr 1 (acc.map (.int .i64)))/\s.h (.arg 0 0)=some (0,B2 t d)/\s.h (.arg 1 0)=some (0,.arr 2 (d.weights.map Ch.pv))/\s.h (.arg 2 0)=some (0,.arr 21 (d.buckets.map Cp.pv))/\s.h (.arg 3 0)=some (0,.arr 3 (d.depths.map Dp.pv))/\s.h (.arg 4 0)=some (0,.arr 6 (d.queue.map Rq.pv))/\s.h (.arg 5 0)=some (0,.arr 7 (d.flights.map Fl.pv))) ?_ ?_
 ·exact ⟨[],0,rfl,rfl,rfl,rfl,rfl,rfl,rfl,rfl,rfl,rfl,rfl,rfl,rfl,rfl⟩
 ·rintro k s hk ⟨acc,v,hacc,hlen,h0,h3,h12,h13,h14,g3,a0,a1,a2,a3,a4,a5⟩
  refine w12 h0 h3 h12 h13 h14 g3 a0 a1 a2 a3 a4 a5 ?_
  refine Ae (fun hlt=>?_) (fun hge=>?_)
  ·have hm:d.queue[k]?=some d.queue[k]:=lgg hlt
   have htk:(d.queue.take (k+1)).map (·.group)=(d.queue.take k).map (·.group)++[d.queue[k].group]:=by
    rw [List.take_add_one,hm,lma];rfl
   generalize d.queue[k]=m at hm htk
   simp -implicitDefEqProofs (disch:=omega) only [h0,h3,h12,h13,h14,g3,a0,a1,a2,a3,a4,a5,hm,hlt,go_sem]
   refine ⟨acc++[m.group],v+1,by rw [htk,hacc],by simp [hlen],?_⟩
   simp [h0,h3,h12,h13,h14,g3,a0,a1,a2,a3,a4,a5]
  ·refine w13 h0 h3 h12 h13 h14 g3 a0 a1 a2 a3 a4 a5 hge ?_
   rw [ltl (by omega)] at hacc
   refine Aj d.flights.length (fun k s=>∃ (acc:List Int) (v:Nat),acc=d.queue.map (·.group)++(d.flights.take k).map (·.r.group)/\acc.length=d.queue.length+k/\s.pe 0=.ptr (.arg 0 0) 0 0/\s.pe 3=.own (.slot 3 0) v 0 acc.length/\s.pe 28=.own (.arg 5 0) 0 0 d.flights.length/\s.pe 29=.p (.int .i64 d.flights.length)/\s.pe 30=.p (.int .i64 k)/\s.h (.slot 3 0)=some (v,.arr 1 (acc.map (.int .i64)))/\s.h (.arg 0 0)=some (0,B2 t d)/\s.h (.arg 1 0)=some (0,.arr 2 (d.weights.map Ch.pv))/\s.h (.arg 2 0)=some (0,.arr 21 (d.buckets.map Cp.pv))/\s.h (.arg 3 0)=some (0,.arr 3 (d.depths.map Dp.pv))/\s.h (.arg 4 0)=some (0,.arr 6 (d.queue.map Rq.pv))/\s.h (.arg 5 0)=some (0,.arr 7 (d.flights.map Fl.pv))) ?_ ?_
   ·exact ⟨acc,v,by simpa using hacc,by rw [hacc];simp,by simp [go_sem,h0],by simp [go_sem,h3],by simp [go_sem],by simp [go_sem],by simp [go_sem],by simp [g3],by simp [a0],by simp [a1],by simp [a2],by simp [a3],by simp [a4],by simp [a5]⟩
   ·clear hacc hlen h0 h3 h12 h13 h14 g3 a0 a1 a2 a3 a4 a5 hge hk
    rintro k s hk ⟨acc,v,hacc,hlen,h0,h3,h12,h13,h14,g3,a0,a1,a2,a3,a4,a5⟩
    refine w12 h0 h3 h12 h13 h14 g3 a0 a1 a2 a3 a4 a5 ?_
    refine Ae (fun hlt=>?_) (fun hge=>?_)
    ·have hm:d.flights[k]?=some d.flights[k]:=lgg hlt
     have htk:(d.flights.take (k+1)).map (·.r.group)=(d.flights.take k).map (·.r.group)++[d.flights[k].r.group]:=by
      rw [List.take_add_one,hm,lma];rfl
     generalize d.flights[k]=m at hm htk
     simp -implicitDefEqProofs (disch:=omega) only [h0,h3,h12,h13,h14,g3,a0,a1,a2,a3,a4,a5,hm,hlt,go_sem]
     refine ⟨acc++[m.r.group],v+1,by rw [htk,hacc,laa],by simp [hlen];omega,?_⟩
     simp [h0,h3,h12,h13,h14,g3,a0,a1,a2,a3,a4,a5]
    ·rw [ltl (by omega)] at hacc
     have hA:actL d=acc:=by rw [hacc];rfl
     rw [hA]
     exact z13 h0 h3 h12 h13 h14 g3 a0 a1 a2 a3 a4 a5 hge
def RepM (ks:List MKey) (vs:List PV) (f:Int->Int):Prop:=∀ id,(A2 ks vs (.int id)).getD (.int .i64 0)=.int .i64 (f id)
theorem RepM.put {ks:List MKey} {vs:List PV} {f:Int->Int} (h:RepM ks vs f) (g v:Int):RepM (Au ks vs (.int g) (.int .i64 v)).1 (Au ks vs (.int g) (.int .i64 v)).2 (fun x=>if x=g then v else f x):=by
 intro id
 rw [GH]
 by_cases hg:id=g
 ·subst hg
  simp
 ·simp [hg]
  exact h id
theorem RepM.congr {ks:List MKey} {vs:List PV} {f g:Int->Int} (h:RepM ks vs f) (he:∀ x,f x=g x):RepM ks vs g:=fun id=>by rw [<- he];exact h id
theorem RepM.nil:RepM [] [] fun _=>0:=fun _=>rfl
def flyL (t:Tr) (fs:List Fl):List Ch:=(t.nodes.filter fun n=>decide (0<AT fs n.id)).map fun n=>⟨n.id,AT fs n.id⟩
theorem Gw (fs:List Fl) (id:Int):0<=AT fs id:=by unfold AT;omega
theorem H8 (fs:List Fl) (id:Int):AT fs id<=fs.length:=by
 unfold AT
 have:=List.length_filter_le (fun f:Fl=>decide (f.r.group=id)) fs
 omega
theorem QO {f:Int->Int} (h0:∀ x,0<=f x):∀ {L:List Nd},(L.Pairwise fun a b=>a.id<b.id)->∀ n∈L,Ak ((L.filter fun n=>decide (0<f n.id)).map fun n=>(⟨n.id,f n.id⟩:Ch)) n.id=f n.id
 | [],_,n,hn=>by cases hn
 | x :: L,hp,n,hn=>by
  rw [lpw] at hp
  have ih:=QO h0 hp.2
  by_cases hx:0<f x.id
  ·rw [List.filter_cons_of_pos (by simpa using hx),lpc,K3]
   rcases lmk.1 hn with rfl|hn
   ·simp
   ·have:=hp.1 n hn
    simp only
    rw [if_neg (by omega)]
    exact ih n hn
  ·rw [List.filter_cons_of_neg (by simpa using hx)]
   rcases lmk.1 hn with rfl|hn
   ·have:=h0 n.id
    rw [O9]
    ·omega
    ·intro c hc
     obtain ⟨m,hm,rfl⟩:=lmm.1 hc
     have:=hp.1 m (List.mem_filter.1 hm).1
     simp only
     omega
   .exact ih n hn
theorem zap {t:Tr} (h:TreeOk t) (fs:List Fl) {n:Nd} (hn:n∈t.nodes):Ak (flyL t fs) n.id=AT fs n.id:=QO (Gw fs) h.inc n hn
theorem Qu {t:Tr} (h:TreeOk t) (fs:List Fl):(flyL t fs).Pairwise fun a b=>a.group<b.group:=by
 unfold flyL
 rw [List.pairwise_map]
 exact h.inc.filter _
theorem Lw {t:Tr} {fs:List Fl} {c:Ch} (hc:c∈flyL t fs):∃ n∈t.nodes,c.group=n.id/\c.own=AT fs n.id:=by
 unfold flyL at hc
 obtain ⟨n,hn,rfl⟩:=lmm.1 hc
 exact ⟨n,(List.mem_filter.1 hn).1,rfl,rfl⟩
theorem Lx (t:Tr) (fs:List Fl):(flyL t fs).length<=t.nodes.length:=by
 unfold flyL
 rw [llm]
 exact List.length_filter_le _ _
theorem HH {t:Tr} (h:TreeOk t) {n:Nd} (hn:n∈t.nodes):AS t.nodes n.id=some n:=by
 obtain ⟨i,hi⟩:=lgm hn
 exact DA h.inc hi
theorem PR {t:Tr} (h:TreeOk t) (fs:List Fl) {g:Int} (hg:Ag t.nodes g=true):(BP t g).map (Ak (flyL t fs))=(AC t.nodes t.nodes.length g).map (AT fs)/\BP t g=AC t.nodes t.nodes.length g:=by
 obtain ⟨n,hn,rfl⟩:=CY hg
 obtain ⟨i,hi⟩:=lgm hn
 have e:BP t n.id=AC t.nodes t.nodes.length n.id:=by
  unfold BP
  rw [if_pos (by rw [Bb,if_pos ((Bo t).2 h),HH h hn];rfl)]
 refine ⟨?_,e⟩
 rw [e]
 refine List.map_congr_left fun x hx=>?_
 obtain ⟨j,m,hm,rfl,_⟩:=(HS h t.nodes.length i n hi (by omega) x).1 hx
 exact zap h fs (lmg hm)
theorem PK {t:Tr} (h:TreeOk t) {id:Int} (hid:Ag t.nodes id=true):∀ g∈ancF t.nodes t.nodes.length id,Ag t.nodes g=true:=by
 intro g hg
 obtain ⟨n,hn,rfl⟩:=CY hid
 obtain ⟨i,hi⟩:=lgm hn
 obtain ⟨j,m,_,hm,rfl⟩:=JF h i n hi g hg
 unfold Ag
 rw [HH h (lmg hm)]
 rfl
theorem Xb {l:List Ch} (h:∀ c∈l,0<=c.own/\c.own<=256) (x:Int):0<=Ak l x/\Ak l x<=256:=by
 induction l with
 | nil=>exact ⟨Int.le_refl _,by show (0:Int)<=256;omega⟩
 | cons c l ih =>
  rw [K3]
  simp only
  split
  .exact h c (lms ..)
  .exact ih fun d hd=>h d (lmc _ hd)
theorem Li {f:Int->Int} (h:∀ x,0<=f x/\f x<=256):∀ l:List Int,0<=Am (l.map f)/\Am (l.map f)<=256*l.length
 | []=>by simp [Am]
 | x::l=>by
  have:=Li h l
  have:=h x
  simp only [lpc,Am,llc,Int.natCast_add,Int.natCast_one]
  omega
theorem QY (l:List Dp) (id:Int) (hl:l.length<1000000):V 164 [.p (BJ l),.p (.int .i64 id)] []=some ((getD l id).vv,[]):=by
 refine Ac (vf:=vf164) rfl ?_
 have i0:=zab id
 refine w0 ?_
 obtain ⟨I,hI⟩:=lpI fun k s=>getD l id=getD (l.drop k) id/\s.pe 1=.p (.int .i64 id)/\s.pe 4=.ptr (.slot 4 0) 0 0/\s.pe 7=.p (BJ l)/\s.pe 8=.p (.int .i64 ↑l.length)/\s.pe 9=.p (.int .i64 k)/\s.h (.slot 4 0)=some (0,Ob.box [.p (.int .i64 0),.p (.int .i64 0),.p (.int .i64 0)])
 refine Aj (l.length) I ?_ ?_
 ·refine (hI _ _).2 ?_
  and_intros
  ·exact cl3
  all_goals exact cl5
 intro k s hk hIk
 obtain ⟨hq,hH⟩:=(hI _ _).1 hIk
 clear hIk
 refine w1 hH ?_
 refine Ae (fun hlt=>?_) (fun hge=>?_)
 ·have hm:l[k]?=some l[k]:=lgg hlt
  rw [ldg hlt,getD] at hq
  generalize l[k]=c at hm hq
  by_cases hc:c.group=id
  ·rw [if_pos hc] at hq
   subst hc
   exact z4 hH hlt hm hq
  ·rw [if_neg hc] at hq
   simp -implicitDefEqProofs (disch:=omega) only [hH,hlt,hm,hc,go_sem]
   try refine ai ?_
   refine (hI _ _).2 ?_
   and_intros
   .exact hq
   all_goals exact cl5
 ·have hq':getD l id=⟨id,0,256⟩:=by
   rw [hq,List.drop_eq_nil_of_le (by omega)]
   rfl
  exact z4 hH hge i0 hq'
theorem Yz {t:Tr} (h:TreeOk t) (ds:List Dp) (fs:List Fl) (id:Int) (hds:BT (Ag t.nodes) none ds=true) (hdl:ds.length<1000000) (hfl:fs.length<=256) (hid:Ag t.nodes id=true) :
  V 177 [t.vv,.p (BJ ds),.p (Ap (flyL t fs)),.p (.int .i64 id)] []=some (.tup [.p (.bool (Fn t ds fs id)),.p (.int .i64 0)],[]):=by
 refine Ac (vf:=vf177) rfl ?_
 have hlen:=h.len
 have j0:=Pl t ds h.fits (by omega) hdl
 rw [(Bo t).2 h,hds,bta] at j0
 have hL1:=Qu h fs
 have hL2:=fun c=>Lw (t:=t) (fs:=fs) (c:=c)
 have hL3:=Lx t fs
 have hL4:∀ c∈flyL t fs,0<=c.own/\c.own<=256:=fun c hc=>by
  obtain ⟨n,hn,_,e⟩:=hL2 c hc
  rw [e]
  have:=Gw fs n.id
  have:=H8 fs n.id
  omega
 have hAl:Fn t ds fs id=(ancF t.nodes t.nodes.length id).all fun g=>decide (Am ((BP t g).map (Ak (flyL t fs)))<(getD ds g).depth):=by
  unfold Fn Gd
  rw [Bool.eq_iff_iff,List.all_eq_true,List.all_eq_true]
  refine forall_congr' fun g=>forall_congr' fun hg=>?_
  rw [(PR h fs (PK h hid g hg)).1]
 have hKn:∀ c∈flyL t fs,(AS t.nodes c.group).isSome=true:=fun c hc=>by
  obtain ⟨n,hn,e,_⟩:=hL2 c hc
  rw [e,HH h hn]
  rfl
 rw [hAl]
 generalize flyL t fs=l at hL1 hL2 hL3 hL4 hKn
 refine w1 j0 ?_
 obtain ⟨I,hI⟩:=lpI fun k s=>∃ (ks:List MKey) (vs:List PV),RepM ks vs (Ak (l.take k))/\s.pe 1=.p (BJ ds)/\s.pe 2=.p (Ap l)/\s.pe 3=.p (.int .i64 id)/\s.pe 4=.ptr (.slot 4 0) 0 0/\s.pe 10=.mref (.slot 26 0) 0/\s.pe 27=.p (Ap l)/\s.pe 28=.p (.int .i64 ↑l.length)/\s.pe 29=.p (.int .i64 k)/\s.h (.slot 4 0)=some (0,Ob.box [.p (An t.nodes),.p (.int .i64 t.next)])/\s.h (.slot 26 0)=some (0,Ob.map (KT.int IntKind.i64) ks vs)
 refine Aj (l.length) I ?_ ?_
 ·refine (hI _ _).2 ⟨[],[],?_⟩
  and_intros
  ·exact RepM.nil
  all_goals exact cl5
 intro k s hk hIk
 obtain ⟨ks,vs,hrep,h1,h2,h3,h4,h10,h27,h28,h29,hh4_0,hh26_0⟩:=(hI _ _).1 hIk
 clear hIk
 refine w10 h1 h2 h3 h4 h10 h27 h28 h29 hh4_0 hh26_0 ?_
 refine Ae (fun hlt=>?_) (fun hge=>?_)
 ·have hm:l[k]?=some l[k]:=lgg hlt
  have htk:=Bt hm
  have hfr:=zao hL1 hm
  generalize l[k]=c at hm htk hfr
  have hcm:=lmg hm
  have hnew:=(hrep.put c.group c.own).congr (g:=Ak (l.take (k+1))) fun x=>by
   rw [htk,Pa c x _ hfr]
  have hfi:=GQ t c.group (by omega)
  rw [hKn c hcm] at hfi
  generalize (AS t.nodes c.group).getD zeroNd=nd at hfi
  have i1:=L4 c.own 0 256
  rw [show inZ c.own 0 256=true from Co.2 (hL4 c hcm)] at i1
  by_cases hk0:k=0
  ·have hk0':¬ (0:Int)<k:=by omega
   simp -implicitDefEqProofs (disch:=omega) only [h1,h2,h3,h4,h10,h27,h28,h29,hh4_0,hh26_0,hlt,hm,hfi,Nd.vv,hk0',i1,go_sem]
   try refine ai ?_
   refine (hI _ _).2 ⟨(Au ks vs (.int c.group) (.int .i64 c.own)).1,(Au ks vs (.int c.group) (.int .i64 c.own)).2,?_⟩
   and_intros
   ·exact hnew
   all_goals exact cl5
  ·have hpk:l[k - 1]?=some l[k - 1]:=lgg (by omega)
   have hpl:l[k - 1].group<c.group:=by
    have:=List.pairwise_iff_getElem.1 hL1 (k - 1) k (by omega) hlt (by omega)
    rw [(lgs.1 hm).2] at this
    exact this
   generalize l[k - 1]=p at hpk hpl
   have hk0':(0:Int)<k:=by omega
   have hk1:(0:Int)<=(k:Int) - 1:=by omega
   have hk2:((k:Int) - 1).toNat=k - 1:=by omega
   have hpg:¬ c.group<=p.group:=by omega
   simp -implicitDefEqProofs (disch:=omega) only [h1,h2,h3,h4,h10,h27,h28,h29,hh4_0,hh26_0,hlt,hm,hfi,Nd.vv,hk0',hk1,hk2,hpk,hpg,i1,go_sem]
   try refine ai ?_
   refine (hI _ _).2 ⟨(Au ks vs (.int c.group) (.int .i64 c.own)).1,(Au ks vs (.int c.group) (.int .i64 c.own)).2,?_⟩
   and_intros
   ·exact hnew
   all_goals exact cl5
 ·rw [ltl (by omega)] at hrep
  have hfi:=GQ t id (by omega)
  have hid':(AS t.nodes id).isSome=true:=hid
  rw [hid'] at hfi
  generalize (AS t.nodes id).getD zeroNd=nd at hfi
  have c1:=Jx t id (by omega)
  have hal:=EH t.nodes t.nodes.length id
  have hA:∀ g∈ancF t.nodes t.nodes.length id,True:=fun _ _=>trivial
  have hob:=Xb hL4
  generalize ancF t.nodes t.nodes.length id=A at c1 hal hA
  simp -implicitDefEqProofs (disch:=omega) only [h1,h2,h3,h4,h10,h27,h28,h29,hh4_0,hh26_0,hge,hfi,Nd.vv,c1,go_sem]
  obtain ⟨J,hJ⟩:=lpI fun j s=>∃ (v80_1:Nat),(A.all fun g=>decide (Am ((BP t g).map (Ak l))<(getD ds g).depth))=((A.drop j).all fun g=>decide (Am ((BP t g).map (Ak l))<(getD ds g).depth))/\s.pe 1=.p (BJ ds)/\s.pe 4=.ptr (.slot 4 0) 0 0/\s.pe 10=.mref (.slot 26 0) 0/\s.pe 80=.own (.slot 80 1) v80_1 0 A.length/\s.pe 81=.p (.int .i64 ↑A.length)/\s.pe 82=.p (.int .i64 j)/\s.h (.slot 4 0)=some (0,Ob.box [.p (An t.nodes),.p (.int .i64 t.next)])/\s.h (.slot 26 0)=some (0,Ob.map (KT.int IntKind.i64) ks vs)/\s.h (.slot 80 1)=some (v80_1,Ob.arr 1 (List.map (.int .i64) A))
  refine Aj (A.length) J ?_ ?_
  ·refine (hJ _ _).2 ⟨nv (s.h (.slot 80 1)),?_⟩
   and_intros
   ·exact cl3
   all_goals exact cl5
  intro j s hj hJk
  obtain ⟨v80_1,hq,h1,h4,h10,h80,h81,h82,hh4_0,hh26_0,hh80_1⟩:=(hJ _ _).1 hJk
  clear hJk
  refine w9 h1 h4 h10 h80 h81 h82 hh4_0 hh26_0 hh80_1 ?_
  refine Ae (fun hjl=>?_) (fun hjg=>?_)
  ·have hx:A[j]?=some A[j]:=lgg hjl
   rw [ldg hjl,List.all_cons] at hq
   generalize A[j]=g at hx hq
   have hsu:=zb0 g h
   have hsl:=Lj h g
   have hgd:=QY ds g hdl
   have hsb:=Li hob (BP t g)
   generalize BP t g=S at hsu hsl hq hsb
   refine w12 h1 h4 h10 h80 h81 h82 hh4_0 hh26_0 hh80_1 hjl hx hsu ?_
   obtain ⟨M,hM⟩:=lpI fun m s=>∃ (v88_1:Nat),s.pe 1=.p (BJ ds)/\s.pe 4=.ptr (.slot 4 0) 0 0/\s.pe 10=.mref (.slot 26 0) 0/\s.pe 18=.p (.int .i64 g)/\s.pe 19=.p (.int .i64 (Am ((S.take m).map (Ak l))))/\s.pe 80=.own (.slot 80 1) v80_1 0 A.length/\s.pe 81=.p (.int .i64 ↑A.length)/\s.pe 82=.p (.int .i64 ↑j)/\s.pe 88=.own (.slot 88 1) v88_1 0 S.length/\s.pe 89=.p (.int .i64 ↑S.length)/\s.pe 90=.p (.int .i64 m)/\s.h (.slot 4 0)=some (0,Ob.box [.p (An t.nodes),.p (.int .i64 t.next)])/\s.h (.slot 26 0)=some (0,Ob.map (KT.int IntKind.i64) ks vs)/\s.h (.slot 80 1)=some (v80_1,Ob.arr 1 (List.map (.int .i64) A))/\s.h (.slot 88 1)=some (v88_1,Ob.arr 1 (List.map (.int .i64) S))
   refine Aj (S.length) M ?_ ?_
   ·refine (hM _ _).2 ⟨nv (BS [88] s.h (.slot 88 1)),?_⟩
    and_intros
    all_goals exact cl5
   intro m s hm hMk
   obtain ⟨v88_1,h1,h4,h10,h18,h19,h80,h81,h82,h88,h89,h90,hh4_0,hh26_0,hh80_1,hh88_1⟩:=(hM _ _).1 hMk
   clear hMk
   simp -implicitDefEqProofs (disch:=omega) only [h1,h4,h10,h18,h19,h80,h81,h82,h88,h89,h90,hh4_0,hh26_0,hh80_1,hh88_1,go_sem]
   refine Ae (fun hml=>?_) (fun hmg=>?_)
   ·have hy:S[m]?=some S[m]:=lgg hml
    have hst:=Kg (f:=Ak l) hy
    have hb1:=Li hob (S.take m)
    have hb2:=hob S[m]
    have hr:=hrep S[m]
    generalize S[m]=y at hy hst hb2 hr
    have hml':(S.take m).length<=S.length:=by rw [llt];omega
    generalize Am ((S.take m).map (Ak l))=X at h19 hst hb1
    simp -implicitDefEqProofs (disch:=omega) only [h1,h4,h10,h18,h19,h80,h81,h82,h88,h89,h90,hh4_0,hh26_0,hh80_1,hh88_1,hml,hy,hr,go_sem]
    try refine ai ?_
    refine (hM _ _).2 ⟨v88_1,?_⟩
    and_intros
    all_goals exact cl5
   ·rw [ltl (by omega)] at h19
    generalize Am (S.map (Ak l))=X at h19 hq
    by_cases hc:X<(getD ds g).depth
    ·have hc':¬ (getD ds g).depth<=X:=by omega
     rw [decide_eq_true hc,bta] at hq
     simp -implicitDefEqProofs (disch:=omega) only [h1,h4,h10,h18,h19,h80,h81,h82,h88,h89,h90,hh4_0,hh26_0,hh80_1,hh88_1,hmg,hgd,hc',go_sem]
     try refine ai ?_
     refine (hJ _ _).2 ⟨v80_1,?_⟩
     and_intros
     .exact hq
     all_goals exact cl5
    ·have hc':(getD ds g).depth<=X:=by omega
     rw [decide_eq_false hc,bfa] at hq
     simp -implicitDefEqProofs (disch:=omega) only [h1,h4,h10,h18,h19,h80,h81,h82,h88,h89,h90,hh4_0,hh26_0,hh80_1,hh88_1,hmg,hgd,hc',hq,go_sem]
  ·rw [List.drop_eq_nil_of_le (by omega),List.all_nil] at hq
   exact z11 h1 h4 h10 h80 h81 h82 hh4_0 hh26_0 hh80_1 hjg hq
theorem YT {fs:List Fl} {k:Nat} {f:Fl} (hm:fs[k]?=some f) (x:Int):AT (fs.take (k+1)) x=if x=f.r.group then AT (fs.take k) f.r.group+1 else AT (fs.take k) x:=by
 rw [Bt hm]
 unfold AT
 rw [List.filter_append,lla]
 by_cases h:x=f.r.group
 ·subst h
  rw [if_pos rfl]
  simp
 ·rw [if_neg h,List.filter_cons_of_neg (by simpa using fun e=>h e.symm)]
  simp
theorem YM {ns:List Nd} {fs:List Fl} {k:Nat} {n:Nd} (hm:ns[k]?=some n):((ns.take (k+1)).filter fun n=>decide (0<AT fs n.id)).map (fun n=>(⟨n.id,AT fs n.id⟩:Ch))=((ns.take k).filter fun n=>decide (0<AT fs n.id)).map (fun n=>(⟨n.id,AT fs n.id⟩:Ch))++if 0<AT fs n.id then [⟨n.id,AT fs n.id⟩] else []:=by
 rw [Bt hm,List.filter_append,lma]
 by_cases h:0<AT fs n.id
 ·rw [if_pos h,List.filter_cons_of_pos (by simpa using h)]
  rfl
 ·rw [if_neg h,List.filter_cons_of_neg (by simpa using h)]
  rfl
theorem YL (t:Tr) (d:Dv) (hn:t.nodes.length<1000000) (hf:d.flights.length<=256):V 178 [.ptr (.arg 0 0) 0 0] (mH t d)=some (.fresh 2 ((flyL t d.flights).map Ch.pv),mH t d):=by
 refine Ac (vf:=vf178) rfl ?_
 refine w0 ?_
 obtain ⟨I,hI⟩:=lpI fun k s=>∃ (ks:List MKey) (vs:List PV),RepM ks vs (AT (d.flights.take k))/\s.pe 0=.ptr (Id.arg 0 0) 0 0/\s.pe 3=.mref (.slot 9 0) 0/\s.pe 14=VVal.own (Id.arg 5 0) 0 0 d.flights.length/\s.pe 15=.p (.int .i64 ↑d.flights.length)/\s.pe 16=.p (.int .i64 k)/\s.h (.slot 9 0)=some (0,Ob.map (KT.int IntKind.i64) ks vs)/\s.h (.arg 0 0)=some (0,B2 t d)/\s.h (.arg 1 0)=some (0,.arr 2 (d.weights.map Ch.pv))/\s.h (.arg 2 0)=some (0,.arr 21 (d.buckets.map Cp.pv))/\s.h (.arg 3 0)=some (0,.arr 3 (d.depths.map Dp.pv))/\s.h (.arg 4 0)=some (0,.arr 6 (d.queue.map Rq.pv))/\s.h (.arg 5 0)=some (0,.arr 7 (d.flights.map Fl.pv))
 refine Aj (d.flights.length) I ?_ ?_
 ·refine (hI _ _).2 ⟨[],[],?_⟩
  and_intros
  ·exact RepM.nil
  all_goals exact cl4
 intro k s hk hIk
 obtain ⟨ks,vs,hrep,hH⟩:=(hI _ _).1 hIk
 clear hIk
 refine w1 hH ?_
 refine Ae (fun hlt=>?_) (fun hge=>?_)
 ·have hm:d.flights[k]?=some d.flights[k]:=lgg hlt
  have hct:=YT hm
  generalize d.flights[k]=f at hm hct
  have hb:=H8 (d.flights.take k) f.r.group
  have hb0:=Gw (d.flights.take k) f.r.group
  have htl:(d.flights.take k).length<=k:=List.length_take_le ..
  have hr:=hrep f.r.group
  have hnew:=(hrep.put f.r.group (AT (d.flights.take k) f.r.group+1)).congr (g:=AT (d.flights.take (k+1))) fun x=>(hct x).symm
  simp -implicitDefEqProofs (disch:=omega) only [hH,hlt,hm,hr,go_sem]
  try refine ai ?_
  refine (hI _ _).2 ⟨(Au ks vs (.int f.r.group) (.int .i64 (AT (d.flights.take k) f.r.group+1))).1,(Au ks vs (.int f.r.group) (.int .i64 (AT (d.flights.take k) f.r.group+1))).2,?_⟩
  and_intros
  ·exact hnew
  all_goals exact cl4
 ·rw [ltl (by omega)] at hrep
  refine w2 hH hge ?_
  obtain ⟨J,hJ⟩:=lpI fun j s=>∃ (acc:List Ch) (v60:Nat),acc=(((t.nodes.take j).filter fun n=>decide (0<AT d.flights n.id)).map fun n=>(⟨n.id,AT d.flights n.id⟩:Ch))/\acc.length<=j/\s.pe 3=.mref (.slot 9 0) 0/\s.pe 6=.own (.slot 6 0) v60 0 acc.length/\s.pe 31=.p (An t.nodes)/\s.pe 32=.p (.int .i64 ↑t.nodes.length)/\s.pe 33=.p (.int .i64 j)/\s.h (.slot 6 0)=some (v60,Ob.arr 2 (acc.map Ch.pv))/\s.h (.slot 9 0)=some (0,Ob.map (KT.int IntKind.i64) ks vs)/\s.h (.arg 0 0)=some (0,B2 t d)/\s.h (.arg 1 0)=some (0,.arr 2 (d.weights.map Ch.pv))/\s.h (.arg 2 0)=some (0,.arr 21 (d.buckets.map Cp.pv))/\s.h (.arg 3 0)=some (0,.arr 3 (d.depths.map Dp.pv))/\s.h (.arg 4 0)=some (0,.arr 6 (d.queue.map Rq.pv))/\s.h (.arg 5 0)=some (0,.arr 7 (d.flights.map Fl.pv))
  refine Aj (t.nodes.length) J ?_ ?_
  ·refine (hJ _ _).2 ⟨[],nv (s.h (.slot 6 0)),?_⟩
   and_intros
   ·exact cl3
   ·exact cl3
   all_goals exact cl4
  intro j s hj hJk
  obtain ⟨acc,v60,hacc,hal,hH⟩:=(hJ _ _).1 hJk
  clear hJk
  refine w1 hH ?_
  refine Ae (fun hjl=>?_) (fun hjg=>?_)
  ·have hx:t.nodes[j]?=some t.nodes[j]:=lgg hjl
   have hst:=YM (fs:=d.flights) hx
   generalize t.nodes[j]=n at hx hst
   have hr:=hrep n.id
   by_cases hp:0<AT d.flights n.id
   ·rw [if_pos hp,<- hacc] at hst
    generalize AT d.flights n.id=c at hr hst hp
    simp -implicitDefEqProofs (disch:=omega) only [hH,hjl,hx,hr,hp,go_sem]
    try refine ai ?_
    refine (hJ _ _).2 ⟨acc++[⟨n.id,c⟩],v60+1,?_⟩
    and_intros
    .exact hst.symm
    .exact by simp;omega
    all_goals exact cl4
   ·rw [if_neg hp,<- hacc,lan] at hst
    generalize AT d.flights n.id=c at hr hst hp
    simp -implicitDefEqProofs (disch:=omega) only [hH,hjl,hx,hr,hp,go_sem]
    try refine ai ?_
    refine (hJ _ _).2 ⟨acc,v60,?_⟩
    and_intros
    .exact hst.symm
    .omega
    all_goals exact cl4
  ·rw [ltl (by omega)] at hacc
   have hA:flyL t d.flights=acc:=by rw [hacc];rfl
   rw [hA]
   exact z2 hH hjg
theorem YB (t:Tr) (a:List Ch) (list:List Int) (now:Int) (hf:t.Fits) (hn:t.nodes.length<1000000) (ha:a.length<1000000) (hl:list.length<1000000):V 53 [t.vv,.p (Ap a),.p (AG list),.p (.int .i64 now)] []=some (.tup [.p (.int .i64 (AZ t a now 0 list)),.p (.bool (!decide (AZ t a now 0 list=0)))],[]):=by
 refine Ac (vf:=vf53) rfl ?_
 refine w0 ?_
 obtain ⟨I,hI⟩:=lpI fun k s=>∃ (best:Int),AZ t a now 0 list=AZ t a now best (list.drop k)/\s.pe 1=.p (Ap a)/\s.pe 3=.p (.int .i64 now)/\s.pe 4=.ptr (.slot 4 0) 0 0/\s.pe 10=.p (.int .i64 best)/\s.pe 15=.p (AG list)/\s.pe 16=.p (.int .i64 ↑list.length)/\s.pe 17=.p (.int .i64 k)/\s.h (.slot 4 0)=some (0,Ob.box [.p (An t.nodes),.p (.int .i64 t.next)])
 refine Aj (list.length) I ?_ ?_
 ·refine (hI _ _).2 ⟨0,?_⟩
  and_intros
  ·exact cl3
  all_goals exact cl4
 intro k s hk hIk
 obtain ⟨best,hN,hH⟩:=(hI _ _).1 hIk
 clear hIk
 refine w1 hH ?_
 refine Ae (fun hlt=>?_) (fun hge=>?_)
 ·have hm:list[k]?=some list[k]:=lgg hlt
  rw [ldg hlt,AZ] at hN
  generalize list[k]=x at hm hN
  have d1:=zco t a x now hf hn ha
  have d2:=JE a x ha
  have d3:=JE a best ha
  cases hmay:CI t a x now with
  | false =>
   rw [hmay] at d1
   rw [if_neg (by rw [hmay];exact fun h=>absurd h.1 (by decide))] at hN
   simp -implicitDefEqProofs (disch:=omega) only [hH,hlt,hm,d1,go_sem]
   try refine ai ?_
   refine (hI _ _).2 ⟨best,?_⟩
   and_intros
   ·exact hN
   all_goals exact cl4
  | true =>
   rw [hmay] at d1
   by_cases hb:best=0 \/ Ak a x<Ak a best \/ (Ak a x=Ak a best/\x<best)
   ·rw [if_pos ⟨hmay,hb⟩] at hN
    generalize Ak a x=p at d2 hb
    generalize Ak a best=q at d3 hb
    by_cases b1:best=0
    ·subst b1
     simp -implicitDefEqProofs (disch:=omega) only [hH,hlt,hm,d1,d2,d3,go_sem]
     try refine ai ?_
     refine (hI _ _).2 ⟨x,?_⟩
     and_intros
     ·exact hN
     all_goals exact cl4
    ·by_cases b2:p<q
     ·simp -implicitDefEqProofs (disch:=omega) only [hH,hlt,hm,d1,d2,d3,b1,b2,go_sem]
      try refine ai ?_
      refine (hI _ _).2 ⟨x,?_⟩
      and_intros
      .exact hN
      all_goals exact cl4
     ·have b3:p=q:=by omega
      have b4:x<best:=by omega
      simp -implicitDefEqProofs (disch:=omega) only [hH,hlt,hm,d1,d2,d3,b1,b2,b3,b4,Int.lt_irrefl,go_sem]
      try refine ai ?_
      refine (hI _ _).2 ⟨x,?_⟩
      and_intros
      .exact hN
      all_goals exact cl4
   ·rw [if_neg (fun h=>hb h.2)] at hN
    generalize Ak a x=p at d2 hb
    generalize Ak a best=q at d3 hb
    have b1:¬ best=0:=by omega
    have b2:¬ p<q:=by omega
    by_cases b3:p=q
    ·have b4:¬ x<best:=by omega
     simp -implicitDefEqProofs (disch:=omega) only [hH,hlt,hm,d1,d2,d3,b1,b3,b4,Int.lt_irrefl,go_sem]
     try refine ai ?_
     refine (hI _ _).2 ⟨best,?_⟩
     and_intros
     .exact hN
     all_goals exact cl4
    ·simp -implicitDefEqProofs (disch:=omega) only [hH,hlt,hm,d1,d2,d3,b1,b2,b3,go_sem]
     try refine ai ?_
     refine (hI _ _).2 ⟨best,?_⟩
     and_intros
     .exact hN
     all_goals exact cl4
 ·rw [List.drop_eq_nil_of_le (by omega),AZ] at hN
  rw [hN]
  exact z2 hH hge
theorem IU {l:List Cp} {id:Int} (h:∀ c∈l,decide (c.group=id)=false):A1 l id=none:=by
 induction l with
 | nil=>rfl
 | cons c l ih =>
  have:=h c (lms ..)
  rw [A1,if_neg (by simpa using this)]
  exact ih fun x hx=>h x (lmc _ hx)
theorem HW {id:Int}:∀ {l:List Cp} {k:Nat} {m:Cp},l[k]?=some m->decide (m.group=id)=true->(∀ (i:Nat) (n:Cp),i<k->l[i]?=some n->decide (n.group=id)=false)->A1 l id=some m
 | [],k,m,hm,_,_=>by simp at hm
 | c::l,0,m,hm,hg,_=>by
  simp only [List.getElem?_cons_zero,osi] at hm
  subst hm
  rw [A1,if_pos (by simpa using hg)]
 | c::l,k+1,m,hm,hg,ho=>by
  have h0:=ho 0 c (by omega) rfl
  rw [A1,if_neg (by simpa using h0)]
  exact HW (by simpa using hm) hg fun i n hi hn=>ho (i+1) n (by omega) (by simpa using hn)
theorem O8 {t:Tr} {d:Dv} (h:DvOk t d) (r:Rq) (hs:d.Small) (hk:Ag t.nodes r.group=true):V 119 [.ptr (.arg 0 0) 0 0,r.vv] (mH t d)=some (.p (.bool (C2 t d r)),mH t d):=by
 refine Ac (vf:=vf119) rfl ?_
 have hlen:=h.tree.len
 have hq:=h.len
 have j0:=YL t d (by omega) (by omega)
 have j1:=Yz h.tree d.depths d.flights r.group h.dp hs.p (by omega) hk
 have c1:=Jx t r.group (by omega)
 have hal:=EH t.nodes t.nodes.length r.group
 have hbk:=(Cn.1 h.bk).1
 unfold C2
 cases hA:Fn t d.depths d.flights r.group with
 | false =>
  rw [hA] at j1
  simp -implicitDefEqProofs (disch:=omega) only [vf119,Mc,j0,j1,bfa,go_sem]
 | true =>
  rw [hA] at j1
  rw [Bool.true_and]
  generalize ancF t.nodes t.nodes.length r.group=A at c1 hal
  refine w3 j0 j1 c1 ?_
  obtain ⟨I,hI⟩:=lpI fun k s=>A.all (Cu d.buckets r)=(A.drop k).all (Cu d.buckets r)/\s.pe 0=.ptr (Id.arg 0 0) 0 0/\s.pe 3=.ptr (.slot 3 0) 0 0/\s.pe 37=.own (.slot 37 1) 0 0 A.length/\s.pe 38=.p (.int .i64 ↑A.length)/\s.pe 39=.p (.int .i64 k)/\s.h (.slot 3 0)=some (0,Ob.box [.p (.int .i64 r.task),.p (.int .i64 r.group),.p (.int .i64 r.at_),.p (.int .i64 r.pages),.p (.bool r.write),.p (.int .i64 r.time)])/\s.h (.slot 37 1)=some (0,Ob.arr 1 (List.map (.int .i64) A))/\s.h (.arg 0 0)=some (0,B2 t d)/\s.h (.arg 1 0)=some (0,.arr 2 (d.weights.map Ch.pv))/\s.h (.arg 2 0)=some (0,.arr 21 (d.buckets.map Cp.pv))/\s.h (.arg 3 0)=some (0,.arr 3 (d.depths.map Dp.pv))/\s.h (.arg 4 0)=some (0,.arr 6 (d.queue.map Rq.pv))/\s.h (.arg 5 0)=some (0,.arr 7 (d.flights.map Fl.pv))
  refine Aj (A.length) I ?_ ?_
  ·refine (hI _ _).2 ?_
   and_intros
   ·exact cl3
   all_goals exact cl4
  intro k s hk hIk
  obtain ⟨hq,hH⟩:=(hI _ _).1 hIk
  clear hIk
  refine w1 hH ?_
  refine Ae (fun hlt=>?_) (fun hge=>?_)
  ·have hm:A[k]?=some A[k]:=lgg hlt
   rw [ldg hlt,List.all_cons] at hq
   generalize A[k]=g at hm hq
   have k0:=Z7 t d g hs.b
   rcases E8 (fun c:Cp=>decide (c.group=g)) d.buckets with ⟨e,hno⟩|⟨i,m,e,hmi,hmg,hbe⟩
   ·have hR:Cu d.buckets r g=true:=by unfold Cu;rw [IU hno]
    rw [hR,bta] at hq
    rw [e] at k0
    have hd:decide ((0:Int)<=-1)=false:=rfl
    simp -implicitDefEqProofs (disch:=omega) only [hH,hlt,hm,k0,hd,go_sem]
    try refine ai ?_
    refine (hI _ _).2 ?_
    and_intros
    ·exact hq
    all_goals exact cl4
   ·have hR:Cu d.buckets r g=(decide (r.pages<=AH (kpB m r.write)) && decide (1<=AH (koB m r.write))):=by unfold Cu;rw [HW hmi hmg hbe]
    rw [e] at k0
    have hil:=(lgs.1 hmi).1
    have hcb:=Cf.1 (hbk m (lmg hmi)).2
    have k1:=Ql (d.buckets.map Cp.pv) i r.write
    have k2:V 181 [(kpB m r.write).vv] []=some (.p (.int .i64 (AH (kpB m r.write))),[]):=H9 _ (by unfold kpB;split;exact (AE.1 hcb.2.1).1;exact (AE.1 hcb.1).1)
    have k3:V 181 [(koB m r.write).vv] []=some (.p (.int .i64 (AH (koB m r.write))),[]):=H9 _ (by unfold koB;split;exact (AE.1 hcb.2.2.2).1;exact (AE.1 hcb.2.2.1).1)
    cases hw:r.write with
    | false =>
     rw [hw] at k1 k2 k3 hR
     simp only [kpB,koB,bft,if_false] at k1 k2 k3 hR
     by_cases b1:r.pages<=AH m.rp
     ·have b1':¬ AH m.rp<r.pages:=by omega
      by_cases b2:1<=AH m.ro
      ·have b2':¬ AH m.ro<1:=by omega
       rw [hR,decide_eq_true b1,decide_eq_true b2,bta,bta] at hq
       simp -implicitDefEqProofs (disch:=omega) only [hH,hlt,hm,k0,hil,hmi,hw,k1,Cp.pv,PV.cells,k2,k3,b1',b2',go_sem]
       try refine ai ?_
       refine (hI _ _).2 ?_
       and_intros
       .exact hq
       all_goals exact cl4
      ·have b2':AH m.ro<1:=by omega
       rw [hR,decide_eq_true b1,decide_eq_false b2,bta,bfa] at hq
       simp -implicitDefEqProofs (disch:=omega) only [hH,hlt,hm,k0,hil,hmi,hw,k1,Cp.pv,PV.cells,k2,k3,b1',b2',hq,go_sem]
     ·have b1':AH m.rp<r.pages:=by omega
      rw [hR,decide_eq_false b1,bfa,bfa] at hq
      simp -implicitDefEqProofs (disch:=omega) only [hH,hlt,hm,k0,hil,hmi,hw,k1,Cp.pv,PV.cells,k2,k3,b1',hq,go_sem]
    | true =>
     rw [hw] at k1 k2 k3 hR
     simp only [kpB,koB,if_true] at k1 k2 k3 hR
     by_cases b1:r.pages<=AH m.wp
     ·have b1':¬ AH m.wp<r.pages:=by omega
      by_cases b2:1<=AH m.wo
      ·have b2':¬ AH m.wo<1:=by omega
       rw [hR,decide_eq_true b1,decide_eq_true b2,bta,bta] at hq
       simp -implicitDefEqProofs (disch:=omega) only [hH,hlt,hm,k0,hil,hmi,hw,k1,Cp.pv,PV.cells,k2,k3,b1',b2',go_sem]
       try refine ai ?_
       refine (hI _ _).2 ?_
       and_intros
       .exact hq
       all_goals exact cl4
      ·have b2':AH m.wo<1:=by omega
       rw [hR,decide_eq_true b1,decide_eq_false b2,bta,bfa] at hq
       simp -implicitDefEqProofs (disch:=omega) only [hH,hlt,hm,k0,hil,hmi,hw,k1,Cp.pv,PV.cells,k2,k3,b1',b2',hq,go_sem]
     ·have b1':AH m.wp<r.pages:=by omega
      rw [hR,decide_eq_false b1,bfa,bfa] at hq
      simp -implicitDefEqProofs (disch:=omega) only [hH,hlt,hm,k0,hil,hmi,hw,k1,Cp.pv,PV.cells,k2,k3,b1',hq,go_sem]
  ·rw [List.drop_eq_nil_of_le (by omega),List.all_nil] at hq
   exact z3 hH hge hq
theorem P4 {t:Tr} {d:Dv} (h:DvOk t d) (hs:d.Small):V 54 [.ptr (.arg 0 0) 0 0] (mH t d)=some (.fresh 1 ((Bm (A5 t d [] d.queue)).map (.int .i64)),mH t d):=by
 refine Ac (vf:=vf54) rfl ?_
 have hq:=h.len
 refine w0 ?_
 obtain ⟨I,hI⟩:=lpI fun k s=>∃ (acc:List Int) (w:Nat) (S:List Int) (ks:List MKey) (vs:List PV),A5 t d [] d.queue=acc++A5 t d S (d.queue.drop k)/\acc.length<=k/\Rep3 ks vs (fun x=>decide (x∈S))/\s.pe 0=.ptr (Id.arg 0 0) 0 0/\s.pe 3=.mref (.slot 7 0) 0/\s.pe 4=.own (.slot 4 0) w 0 acc.length/\s.pe 12=VVal.own (Id.arg 4 0) 0 0 d.queue.length/\s.pe 13=.p (.int .i64 ↑d.queue.length)/\s.pe 14=.p (.int .i64 k)/\s.h (.slot 4 0)=some (w,Ob.arr 1 (acc.map (.int .i64)))/\s.h (.slot 7 0)=some (0,Ob.map (KT.int IntKind.i64) ks vs)/\s.h (.arg 0 0)=some (0,B2 t d)/\s.h (.arg 1 0)=some (0,.arr 2 (d.weights.map Ch.pv))/\s.h (.arg 2 0)=some (0,.arr 21 (d.buckets.map Cp.pv))/\s.h (.arg 3 0)=some (0,.arr 3 (d.depths.map Dp.pv))/\s.h (.arg 4 0)=some (0,.arr 6 (d.queue.map Rq.pv))/\s.h (.arg 5 0)=some (0,.arr 7 (d.flights.map Fl.pv))
 refine Aj (d.queue.length) I ?_ ?_
 ·refine (hI _ _).2 ⟨[],0,[],[],[],?_⟩
  and_intros
  ·exact by simp
  ·exact cl3
  ·exact fun _=>rfl
  all_goals exact cl4
 intro k s hk hIk
 obtain ⟨acc,w,S,ks,vs,hr,hal,hrep,hH⟩:=(hI _ _).1 hIk
 clear hIk
 refine w1 hH ?_
 refine Ae (fun hlt=>?_) (fun hge=>?_)
 ·have hm:d.queue[k]?=some d.queue[k]:=lgg hlt
  rw [ldg hlt,A5] at hr
  have hrk:=(h.q d.queue[k] (lmg hm)).2
  generalize d.queue[k]=r at hm hr hrk
  have k0:=O8 h r hs hrk
  have hg:=hrep r.group
  have hnx:=(hrep.put r.group).congr (on':=fun x=>decide (x∈r.group::S)) fun x=>by
   by_cases hx:x=r.group<;>simp [hx]
  by_cases hin:r.group∈S
  ·rw [if_pos hin,lna] at hr
   simp only [hin,decide_true,if_true] at hg
   have hg:(A2 ks vs (.int r.group)).getD (.bool false)=.bool true:=by rw [hg];rfl
   simp -implicitDefEqProofs (disch:=omega) only [hH,hlt,hm,hg,go_sem]
   try refine ai ?_
   refine (hI _ _).2 ⟨acc,w,r.group::S,(Au ks vs (.int r.group) (.bool true)).1,(Au ks vs (.int r.group) (.bool true)).2,?_⟩
   and_intros
   ·exact hr
   ·omega
   ·exact hnx
   all_goals exact cl4
  ·rw [if_neg hin] at hr
   simp only [hin,decide_false,bft,if_false] at hg
   have hg:(A2 ks vs (.int r.group)).getD (.bool false)=.bool false:=by rw [hg];rfl
   cases hp:C2 t d r with
   | false =>
    rw [hp] at k0 hr
    simp only [bft,if_false,lna] at hr
    simp -implicitDefEqProofs (disch:=omega) only [hH,hlt,hm,hg,k0,go_sem]
    try refine ai ?_
    refine (hI _ _).2 ⟨acc,w,r.group::S,(Au ks vs (.int r.group) (.bool true)).1,(Au ks vs (.int r.group) (.bool true)).2,?_⟩
    and_intros
    .exact hr
    .omega
    .exact hnx
    all_goals exact cl4
   | true =>
    rw [hp] at k0 hr
    simp only [if_true] at hr
    simp -implicitDefEqProofs (disch:=omega) only [hH,hlt,hm,hg,k0,go_sem]
    try refine ai ?_
    refine (hI _ _).2 ⟨acc++[r.group],w+1,r.group::S,(Au ks vs (.int r.group) (.bool true)).1,(Au ks vs (.int r.group) (.bool true)).2,?_⟩
    and_intros
    .exact by rw [hr,laa]
    .exact by simp;omega
    .exact hnx
    all_goals exact cl4
 ·rw [List.drop_eq_nil_of_le (by omega),A5,lan] at hr
  rw [hr]
  have hso:=zbb acc (by omega)
  have hml:=Nf acc
  have htk:(List.map (PV.int .i64) (Bm acc)).take acc.length=List.map (PV.int .i64) (Bm acc):=ltl (by rw [llm];omega)
  exact z4 hH hge hso htk
abbrev Hj (t:Tr) (d:Dv) (v:VVal) (q f:Nat):Ob:=.box [.p (.int .i64 d.m.rb),.p (.int .i64 d.m.rp),.p (.int .i64 d.m.wb),.p (.int .i64 d.m.wp),.p (.int .i64 d.m.seek),.p (.int .i64 d.speed),.p (.int .i64 d.margin),.p (.int .i64 d.now),.p (.int .i64 d.free),.p (.int .i64 d.head),.own (.arg 1 0) 0 0 d.weights.length,.own (.arg 2 0) 0 0 d.buckets.length,.own (.arg 3 0) 0 0 d.depths.length,v,.own (.arg 4 0) q 0 d.queue.length,.own (.arg 5 0) f 0 d.flights.length,.p (An t.nodes),.p (.int .i64 t.next)]
def FF (n:Int) (c:Cp) (j:Nat):Cp:=⟨c.group,if 0<j then AD c.rp n else c.rp,if 1<j then AD c.wp n else c.wp,if 2<j then AD c.ro n else c.ro,if 3<j then AD c.wo n else c.wo⟩
theorem Y6 (n:Int) (c:Cp):FF n c 4=DM n c:=rfl
theorem Y5 (n:Int) (c:Cp):FF n c 0=c:=rfl
theorem L3 {α:Type} {a b:List α} {x:α} {k:Nat} (h:a.length=k):(a++x::b)[k]?=some x:=by subst h;simp
theorem LQ {α:Type} {a b:List α} {x y:α} {k:Nat} (h:a.length=k):(a++x::b).set k y=a++y::b:=by subst h;simp
theorem Ih {α:Type} {p:α->Bool}:∀ {l:List α} {k:Nat},k<(l.takeWhile p).length->∃ f,l[k]?=some f/\p f=true
 | [],k,h=>by simp at h
 | x::l,k,h=>by
  by_cases hx:p x=true
  ·rw [List.takeWhile_cons_of_pos hx] at h
   cases k with
   | zero=>exact ⟨x,rfl,hx⟩
   | succ k=>exact Ih (l:=l) (k:=k) (by simpa using h)
  ·rw [List.takeWhile_cons_of_neg hx] at h
   simp at h
theorem L0 {α:Type} {p:α->Bool}:∀ {l:List α},(l.takeWhile p).length=l.length \/ ∃ f,l[(l.takeWhile p).length]?=some f/\p f=false
 | []=>.inl rfl
 | x::l=>by
  by_cases hx:p x=true
  ·rw [List.takeWhile_cons_of_pos hx]
   rcases L0 (p:=p) (l:=l) with h|⟨f,h1,h2⟩
   .exact .inl (by simp [h])
   .exact .inr ⟨f,by simpa using h1,h2⟩
  ·rw [List.takeWhile_cons_of_neg hx]
   exact .inr ⟨x,rfl,by simpa using hx⟩
theorem GT {α:Type} {p:α->Bool}:∀ {l:List α},l.take (l.takeWhile p).length=l.takeWhile p/\l.drop (l.takeWhile p).length=l.dropWhile p
 | []=>⟨rfl,rfl⟩
 | x::l=>by
  by_cases hx:p x=true
  ·rw [List.takeWhile_cons_of_pos hx,List.dropWhile_cons_of_pos hx,llc,List.take_succ_cons,List.drop_succ_cons,GT.1,GT.2]
   exact ⟨rfl,rfl⟩
  ·rw [List.takeWhile_cons_of_neg hx,List.dropWhile_cons_of_neg hx]
   exact ⟨rfl,rfl⟩
theorem XN {t:Tr} {d:Dv} (h:DvOk t d) (hs:d.Small) (hnow:d.now<1048576):V 52 [.ptr (.arg 0 0) 0 0] (mH t d)=some (.fresh 7 ((CF d).map Fl.pv),[Hj t (Bs d) (.p (Ap d.v)) 0 1,.arr 2 (d.weights.map Ch.pv),.arr 21 ((Bs d).buckets.map Cp.pv),.arr 3 (d.depths.map Dp.pv),.arr 6 (d.queue.map Rq.pv),.box [.undef,.fresh 7 ((Bs d).flights.map Fl.pv)]]):=by
 refine Ac (vf:=vf52) rfl ?_
 have hq:=h.len
 have hn:=h.now
 have hbk:=(Cn.1 h.bk).1
 have hbl:=hs.b
 refine w0 ?_
 obtain ⟨I,hI⟩:=lpI fun k s=>∃ (M:List Cp),M=(d.buckets.take k).map (DM (d.now+1))++d.buckets.drop k/\M.length=d.buckets.length/\s.pe 0=.ptr (Id.arg 0 0) 0 0/\s.pe 23=.p (.int .i64 ↑d.buckets.length)/\s.pe 24=.p (.int .i64 k)/\s.h (.arg 0 0)=some (0,Ob.box [.p (.int .i64 d.m.rb),.p (.int .i64 d.m.rp),.p (.int .i64 d.m.wb),.p (.int .i64 d.m.wp),.p (.int .i64 d.m.seek),.p (.int .i64 d.speed),.p (.int .i64 d.margin),.p (.int .i64 (d.now+1)),.p (.int .i64 d.free),.p (.int .i64 d.head),VVal.own (Id.arg 1 0) 0 0 d.weights.length,VVal.own (Id.arg 2 0) 0 0 d.buckets.length,VVal.own (Id.arg 3 0) 0 0 d.depths.length,.p (Ap d.v),VVal.own (Id.arg 4 0) 0 0 d.queue.length,VVal.own (Id.arg 5 0) 0 0 d.flights.length,.p (An t.nodes),.p (.int .i64 t.next)])/\s.h (.arg 1 0)=some (0,.arr 2 (d.weights.map Ch.pv))/\s.h (.arg 2 0)=some (0,.arr 21 (M.map Cp.pv))/\s.h (.arg 3 0)=some (0,.arr 3 (d.depths.map Dp.pv))/\s.h (.arg 4 0)=some (0,.arr 6 (d.queue.map Rq.pv))/\s.h (.arg 5 0)=some (0,.arr 7 (d.flights.map Fl.pv))
 refine Aj (d.buckets.length) I ?_ ?_
 ·refine (hI _ _).2 ⟨d.buckets,?_⟩
  and_intros
  ·exact cl3
  ·exact cl3
  all_goals exact cl6
 intro k s hk hIk
 obtain ⟨M,hM,hMl,hH⟩:=(hI _ _).1 hIk
 clear hIk
 refine w1 hH ?_
 refine Ae (fun hlt=>?_) (fun hge=>?_)
 ·have hm:d.buckets[k]?=some d.buckets[k]:=lgg hlt
  rw [ldg hlt] at hM
  have htk:=Bt hm
  generalize d.buckets[k]=c at hm hM htk
  have hcb:=Cf.1 (hbk c (lmg hm)).2
  have hlk:((d.buckets.take k).map (DM (d.now+1))).length=k:=by rw [llm,llt];omega
  refine w3 hH hlt hMl ?_
  obtain ⟨J,hJ⟩:=lpI fun j s=>∃ (M:List Cp),M=(d.buckets.take k).map (DM (d.now+1))++FF (d.now+1) c j::d.buckets.drop (k+1)/\M.length=d.buckets.length/\s.pe 0=.ptr (Id.arg 0 0) 0 0/\s.pe 23=.p (.int .i64 ↑d.buckets.length)/\s.pe 24=.p (.int .i64 ↑k)/\s.pe 46=.plist [VVal.eptr (Id.arg 2 0) 0 k 1,VVal.eptr (Id.arg 2 0) 0 k 6,VVal.eptr (Id.arg 2 0) 0 k 11,VVal.eptr (Id.arg 2 0) 0 k 16]/\s.pe 47=.p (.int .i64 ((4:Nat):Int))/\s.pe 48=.p (.int .i64 j)/\s.h (.arg 0 0)=some (0,Ob.box [.p (.int .i64 d.m.rb),.p (.int .i64 d.m.rp),.p (.int .i64 d.m.wb),.p (.int .i64 d.m.wp),.p (.int .i64 d.m.seek),.p (.int .i64 d.speed),.p (.int .i64 d.margin),.p (.int .i64 (d.now+1)),.p (.int .i64 d.free),.p (.int .i64 d.head),VVal.own (Id.arg 1 0) 0 0 d.weights.length,VVal.own (Id.arg 2 0) 0 0 d.buckets.length,VVal.own (Id.arg 3 0) 0 0 d.depths.length,.p (Ap d.v),VVal.own (Id.arg 4 0) 0 0 d.queue.length,VVal.own (Id.arg 5 0) 0 0 d.flights.length,.p (An t.nodes),.p (.int .i64 t.next)])/\s.h (.arg 1 0)=some (0,.arr 2 (d.weights.map Ch.pv))/\s.h (.arg 2 0)=some (0,.arr 21 (M.map Cp.pv))/\s.h (.arg 3 0)=some (0,.arr 3 (d.depths.map Dp.pv))/\s.h (.arg 4 0)=some (0,.arr 6 (d.queue.map Rq.pv))/\s.h (.arg 5 0)=some (0,.arr 7 (d.flights.map Fl.pv))
  refine Aj (4) J ?_ ?_
  ·refine (hJ _ _).2 ⟨M,?_⟩
   and_intros
   ·exact by rw [Y5];exact hM
   ·exact hMl
   all_goals exact cl6
  intro j s hj hJk
  obtain ⟨M,hN,hNl,hH⟩:=(hJ _ _).1 hJk
  clear hJk
  refine w1 hH ?_
  refine Ae (fun hjl=>?_) (fun hjg=>?_)
  ·have hmid:M[k]?=some (FF (d.now+1) c j):=by rw [hN];exact L3 hlk
   have hset:∀ y,M.set k y=(d.buckets.take k).map (DM (d.now+1))++y::d.buckets.drop (k+1):=fun y=>by rw [hN];exact LQ hlk
   have hj:j=0 \/ j=1 \/ j=2 \/ j=3:=by omega
   rcases hj with hj|hj|hj|hj
   ·have hb:([VVal.eptr (Id.arg 2 0) 0 k 1,VVal.eptr (Id.arg 2 0) 0 k 6,VVal.eptr (Id.arg 2 0) 0 k 11,VVal.eptr (Id.arg 2 0) 0 k 16]:List VVal)[j]?=some (VVal.eptr (Id.arg 2 0) 0 k 1):=by rw [hj];rfl
    have hb2:=F0 c.rp (d.now+1) (AE.1 hcb.1).1 (by have:=(AE.1 hcb.1).2.2;omega) (by omega)
    have e0:FF (d.now+1) c j=⟨c.group,c.rp,c.wp,c.ro,c.wo⟩:=by rw [hj];rfl
    rw [e0] at hmid
    simp -implicitDefEqProofs (disch:=omega) only [hH,hjl,hb,hmid,Cp.pv,PV.cells,hb2,go_sem]
    try refine ai ?_
    refine (hJ _ _).2 ⟨M.set k ⟨c.group,AD c.rp (d.now+1),c.wp,c.ro,c.wo⟩,?_⟩
    and_intros
    .exact by rw [hset,hj];rfl
    .exact by rw [List.length_set];exact hNl
    all_goals exact cl6
   ·have hb:([VVal.eptr (Id.arg 2 0) 0 k 1,VVal.eptr (Id.arg 2 0) 0 k 6,VVal.eptr (Id.arg 2 0) 0 k 11,VVal.eptr (Id.arg 2 0) 0 k 16]:List VVal)[j]?=some (VVal.eptr (Id.arg 2 0) 0 k 6):=by rw [hj];rfl
    have hb2:=F0 c.wp (d.now+1) (AE.1 hcb.2.1).1 (by have:=(AE.1 hcb.2.1).2.2;omega) (by omega)
    have e0:FF (d.now+1) c j=⟨c.group,AD c.rp (d.now+1),c.wp,c.ro,c.wo⟩:=by rw [hj];rfl
    rw [e0] at hmid
    simp -implicitDefEqProofs (disch:=omega) only [hH,hjl,hb,hmid,Cp.pv,PV.cells,hb2,go_sem]
    try refine ai ?_
    refine (hJ _ _).2 ⟨M.set k ⟨c.group,AD c.rp (d.now+1),AD c.wp (d.now+1),c.ro,c.wo⟩,?_⟩
    and_intros
    .exact by rw [hset,hj];rfl
    .exact by rw [List.length_set];exact hNl
    all_goals exact cl6
   ·have hb:([VVal.eptr (Id.arg 2 0) 0 k 1,VVal.eptr (Id.arg 2 0) 0 k 6,VVal.eptr (Id.arg 2 0) 0 k 11,VVal.eptr (Id.arg 2 0) 0 k 16]:List VVal)[j]?=some (VVal.eptr (Id.arg 2 0) 0 k 11):=by rw [hj];rfl
    have hb2:=F0 c.ro (d.now+1) (AE.1 hcb.2.2.1).1 (by have:=(AE.1 hcb.2.2.1).2.2;omega) (by omega)
    have e0:FF (d.now+1) c j=⟨c.group,AD c.rp (d.now+1),AD c.wp (d.now+1),c.ro,c.wo⟩:=by rw [hj];rfl
    rw [e0] at hmid
    simp -implicitDefEqProofs (disch:=omega) only [hH,hjl,hb,hmid,Cp.pv,PV.cells,hb2,go_sem]
    try refine ai ?_
    refine (hJ _ _).2 ⟨M.set k ⟨c.group,AD c.rp (d.now+1),AD c.wp (d.now+1),AD c.ro (d.now+1),c.wo⟩,?_⟩
    and_intros
    .exact by rw [hset,hj];rfl
    .exact by rw [List.length_set];exact hNl
    all_goals exact cl6
   ·have hb:([VVal.eptr (Id.arg 2 0) 0 k 1,VVal.eptr (Id.arg 2 0) 0 k 6,VVal.eptr (Id.arg 2 0) 0 k 11,VVal.eptr (Id.arg 2 0) 0 k 16]:List VVal)[j]?=some (VVal.eptr (Id.arg 2 0) 0 k 16):=by rw [hj];rfl
    have hb2:=F0 c.wo (d.now+1) (AE.1 hcb.2.2.2).1 (by have:=(AE.1 hcb.2.2.2).2.2;omega) (by omega)
    have e0:FF (d.now+1) c j=⟨c.group,AD c.rp (d.now+1),AD c.wp (d.now+1),AD c.ro (d.now+1),c.wo⟩:=by rw [hj];rfl
    rw [e0] at hmid
    simp -implicitDefEqProofs (disch:=omega) only [hH,hjl,hb,hmid,Cp.pv,PV.cells,hb2,go_sem]
    try refine ai ?_
    refine (hJ _ _).2 ⟨M.set k ⟨c.group,AD c.rp (d.now+1),AD c.wp (d.now+1),AD c.ro (d.now+1),AD c.wo (d.now+1)⟩,?_⟩
    and_intros
    .exact by rw [hset,hj];rfl
    .exact by rw [List.length_set];exact hNl
    all_goals exact cl6
  ·rw [show j=4 by omega,Y6] at hN
   simp -implicitDefEqProofs (disch:=omega) only [hH,hjg,go_sem]
   try refine ai ?_
   refine (hI _ _).2 ⟨M,?_⟩
   and_intros
   ·exact by rw [hN,htk,lma,laa];rfl
   ·exact hNl
   all_goals exact cl6
 ·rw [ltl (by omega),List.drop_eq_nil_of_le (by omega),lan] at hM
  refine w2 hH hge ?_
  obtain ⟨p,hp⟩:∃ p:Fl->Bool,p=fun f=>decide (f.done<=d.now+1):=⟨_,rfl⟩
  have hE:CF d=d.flights.takeWhile p:=by rw [hp];rfl
  have hF:(Bs d).flights=d.flights.dropWhile p:=by rw [hp];rfl
  have hNle:(d.flights.takeWhile p).length<=d.flights.length:=(List.takeWhile_sublist p).length_le
  have htd:=GT (p:=p) (l:=d.flights)
  have hlt:=fun k=>Ih (p:=p) (l:=d.flights) (k:=k)
  have hen:=L0 (p:=p) (l:=d.flights)
  generalize hN:(d.flights.takeWhile p).length=N at hNle htd hlt hen
  have r1:(CF d).map Fl.pv=(d.flights.take N).map Fl.pv:=by rw [hE,<- htd.1]
  have r2:(Bs d).flights.map Fl.pv=List.drop N (d.flights.map Fl.pv):=by rw [hF,<- htd.2,List.map_drop]
  have r3:(Bs d).flights.length=d.flights.length - N:=by rw [hF,<- htd.2,lld]
  have r4:(Bs d).buckets=M:=hM.symm
  have r5:Hj t (Bs d) (.p (Ap d.v)) 0 1=Ob.box [.p (.int .i64 d.m.rb),.p (.int .i64 d.m.rp),.p (.int .i64 d.m.wb),.p (.int .i64 d.m.wp),.p (.int .i64 d.m.seek),.p (.int .i64 d.speed),.p (.int .i64 d.margin),.p (.int .i64 (d.now+1)),.p (.int .i64 d.free),.p (.int .i64 d.head),VVal.own (Id.arg 1 0) 0 0 d.weights.length,VVal.own (Id.arg 2 0) 0 0 d.buckets.length,VVal.own (Id.arg 3 0) 0 0 d.depths.length,.p (Ap d.v),VVal.own (Id.arg 4 0) 0 0 d.queue.length,VVal.own (Id.arg 5 0) 1 0 (d.flights.length - N),.p (An t.nodes),.p (.int .i64 t.next)]:=by
   unfold Hj
   rw [r3,r4,hMl]
   rfl
  rw [r1,r2,r4,r5]
  have hcl:=Qy (xs:=(d.flights.take N).map Fl.pv) (by rw [llm,llt];omega)
  have htt:(d.flights.take N).take (min N d.flights.length)=d.flights.take N:=by rw [List.take_take,show min (min N d.flights.length) N=N by omega]
  have hde:=zcD (xs:=d.flights.map Fl.pv) (i:=0) (j:=N) (by rw [llm];omega) (Int.le_refl _) (by omega) (by rw [llm];omega)
  rw [llm,Int.toNat_natCast,show Int.toNat 0=0 from rfl,List.take_zero,lna,Nat.sub_zero] at hde
  obtain ⟨A,hA⟩:=lpI fun k s=>s.pe 0=.ptr (Id.arg 0 0) 0 0/\s.pe 7=.p (.int .i64 k)/\s.h (.arg 0 0)=some (0,Ob.box [.p (.int .i64 d.m.rb),.p (.int .i64 d.m.rp),.p (.int .i64 d.m.wb),.p (.int .i64 d.m.wp),.p (.int .i64 d.m.seek),.p (.int .i64 d.speed),.p (.int .i64 d.margin),.p (.int .i64 (d.now+1)),.p (.int .i64 d.free),.p (.int .i64 d.head),VVal.own (Id.arg 1 0) 0 0 d.weights.length,VVal.own (Id.arg 2 0) 0 0 d.buckets.length,VVal.own (Id.arg 3 0) 0 0 d.depths.length,.p (Ap d.v),VVal.own (Id.arg 4 0) 0 0 d.queue.length,VVal.own (Id.arg 5 0) 0 0 d.flights.length,.p (An t.nodes),.p (.int .i64 t.next)])/\s.h (.arg 1 0)=some (0,.arr 2 (d.weights.map Ch.pv))/\s.h (.arg 2 0)=some (0,.arr 21 (M.map Cp.pv))/\s.h (.arg 3 0)=some (0,.arr 3 (d.depths.map Dp.pv))/\s.h (.arg 4 0)=some (0,.arr 6 (d.queue.map Rq.pv))/\s.h (.arg 5 0)=some (0,.arr 7 (d.flights.map Fl.pv))
  refine Aj (N) A ?_ ?_
  ·refine (hA _ _).2 ?_
   and_intros
   all_goals exact cl6
  intro k s hk hAk
  obtain hH:=(hA _ _).1 hAk
  clear hAk
  by_cases hkN:k<N
  ·obtain ⟨f,hf,hpf⟩:=hlt k hkN
   rw [hp] at hpf
   have hd:f.done<=d.now+1:=of_decide_eq_true hpf
   have hkl:=(lgs.1 hf).1
   simp -implicitDefEqProofs (disch:=omega) only [hH,hkl,hf,hd,go_sem]
   try refine ai ?_
   refine (hA _ _).2 ?_
   and_intros
   all_goals exact cl6
  ·have hkE:k=N:=by omega
   subst hkE
   rcases hen with e|⟨f,hf,hpf⟩
   ·have hkl:¬ k<d.flights.length:=by omega
    simp -implicitDefEqProofs (disch:=omega) only [hH,hkl,hcl,hde,htt,Nat.sub_zero,<- List.map_take,go_sem]
   ·rw [hp] at hpf
    have hd:¬ f.done<=d.now+1:=of_decide_eq_false hpf
    have hkl:=(lgs.1 hf).1
    simp -implicitDefEqProofs (disch:=omega) only [hH,hkl,hf,hd,hcl,hde,htt,Nat.sub_zero,<- List.map_take,go_sem]
abbrev SX (t:Tr) (d:Dv) (n:Nat):Ob:=.box [.p (.int .i64 d.m.rb),.p (.int .i64 d.m.rp),.p (.int .i64 d.m.wb),.p (.int .i64 d.m.wp),.p (.int .i64 d.m.seek),.p (.int .i64 d.speed),.p (.int .i64 d.margin),.p (.int .i64 d.now),.p (.int .i64 d.free),.p (.int .i64 d.head),.own (.arg 1 0) 0 0 d.weights.length,.own (.arg 2 0) 0 0 d.buckets.length,.own (.arg 3 0) 0 0 d.depths.length,.own (.arg 4 0) 0 0 n,.own (.arg 5 0) 0 0 d.queue.length,.own (.arg 6 0) 0 0 d.flights.length,.p (An t.nodes),.p (.int .i64 t.next)]
abbrev mHS (t:Tr) (d:Dv) (v:List Ch) (M:List Cp):List Ob:=[SX t d v.length,.arr 2 (d.weights.map Ch.pv),.arr 21 (M.map Cp.pv),.arr 3 (d.depths.map Dp.pv),.arr 2 (v.map Ch.pv),.arr 6 (d.queue.map Rq.pv),.arr 7 (d.flights.map Fl.pv)]
theorem Yw (t:Tr) (d:Dv) (v:List Ch) (M:List Cp) (hM:M.length=d.buckets.length) (id:Int) (hb:d.buckets.length<1000000):V 159 [.ptr (.arg 0 0) 0 0,.p (.int .i64 id)] (mHS t d v M)=some (.p (.int .i64 (BR (fun c=>decide (c.group=id)) M)),mHS t d v M):=by
 refine Ac (vf:=vf159) rfl ?_
 have i0:=LS M id (by omega)
 have htk:List.take d.buckets.length (List.map Cp.pv M)=List.map Cp.pv M:=ltl (by rw [llm];omega)
 exact z2 i0 htk
theorem Jb (b:Bk) (n:Int) (h:BH b=true) (hn:0<=n/\n<=1073741824):∃ e,V 188 [b.vv,.p (.int .i64 b.now),.p (.int .i64 n)] []=some (.tup [(Bh b n).vv,.p (.int .i64 e)],[]):=by
 by_cases hle:n<=AH b
 ·exact ⟨0,zaO b n h ⟨hn.1,hle⟩⟩
 ·refine ⟨11,Ac (vf:=vf188) rfl ?_⟩
  have hw:=((Bc.1 h).2.1)
  have i0:=F0 b b.now h (Int.le_refl _) hw.2
  rw [HY h] at i0
  have i1:=H9 b h
  have op:=Fg b
  have hlt:AH b<n:=by omega
  have i2:=Fm n 0 1073741824
  rw [show inZ n 0 1073741824=true from Co.2 hn] at i2
  have e:Bh b n=b:=by
   unfold Bh
   unfold AH at hlt
   by_cases e:b.rate=maxR
   ·rw [if_pos e]
   ·rw [if_neg e] at hlt ⊢
    rw [if_pos hlt]
  rw [e]
  exact z5 i0 i1 i2 op hlt
theorem KY {id:Int} {f:Cp->Cp}:∀ {l:List Cp},(∀ c∈l,decide (c.group=id)=false)->BQ l id f=l
 | [],_=>rfl
 | c::l,h=>by
  have:=h c (lms ..)
  rw [BQ,if_neg (by simpa using this),KY fun x hx=>h x (lmc _ hx)]
theorem LH {id:Int} {f:Cp->Cp}:∀ {l:List Cp} {k:Nat} {m:Cp},l[k]?=some m->decide (m.group=id)=true->(∀ (i:Nat) (n:Cp),i<k->l[i]?=some n->decide (n.group=id)=false)->BQ l id f=l.set k (f m)
 | [],k,m,hm,_,_=>by simp at hm
 | c::l,0,m,hm,hg,_=>by
  simp only [List.getElem?_cons_zero,osi] at hm
  subst hm
  rw [BQ,if_pos (by simpa using hg)]
  rfl
 | c::l,k+1,m,hm,hg,ho=>by
  have h0:=ho 0 c (by omega) rfl
  rw [BQ,if_neg (by simpa using h0),LH (by simpa using hm) hg fun i n hi hn=>ho (i+1) n (by omega) (by simpa using hn)]
  rfl
theorem Zo {t:Tr} {d:Dv} (h:DvOk t d) (hs:d.Small) (v:List Ch) (r:Rq) (hr:Aw r=true):V 127 [.ptr (.arg 0 0) 0 0,r.vv] (mHS t d v d.buckets)=some (.tup [],mHS t d v (Fi t d.buckets r)):=by
 refine Ac (vf:=vf127) rfl ?_
 have hlen:=h.tree.len
 have c1:=Jx t r.group (by omega)
 have hal:=EH t.nodes t.nodes.length r.group
 have hsr:=CL.1 hr
 have hbl:=hs.b
 have hSp:Fi t d.buckets r=(ancF t.nodes t.nodes.length r.group).foldl (fun l g=>BQ l g fun c=>Bw c r) d.buckets:=rfl
 rw [hSp]
 have hok:=fun gs=>IX (t:=t) (r:=r) (by omega) gs d.buckets h.bk
 generalize ancF t.nodes t.nodes.length r.group=A at c1 hal
 refine w1 c1 ?_
 obtain ⟨I,hI⟩:=lpI fun k s=>∃ (M:List Cp),M=(A.take k).foldl (fun l g=>BQ l g fun c=>Bw c r) d.buckets/\M.length=d.buckets.length/\s.pe 0=.ptr (Id.arg 0 0) 0 0/\s.pe 3=.ptr (.slot 3 0) 0 0/\s.pe 15=.own (.slot 15 1) 0 0 A.length/\s.pe 16=.p (.int .i64 ↑A.length)/\s.pe 17=.p (.int .i64 k)/\s.h (.slot 3 0)=some (0,Ob.box [.p (.int .i64 r.task),.p (.int .i64 r.group),.p (.int .i64 r.at_),.p (.int .i64 r.pages),.p (.bool r.write),.p (.int .i64 r.time)])/\s.h (.slot 15 1)=some (0,Ob.arr 1 (List.map (.int .i64) A))/\s.h (.arg 0 0)=some (0,SX t d v.length)/\s.h (.arg 1 0)=some (0,.arr 2 (d.weights.map Ch.pv))/\s.h (.arg 2 0)=some (0,.arr 21 (M.map Cp.pv))/\s.h (.arg 3 0)=some (0,.arr 3 (d.depths.map Dp.pv))/\s.h (.arg 4 0)=some (0,.arr 2 (v.map Ch.pv))/\s.h (.arg 5 0)=some (0,.arr 6 (d.queue.map Rq.pv))/\s.h (.arg 6 0)=some (0,.arr 7 (d.flights.map Fl.pv))
 refine Aj (A.length) I ?_ ?_
 ·refine (hI _ _).2 ⟨d.buckets,?_⟩
  and_intros
  ·exact cl3
  ·exact cl3
  all_goals exact cl10
 intro k s hk hIk
 obtain ⟨M,hM,hMl,hH⟩:=(hI _ _).1 hIk
 clear hIk
 have hbkM:=(Cn.1 (hok (A.take k))).1
 rw [<- hM] at hbkM
 refine w1 hH ?_
 refine Ae (fun hlt=>?_) (fun hge=>?_)
 ·have hm:A[k]?=some A[k]:=lgg hlt
  have htk:=Bt hm
  generalize A[k]=g at hm htk
  have k0:=Yw t d v M hMl g hbl
  rcases E8 (fun c:Cp=>decide (c.group=g)) M with ⟨e,hno⟩|⟨i,m,e,hmi,hmg,hbe⟩
  ·have hst:BQ M g (fun c=>Bw c r)=M:=KY hno
   rw [e] at k0
   have hd:decide ((0:Int)<=-1)=false:=rfl
   simp -implicitDefEqProofs (disch:=omega) only [hH,hlt,hm,k0,hd,go_sem]
   try refine ai ?_
   refine (hI _ _).2 ⟨M,?_⟩
   and_intros
   ·exact by rw [htk,lfa,<- hM];exact hst.symm
   ·exact hMl
   all_goals exact cl10
  ·have hst:BQ M g (fun c=>Bw c r)=M.set i (Bw m r):=LH hmi hmg hbe
   rw [e] at k0
   have hil:=(lgs.1 hmi).1
   have hcb:=Cf.1 (hbkM m (lmg hmi)).2
   have k1:=fun xs=>Ql xs i r.write
   have hgs:∀ x,((M.map Cp.pv).set i x)[i]?=some x:=fun x=>List.getElem?_set_self (by rw [llm];exact hil)
   rw [hMl] at hil
   cases hw:r.write with
   | false =>
    rw [hw] at k1
    simp only [bft,if_false] at k1
    have hsp:Bw m r=⟨m.group,Bh m.rp r.pages,m.wp,Bh m.ro 1,m.wo⟩:=by unfold Bw;rw [hw];rfl
    rw [hsp] at hst
    obtain ⟨e1,k2⟩:=Jb m.rp r.pages (AE.1 hcb.1).1 (by omega)
    obtain ⟨e2,k3⟩:=Jb m.ro 1 (AE.1 hcb.2.2.1).1 (by omega)
    rw [(AE.1 hcb.1).2.2] at k2
    rw [(AE.1 hcb.2.2.1).2.2] at k3
    simp -implicitDefEqProofs (disch:=omega) only [hH,hlt,hm,k0,hil,hmi,hw,k1,Cp.pv,PV.cells,k2,k3,hgs,go_sem]
    try refine ai ?_
    refine (hI _ _).2 ⟨M.set i ⟨m.group,Bh m.rp r.pages,m.wp,Bh m.ro 1,m.wo⟩,?_⟩
    and_intros
    .exact by rw [htk,lfa,<- hM];exact hst.symm
    .exact by rw [List.length_set];exact hMl
    all_goals exact cl10
   | true =>
    rw [hw] at k1
    simp only [if_true] at k1
    have hsp:Bw m r=⟨m.group,m.rp,Bh m.wp r.pages,m.ro,Bh m.wo 1⟩:=by unfold Bw;rw [hw];rfl
    rw [hsp] at hst
    obtain ⟨e1,k2⟩:=Jb m.wp r.pages (AE.1 hcb.2.1).1 (by omega)
    obtain ⟨e2,k3⟩:=Jb m.wo 1 (AE.1 hcb.2.2.2).1 (by omega)
    rw [(AE.1 hcb.2.1).2.2] at k2
    rw [(AE.1 hcb.2.2.2).2.2] at k3
    simp -implicitDefEqProofs (disch:=omega) only [hH,hlt,hm,k0,hil,hmi,hw,k1,Cp.pv,PV.cells,k2,k3,hgs,go_sem]
    try refine ai ?_
    refine (hI _ _).2 ⟨M.set i ⟨m.group,m.rp,Bh m.wp r.pages,m.ro,Bh m.wo 1⟩,?_⟩
    and_intros
    .exact by rw [htk,lfa,<- hM];exact hst.symm
    .exact by rw [List.length_set];exact hMl
    all_goals exact cl10
 ·rw [ltl (by omega)] at hM
  rw [<- hM]
  exact z2 hH hge
theorem LA {t:Tr} {d:Dv} (h:DvOk t d) {r:Rq} (hr:Aw r=true):1<=BI d r/\BI d r<=4098000000:=by
 have:=XH (Ec.1 h.cfg).1 hr d.head
 unfold BI
 omega
theorem FK {t:Tr} {d:Dv} (h:DvOk t d):0<=d.now*d.speed/\d.now*d.speed<=1048576*1000000:=by
 obtain ⟨_,h1,_⟩:=Ec.1 h.cfg
 exact BZ h.now.1 h.now.2 (by omega) h1.2
theorem IT {t:Tr} {d:Dv} (h:DvOk t d) (hb:¬ d.now*d.speed<=d.free) {r:Rq} (hr:Aw r=true):1<=Bn d r/\Bn d r<=1052674000000/\d.free<Bn d r:=by
 have h1:=LA h hr
 have h2:=FK h
 obtain ⟨_,h3,_⟩:=Ec.1 h.cfg
 have h4:=h.free
 have h5:(d.now - 1)*d.speed=d.now*d.speed - d.speed:=by rw [Int.sub_mul,Int.one_mul]
 unfold Bn
 rw [h5]
 omega
theorem KP {t:Tr} {d:Dv} (h:DvOk t d) (hb:¬ d.now*d.speed<=d.free) {r:Rq} (hr:Aw r=true):d.now+1<=A7 d r/\A7 d r<=1125899906842624:=by
 obtain ⟨h1,h2,_⟩:=IT h hb hr
 obtain ⟨_,h3,_⟩:=Ec.1 h.cfg
 have h4:=h.now
 have h5:(Bn d r+d.speed - 1) / d.speed<=Bn d r+d.speed - 1:=Int.ediv_le_self _ (by omega)
 unfold A7
 omega
theorem YZ {t:Tr} {d:Dv} (h:DvOk t d) (hb:¬ d.now*d.speed<=d.free) {g:Int} {r:Rq} (hq:Be d.queue g=some r) {v:List Ch} (hv:AscOk (Ag t.nodes) 0 1152921504606846976 v):DvOk t (Ds t d g r v):=by
 obtain ⟨hm,hg⟩:=HD hq
 obtain ⟨hs,hk⟩:=h.q r hm
 have hs':=CL.1 hs
 have hf:=IT h hb hs
 have hd:=KP h hb hs
 have hfl:=Eh.1 h.fl
 have hn:=h.now
 refine ⟨h.tree,h.cfg,h.now,?_,?_,h.w,h.dp,hv,?_,IX (t:=t) (by omega) _ _ h.bk,fun x hx=>h.q x ((P3 g d.queue).subset hx),Eh.2 ⟨fun x hx=>?_,Wv _ hfl.2.1,fun q hq=>by cases hq⟩⟩
 ·show 0<=Bn d r/\Bn d r<=_;omega
 ·show 0<=r.at_+r.pages/\r.at_+r.pages<=_;omega
 ·have h1:=Fe hq
  have h2:=h.len
  show (BA d.queue g).length+(Cy d.flights _).length<=256
  rw [Lt]
  omega
 ·rcases Qm.1 hx with rfl|hx
  .exact ⟨⟨hs,hk⟩,by simp only;omega,hd.2⟩
  .exact hfl.1 x hx
structure StepD (t:Tr) (d:Dv) (g:Int) (r:Rq) (v:List Ch):Prop where
 busy:¬ d.now*d.speed<=d.free
 next:g=AZ t d.v (d.now*d.speed) 0 (Bm (A5 t d [] d.queue))
 pos:g ≠ 0
 first:Be d.queue g=some r
 issue:Cb t d.v g (Cq t d g) (BI d r) (d.now*d.speed) d.margin=(v,0)
def Kb (t:Tr) (d:Dv):Prop:=d.now*d.speed<=d.free \/ AZ t d.v (d.now*d.speed) 0 (Bm (A5 t d [] d.queue))=0 \/
 Be d.queue (AZ t d.v (d.now*d.speed) 0 (Bm (A5 t d [] d.queue)))=none \/
 ∃ r,Be d.queue (AZ t d.v (d.now*d.speed) 0 (Bm (A5 t d [] d.queue)))=some r/\(Cb t d.v (AZ t d.v (d.now*d.speed) 0 (Bm (A5 t d [] d.queue))) (Cq t d (AZ t d.v (d.now*d.speed) 0 (Bm (A5 t d [] d.queue)))) (BI d r) (d.now*d.speed) d.margin).2 ≠ 0
theorem KM (t:Tr) (k:Nat) (d:Dv):(Kb t d/\Cv t (k+1) d=d) \/ ∃ g r v,StepD t d g r v/\Cv t (k+1) d=Cv t k (Ds t d g r v):=by
 unfold Kb
 rw [Cv]
 by_cases h1:d.now*d.speed<=d.free
 ·rw [if_pos h1];exact .inl ⟨.inl h1,rfl⟩
 rw [if_neg h1]
 simp only
 generalize hg:AZ t d.v (d.now*d.speed) 0 (Bm (A5 t d [] d.queue))=g
 by_cases h2:g=0
 ·rw [if_pos h2];exact .inl ⟨.inr (.inl h2),rfl⟩
 rw [if_neg h2]
 cases h3:Be d.queue g with
 | none=>exact .inl ⟨.inr (.inr (.inl rfl)),rfl⟩
 | some r =>
  simp only
  generalize hi:Cb t d.v g (Cq t d g) (BI d r) (d.now*d.speed) d.margin=i
  obtain ⟨v,e⟩:=i
  by_cases h4:e=0
  ·subst h4
   rw [if_neg (fun h=>h rfl)]
   exact .inr ⟨g,r,v,⟨h1,hg.symm,h2,h3,hi⟩,rfl⟩
  ·rw [if_pos h4]
   exact .inl ⟨.inr (.inr (.inr ⟨r,rfl,by rw [hi];exact h4⟩)),rfl⟩
theorem I1 {t:Tr} {P:Dv->Prop} (hs:∀ d g r v,P d->StepD t d g r v->P (Ds t d g r v)):∀ (k:Nat) (d:Dv),P d->P (Cv t k d)
 | 0,d,h=>h
 | k+1,d,h=>by
  rcases KM t k d with ⟨_,e⟩|⟨g,r,v,st,e⟩
  .rw [e];exact h
  .rw [e];exact I1 hs k _ (hs d g r v h st)
theorem LG {t:Tr} {d:Dv} {g:Int} {r:Rq} {v:List Ch} (h:DvOk t d) (st:StepD t d g r v):DvOk t (Ds t d g r v):=by
 refine YZ h st.busy st.first ?_
 have:=OU (t:=t) (a:=d.v) (id:=g) (share:=Cq t d g) (cost:=BI d r) (now:=d.now*d.speed) (margin:=d.margin) (by rw [st.issue])
 rw [st.issue] at this
 exact this
theorem Z9 {t:Tr} (k:Nat) {d:Dv} (h:DvOk t d):DvOk t (Cv t k d):=I1 (P:=DvOk t) (fun _ _ _ _ h st=>LG h st) k d h
theorem PP {t:Tr} {d:Dv} (h:DvOk t d) (hn:d.now<1048576):DvOk t (Bx t d):=Z9 _ (LZ h hn)
theorem V8 (t:Tr) (d:Dv):(Bx t d).now=d.now+1/\(Bx t d).speed=d.speed/\(Bx t d).m=d.m/\(Bx t d).margin=d.margin/\(Bx t d).weights=d.weights/\(Bx t d).depths=d.depths :=
 I1 (P:=fun x=>x.now=d.now+1/\x.speed=d.speed/\x.m=d.m/\x.margin=d.margin/\x.weights=d.weights/\x.depths=d.depths) (fun _ _ _ _ h _=>h) _ _ ⟨rfl,rfl,rfl,rfl,rfl,rfl⟩
theorem Zp {α:Type} (p:α->Bool) (l:List α):(l.takeWhile p).length+(l.dropWhile p).length=l.length:=by
 rw [<- lla,List.takeWhile_append_dropWhile]
theorem V9 (t:Tr) (d:Dv):(Bx t d).queue.length+(Bx t d).flights.length+(CF d).length=d.queue.length+d.flights.length:=by
 have h:=I1 (t:=t) (P:=fun x=>x.queue.length+x.flights.length=(Bs d).queue.length+(Bs d).flights.length) (fun x g r v h st=>by
  have:=Fe st.first
  show (BA x.queue g).length+(Cy x.flights _).length=_
  rw [Lt]
  omega) (d.queue.length+1) (Bs d) rfl
 have h2:=Zp (fun f:Fl=>decide (f.done<=d.now+1)) d.flights
 have h3:(Bs d).flights=d.flights.dropWhile (fun f=>decide (f.done<=d.now+1)):=rfl
 have h4:(Bs d).queue=d.queue:=rfl
 rw [h3,h4] at h
 show (Cv t (d.queue.length+1) (Bs d)).queue.length+(Cv t (d.queue.length+1) (Bs d)).flights.length+(d.flights.takeWhile _).length=_
 omega
theorem HA {t:Tr} {d:Dv} {x:Int}:∀ {q:List Rq} {seen:List Int},x∈A5 t d seen q ↔ x ∉ seen/\∃ r,Be q x=some r/\C2 t d r=true
 | [], seen=>by simp [A5, Be]
 | r :: q,seen=>by
  rw [A5,lmp,HA (q:=q)]
  rw [show Be (r::q) x=if r.group=x then some r else Be q x from rfl]
  by_cases hx:r.group=x
  ·subst hx
   simp only [if_true,lmk,true_or,not_true_eq_false,false_and,or_false,osi,exists_eq_left']
   by_cases hs:r.group∈seen
   ·simp [hs]
   ·by_cases hp:C2 t d r=true<;>simp [hs,hp]
  ·have hx':¬ x=r.group:=fun e=>hx e.symm
   simp only [if_neg hx,lmk,hx',false_or]
   constructor
   ·rintro (h|h)
    ·exfalso
     split at h
     ·cases h
     ·split at h
      .rw [List.mem_singleton] at h;exact hx' h
      .cases h
    .exact h
   .exact fun h=>.inr h
theorem Iw {t:Tr} {d:Dv}:∀ {q:List Rq} {seen:List Int},(A5 t d seen q).Nodup
 | [],seen=>List.nodup_nil
 | r::q,seen=>by
  rw [A5]
  by_cases hs:r.group∈seen
  ·rw [if_pos hs];exact Iw
  ·rw [if_neg hs]
   by_cases hp:C2 t d r=true
   ·rw [if_pos hp,List.singleton_append,List.nodup_cons]
    exact ⟨fun h=>(HA.1 h).1 (lms ..),Iw⟩
   .rw [if_neg hp];exact Iw
theorem On (t:Tr) (d:Dv):∀ (q:List Rq) (seen:List Int),(A5 t d seen q).length<=q.length
 | [],seen=>lrf _
 | r::q,seen=>by
  have:=On t d q (r.group::seen)
  rw [A5,lla,llc]
  split
  .simp;omega
  .split<;>simp<;>omega
theorem QS {t:Tr} {a:List Ch} {now:Int}:∀ (l pre:List Int) (best:Int),NInv t a now pre best->NInv t a now (pre++l) (AZ t a now best l)
 | [],pre,best,h=>by rw [lan];exact h
 | x::l,pre,best,h=>by
  rw [AZ,show pre++x::l=(pre++[x])++l by simp]
  refine QS l _ _ ?_
  by_cases hm:CI t a x now=true
  ·by_cases hb:best=0 \/ Ak a x<Ak a best \/ (Ak a x=Ak a best/\x<best)
   ·rw [if_pos ⟨hm,hb⟩]
    exact h.take hm (QX hm) hb
   ·rw [if_neg (fun h=>hb h.2)]
    exact h.keep hb
  ·rw [if_neg (fun h=>hm h.1)]
   exact h.skip (by simpa using hm)
theorem Lq (t:Tr) (a:List Ch) (now:Int) (l:List Int):NInv t a now l (AZ t a now 0 l):=by
 have:=QS l [] 0 (t:=t) (a:=a) (now:=now) (Or.inl ⟨rfl,fun x hx=>by cases hx⟩)
 rwa [lna] at this
theorem Z0 {t:Tr} {a:List Ch} {now:Int} {l:List Int} {b c:Int} (h:NInv t a now l b) (h':NInv t a now l c):b=c:=by
 rcases h with ⟨h1,h2⟩|⟨h1,h2,h3,h4⟩<;>rcases h' with ⟨g1,g2⟩|⟨g1,g2,g3,g4⟩
 ·omega
 ·rw [h2 c g2] at g3;cases g3
 ·rw [g2 b h2] at h3;cases h3
 ·have e1:=h4 c g2 g3
  have e2:=g4 b h2 h3
  omega
theorem zbv {t:Tr} {a:List Ch} {now:Int} {l:List Int} (h:AZ t a now 0 l ≠ 0):AZ t a now 0 l∈l/\CI t a (AZ t a now 0 l) now=true:=by
 rcases Lq t a now l with ⟨h1,_⟩|⟨_,h2,h3,_⟩
 .exact absurd h1 h
 .exact ⟨h2,h3⟩
theorem K5 {l:List Int} {x:Int}:x∈Bm l ↔ x∈l:=(List.mergeSort_perm _ _).mem_iff
theorem OA {t:Tr} {d:Dv} (h:AZ t d.v (d.now*d.speed) 0 (Bm (A5 t d [] d.queue)) ≠ 0):∃ r,Be d.queue (AZ t d.v (d.now*d.speed) 0 (Bm (A5 t d [] d.queue)))=some r/\C2 t d r=true:=by
 have:=(HA.1 (K5.1 (zbv h).1)).2
 exact this
theorem KN {g:Int} {l:List Rq} {r:Rq} (h:Be l g=some r):∃ i:Nat,BR (fun c:Rq=>decide (c.group=g)) l=i/\l[i]?=some r/\BA l g=l.take i++l.drop (i+1):=by
 have key:∀ (l:List Rq),Be l g=some r->∃ i:Nat,l[i]?=some r/\r.group=g/\(∀ (j:Nat) (n:Rq),j<i->l[j]?=some n->decide (n.group=g)=false)/\BA l g=l.take i++l.drop (i+1):=by
  intro l
  induction l with
  | nil=>intro h;cases h
  | cons x l ih =>
   intro h
   unfold Be at h
   by_cases hx:x.group=g
   ·rw [if_pos hx] at h
    cases h
    exact ⟨0,rfl,hx,by omega,by simp [BA,hx]⟩
   ·rw [if_neg hx] at h
    obtain ⟨i,h1,h2,h3,h4⟩:=ih h
    refine ⟨i+1,by simpa using h1,h2,fun j n hj hn=>?_,by simp [BA,hx,h4]⟩
    cases j with
    | zero=>simp at hn;subst hn;simpa using hx
    | succ j=>exact h3 j n (by omega) (by simpa using hn)
 obtain ⟨i,h1,h2,h3,h4⟩:=key l h
 exact ⟨i,FY h1 h3 (by simpa using h2),h1,h4⟩
theorem Oe {l:List Fl} (hs:l.Pairwise fun a b=>a.done<=b.done) (x:Int):∀ (j:Nat) (f:Fl),(l.takeWhile fun f=>decide (f.done<=x)).length<=j->l[j]?=some f->x<f.done:=by
 induction l with
 | nil=>intro j f _ hf;simp at hf
 | cons a l ih =>
  rw [lpw] at hs
  intro j f hj hf
  by_cases ha:a.done<=x
  ·rw [List.takeWhile_cons_of_pos (by simpa using ha),llc] at hj
   cases j with
   | zero=>omega
   | succ j=>exact ih hs.2 j f (by omega) (by simpa using hf)
  ·cases j with
   | zero=>simp at hf;subst hf;omega
   | succ j =>
    have:=hs.1 f (lmg (by simpa using hf))
    omega
theorem PW (f:Cp->Cp) (id:Int):∀ l:List Cp,(BQ l id f).length=l.length
 | []=>rfl
 | c::l=>by
  unfold BQ
  split
  .rfl
  .simp [PW f id l]
theorem Od (t:Tr) (l:List Cp) (r:Rq):(Fi t l r).length=l.length:=by
 unfold Fi
 generalize ancF t.nodes t.nodes.length r.group=A
 induction A generalizing l with
 | nil=>rfl
 | cons g A ih=>rw [List.foldl_cons,ih,PW]
theorem QA {t:Tr} {d:Dv} (h:DvOk t d) (hs:d.Small) (hb:¬ d.now*d.speed<=d.free) {g:Int} {r:Rq} (hq:Be d.queue g=some r) {v:List Ch} {e:Int} (hi:Cb t d.v g (Cq t d g) (BI d r) (d.now*d.speed) d.margin=(v,e)) :
  V 55 [.ptr (.arg 0 0) 0 0,.p (.int .i64 g)] (mH t d)=some (if e=0 then (.p (.bool true),[Hj t (Ds t d g r v) (.fresh 2 (v.map Ch.pv)) 1 1,.arr 2 (d.weights.map Ch.pv),.arr 21 ((Fi t d.buckets r).map Cp.pv),.arr 3 (d.depths.map Dp.pv),.box [.undef,.fresh 6 ((BA d.queue g).map Rq.pv)],.box [.undef,.fresh 7 ((Cy d.flights ⟨r,A7 d r⟩).map Fl.pv)]]) else (.p (.bool false),mH t d)):=by
 refine Ac (vf:=vf55) rfl ?_
 have hlen:=h.tree.len
 have hql:=h.len
 obtain ⟨hs1,hs2,hs3,hs4,hs5,hs6⟩:=id hs
 obtain ⟨hmem,hgr⟩:=HD hq
 obtain ⟨hsr,hkn⟩:=h.q r hmem
 rw [hgr] at hkn
 obtain ⟨n,hn,hid⟩:=CY hkn
 obtain ⟨ni,hni⟩:=lgm hn
 obtain ⟨hmd,hsp,hmg⟩:=Ec.1 h.cfg
 have i0:=zbP d.queue g hs5
 obtain ⟨i,hix,hir,hrem⟩:=KN hq
 rw [hix] at i0
 have hil:=(lgs.1 hir).1
 have i1:=zb5 d.m r d.head hmd hsr h.head
 have i2:=Y7 t d hs5 hs6
 have hact:(actL d).length<1000000:=by
  unfold actL
  rw [lla,llm,llm]
  omega
 have i3:=Zs h.tree h.w (actL d) hact hni
 rw [hid] at i3
 have hsh:shr t (Ao d.weights) (onB t (actL d)) g=Cq t d g:=rfl
 rw [hsh] at i3
 have i4:=zae t d.v g (Cq t d g) (BI d r) (d.now*d.speed) d.margin h.tree.fits (by omega) hs4
 rw [hi] at i4
 simp only at i4
 have hco:=LA h hsr
 have hcd:max (Cx d.m r d.head) 1=BI d r:=rfl
 have hbr:=FK h
 generalize Cq t d g=share at i3 i4 hi
 by_cases he:e=0
 ·rw [if_pos he]
  subst he
  have i5:=Zo h hs v r hsr
  have hM:=Od t d.buckets r
  have i6:V 128 [.own (.arg 0 0) 0 0 d.queue.length,.p (.int .i64 i),.p (.int .i64 ((i:Int)+1))] [.arr 6 (d.queue.map Rq.pv)]=some (.own (.arg 0 0) 1 0 (BA d.queue g).length,[.box [.undef,.fresh 6 ((BA d.queue g).map Rq.pv)]]):=by
   have:=zcC (xs:=d.queue.map Rq.pv) (i:=i) (j:=(i:Int)+1) (by rw [llm];omega) (by omega) (by omega) (by rw [llm];omega)
   rw [llm,Int.toNat_natCast,show ((i:Int)+1).toNat=i+1 by omega,show d.queue.length - (i+1 - i)=(BA d.queue g).length by have:=Fe hq;omega] at this
   rw [this,hrem,lma,List.map_take,List.map_drop]
  have hrl:=Fe hq
  have hfr:=IT h hb hsr
  have hdn:=KP h hb hsr
  have hsr':=CL.1 hsr
  have hnw:=h.now
  have hn1:(d.now - 1)*d.speed=d.now*d.speed - d.speed:=by rw [Int.sub_mul,Int.one_mul]
  have hf0:=h.free
  have hfd:max d.free ((d.now - 1)*d.speed)+BI d r=Bn d r:=rfl
  have hdd:max (d.now+1) ((Bn d r+d.speed - 1) / d.speed)=A7 d r:=rfl
  have hqu:(Bn d r+d.speed - 1).tdiv d.speed=(Bn d r+d.speed - 1) / d.speed:=Int.tdiv_eq_ediv_of_nonneg (by omega)
  have hq0:0<=(Bn d r+d.speed - 1) / d.speed:=Int.ediv_nonneg (by omega) (by omega)
  have hq1:(Bn d r+d.speed - 1) / d.speed<=Bn d r+d.speed - 1:=Int.ediv_le_self _ (by omega)
  have hsp0:¬ d.speed=0:=by omega
  simp -implicitDefEqProofs (disch:=omega) only [vf55,Mq,i0,hil,hir,i1,i2,i3,hcd,i4,i5,i6,hfd,hqu,hsp0,hdd,go_sem]
  have hso:=(Eh.1 h.fl).2.1
  have hse:=Oe hso (A7 d r)
  have htl:=fun k=>Ih (p:=fun f:Fl=>decide (f.done<=A7 d r)) (l:=d.flights) (k:=k)
  have hNl:(d.flights.takeWhile fun f=>decide (f.done<=A7 d r)).length<=d.flights.length:=(List.takeWhile_sublist _).length_le
  have htd:=GT (p:=fun f:Fl=>decide (f.done<=A7 d r)) (l:=d.flights)
  have hin:Cy d.flights ⟨r,A7 d r⟩=d.flights.take (d.flights.takeWhile fun f=>decide (f.done<=A7 d r)).length++⟨r,A7 d r⟩::d.flights.drop (d.flights.takeWhile fun f=>decide (f.done<=A7 d r)).length:=by rw [htd.1,htd.2];rfl
  generalize hN:(d.flights.takeWhile fun f=>decide (f.done<=A7 d r)).length=N at hse htl hNl hin
  have r5:Hj t (Ds t d g r v) (.fresh 2 (v.map Ch.pv)) 1 1=Ob.box [.p (.int .i64 d.m.rb),.p (.int .i64 d.m.rp),.p (.int .i64 d.m.wb),.p (.int .i64 d.m.wp),.p (.int .i64 d.m.seek),.p (.int .i64 d.speed),.p (.int .i64 d.margin),.p (.int .i64 d.now),.p (.int .i64 (Bn d r)),.p (.int .i64 (r.at_+r.pages)),VVal.own (Id.arg 1 0) 0 0 d.weights.length,VVal.own (Id.arg 2 0) 0 0 d.buckets.length,VVal.own (Id.arg 3 0) 0 0 d.depths.length,.fresh 2 (v.map Ch.pv),VVal.own (Id.arg 4 0) 1 0 (BA d.queue g).length,VVal.own (Id.arg 5 0) 1 0 (d.flights.length+1),.p (An t.nodes),.p (.int .i64 t.next)]:=by
   unfold Hj
   simp only [Ds,Lt,hM]
  rw [r5,hin]
  have i7:=fun (m:Nat) (hm:m<=d.flights.length)=>zcu (xs:=d.flights.map Fl.pv) (x:=Fl.pv ⟨r,A7 d r⟩) (i:=m) (by rw [llm];omega) (by omega) (by rw [llm];omega)
  simp only [llm,Int.toNat_natCast] at i7
  simp only [Fl.pv] at i7
  obtain ⟨A,hA⟩:=lpI fun k s=>∃ (m:Nat),m+k=d.flights.length/\s.pe 0=.ptr (Id.arg 0 0) 0 0/\s.pe 6=.ptr (.slot 6 0) 0 0/\s.pe 13=.p (.int .i64 (A7 d r))/\s.pe 14=.p (.int .i64 (m:Int))/\s.h (.arg 0 0)=some (0,Ob.box [.p (.int .i64 d.m.rb),.p (.int .i64 d.m.rp),.p (.int .i64 d.m.wb),.p (.int .i64 d.m.wp),.p (.int .i64 d.m.seek),.p (.int .i64 d.speed),.p (.int .i64 d.margin),.p (.int .i64 d.now),.p (.int .i64 (Bn d r)),.p (.int .i64 (r.at_+r.pages)),VVal.own (Id.arg 1 0) 0 0 d.weights.length,VVal.own (Id.arg 2 0) 0 0 d.buckets.length,VVal.own (Id.arg 3 0) 0 0 d.depths.length,.own (.slot 95 1) 0 0 v.length,VVal.own (Id.arg 4 0) 1 0 (BA d.queue g).length,VVal.own (Id.arg 5 0) 0 0 d.flights.length,.p (An t.nodes),.p (.int .i64 t.next)])/\s.h (.arg 1 0)=some (0,Ob.arr 2 (List.map Ch.pv d.weights))/\s.h (.arg 2 0)=some (0,Ob.arr 21 (List.map Cp.pv (Fi t d.buckets r)))/\s.h (.arg 3 0)=some (0,Ob.arr 3 (List.map Dp.pv d.depths))/\s.h (.arg 4 0)=some (1,Ob.arr 6 (List.map Rq.pv (BA d.queue g)))/\s.h (.arg 5 0)=some (0,Ob.arr 7 (List.map Fl.pv d.flights))/\s.h (.slot 6 0)=some (0,Ob.box [.p (.int .i64 r.task),.p (.int .i64 r.group),.p (.int .i64 r.at_),.p (.int .i64 r.pages),.p (.bool r.write),.p (.int .i64 r.time)])/\s.h (.slot 95 1)=some (0,Ob.arr 2 (List.map Ch.pv v))
  refine Aj ((d.flights.length - N)) A ?_ ?_
  ·refine (hA _ _).2 ⟨d.flights.length,?_⟩
   and_intros
   ·exact cl3
   all_goals exact cl4
  intro k s hk hAk
  obtain ⟨m,hmk,hH⟩:=(hA _ _).1 hAk
  clear hAk
  by_cases hkN:k<d.flights.length - N
  ·have hfm:d.flights[m - 1]?=some d.flights[m - 1]:=lgg (by omega)
   have hd:=hse (m - 1) _ (by omega) hfm
   generalize d.flights[m - 1]=f at hfm hd
   have hm0:(0:Int)<m:=by omega
   have hm1:(0:Int)<=(m:Int) - 1:=by omega
   have hm2:((m:Int) - 1).toNat=m - 1:=by omega
   have hm3:m - 1<d.flights.length:=by omega
   simp -implicitDefEqProofs (disch:=omega) only [hH,hm0,hm1,hm2,hm3,hfm,hd,go_sem]
   try refine ai ?_
   refine (hA _ _).2 ⟨m - 1,?_⟩
   and_intros
   ·omega
   all_goals exact cl4
  ·have hmN:m=N:=by omega
   subst hmN
   by_cases hm00:m=0
   ·have hm0:¬ (0:Int)<m:=by omega
    simp -implicitDefEqProofs (disch:=omega) only [hH,hm0,i7,lma,lpc,List.map_take,List.map_drop,go_sem]
   ·obtain ⟨f,hfm,hpf⟩:=htl (m - 1) (by omega)
    have hd:¬ A7 d r<f.done:=by have:=of_decide_eq_true hpf;omega
    have hm0:(0:Int)<m:=by omega
    have hm1:(0:Int)<=(m:Int) - 1:=by omega
    have hm2:((m:Int) - 1).toNat=m - 1:=by omega
    have hm3:m - 1<d.flights.length:=by omega
    simp -implicitDefEqProofs (disch:=omega) only [hH,hm0,hm1,hm2,hm3,hfm,hd,i7,lma,lpc,List.map_take,List.map_drop,go_sem]
 ·rw [if_neg he]
  exact z9 i0 hil hir i1 i2 i3 hcd i4 he
abbrev dvF (d:Dv) (v:VVal):VVal:=.agg [.p (.int .i64 d.m.rb),.p (.int .i64 d.m.rp),.p (.int .i64 d.m.wb),.p (.int .i64 d.m.wp),.p (.int .i64 d.m.seek),.p (.int .i64 d.speed),.p (.int .i64 d.margin),.p (.int .i64 d.now),.p (.int .i64 d.free),.p (.int .i64 d.head),.fresh 2 (d.weights.map Ch.pv),.fresh 21 (d.buckets.map Cp.pv),.fresh 3 (d.depths.map Dp.pv),v,.fresh 6 (d.queue.map Rq.pv),.fresh 7 (d.flights.map Fl.pv)]
abbrev EA (m:Mdl) (speed margin:Int):Dv:=⟨m,speed,margin,0,0,0,[],[],[],[],[],[]⟩
theorem zb4 (m:Mdl) (speed margin:Int) (h:Dc m speed margin=true):V 28 [FD m speed margin] []=some (.tup [dvF (EA m speed margin) (.fresh 2 []),.p (.int .i64 0)],[]):=by
 refine Ac (vf:=vf28) rfl ?_
 have i0:=OP m speed margin
 rw [h] at i0
 refine w1 i0 ?_
 rfl
theorem GV (t:Tr) (d:Dv) (hs:d.Small):V 50 [t.vv,d.vv] []=some (.boxed [.p (.int .i64 d.m.rb),.p (.int .i64 d.m.rp),.p (.int .i64 d.m.wb),.p (.int .i64 d.m.wp),.p (.int .i64 d.m.seek),.p (.int .i64 d.speed),.p (.int .i64 d.margin),.p (.int .i64 d.now),.p (.int .i64 d.free),.p (.int .i64 d.head),.fresh 2 (d.weights.map Ch.pv),.fresh 21 (d.buckets.map Cp.pv),.fresh 3 (d.depths.map Dp.pv),.p (Ap d.v),.fresh 6 (d.queue.map Rq.pv),.fresh 7 (d.flights.map Fl.pv),.p (An t.nodes),.p (.int .i64 t.next)],[]):=by
 refine Ac (vf:=vf50) rfl ?_
 obtain ⟨hs1,hs2,hs3,hs4,hs5,hs6⟩:=hs
 have c1:=zaD (xs:=d.weights.map Ch.pv) (by simpa using hs1)
 have c2:=zaG (xs:=d.buckets.map Cp.pv) (by simpa using hs2)
 have c3:=zaF (xs:=d.depths.map Dp.pv) (by simpa using hs3)
 have c4:=zaH (xs:=d.v.map Ch.pv) (by simpa using hs4)
 have c5:=zaE (xs:=d.queue.map Rq.pv) (by simpa using hs5)
 have c6:=Qy (xs:=d.flights.map Fl.pv) (by simpa using hs6)
 exact z6 c1 c2 c3 c4 c5 c6
theorem zaJ (t:Tr) (d:Dv) (r:Rq) (h:DvOk t d) (hs:d.Small) (hr:Aw { r with time:=0 }=true) (hk:Ag t.nodes r.group=true):V 49 [t.vv,d.vv,r.vv] []=some (.p (.int .i64 0),[]):=by
 refine Ac (vf:=vf49) rfl ?_
 have hlen:=h.tree.len
 have i0:=EO t d h.tree.fits (by omega) hs
 rw [dvOk_iff.2 h] at i0
 have i1:=Ja { r with time:=0 }
 rw [hr] at i1
 have i2:=GM t r.group (by omega)
 rw [hk] at i2
 exact z3 i0 i1 i2
abbrev DL (d:Dv) (r:Rq):Dv:={ d with queue:=d.queue++[{ r with time:=d.now }] }
theorem KW (t:Tr) (d:Dv) (r:Rq) (h:DvOk t d) (hs:d.Small) (hr:Aw { r with time:=0 }=true) (hk:Ag t.nodes r.group=true) (hl:d.queue.length+d.flights.length<256):V 17 [t.vv,d.vv,r.vv] []=some (.tup [dvF (DL d r) (.p (Ap d.v)),.p (.int .i64 0)],[]):=by
 refine Ac (vf:=vf17) rfl ?_
 have i0:=zaJ t d r h hs hr hk
 have i1:=GV t d hs
 have hn:¬ (d.queue.length:Int)+d.flights.length=256:=by omega
 simp -implicitDefEqProofs (disch:=omega) only [vf17,J5,llm,i0,i1,hn,go_sem]
 simp only [dvF,DL,lma,lpc,lpn,Rq.pv]
theorem W8 (t:Tr) (d:Dv) (h:DvOk t d) (hs:d.Small):V 20 [t.vv,d.vv] []=some (.tup [.fresh 1 ((Bm (A5 t d [] d.queue)).map (.int .i64)),.p (.int .i64 0)],[]):=by
 refine Ac (vf:=vf20) rfl ?_
 have hlen:=h.tree.len
 have i0:=EO t d h.tree.fits (by omega) hs
 rw [dvOk_iff.2 h] at i0
 have i1:=GV t d hs
 have i2:=P4 h hs
 exact z3 i0 i1 i2
theorem Jy {t:Tr} (h:TreeOk t) {lo hi:Int} {l:List Ch} (hl:AscOk (Ag t.nodes) lo hi l):l.length<1000000:=by
 have:=HG hl
 have:=h.len
 omega
theorem GZ {t:Tr} {l:List Int} (hp:l.Pairwise fun a b=>a<b) (hk:∀ x∈l,Ag t.nodes x=true):l.length<=t.nodes.length:=by
 have:=Iq l (t.nodes.map (·.id)) (hp.imp fun h e=>by omega) fun x hx=>by
  obtain ⟨n,hn,rfl⟩:=CY (hk x hx)
  exact List.mem_map_of_mem hn
 simpa using this
theorem GR {kn:Int->Bool}:∀ {l:List Dp} {p:Option Int},BT kn p l=true->(∀ c∈l,kn c.group=true)/\l.Pairwise (fun a b=>a.group<b.group)/\∀ q,p=some q->∀ c∈l,q<c.group
 | [],p,_=>⟨by simp,List.Pairwise.nil,by simp⟩
 | c::l,p,h=>by
  simp only [BT,bat,KI] at h
  obtain ⟨⟨⟨h1,h2⟩,_⟩,h4⟩:=h
  obtain ⟨e1,e2,e3⟩:=GR h4
  refine ⟨fun x hx=>?_,lpw.2 ⟨fun b hb=>e3 _ rfl b hb,e2⟩,fun q hq x hx=>?_⟩
  ·rcases lmk.1 hx with rfl|hx
   .exact h1
   .exact e1 x hx
  ·rcases lmk.1 hx with rfl|hx
   .exact h2 q hq
   .exact Int.lt_trans (h2 q hq) (e3 _ rfl x hx)
theorem Db {t:Tr} {d:Dv} (h:DvOk t d):d.Small:=by
 have hq:=h.len
 have ht:=h.tree.len
 obtain ⟨b1,b2,_⟩:=Cn.1 h.bk
 obtain ⟨d1,d2,_⟩:=GR h.dp
 have e1:=GZ (t:=t) (l:=d.buckets.map (·.group)) (List.pairwise_map.2 b2) (fun x hx=>by obtain ⟨c,hc,rfl⟩:=lmm.1 hx;exact (b1 c hc).1)
 have e2:=GZ (t:=t) (l:=d.depths.map (·.group)) (List.pairwise_map.2 d2) (fun x hx=>by obtain ⟨c,hc,rfl⟩:=lmm.1 hx;exact d1 c hc)
 rw [llm] at e1 e2
 exact ⟨Jy h.tree h.w,by omega,by omega,Jy h.tree h.v,by omega,by omega⟩
theorem QF {t:Tr} {d:Dv} (h:DvOk t d) (hs:d.Small) (hnow:d.now<1048576):V 19 [t.vv,d.vv] []=some (.tup [dvF (Bx t d) (.p (Ap (Bx t d).v)),.fresh 7 ((CF d).map Fl.pv),.p (.int .i64 0)],[]):=by
 refine Ac (vf:=vf19) rfl ?_
 have hlen:=h.tree.len
 have i0:=EO t d h.tree.fits (by omega) hs
 rw [dvOk_iff.2 h] at i0
 have i1:=GV t d hs
 have i2:=XN h hs hnow
 have hne:¬ d.now=1048576:=by omega
 have ha:=LZ h hnow
 have hbr:=FK ha
 refine w4 i0 i1 i2 hne ?_
 obtain ⟨I,hI⟩:=lpI fun k s=>∃ (x:Dv) (q1:Nat) (f1:Nat),DvOk t x/\Bx t d=Cv t (d.queue.length+1 - k) x/\x.queue.length+k=d.queue.length/\s.pe 2=.ptr (.slot 2 0) 0 0/\s.pe 4=.ptr (.slot 4 0) 0 0/\s.pe 7=.ptr (.slot 23 1) 0 0/\s.pe 8=.own (.slot 25 1) 0 0 (CF d).length/\s.pe 9=.p (.int .i64 (x.now*x.speed))/\s.h (.slot 2 0)=some (0,Ob.box [.p (An t.nodes),.p (.int .i64 t.next)])/\s.h (.slot 4 0)=some (0,Ob.box [.p (.int .i64 0),.p (.int .i64 0),.p (.int .i64 0),.p (.int .i64 0),.p (.int .i64 0),.p (.int .i64 0),.p (.int .i64 0),.p (.int .i64 0),.p (.int .i64 0),.p (.int .i64 0),.own (.slot 4 11) 0 0 0,.own (.slot 4 12) 0 0 0,.own (.slot 4 13) 0 0 0,.own (.slot 4 14) 0 0 0,.own (.slot 4 15) 0 0 0,.own (.slot 4 16) 0 0 0])/\s.h (.slot 4 11)=some (0,Ob.arr 2 [])/\s.h (.slot 4 12)=some (0,Ob.arr 21 [])/\s.h (.slot 4 13)=some (0,Ob.arr 3 [])/\s.h (.slot 4 14)=some (0,Ob.arr 2 [])/\s.h (.slot 4 15)=some (0,Ob.arr 6 [])/\s.h (.slot 4 16)=some (0,Ob.arr 7 [])/\s.h (.slot 23 12)=some (0,Ob.arr 2 (List.map Ch.pv x.weights))/\s.h (.slot 23 13)=some (0,Ob.arr 21 (List.map Cp.pv x.buckets))/\s.h (.slot 23 14)=some (0,Ob.arr 3 (List.map Dp.pv x.depths))/\s.h (.slot 23 16)=some (q1,Ob.arr 6 (List.map Rq.pv x.queue))/\s.h (.slot 23 17)=some (f1,Ob.arr 7 (List.map Fl.pv x.flights))/\s.h (.slot 25 1)=some (0,Ob.arr 7 (List.map Fl.pv (CF d)))/\∃ X,s.h (.slot 23 1)=some (0,Ob.box [.p (.int .i64 x.m.rb),.p (.int .i64 x.m.rp),.p (.int .i64 x.m.wb),.p (.int .i64 x.m.wp),.p (.int .i64 x.m.seek),.p (.int .i64 x.speed),.p (.int .i64 x.margin),.p (.int .i64 x.now),.p (.int .i64 x.free),.p (.int .i64 x.head),.own (.slot 23 12) 0 0 x.weights.length,.own (.slot 23 13) 0 0 x.buckets.length,.own (.slot 23 14) 0 0 x.depths.length,X,.own (.slot 23 16) q1 0 x.queue.length,.own (.slot 23 17) f1 0 x.flights.length,.p (An t.nodes),.p (.int .i64 t.next)])/\fz0 [53,63] s.h X=.p (Ap x.v)
 refine Aj ((d.queue.length+1)) I ?_ ?_
 ·refine (hI _ _).2 ⟨Bs d,0,1,?_⟩
  and_intros
  ·exact ha
  ·rfl
  ·rfl
  all_goals exact cl7
 intro k s hk hIk
 obtain ⟨x,q1,f1,hx,hT,hql,h2,h4,h7,h8,h9,hh2_0,hh4_0,hh4_11,hh4_12,hh4_13,hh4_14,hh4_15,hh4_16,hh23_12,hh23_13,hh23_14,hh23_16,hh23_17,hh25_1,hX⟩:=(hI _ _).1 hIk
 clear hIk
 obtain ⟨X,hh23,hX⟩:=hX
 have hxs:x.Small:=Db hx
 have hbx:=FK hx
 have hql2:=hx.len
 obtain ⟨fu,hfu⟩:∃ fu,d.queue.length+1 - k=fu+1:=⟨d.queue.length - k,by omega⟩
 rw [hfu] at hT
 have i3:=P4 hx hxs
 have hrl:=On t x x.queue []
 have hml:=Nf (A5 t x [] x.queue)
 have i4:=YB t x.v (Bm (A5 t x [] x.queue)) (x.now*x.speed) hx.tree.fits (by omega) hxs.v (by omega)
 rcases KM t fu x with ⟨hend,hS⟩|⟨g,r,v,hst,hS⟩
 ·rw [hS] at hT
  rw [hT]
  unfold Kb at hend
  generalize hg:AZ t x.v (x.now*x.speed) 0 (Bm (A5 t x [] x.queue))=g at i4 hend
  by_cases hb:x.now*x.speed<=x.free
  ·have hb':¬ x.free<x.now*x.speed:=by omega
   simp -implicitDefEqProofs (disch:=omega) only [h2,h4,h7,h8,h9,hh2_0,hh4_0,hh4_11,hh4_12,hh4_13,hh4_14,hh4_15,hh4_16,hh23_12,hh23_13,hh23_14,hh23_16,hh23_17,hh25_1,hX,hh23,hb',go_sem]
  ·have hb':x.free<x.now*x.speed:=by omega
   by_cases hg0:g=0
   ·simp -implicitDefEqProofs (disch:=omega) only [h2,h4,h7,h8,h9,hh2_0,hh4_0,hh4_11,hh4_12,hh4_13,hh4_14,hh4_15,hh4_16,hh23_12,hh23_13,hh23_14,hh23_16,hh23_17,hh25_1,hX,hh23,hb',i3,i4,hg0,go_sem]
   ·obtain ⟨r,hr,he⟩:∃ r,Be x.queue g=some r/\(Cb t x.v g (Cq t x g) (BI x r) (x.now*x.speed) x.margin).2 ≠ 0:=by
     rcases hend with e|e|e|e
     ·exact absurd e hb
     ·exact absurd e hg0
     ·obtain ⟨r,h1,_⟩:=OA (t:=t) (d:=x) (by rw [hg];exact hg0)
      rw [hg,e] at h1
      cases h1
     .exact e
    generalize hi:Cb t x.v g (Cq t x g) (BI x r) (x.now*x.speed) x.margin=ve at he
    obtain ⟨v,e⟩:=ve
    have i5:=QA hx hxs hb hr hi
    rw [if_neg he] at i5
    simp -implicitDefEqProofs (disch:=omega) only [h2,h4,h7,h8,h9,hh2_0,hh4_0,hh4_11,hh4_12,hh4_13,hh4_14,hh4_15,hh4_16,hh23_12,hh23_13,hh23_14,hh23_16,hh23_17,hh25_1,hX,hh23,hb',i3,i4,hg0,i5,go_sem]
 ·rw [hS] at hT
  have hb:=hst.busy
  have hg:=hst.next
  have hg0:=hst.pos
  have i5:=QA hx hxs hb hst.first hst.issue
  rw [if_pos rfl] at i5
  have hb':x.free<x.now*x.speed:=by omega
  rw [<- hg] at i4
  have hok:=LG hx hst
  have hrq:=Fe hst.first
  simp -implicitDefEqProofs (disch:=omega) only [h2,h4,h7,h8,h9,hh2_0,hh4_0,hh4_11,hh4_12,hh4_13,hh4_14,hh4_15,hh4_16,hh23_12,hh23_13,hh23_14,hh23_16,hh23_17,hh25_1,hX,hh23,hb',i3,i4,hg0,i5,go_sem]
  try refine ai ?_
  refine (hI _ _).2 ⟨Ds t x g r v,q1+1,f1+1,?_⟩
  and_intros
  .exact hok
  .exact by rw [hT,show d.queue.length+1 - (k+1)=fu by omega]
  .exact by show (BA x.queue g).length+(k+1)=_;omega
  all_goals exact cl7
structure Sg where
 weight:Int
 rp:Int
 wp:Int
 ro:Int
 wo:Int
 target:Int
abbrev Sg.vv (s:Sg) (dev:Int):VVal:=.agg [.p (.int .i64 dev),.p (.int .i64 s.weight),.p (.int .i64 s.rp),.p (.int .i64 s.wp),.p (.int .i64 s.ro),.p (.int .i64 s.wo),.p (.int .i64 s.target)]
def BO (n:Int):Prop:=(1<=n/\n<=1073741824) \/ n=maxR
structure SgOk (s:Sg):Prop where
 w:1<=s.weight/\s.weight<=10000
 rp:BO s.rp
 wp:BO s.wp
 ro:BO s.ro
 wo:BO s.wo
 t:0<=s.target/\s.target<=1048576
def A4 (rate least now:Int):Bk:=if rate=maxR then ⟨maxR,100,0,0,now⟩ else ⟨rate,100,max rate least,max rate least*100,now⟩
theorem LP {rate least now:Int} (h:BO rate) (hl:0<=least/\least<=4096) (hn:0<=now/\now<=1048576):AY now (A4 rate least now)=true:=by
 have hmx:maxR=4611686018427387904:=rfl
 rw [AE,Bc]
 unfold A4
 rcases h with h|h
 ·have hne:¬ rate=maxR:=by omega
  rw [if_neg hne]
  exact ⟨⟨by simp,hn,.inr ⟨hne,by simp only;omega,by simp only;omega,by simp only;omega⟩⟩,rfl,rfl⟩
 ·rw [if_pos h]
  exact ⟨⟨by simp,hn,.inl ⟨rfl,rfl,rfl⟩⟩,rfl,rfl⟩
theorem Fc (n:Int) (h:BO n):V 155 [.p (.int .i64 n),.p (.int .i64 1),.p (.int .i64 1073741824)] []=some (.p (.bool true),[]):=by
 refine Ac (vf:=vf155) rfl ?_
 have hmx:maxR=4611686018427387904:=rfl
 rcases h with ⟨h1,h2⟩|h
 ·exact z2 h1 h2
 ·have h1:1<=n:=by omega
  have h2:¬ n<=1073741824:=by omega
  have h':decide (n=4611686018427387904)=true:=decide_eq_true h
  exact z3 h1 h2 h'
theorem PG (u:Sg) (h:SgOk u):V 85 [.p (.slice 7 [.agg [.int .i64 0,.int .i64 u.weight,.int .i64 u.rp,.int .i64 u.wp,.int .i64 u.ro,.int .i64 u.wo,.int .i64 u.target]])] []=some (.p (.bool true),[]):=by
 refine Ac (vf:=vf85) rfl ?_
 have a1:=Fc u.rp h.rp
 have a2:=Fc u.wp h.wp
 have a3:=Fc u.ro h.ro
 have a4:=Fc u.wo h.wo
 have b1:¬ u.weight<1:=by have:=h.w;omega
 have b2:¬ 10000<u.weight:=by have:=h.w;omega
 have b3:¬ u.target<0:=by have:=h.t;omega
 have b4:¬ 1048576<u.target:=by have:=h.t;omega
 refine w0 ?_
 obtain ⟨I,hI⟩:=lpI fun k s=>s.pe 0=.p (PV.slice 7 [PV.agg [PV.int IntKind.i64 0,PV.int IntKind.i64 u.weight,PV.int IntKind.i64 u.rp,PV.int IntKind.i64 u.wp,PV.int IntKind.i64 u.ro,PV.int IntKind.i64 u.wo,PV.int IntKind.i64 u.target]])/\s.pe 3=.p (.int .i64 k)
 refine Aj (1) I ?_ ?_
 ·refine (hI _ _).2 ⟨?_,?_⟩
  all_goals exact cl4
 intro k s hk hIk
 obtain hH:=(hI _ _).1 hIk
 clear hIk
 refine w1 hH ?_
 refine Ae (fun hlt=>?_) (fun hge=>?_)
 ·have hk:k=0:=by omega
  have hg:∀ x:PV,([x]:List PV)[k]?=some x:=fun x=>by rw [hk];rfl
  have hk0:¬ (0:Int)<k:=by omega
  have hd:decide ((0:Int)<0)=false:=rfl
  have hd8:decide ((8:Int)<=0)=false:=rfl
  have hlt':k<1:=by omega
  simp -implicitDefEqProofs (disch:=omega) only [hH,hlt,hlt',hg,hk0,hd,hd8,a1,a2,a3,a4,b1,b2,b3,b4,go_sem]
  try refine ai ?_
  refine (hI _ _).2 ⟨?_,?_⟩
  all_goals exact cl4
 ·have hd1:decide (((1:Nat):Int)<=8)=true:=rfl
  exact z3 hH hge hd1
theorem GA (b:Bk) (h:BH b=true):V 153 [b.vv] []=some (.p (.bool true),[]):=by
 refine Ac (vf:=vf153) rfl ?_
 rw [Bc] at h
 obtain ⟨hp,hw,hc⟩:=h
 have p1:¬ b.per<1:=by omega
 have p2:¬ 1048576<b.per:=by omega
 have p3:¬ b.now<0:=by omega
 have p4:¬ 1048576<b.now:=by omega
 rcases hc with ⟨e,hb,hl⟩|⟨e,hr,hb,hl⟩
 ·have e':decide (b.rate=4611686018427387904)=true:=decide_eq_true e
  have b':decide (b.burst=0)=true:=decide_eq_true hb
  have l':decide (b.level=0)=true:=decide_eq_true hl
  exact z7 p1 p2 p3 p4 e' b' l'
 ·have e':¬ b.rate=4611686018427387904:=e
  have m:=BZ hb.1 hb.2 (show 0<=b.per by omega) hp.2
  obtain ⟨r1,r2⟩:=hr
  obtain ⟨b1,b2⟩:=hb
  obtain ⟨l1,l2⟩:=hl
  exact z11 p1 p2 p3 p4 e' r1 r2 b1 b2 l1 l2
theorem zby {rate least now:Int} (h:BO rate) (hl:0<=least/\least<=4096) (hn:0<=now/\now<=1048576):BH (A4 rate least now)=true:=(AE.1 (LP h hl hn)).1
theorem P7 (rate least now:Int) (h:BO rate) (hl:0<=least/\least<=4096) (hn:0<=now/\now<=1048576):V 191 [.p (.int .i64 rate),.p (.int .i64 100),.p (.int .i64 (if rate=maxR then 0 else max rate least)),.p (.int .i64 now)] []=some (.tup [(A4 rate least now).vv,.p (.int .i64 0)],[]):=by
 refine Ac (vf:=vf191) rfl ?_
 have hmx:maxR=4611686018427387904:=rfl
 have bv:=GA (A4 rate least now) (zby h hl hn)
 have d1:decide ((100:Int)<1)=false:=rfl
 have d2:decide ((1048576:Int)<100)=false:=rfl
 have d3:decide ((0:Int)<0)=false:=rfl
 have d4:decide ((1073741824:Int)<0)=false:=rfl
 rcases h with h|h
 ·have hne:¬ rate=maxR:=by omega
  have hne':¬ rate=4611686018427387904:=hne
  have hN:A4 rate least now=⟨rate,100,max rate least,max rate least*100,now⟩:=by unfold A4;rw [if_neg hne]
  rw [hN] at bv ⊢
  rw [if_neg hne]
  have hb:0<=max rate least/\max rate least<=1073741824:=by omega
  generalize max rate least=b at bv hb
  have b1:¬ b<0:=by omega
  have b2:¬ 1073741824<b:=by omega
  exact z6 hne' d1 d2 b1 b2 bv
 ·have hN:A4 rate least now=⟨rate,100,0,0,now⟩:=by unfold A4;rw [if_pos h,h]
  rw [hN] at bv ⊢
  rw [if_pos h]
  have h':decide (rate=4611686018427387904)=true:=decide_eq_true h
  simp -implicitDefEqProofs (disch:=omega) only [vf191,L9,h',d1,d2,d3,d4,bv,Int.zero_mul,go_sem]
theorem Ll (b:Bk) (now:Int) (h:BH b=true) (h1:b.now<=now) (h2:now<=1048576):V 136 [b.vv,.p (.int .i64 now)] []=some (.tup [(AD b now).vv,.p (.int .i64 0)],[]):=by
 refine Ac (vf:=vf136) rfl ?_
 have hv:=GA b h
 rw [Bc] at h
 obtain ⟨hp,hw,hc⟩:=h
 have n1:¬ now<0:=by omega
 have n2:¬ 1048576<now:=by omega
 have hlt:¬ now<b.now:=by omega
 unfold AD
 rcases hc with ⟨e,hb,hl⟩|⟨e,hr,hb,hl⟩
 ·rw [if_pos e]
  have e':decide (b.rate=4611686018427387904)=true:=decide_eq_true e
  exact z5 hv n1 n2 hlt e'
 ·rw [if_neg e,Int.min_comm]
  have e':¬ b.rate=4611686018427387904:=e
  have m1:=BZ hr.1 hr.2 (show 0<=now - b.now by omega) (show now - b.now<=1048576 by omega)
  have m2:=BZ hb.1 hb.2 (show 0<=b.per by omega) hp.2
  exact z5 hv n1 n2 hlt e'
theorem P6 (b:Bk) (h:BH b=true):V 229 [b.vv] []=some (.p (.int .i64 (AH b)),[]):=by
 refine Ac (vf:=vf229) rfl ?_
 have hv:=GA b h
 rw [Bc] at h
 obtain ⟨hp,hw,hc⟩:=h
 unfold AH
 rcases hc with ⟨e,hb,hl⟩|⟨e,hr,hb,hl⟩
 ·rw [if_pos e]
  have e':decide (b.rate=4611686018427387904)=true:=decide_eq_true e
  exact z2 hv e'
 ·rw [if_neg e]
  have e':¬ b.rate=4611686018427387904:=e
  have m2:=BZ hb.1 hb.2 (show 0<=b.per by omega) hp.2
  have hp0:¬ b.per=0:=by omega
  have hq:b.level.tdiv b.per=b.level / b.per:=Int.tdiv_eq_ediv_of_nonneg hl.1
  have hq0:0<=b.level / b.per:=Int.ediv_nonneg hl.1 (by omega)
  have hq1:b.level / b.per<=b.level:=Int.ediv_le_self _ hl.1
  exact z4 hv e' hp0 hq
theorem KF {b:Bk} (h:BH b=true):0<=AH b/\AH b<=1073741824:=by
 unfold AH
 split
 ·omega
 ·rename_i e
  rcases (Bc.1 h).2.2 with ⟨e',_⟩|⟨_,hr,hb,hl⟩
  ·exact absurd e' e
  ·have hp:=(Bc.1 h).1
   have h1:=Int.ediv_le_ediv (show 0<b.per by omega) hl.2
   rw [Int.mul_ediv_cancel _ (show b.per ≠ 0 by omega)] at h1
   have h2:0<=b.level / b.per:=Int.ediv_nonneg hl.1 (by omega)
   omega
def Dj (b:Bk) (n:Int):Int:=if b.rate=maxR then 0 else if b.level / b.per<n then 11 else 0
theorem I0 (b:Bk) (n:Int) (h:BH b=true) (hn:0<=n/\n<=4096):V 232 [b.vv,.p (.int .i64 b.now),.p (.int .i64 n)] []=some (.tup [(Bh b n).vv,.p (.int .i64 (Dj b n))],[]):=by
 refine Ac (vf:=vf232) rfl ?_
 have hw:=((Bc.1 h).2.1)
 have i0:=Ll b b.now h (Int.le_refl _) hw.2
 rw [HY h] at i0
 have i1:=P6 b h
 have n1:¬ n<0:=by omega
 have n2:¬ 1073741824<n:=by omega
 unfold Bh Dj
 by_cases e:b.rate=maxR
 ·rw [if_pos e,if_pos e]
  have e':decide (b.rate=4611686018427387904)=true:=decide_eq_true e
  exact z5 i0 i1 n1 n2 e'
 ·rw [if_neg e,if_neg e]
  have e':¬ b.rate=4611686018427387904:=e
  have e2:AH b=b.level / b.per:=by unfold AH;rw [if_neg e]
  rw [e2] at i1
  rcases (Bc.1 h).2.2 with ⟨e',_⟩|⟨_,hr,hb,hl⟩
  ·exact absurd e' e
  ·have hp:=(Bc.1 h).1
   by_cases hlt:b.level / b.per<n
   ·rw [if_pos hlt,if_pos hlt]
    exact z6 i0 i1 n1 n2 e' hlt
   ·rw [if_neg hlt,if_neg hlt]
    have hk:n*b.per<=b.level:=by
     have:=Int.mul_le_mul_of_nonneg_right (show n<=b.level / b.per by omega) (show 0<=b.per by omega)
     have h9:=Int.ediv_mul_le b.level (show b.per ≠ 0 by omega)
     omega
    have hk0:0<=n*b.per:=Int.mul_nonneg hn.1 (by omega)
    have hl1:=BZ hb.1 hb.2 (show 0<=b.per by omega) hp.2
    exact z6 i0 i1 n1 n2 e' hlt
def D8 (b:Bk) (rate least:Int):Bk:=if rate=maxR then A4 rate least b.now else { A4 rate least b.now with level:=(if b.rate=maxR then 0 else min (AH b) (max rate least))*100 }
theorem Wi (b:Bk) (rate least:Int) (hb:BH b=true) (h:BO rate) (hl:0<=least/\least<=4096):V 193 [b.vv,.p (.int .i64 rate),.p (.int .i64 100),.p (.int .i64 (if rate=maxR then 0 else max rate least)),.p (.int .i64 b.now)] []=some (.tup [(D8 b rate least).vv,.p (.int .i64 0)],[]):=by
 refine Ac (vf:=vf193) rfl ?_
 have hmx:maxR=4611686018427387904:=rfl
 have hw:=((Bc.1 hb).2.1)
 have i0:=Ll b b.now hb (Int.le_refl _) hw.2
 rw [HY hb] at i0
 have i1:=P6 b hb
 have i2:=P7 rate least b.now h hl hw
 have tr:=KF hb
 unfold D8
 rcases h with h|h
 ·have hne:¬ rate=maxR:=by omega
  have hne':¬ rate=4611686018427387904:=hne
  have hN:A4 rate least b.now=⟨rate,100,max rate least,max rate least*100,b.now⟩:=by unfold A4;rw [if_neg hne]
  rw [if_neg hne]
  rw [hN] at i2 ⊢
  rw [if_neg hne] at i2 ⊢
  have hb:0<=max rate least/\max rate least<=1073741824:=by omega
  generalize max rate least=bu at i2 hb
  by_cases e:b.rate=maxR
  ·rw [if_pos e]
   have e':decide (b.rate=4611686018427387904)=true:=decide_eq_true e
   simp -implicitDefEqProofs (disch:=omega) only [vf193,L8,i0,i2,hne',e',Int.zero_mul,go_sem]
  ·rw [if_neg e]
   have e':¬ b.rate=4611686018427387904:=e
   exact z5 i0 i1 i2 hne' e'
 ·rw [if_pos h] at i2 ⊢
  have h':decide (rate=4611686018427387904)=true:=decide_eq_true h
  rw [if_pos h]
  generalize A4 rate least b.now=z at i2
  exact z3 i0 i2 h'
theorem zb6 {b:Bk} {now rate least:Int} (hb:AY now b=true) (h:BO rate) (hl:0<=least/\least<=4096):AY now (D8 b rate least)=true:=by
 have hmx:maxR=4611686018427387904:=rfl
 obtain ⟨h1,h2,h3⟩:=AE.1 hb
 have hw:=(Bc.1 h1).2.1
 have hn:=LP h hl hw
 rw [h3] at hn
 unfold D8
 rw [h3]
 rcases h with h|h
 ·have hne:¬ rate=maxR:=by omega
  have tr:=KF h1
  rw [if_neg hne]
  have hN:A4 rate least now=⟨rate,100,max rate least,max rate least*100,now⟩:=by unfold A4;rw [if_neg hne]
  rw [hN,AE,Bc]
  refine ⟨⟨by simp,by simp only;omega,.inr ⟨hne,by simp only;omega,by simp only;omega,?_⟩⟩,rfl,rfl⟩
  simp only
  split<;>omega
 ·rw [if_pos h]
  exact hn
theorem Ol (L:List Int) (a:Nat) {t:Tr} (h:TreeOk t) (hL:L.length<4611686018427387904):∃ (r:Rq) (b:Nat),V 18 [.ptr (.arg 0 0) 0 0,t.vv] [AV L a]=some (r.vv,[AV L b])/\Aw { r with time:=0 }=true/\Ag t.nodes r.group=true:=by
 have hlen:=h.len
 have c1:=CP L a 6 hL (by omega)
 have x1:=Cl L a 6
 have y1:=Cm L a (n:=6) (by omega)
 generalize Af L a 6=a1 at c1
 have c2:=CP L a1 t.nodes.length hL (by omega)
 have x2:=Cl L a1 t.nodes.length
 have y2:=Cm L a1 (n:=t.nodes.length) (by omega)
 generalize Af L a1 t.nodes.length=a2 at c2
 have c3:=Bl L a2 [0,4,8,100,104,5000] hL (by decide) (by decide)
 have x3:=C9 L a2 (xs:=[0,4,8,100,104,5000]) (by decide)
 generalize Af L a2 ([0,4,8,100,104,5000]:List Int).length=a3 at c3
 have c4:=Bl L a3 [1,4,4,30,4096] hL (by decide) (by decide)
 have x4:=C9 L a3 (xs:=[1,4,4,30,4096]) (by decide)
 generalize Af L a3 ([1,4,4,30,4096]:List Int).length=a4 at c4
 have c5:=LU L a4 3 hL (by omega) (by omega)
 generalize Af L a4 3=a5 at c5
 have c6:=CP L a5 4 hL (by omega)
 have x6:=Cl L a5 4
 have y6:=Cm L a5 (n:=4) (by omega)
 generalize Af L a5 4=a6 at c6
 generalize AA L a 6=v1 at c1 x1 y1
 generalize AA L a1 t.nodes.length=v2 at c2 x2 y2
 generalize Ba L a2 [0,4,8,100,104,5000]=v3 at c3 x3
 generalize Ba L a3 [1,4,4,30,4096]=v4 at c4 x4
 generalize decide (AA L a4 3=3 - 1)=v5 at c5
 generalize AA L a5 4=v6 at c6 x6 y6
 obtain ⟨i,rfl⟩:∃ i:Nat,v2=i:=⟨v2.toNat,by omega⟩
 have hil:i<t.nodes.length:=by omega
 have hm:t.nodes[i]?=some t.nodes[i]:=lgg hil
 generalize t.nodes[i]=n at hm
 have hkn:Ag t.nodes n.id=true:=by unfold Ag;rw [HH h (lmg hm)];rfl
 have hpos:=h.pos n (lmg hm)
 have hmx:=h.lt_next n (lmg hm)
 obtain ⟨_,_,_,hnx⟩:=h.next
 simp only [AG,lpc,lpn] at c3 c4
 refine ⟨⟨v1,n.id,v3,v4,v5,v6⟩,a6,Ac (vf:=vf18) rfl ?_,?_,hkn⟩
 ·exact z8 c1 c2 c3 c4 c5 c6 hil hm
 ·rw [CL]
  simp only [lmk,List.not_mem_nil,or_false] at x3 x4
  simp only
  omega
theorem Z6 (L:List Int) (a:Nat) (hL:L.length<4611686018427387904):∃ (m:Mdl) (b:Nat),V 48 [.ptr (.arg 0 0) 0 0] [AV L a]=some (m.vv,[AV L b])/\B7 m=true:=by
 have c1:=Bl L a [0,10,100] hL (by decide) (by decide)
 have x1:=C9 L a (xs:=[0,10,100]) (by decide)
 generalize Af L a ([0,10,100]:List Int).length=a1 at c1
 have c2:=Bl L a1 [0,1,10,1000000] hL (by decide) (by decide)
 have x2:=C9 L a1 (xs:=[0,1,10,1000000]) (by decide)
 generalize Af L a1 ([0,1,10,1000000]:List Int).length=a2 at c2
 have c3:=Bl L a2 [0,20,50] hL (by decide) (by decide)
 have x3:=C9 L a2 (xs:=[0,20,50]) (by decide)
 generalize Af L a2 ([0,20,50]:List Int).length=a3 at c3
 have c4:=Bl L a3 [0,2,15] hL (by decide) (by decide)
 have x4:=C9 L a3 (xs:=[0,2,15]) (by decide)
 generalize Af L a3 ([0,2,15]:List Int).length=a4 at c4
 have c5:=Bl L a4 [0,5,40] hL (by decide) (by decide)
 have x5:=C9 L a4 (xs:=[0,5,40]) (by decide)
 generalize Af L a4 ([0,5,40]:List Int).length=a5 at c5
 generalize Ba L a [0,10,100]=v1 at c1 x1
 generalize Ba L a1 [0,1,10,1000000]=v2 at c2 x2
 generalize Ba L a2 [0,20,50]=v3 at c3 x3
 generalize Ba L a3 [0,2,15]=v4 at c4 x4
 generalize Ba L a4 [0,5,40]=v5 at c5 x5
 simp only [AG,lpc,lpn] at c1 c2 c3 c4 c5
 simp only [lmk,List.not_mem_nil,or_false] at x1 x2 x3 x4 x5
 refine ⟨⟨v1,v2,v3,v4,v5⟩,a5,Ac (vf:=vf48) rfl ?_,?_⟩
 ·exact z5 c1 c2 c3 c4 c5
 ·rw [E5]
  simp only
  omega
theorem zaB (L:List Int) (a:Nat) (hL:L.length<4611686018427387904):∃ (m:Mdl) (speed margin:Int) (b:Nat),V 15 [.ptr (.arg 0 0) 0 0] [AV L a]=some (FD m speed margin,[AV L b])/\Dc m speed margin=true:=by
 obtain ⟨m,a1,c1,hm⟩:=Z6 L a hL
 have c2:=Bl L a1 [1,10,100,1000] hL (by decide) (by decide)
 have x2:=C9 L a1 (xs:=[1,10,100,1000]) (by decide)
 generalize Af L a1 ([1,10,100,1000]:List Int).length=a2 at c2
 have c3:=Bl L a2 [0,10,1000] hL (by decide) (by decide)
 have x3:=C9 L a2 (xs:=[0,10,1000]) (by decide)
 generalize Af L a2 ([0,10,1000]:List Int).length=a3 at c3
 generalize Ba L a1 [1,10,100,1000]=v2 at c2 x2
 generalize Ba L a2 [0,10,1000]=v3 at c3 x3
 simp only [AG,lpc,lpn] at c2 c3
 simp only [lmk,List.not_mem_nil,or_false] at x2 x3
 refine ⟨m,v2,v3,a3,Ac (vf:=vf15) rfl ?_,Ec.2 ⟨hm,by omega,by omega⟩⟩
 exact z3 c1 c2 c3
theorem Yi (m:Mdl) (speed margin:Int) (h:Dc m speed margin=true):V 14 [FD m speed margin] []=some (.tup [dvF (EA m speed margin) (.fresh 2 []),.p (.int .i64 0)],[]):=by
 refine Ac (vf:=vf14) rfl ?_
 have i0:V 47 [FD m speed margin] []=some (.p (.bool true),[]):=by
  refine Ac (vf:=vf47) rfl ?_
  obtain ⟨hm,hs,hg⟩:=Ec.1 h
  have i1:V 101 [m.vv] []=some (.p (.bool true),[]):=by
   refine Ac (vf:=vf101) rfl ?_
   rw [E5] at hm
   have hl:∀ (k:Nat) (x:Int),([m.rb,m.rp,m.wb,m.wp,m.seek]:List Int)[k]?=some x->0<=x/\x<=1000000:=fun k x hx=>by
    have:=lmg hx
    simp only [lmk,List.not_mem_nil,or_false] at this
    omega
   obtain ⟨l,hll⟩:∃ l:List Int,l=[m.rb,m.rp,m.wb,m.wp,m.seek]:=⟨_,rfl⟩
   have h5:l.length=5:=by rw [hll];rfl
   rw [<- hll] at hl
   refine w0 ?_
   obtain ⟨I,hI⟩:=lpI fun k s=>s.pe 3=.own (.slot 15 0) 0 0 5/\s.pe 4=.p (.int .i64 k)/\s.h (.slot 15 0)=some (0,Ob.arr 1 [PV.int IntKind.i64 m.rb,PV.int IntKind.i64 m.rp,PV.int IntKind.i64 m.wb,PV.int IntKind.i64 m.wp,PV.int IntKind.i64 m.seek])
   refine Aj (5) I ?_ ?_
   ·refine (hI _ _).2 ⟨?_,?_,?_⟩
    all_goals exact cl4
   intro k s hk hIk
   obtain hH:=(hI _ _).1 hIk
   clear hIk
   refine w1 hH ?_
   refine Ae (fun hlt=>?_) (fun hge=>?_)
   ·have hm:l[k]?=some l[k]:=lgg (by omega)
    have hx:=hl k _ hm
    generalize l[k]=x at hm hx
    have hgx:([PV.int IntKind.i64 m.rb,PV.int IntKind.i64 m.rp,PV.int IntKind.i64 m.wb,PV.int IntKind.i64 m.wp,PV.int IntKind.i64 m.seek]:List PV)[k]?=some (.int .i64 x):=by
     rw [show ([PV.int IntKind.i64 m.rb,PV.int IntKind.i64 m.rp,PV.int IntKind.i64 m.wb,PV.int IntKind.i64 m.wp,PV.int IntKind.i64 m.seek]:List PV)=l.map (PV.int .i64) by rw [hll];rfl,List.getElem?_map,hm]
     rfl
    have b1:¬ x<0:=by omega
    have b2:¬ 1000000<x:=by omega
    simp -implicitDefEqProofs (disch:=omega) only [hH,hlt,hgx,b1,b2,go_sem]
    try refine ai ?_
    refine (hI _ _).2 ⟨?_,?_,?_⟩
    all_goals exact cl4
   .exact z2 hH hge
  have e1:1<=speed:=hs.1
  have e2:speed<=1000000:=hs.2
  have e3:0<=margin:=hg.1
  have e4:margin<=1073741824:=hg.2
  exact z5 i1 e1 e2 e3 e4
 refine w1 i0 ?_
 rfl
theorem IZ (r:Rq) (h:Aw r=true):V 194 [r.vv] []=some (.p (.bool true),[]):=by
 refine Ac (vf:=vf194) rfl ?_
 obtain ⟨⟨a1,a2⟩,⟨b1,b2⟩,⟨c1,c2⟩,⟨d1,d2⟩,e1,f1,f2⟩:=CL.1 h
 have e2:r.at_<=16777216 - r.pages:=by omega
 exact z10 a1 a2 b1 b2 c1 d1 d2 e2 f1 f2
theorem LL (m:Mdl) (hm:B7 m=true):V 101 [m.vv] []=some (.p (.bool true),[]):=by
 refine Ac (vf:=vf101) rfl ?_
 rw [E5] at hm
 have hl:∀ (k:Nat) (x:Int),([m.rb,m.rp,m.wb,m.wp,m.seek]:List Int)[k]?=some x->0<=x/\x<=1000000:=fun k x hx=>by
  have:=lmg hx
  simp only [lmk,List.not_mem_nil,or_false] at this
  omega
 obtain ⟨l,hll⟩:∃ l:List Int,l=[m.rb,m.rp,m.wb,m.wp,m.seek]:=⟨_,rfl⟩
 have h5:l.length=5:=by rw [hll];rfl
 rw [<- hll] at hl
 refine w0 ?_
 obtain ⟨I,hI⟩:=lpI fun k s=>s.pe 3=.own (.slot 15 0) 0 0 5/\s.pe 4=.p (.int .i64 k)/\s.h (.slot 15 0)=some (0,Ob.arr 1 [PV.int IntKind.i64 m.rb,PV.int IntKind.i64 m.rp,PV.int IntKind.i64 m.wb,PV.int IntKind.i64 m.wp,PV.int IntKind.i64 m.seek])
 refine Aj (5) I ?_ ?_
 ·refine (hI _ _).2 ⟨?_,?_,?_⟩
  all_goals exact cl4
 intro k s hk hIk
 obtain hH:=(hI _ _).1 hIk
 clear hIk
 refine w1 hH ?_
 refine Ae (fun hlt=>?_) (fun hge=>?_)
 ·have hm:l[k]?=some l[k]:=lgg (by omega)
  have hx:=hl k _ hm
  generalize l[k]=x at hm hx
  have hgx:([PV.int IntKind.i64 m.rb,PV.int IntKind.i64 m.rp,PV.int IntKind.i64 m.wb,PV.int IntKind.i64 m.wp,PV.int IntKind.i64 m.seek]:List PV)[k]?=some (.int .i64 x):=by
   rw [show ([PV.int IntKind.i64 m.rb,PV.int IntKind.i64 m.rp,PV.int IntKind.i64 m.wb,PV.int IntKind.i64 m.wp,PV.int IntKind.i64 m.seek]:List PV)=l.map (PV.int .i64) by rw [hll];rfl,List.getElem?_map,hm]
   rfl
  have b1:¬ x<0:=by omega
  have b2:¬ 1000000<x:=by omega
  simp -implicitDefEqProofs (disch:=omega) only [hH,hlt,hgx,b1,b2,go_sem]
  try refine ai ?_
  refine (hI _ _).2 ⟨?_,?_,?_⟩
  all_goals exact cl4
 .exact z2 hH hge
theorem Yf (m:Mdl) (r:Rq) (head:Int) (hm:B7 m=true) (hr:Aw r=true):V 272 [m.vv,r.vv,.p (.int .i64 head)] []=some (.p (.int .i64 (Cx m r head)),[]):=by
 refine Ac (vf:=vf272) rfl ?_
 rw [E5] at hm
 rw [CL] at hr
 have h1:=BZ (a:=m.rp) (b:=r.pages) (A:=1000000) (B:=4096) hm.2.1.1 hm.2.1.2 (by omega) (by omega)
 have h2:=BZ (a:=m.wp) (b:=r.pages) (A:=1000000) (B:=4096) hm.2.2.2.1.1 hm.2.2.2.1.2 (by omega) (by omega)
 unfold Cx
 cases hw:r.write with
 | false =>
  by_cases ha:r.at_=head
  .simp -implicitDefEqProofs (disch:=omega) only [vf272,JJ,hw,ha,Int.add_zero,go_sem]
  .exact z2 hw ha
 | true =>
  by_cases ha:r.at_=head
  .simp -implicitDefEqProofs (disch:=omega) only [vf272,JJ,hw,ha,Int.add_zero,go_sem]
  .exact z2 hw ha
theorem zbo (l:List Rq) (h:∀ r∈l,Aw r=true) (hl:l.length<1000000):V 271 [.p (C5 l)] []=some (.p (.bool true),[]):=by
 refine Ac (vf:=vf271) rfl ?_
 refine w0 ?_
 obtain ⟨I,hI⟩:=lpI fun k s=>s.pe 0=.p (C5 l)/\s.pe 3=.p (.int .i64 k)
 refine Aj (l.length) I ?_ ?_
 ·refine (hI _ _).2 ⟨?_,?_⟩
  all_goals exact cl4
 intro k s hk hIk
 obtain ⟨h0,h3⟩:=(hI _ _).1 hIk
 clear hIk
 refine w2 h0 h3 ?_
 refine Ae (fun hlt=>?_) (fun hge=>?_)
 ·have hm:l[k]?=some l[k]:=lgg hlt
  have i0:=IZ l[k] (h _ (lgk hlt))
  generalize l[k]=r at hm i0
  simp -implicitDefEqProofs (disch:=omega) only [h0,h3,hlt,hm,i0,go_sem]
  try refine ai ?_
  refine (hI _ _).2 ⟨?_,?_⟩
  all_goals exact cl4
 .exact z3 h0 h3 hge
theorem WG {m:Mdl} {r:Rq} (head:Int) (hm:B7 m=true) (hr:Aw r=true):0<=Cx m r head/\Cx m r head<=9000000000:=by
 have hm':=E5.1 hm
 have hs:=CL.1 hr
 have h1:=BZ (a:=m.rp) (b:=r.pages) (A:=1000000) (B:=4096) hm'.2.1.1 hm'.2.1.2 (by omega) (by omega)
 have h2:=BZ (a:=m.wp) (b:=r.pages) (A:=1000000) (B:=4096) hm'.2.2.2.1.1 hm'.2.2.2.1.2 (by omega) (by omega)
 unfold Cx
 split<;>split<;>omega
theorem X9 (m:Mdl) (r:Rq) (head:Int) (hm:B7 m=true) (hr:Aw r=true) (hh:0<=head/\head<=16777216) (l:List Rq) (hlr:l=[r]):V 230 [m.vv,.p (C5 l),.p (.int .i64 head)] []=some (.tup [.p (.int .i64 (Cx m r head)),.p (.int .i64 (r.at_+r.pages)),.p (.int .i64 0)],[]):=by
 refine Ac (vf:=vf230) rfl ?_
 have i0:=LL m hm
 have hlen:l.length=1:=by rw [hlr];rfl
 have i1:=zbo l (by rw [hlr];intro x hx;rw [List.mem_singleton] at hx;rw [hx];exact hr) (by omega)
 have i2:=Yf m r head hm hr
 have n1:¬ head<0:=by omega
 have n2:¬ 16777216<head:=by omega
 have n3:¬ (256:Int)<l.length:=by omega
 have hs:=CL.1 hr
 have hcr:=WG head hm hr
 refine w5 i0 i1 n1 n2 n3 ?_
 obtain ⟨I,hI⟩:=lpI fun k s=>s.pe 1=.p (C5 l)/\s.pe 2=.p (.int .i64 (if k=0 then head else r.at_+r.pages))/\s.pe 3=.ptr (.slot 3 0) 0 0/\s.pe 9=.p (.int .i64 (if k=0 then 0 else Cx m r head))/\s.pe 10=.p (.int .i64 k)/\s.h (.slot 3 0)=some (0,Ob.box [.p (.int .i64 m.rb),.p (.int .i64 m.rp),.p (.int .i64 m.wb),.p (.int .i64 m.wp),.p (.int .i64 m.seek)])
 refine Aj (l.length) I ?_ ?_
 ·refine (hI _ _).2 ?_
  and_intros
  all_goals exact cl4
 intro k s hk hIk
 obtain ⟨h1,h2,h3,h9,hH⟩:=(hI _ _).1 hIk
 clear hIk
 refine w5 h1 h2 h3 h9 hH ?_
 refine Ae (fun hlt=>?_) (fun hge=>?_)
 ·have hk:k=0:=by omega
  have hg:l[k]?=some r:=by rw [hk,hlr];rfl
  rw [if_pos hk] at h2 h9
  simp -implicitDefEqProofs (disch:=omega) only [h1,h2,h3,h9,hH,hlt,hg,i2,go_sem]
  try refine ai ?_
  refine (hI _ _).2 ?_
  and_intros
  all_goals exact cl4
 ·have hk:¬ k=0:=by omega
  rw [if_neg hk] at h2 h9
  exact z6 h1 h2 h3 h9 hH hge
theorem ZI (m:Mdl) (r:Rq) (head:Int) (hm:B7 m=true) (hr:Aw r=true) (hh:0<=head/\head<=16777216):V 196 [m.vv,r.vv,.p (.int .i64 head)] []=some (.tup [.p (.int .i64 (Cx m r head)),.p (.int .i64 0)],[]):=by
 refine Ac (vf:=vf196) rfl ?_
 have i0:=X9 m r head hm hr hh [r] rfl
 have i0:V 230 [.agg m.cs,.p (.slice 6 [r.pv]),.p (.int .i64 head)] []=some (.tup [.p (.int .i64 (Cx m r head)),.p (.int .i64 (r.at_+r.pages)),.p (.int .i64 0)],[]):=i0
 simp only [Rq.pv] at i0
 exact z1 i0
theorem H1 {α:Type} {R:α->α->Prop} {l:List α} (h:l.Pairwise R) {k:Nat} {c:α} (hm:l[k]?=some c) (hk:(0:Int)<k):∃ e,l[((k:Int) - 1).toNat]?=some e/\R e c:=by
 obtain ⟨hl,he⟩:=lgs.1 hm
 have hp:=List.pairwise_iff_getElem.1 h (k - 1) k (by omega) hl (by omega)
 refine ⟨l[k - 1]'(by omega),?_,he ▸ hp⟩
 rw [show ((k:Int) - 1).toNat=k - 1 by omega]
 exact lgg (by omega)
theorem Ed {t:Tr} {id:Int} (ht:TreeOk t) (hk:Ag t.nodes id=true):V 83 [t.vv,.p (.int .i64 id)] []=some (.p (.bool true),[]):=by
 have h:=DU t id (by have:=ht.len;omega)
 rw [ER ((Bo t).2 ht),show (AS t.nodes id).isSome=true from hk] at h
 exact h
theorem K2 {t:Tr} (ht:TreeOk t):V 82 [t.vv] []=some (.p (.bool true),[]):=by
 have h:=Fa t (by have:=ht.len;omega)
 rw [(Bo t).2 ht] at h
 exact h
theorem LK {t:Tr} {l:List Ch} (ht:TreeOk t) (h:AscOk (Ag t.nodes) 1 10000 l) (hl:l.length<1000000):V 151 [t.vv,.p (Ap l)] []=some (.p (.bool true),[]):=by
 refine Ac (vf:=vf151) rfl ?_
 have hc:=K2 ht
 refine w1 hc ?_
 obtain ⟨I,hI⟩:=lpI fun k s=>s.pe 1=.p (Ap l)/\s.pe 2=.ptr (.slot 2 0) 0 0/\s.pe 5=.p (.int .i64 k)/\s.h (.slot 2 0)=some (0,Ob.box [.p (An t.nodes),.p (.int .i64 t.next)])
 refine Aj (l.length) I ?_ ?_
 ·refine (hI _ _).2 ?_
  and_intros
  all_goals exact cl4
 intro k s hk hIk
 obtain hH:=(hI _ _).1 hIk
 clear hIk
 refine w1 hH ?_
 refine Ae (fun hlt=>?_) (fun hge=>?_)
 ·have hm:l[k]?=some l[k]:=lgg hlt
  generalize l[k]=c at hm
  have hmem:=lmg hm
  have hfi:=Ed ht (h.known c hmem)
  have hr:=h.range c hmem
  have b1:¬ c.own<1:=by omega
  have b2:¬ 10000<c.own:=by omega
  by_cases hk0:(0:Int)<k
  ·obtain ⟨e,he,hlt'⟩:=H1 h.inc hm hk0
   have hk1:(0:Int)<=(k:Int) - 1:=by omega
   have hle:¬ c.group<=e.group:=by omega
   simp -implicitDefEqProofs (disch:=omega) only [hH,hlt,hm,hfi,hk0,hk1,he,hle,b1,b2,go_sem]
   try refine ai ?_
   refine (hI _ _).2 ?_
   and_intros
   all_goals exact cl4
  ·simp -implicitDefEqProofs (disch:=omega) only [hH,hlt,hm,hfi,hk0,b1,b2,go_sem]
   try refine ai ?_
   refine (hI _ _).2 ?_
   and_intros
   all_goals exact cl4
 .exact z2 hH hge
theorem LD {kn:Int->Bool}:∀ {l:List Dp} {p:Option Int},BT kn p l=true->∀ c∈l,(0<=c.target/\c.target<=1048576)/\1<=c.depth/\c.depth<=256
 | [],_,_=>by simp
 | c::l,p,h=>by
  simp only [BT,bat,Co] at h
  intro x hx
  rcases lmk.1 hx with rfl|hx
  .exact h.1.2
  .exact LD h.2 x hx
theorem LJ {t:Tr} {l:List Dp} (ht:TreeOk t) (h:BT (Ag t.nodes) none l=true) (hl:l.length<1000000):V 152 [t.vv,.p (BJ l)] []=some (.p (.bool true),[]):=by
 refine Ac (vf:=vf152) rfl ?_
 have hc:=K2 ht
 obtain ⟨g1,g2,_⟩:=GR h
 have g3:=LD h
 refine w1 hc ?_
 obtain ⟨I,hI⟩:=lpI fun k s=>s.pe 1=.p (BJ l)/\s.pe 2=.ptr (.slot 2 0) 0 0/\s.pe 5=.p (.int .i64 k)/\s.h (.slot 2 0)=some (0,Ob.box [.p (An t.nodes),.p (.int .i64 t.next)])
 refine Aj (l.length) I ?_ ?_
 ·refine (hI _ _).2 ?_
  and_intros
  all_goals exact cl4
 intro k s hk hIk
 obtain hH:=(hI _ _).1 hIk
 clear hIk
 refine w1 hH ?_
 refine Ae (fun hlt=>?_) (fun hge=>?_)
 ·have hm:l[k]?=some l[k]:=lgg hlt
  generalize l[k]=c at hm
  have hmem:=lmg hm
  have hfi:=Ed ht (g1 c hmem)
  have hr:=g3 c hmem
  have b1:¬ c.target<0:=by omega
  have b2:¬ 1048576<c.target:=by omega
  have b3:¬ c.depth<1:=by omega
  have b4:¬ 256<c.depth:=by omega
  by_cases hk0:(0:Int)<k
  ·obtain ⟨e,he,hlt'⟩:=H1 g2 hm hk0
   have hk1:(0:Int)<=(k:Int) - 1:=by omega
   have hle:¬ c.group<=e.group:=by omega
   simp -implicitDefEqProofs (disch:=omega) only [hH,hlt,hm,hfi,hk0,hk1,he,hle,b1,b2,b3,b4,go_sem]
   try refine ai ?_
   refine (hI _ _).2 ?_
   and_intros
   all_goals exact cl4
  ·simp -implicitDefEqProofs (disch:=omega) only [hH,hlt,hm,hfi,hk0,b1,b2,b3,b4,go_sem]
   try refine ai ?_
   refine (hI _ _).2 ?_
   and_intros
   all_goals exact cl4
 .exact z2 hH hge
abbrev Bk.pv (b:Bk):PV:=.agg b.cs
abbrev Gi (l:List Bk):PV:=.slice 5 (l.map Bk.pv)
abbrev Cp.vv (c:Cp):VVal:=.agg [.p (.int .i64 c.group),.p (.int .i64 c.rp.rate),.p (.int .i64 c.rp.per),.p (.int .i64 c.rp.burst),.p (.int .i64 c.rp.level),.p (.int .i64 c.rp.now),.p (.int .i64 c.wp.rate),.p (.int .i64 c.wp.per),.p (.int .i64 c.wp.burst),.p (.int .i64 c.wp.level),.p (.int .i64 c.wp.now),.p (.int .i64 c.ro.rate),.p (.int .i64 c.ro.per),.p (.int .i64 c.ro.burst),.p (.int .i64 c.ro.level),.p (.int .i64 c.ro.now),.p (.int .i64 c.wo.rate),.p (.int .i64 c.wo.per),.p (.int .i64 c.wo.burst),.p (.int .i64 c.wo.level),.p (.int .i64 c.wo.now)]
theorem H6 (c:Cp):V 135 [c.vv] []=some (.fresh 5 (([c.rp,c.wp,c.ro,c.wo]:List Bk).map Bk.pv),[]):=by
 refine Ac (vf:=vf135) rfl ?_
 exact z0
theorem Jg (id:Int) (a b c d:Bk):V 137 [.p (.int .i64 id),.p (Gi [a,b,c,d])] []=some ((Cp.mk id a b c d).vv,[]):=by
 refine Ac (vf:=vf137) rfl ?_
 have e0:(Int.toNat 0)=0:=rfl
 have e1:(Int.toNat 1)=1:=rfl
 have e2:(Int.toNat 2)=2:=rfl
 have e3:(Int.toNat 3)=3:=rfl
 exact z4 e0 e1 e2 e3
theorem NI {t:Tr} {r:Rq} (ht:TreeOk t) (h:Aw r=true) (hk:Ag t.nodes r.group=true):V 154 [t.vv,r.vv] []=some (.p (.bool true),[]):=by
 refine Ac (vf:=vf154) rfl ?_
 have i0:=IZ r h
 have i1:=Ed ht hk
 exact z2 i0 i1
class El (α:Type) where
 pv:α->PV
 sz:Nat
instance : El Ch:=⟨Ch.pv,2⟩
instance : El Cp:=⟨Cp.pv,21⟩
instance : El Dp:=⟨Dp.pv,3⟩
instance : El Rq:=⟨Rq.pv,6⟩
theorem elW:(El.pv:Ch->PV)=Ch.pv:=rfl
theorem elC:(El.pv:Cp->PV)=Cp.pv:=rfl
theorem elD:(El.pv:Dp->PV)=Dp.pv:=rfl
theorem elQ:(El.pv:Rq->PV)=Rq.pv:=rfl
theorem esW:El.sz Ch=2:=rfl
theorem esC:El.sz Cp=21:=rfl
theorem esD:El.sz Dp=3:=rfl
theorem esQ:El.sz Rq=6:=rfl
attribute [go_sem] elC elD elQ elW esC esD esQ esW
abbrev szL {α:Type} [El α] (_:List α):Nat:=El.sz α
theorem szLe {α:Type} [El α] (l:List α):szL l=El.sz α:=rfl
attribute [go_sem] szLe
abbrev HB (t:Int):Ob:=.box [.p (.int .i64 t)]
def Ea {α:Type} [El α] (cl:FuncId) (K:α->Bool) (t:Int):Prop:=∀ c:α,V cl [.agg ((El.pv c).cells.map .p),.ptr (.arg 0 0) 0 0] [HB t]=some (.p (.bool (!K c)),[HB t])
def Ip {α:Type} [El α] (f cl:FuncId) (K:α->Bool) (t:Int) (xs:List α):Prop:=V f [.own (.arg 0 0) 0 0 xs.length,.fn cl [.ptr (.arg 1 0) 0 0]] [.arr (El.sz α) (xs.map El.pv),HB t]=some (.p (.int .i64 (BR (fun c=>!K c) xs)),[.arr (El.sz α) (xs.map El.pv),HB t])
def Gj {α:Type} [El α] (f cl:FuncId) (z:α) (K:α->Bool) (t:Int) (xs:List α):Prop:=V f [.own (.arg 0 0) 0 0 xs.length,.fn cl [.ptr (.arg 1 0) 0 0]] [.arr (El.sz α) (xs.map El.pv),HB t]=some (.own (.arg 0 0) 0 0 (xs.filter K).length,[.arr (El.sz α) ((xs.filter K).map El.pv++List.replicate (xs.length - (xs.filter K).length) (El.pv z)),HB t])
theorem Xw {α:Type} {k:α->Bool} {l:List α} {i:Nat} {x:α} (h3:∀ (j:Nat) (n:α),j<i->l[j]?=some n->(!k n)=false) (h4:l[i]?=some x) (h5:(!k x)=true):(l.take (i+1)).filter k=l.take i:=by
 have hx:k x=false:=by simpa using h5
 rw [Bt h4,List.filter_append,List.filter_eq_self.2 fun y hy=>by
  obtain ⟨j,hj⟩:=lgm hy
  have hl:=(lgs.1 hj).1
  rw [llt] at hl
  rw [List.getElem?_take_of_lt (by omega)] at hj
  have:=h3 j y (by omega) hj
  simpa using this]
 simp [hx]
theorem MF (t:Int):Ea 156 (fun c:Ch=>!decide (c.group=t)) t/\Ea 165 (fun c:Dp=>!decide (c.group=t)) t/\Ea 169 (fun c:Rq=>!decide (c.task=t)) t:=by
 refine ⟨?_,?_,?_⟩<;>intro c<;>simp only [elC,elD,elQ,elW,esC,esD,esQ,esW,Ch.pv,Cp.pv,Dp.pv,Rq.pv,Bool.not_not,PV.cells,lpc,lpn]
 all_goals
  first|refine Ac (vf:=vf156) rfl ?_|refine Ac (vf:=vf165) rfl ?_|refine Ac (vf:=vf169) rfl ?_
  exact z0
theorem idxs (t:Int):(∀ cl K,Ea cl K t->∀ xs:List Ch,xs.length<1000000->Ip 144 cl K t xs)/\(∀ cl K,Ea cl K t->∀ xs:List Dp,xs.length<1000000->Ip 147 cl K t xs)/\(∀ cl K,Ea cl K t->∀ xs:List Rq,xs.length<1000000->Ip 121 cl K t xs):=by
 refine ⟨?_,?_,?_⟩<;>intro cl K hadj ns hl<;>unfold Ip<;>simp only [Ea,elC,elD,elQ,elW,esC,esD,esQ,esW,Ch.pv,Cp.pv,Dp.pv,Rq.pv,PV.cells,lpc,lpn] at hadj
 all_goals
  first|refine Ac (vf:=vf144) rfl ?_|refine Ac (vf:=vf147) rfl ?_|refine Ac (vf:=vf121) rfl ?_
  refine w0 ?_
  obtain ⟨I,hI⟩:=lpI fun k s=>(∀ (i:Nat) (n:_),i<k->ns[i]?=some n->(!K n)=false)/\s.pe 0=.own (.arg 0 0) 0 0 ns.length/\s.pe 1=.fn cl [.ptr (.arg 1 0) 0 0]/\s.pe 7=.p (.int .i64 ns.length)/\s.pe 8=.p (.int .i64 k)/\s.h (.arg 0 0)=some (0,Ob.arr (szL ns) (ns.map El.pv))/\s.h (.arg 1 0)=some (0,HB t)
  refine Aj (ns.length) I ?_ ?_
  ·refine (hI _ _).2 ?_
   and_intros
   ·omega
   all_goals exact cl9
  intro k s hk hIk
  obtain ⟨hall,hH⟩:=(hI _ _).1 hIk
  clear hIk
  refine w1 hH ?_
  refine Ae (fun hlt=>?_) (fun hge=>?_)
  ·have hm:ns[k]?=some ns[k]:=lgg hlt
   generalize ns[k]=m at hm
   have hc:=hadj m
   cases hb:(!K m) with
   | true =>
    rw [hb] at hc
    have hi:=FY (p:=fun c=>!K c) hm hall hb
    simp -implicitDefEqProofs (disch:=omega) only [hH,hlt,hm,hc,Cp.pv,Dp.pv,Rq.pv,hi,go_sem]
   | false =>
    rw [hb] at hc
    have ha:=G5 (p:=fun c=>!K c) hm hall hb
    simp -implicitDefEqProofs (disch:=omega) only [hH,hlt,hm,hc,Cp.pv,Dp.pv,Rq.pv,go_sem]
    try refine ai ?_
    refine (hI _ _).2 ?_
    and_intros
    .exact ha
    all_goals exact cl9
  ·have hi:BR (fun c=>!K c) ns=-1:=FM fun n hn=>by
    obtain ⟨i,hi⟩:=lgm hn
    exact hall i n (by have:=(lgs.1 hi).1;omega) hi
   rw [hi]
   exact z2 hH hge
theorem MC (t:Int):(∀ cl K,Ea cl K t->∀ xs:List Ch,xs.length<1000000->Gj 71 cl ⟨0,0⟩ K t xs)/\(∀ cl K,Ea cl K t->∀ xs:List Dp,xs.length<1000000->Gj 76 cl ⟨0,0,0⟩ K t xs)/\(∀ cl K,Ea cl K t->∀ xs:List Rq,xs.length<1000000->Gj 80 cl ⟨0,0,0,0,false,0⟩ K t xs):=by
 obtain ⟨x1,x2,x3⟩:=idxs t
 refine ⟨?_,?_,?_⟩<;>intro cl K hadj xs hl
 all_goals
  first
   | have hi:=x1 cl K hadj xs hl
   | have hi:=x2 cl K hadj xs hl
   | have hi:=x3 cl K hadj xs hl
  unfold Gj
  simp only [Ip,elC,elD,elQ,elW,esC,esD,esQ,esW] at hi
  simp only [Ea,elC,elD,elQ,elW,esC,esD,esQ,esW,Ch.pv,Cp.pv,Dp.pv,Rq.pv,PV.cells,lpc,lpn] at hadj
  first|refine Ac (vf:=vf71) rfl ?_|refine Ac (vf:=vf76) rfl ?_|refine Ac (vf:=vf80) rfl ?_
  rcases E8 (fun c=>!K c) xs with ⟨h1,h2⟩|⟨i,x0,h2,h4,h5,h3⟩
  ·simp only [h1] at hi
   have hfl:xs.filter K=xs:=List.filter_eq_self.2 fun x hx=>by have:=h2 x hx;simpa using this
   rw [hfl]
   have hd:decide ((-1:Int)=-1)=true:=rfl
   refine w2 hi hd ?_
   simp
  ·simp only [h2] at hi
   have hil:=(lgs.1 h4).1
   have hne:¬ ((i:Nat):Int)=-1:=by omega
   have hfi:=Xw (k:=K) h3 h4 h5
   refine w2 hi hne ?_
   obtain ⟨I,hI⟩:=lpI fun k s=>∃ (m:Nat) (A:List _),A.take m=(xs.take (i+1+k)).filter K/\A.drop (i+1+k)=xs.drop (i+1+k)/\A.length=xs.length/\(m<i+1+k)/\s.pe 0=.own (.arg 0 0) 0 0 xs.length/\s.pe 1=.fn cl [.ptr (.arg 1 0) 0 0]/\s.pe 5=.p (.int .i64 (m:Nat))/\s.pe 6=.p (.int .i64 ((i+1+k:Nat):Int))/\s.h (.arg 0 0)=some (0,Ob.arr (szL xs) (A.map El.pv))/\s.h (.arg 1 0)=some (0,HB t)
   refine Aj ((xs.length - (i+1))) I ?_ ?_
   ·refine (hI _ _).2 ⟨i,xs,?_⟩
    and_intros
    ·exact hfi.symm
    ·rfl
    ·rfl
    ·omega
    all_goals exact cl9
   intro k s hk hIk
   obtain ⟨m,A,hm1,hm2,hal,hmk,h0,h1,h5,h6,ha0,ha1⟩:=(hI _ _).1 hIk
   clear hIk
   generalize hq:i+1+k=q at hm1 hm2 hmk h6
   refine w6 h0 h1 h5 h6 ha0 ha1 ?_
   refine Ae (fun hlt=>?_) (fun hge=>?_)
   ·have hql:q<xs.length:=by omega
    have hm:xs[q]?=some xs[q]:=lgg hql
    have htk:=Bt hm
    have hAx:A[q]?=xs[q]?:=by
     have:=congrArg (fun l=>l[0]?) hm2
     simpa using this
    rw [hm] at hAx
    have hdr:A.drop (q+1)=xs.drop (q+1):=by
     have:=congrArg (List.drop 1) hm2
     simpa [List.drop_drop] using this
    generalize xs[q]=x at hm htk hAx
    have h1f:=hadj x
    have hml:m<A.length:=by omega
    have hAm:A[m]?=some A[m]:=lgg hml
    generalize A[m]=y at hAm
    have hq2:i+1+(k+1)=q+1:=by omega
    cases hp:K x with
    | true =>
     rw [hp] at h1f
     have e1:(A.set m x).take (m+1)=(xs.take (q+1)).filter K:=by
      rw [htk,List.filter_append,<- hm1,List.take_add_one,List.getElem?_set_self hml,List.take_set_of_le (lrf m)]
      simp [hp]
     have e2:(A.set m x).drop (q+1)=xs.drop (q+1):=by rw [List.drop_set_of_lt (by omega),hdr]
     have hset:(A.map El.pv).set m (El.pv x)=(A.set m x).map El.pv:=by rw [List.map_set]
     simp only [elC,elD,elQ,elW,esC,esD,esQ,esW,Ch.pv,Cp.pv,Dp.pv,Rq.pv] at hset
     simp -implicitDefEqProofs (disch:=omega) only [h0,h1,h5,h6,ha0,ha1,hlt,hAx,h1f,hAm,hset,Cp.pv,Dp.pv,Rq.pv,go_sem]
     try refine ai ?_
     refine (hI _ _).2 ⟨m+1,A.set m x,?_⟩
     and_intros
     ·exact by rw [hq2];exact e1
     ·exact by rw [hq2];exact e2
     ·exact by rw [List.length_set];exact hal
     ·omega
     all_goals exact cl9
    | false =>
     rw [hp] at h1f
     have e1:A.take m=(xs.take (q+1)).filter K:=by
      rw [htk,List.filter_append,<- hm1]
      simp [hp]
     simp -implicitDefEqProofs (disch:=omega) only [h0,h1,h5,h6,ha0,ha1,hlt,hAx,h1f,Cp.pv,Dp.pv,Rq.pv,go_sem]
     try refine ai ?_
     refine (hI _ _).2 ⟨m,A,?_⟩
     and_intros
     .exact by rw [hq2];exact e1
     .exact by rw [hq2];exact hdr
     .exact hal
     .omega
     all_goals exact cl9
   ·have hqe:q=xs.length:=by omega
    rw [hqe,ltl (lrf _)] at hm1
    have hml:m=(xs.filter K).length:=by
     have:=congrArg List.length hm1
     rw [llt] at this
     omega
    refine w7 h0 h1 h5 h6 ha0 ha1 hge ?_
    have e1:List.take m (A.map El.pv)=(xs.filter K).map El.pv:=by rw [<- List.map_take,hm1]
    have e2:∀ z:PV,List.drop (m+(List.replicate (xs.length - m) z).length) (A.map El.pv)=[]:=fun z=>ldl (by simp;omega)
    simp only [elC,elD,elQ,elW,esC,esD,esQ,esW] at e1 e2
    rw [e1,e2,lan,Nat.sub_zero,hml]
    all_goals simp [Cp.pv,Dp.pv,Rq.pv]
theorem QL (m:Mdl) (speed margin:Int) (h:Dc m speed margin=true):V 47 [FD m speed margin] []=some (.p (.bool true),[]):=by
 refine Ac (vf:=vf47) rfl ?_
 obtain ⟨hm,⟨e1,e2⟩,e3,e4⟩:=Ec.1 h
 have i1:=LL m hm
 exact z5 i1 e1 e2 e3 e4
theorem Mz {c:Cp} {now:Int} (h:Br now c=true) {k:Nat} (hk:k<4):∃ b,([c.rp,c.wp,c.ro,c.wo]:List Bk)[k]?=some b/\AY now b=true:=by
 obtain ⟨h1,h2,h3,h4⟩:=Cf.1 h
 rcases k with _|_|_|_|k
 .exact ⟨_,rfl,h1⟩
 .exact ⟨_,rfl,h2⟩
 .exact ⟨_,rfl,h3⟩
 .exact ⟨_,rfl,h4⟩
 .omega
theorem H0 {t:Tr} {x:Dv} (h:DvOk t x) (hs:x.Small):V 84 [t.vv,x.vv] []=some (.p (.bool true),[]):=by
 refine Ac (vf:=vf84) rfl ?_
 have hc:=K2 h.tree
 have cf:=QL x.m x.speed x.margin h.cfg
 have cw:=LK h.tree h.w hs.w
 have cd:=LJ h.tree h.dp hs.p
 have cv:=IN t x.v (by have:=h.tree.len;omega) hs.v
 rw [show BM t x.v=true by unfold BM;rw [(Bo t).2 h.tree,(EQ _ _ _ _).2 h.v];rfl] at cv
 have n1:¬ x.now<0:=by have:=h.now;omega
 have n2:¬ 1048576<x.now:=by have:=h.now;omega
 have n3:¬ x.free<0:=by have:=h.free;omega
 have n4:¬ 1125899906842624<x.free:=by have:=h.free;omega
 have n5:¬ x.head<0:=by have:=h.head;omega
 have n6:¬ 16777216<x.head:=by have:=h.head;omega
 have hl:=h.len
 have n7:¬ (256:Int)<(x.queue.length:Int)+(x.flights.length:Int):=by omega
 have hql:x.queue.length<1000000:=by omega
 have hfl:x.flights.length<1000000:=by omega
 obtain ⟨b1,b2,_⟩:=Cn.1 h.bk
 obtain ⟨f1,f2,_⟩:=Eh.1 h.fl
 have hbl:=hs.b
 simp -implicitDefEqProofs (disch:=omega) only [vf84,Ij,hc,cf,cw,cd,cv,n1,n2,n3,n4,n5,n6,n7,go_sem]
 obtain ⟨I,hI⟩:=lpI fun k s=>s.pe 2=.ptr (.slot 2 0) 0 0/\s.pe 3=.ptr (.slot 3 0) 0 0/\s.pe 5=.p (.int .i64 k)/\s.h (.slot 2 0)=some (0,Ob.box [.p (An t.nodes),.p (.int .i64 t.next)])/\s.h (.slot 3 0)=some (0,Ob.box (dvC x))
 refine Aj (x.buckets.length) I ?_ ?_
 ·refine (hI _ _).2 ?_
  and_intros
  all_goals exact cl4
 intro k s hk hIk
 obtain hH:=(hI _ _).1 hIk
 clear hIk
 refine w1 hH ?_
 refine Ae (fun hlt=>?_) (fun hge=>?_)
 ·have hm:x.buckets[k]?=some x.buckets[k]:=lgg hlt
  generalize x.buckets[k]=c at hm
  have hmem:=lmg hm
  obtain ⟨hkn,hcb⟩:=b1 c hmem
  have hfi:=Ed h.tree hkn
  have i4:=H6 c
  have m4:=fun (j:Nat) (hj:j<4)=>Mz hcb hj
  generalize hcl:([c.rp,c.wp,c.ro,c.wo]:List Bk)=B at i4 m4
  have hB:B.length=4:=by rw [<- hcl];rfl
  by_cases hk0:(0:Int)<k
  ·obtain ⟨e,he,hlt'⟩:=H1 b2 hm hk0
   have hk1:(0:Int)<=(k:Int) - 1:=by omega
   have hle:¬ c.group<=e.group:=by omega
   simp -implicitDefEqProofs (disch:=omega) only [hH,hlt,hm,Cp.pv,hfi,hk0,hk1,he,hle,i4,go_sem]
   obtain ⟨J,hJ⟩:=lpI fun j s=>∃ (v116_1:Nat),s.pe 7=.own (.slot 116 1) v116_1 0 B.length/\s.pe 8=.p (.int .i64 j)/\s.h (.slot 116 1)=some (v116_1,Ob.arr 5 (List.map Bk.pv B))/\s.pe 2=.ptr (.slot 2 0) 0 0/\s.pe 3=.ptr (.slot 3 0) 0 0/\s.pe 5=.p (.int .i64 k)/\s.h (.slot 2 0)=some (0,Ob.box [.p (An t.nodes),.p (.int .i64 t.next)])/\s.h (.slot 3 0)=some (0,Ob.box (dvC x))
   refine Aj (B.length) J ?_ ?_
   ·refine (hJ _ _).2 ⟨nv (BS [116] s.h (.slot 116 1)),?_⟩
    and_intros
    all_goals exact cl4
   intro j s hj hJk
   obtain ⟨v116_1,hH⟩:=(hJ _ _).1 hJk
   clear hJk
   refine w1 hH ?_
   refine Ae (fun hj=>?_) (fun hje=>?_)
   ·obtain ⟨b,hbm,hbs⟩:=m4 j (by omega)
    obtain ⟨s1,s2,s3⟩:=AE.1 hbs
    have i5:=GA b s1
    have s2':decide (b.per=100)=true:=decide_eq_true s2
    have s3':decide (b.now=x.now)=true:=decide_eq_true s3
    simp -implicitDefEqProofs (disch:=omega) only [hH,hj,hbm,i5,s2',s3',go_sem]
    try refine ai ?_
    refine (hJ _ _).2 ⟨v116_1,?_⟩
    and_intros
    all_goals exact cl4
   ·simp -implicitDefEqProofs (disch:=omega) only [hH,hje,go_sem]
    try refine ai ?_
    refine (hI _ _).2 ?_
    and_intros
    all_goals exact cl4
  ·simp -implicitDefEqProofs (disch:=omega) only [hH,hlt,hm,Cp.pv,hfi,hk0,i4,go_sem]
   obtain ⟨J,hJ⟩:=lpI fun j s=>∃ (v116_1:Nat),s.pe 7=.own (.slot 116 1) v116_1 0 B.length/\s.pe 8=.p (.int .i64 j)/\s.h (.slot 116 1)=some (v116_1,Ob.arr 5 (List.map Bk.pv B))/\s.pe 2=.ptr (.slot 2 0) 0 0/\s.pe 3=.ptr (.slot 3 0) 0 0/\s.pe 5=.p (.int .i64 k)/\s.h (.slot 2 0)=some (0,Ob.box [.p (An t.nodes),.p (.int .i64 t.next)])/\s.h (.slot 3 0)=some (0,Ob.box (dvC x))
   refine Aj (B.length) J ?_ ?_
   ·refine (hJ _ _).2 ⟨nv (BS [116] s.h (.slot 116 1)),?_⟩
    and_intros
    all_goals exact cl4
   intro j s hj hJk
   obtain ⟨v116_1,hH⟩:=(hJ _ _).1 hJk
   clear hJk
   refine w1 hH ?_
   refine Ae (fun hj=>?_) (fun hje=>?_)
   ·obtain ⟨b,hbm,hbs⟩:=m4 j (by omega)
    obtain ⟨s1,s2,s3⟩:=AE.1 hbs
    have i5:=GA b s1
    have s2':decide (b.per=100)=true:=decide_eq_true s2
    have s3':decide (b.now=x.now)=true:=decide_eq_true s3
    simp -implicitDefEqProofs (disch:=omega) only [hH,hj,hbm,i5,s2',s3',go_sem]
    try refine ai ?_
    refine (hJ _ _).2 ⟨v116_1,?_⟩
    and_intros
    all_goals exact cl4
   ·simp -implicitDefEqProofs (disch:=omega) only [hH,hje,go_sem]
    try refine ai ?_
    refine (hI _ _).2 ?_
    and_intros
    all_goals exact cl4
 ·refine w2 hH hge ?_
  obtain ⟨M,hM⟩:=lpI fun m s=>s.pe 2=.ptr (.slot 2 0) 0 0/\s.pe 3=.ptr (.slot 3 0) 0 0/\s.pe 9=.p (.int .i64 m)/\s.h (.slot 2 0)=some (0,Ob.box [.p (An t.nodes),.p (.int .i64 t.next)])/\s.h (.slot 3 0)=some (0,Ob.box (dvC x))
  refine Aj (x.queue.length) M ?_ ?_
  ·refine (hM _ _).2 ?_
   and_intros
   all_goals exact cl4
  intro m s hm hMk
  obtain hH:=(hM _ _).1 hMk
  clear hMk
  refine w1 hH ?_
  refine Ae (fun hq=>?_) (fun hqe=>?_)
  ·have hm:x.queue[m]?=some x.queue[m]:=lgg hq
   have hx:=h.q x.queue[m] (lgk hq)
   generalize x.queue[m]=r at hm hx
   have i6:=NI h.tree hx.1 hx.2
   simp -implicitDefEqProofs (disch:=omega) only [hH,hq,hm,i6,go_sem]
   try refine ai ?_
   refine (hM _ _).2 ?_
   and_intros
   all_goals exact cl4
  ·refine w2 hH hqe ?_
   obtain ⟨N,hN⟩:=lpI fun n s=>s.pe 2=.ptr (.slot 2 0) 0 0/\s.pe 3=.ptr (.slot 3 0) 0 0/\s.pe 10=.p (.int .i64 n)/\s.h (.slot 2 0)=some (0,Ob.box [.p (An t.nodes),.p (.int .i64 t.next)])/\s.h (.slot 3 0)=some (0,Ob.box (dvC x))
   refine Aj (x.flights.length) N ?_ ?_
   ·refine (hN _ _).2 ?_
    and_intros
    all_goals exact cl4
   intro n s hn hNk
   obtain hH:=(hN _ _).1 hNk
   clear hNk
   refine w1 hH ?_
   refine Ae (fun hf=>?_) (fun hfe=>?_)
   ·have hm:x.flights[n]?=some x.flights[n]:=lgg hf
    have hx:=f1 x.flights[n] (lgk hf)
    generalize x.flights[n]=f at hm hx
    have i6:=NI h.tree hx.1.1 hx.1.2
    have d1:¬ f.done<0:=by omega
    have d2:¬ 1125899906842624<f.done:=by omega
    by_cases hn0:(0:Int)<n
    ·obtain ⟨e,he,hle⟩:=H1 f2 hm hn0
     have hn1:(0:Int)<=(n:Int) - 1:=by omega
     have hle':¬ f.done<e.done:=by omega
     simp -implicitDefEqProofs (disch:=omega) only [hH,hf,hm,Fl.pv,i6,d1,d2,hn0,hn1,he,hle',go_sem]
     try refine ai ?_
     refine (hN _ _).2 ?_
     and_intros
     all_goals exact cl4
    ·simp -implicitDefEqProofs (disch:=omega) only [hH,hf,hm,Fl.pv,i6,d1,d2,hn0,go_sem]
     try refine ai ?_
     refine (hN _ _).2 ?_
     and_intros
     all_goals exact cl4
   .exact z2 hH hfe
abbrev Dv.fv (d:Dv):VVal:=.agg [.p (.int .i64 d.m.rb),.p (.int .i64 d.m.rp),.p (.int .i64 d.m.wb),.p (.int .i64 d.m.wp),.p (.int .i64 d.m.seek),.p (.int .i64 d.speed),.p (.int .i64 d.margin),.p (.int .i64 d.now),.p (.int .i64 d.free),.p (.int .i64 d.head),.fresh 2 (d.weights.map Ch.pv),.fresh 21 (d.buckets.map Cp.pv),.fresh 3 (d.depths.map Dp.pv),.fresh 2 (d.v.map Ch.pv),.fresh 6 (d.queue.map Rq.pv),.fresh 7 (d.flights.map Fl.pv)]
theorem GB (x:Dv) (hs:x.Small) (hl:x.queue.length<1000000) (hf:x.flights.length<1000000):V 69 [x.vv] []=some (x.fv,[]):=by
 refine Ac (vf:=vf69) rfl ?_
 have h1:=hs.w
 have h2:=hs.b
 have h3:=hs.p
 have h4:=hs.v
 exact z0
theorem Kw (x:Dv) (id:Int) (hs:x.Small):V 192 [x.vv,.p (.int .i64 id)] []=some (.p (.int .i64 (BR (fun c=>decide (c.group=id)) x.buckets)),[]):=by
 refine Ac (vf:=vf192) rfl ?_
 have hbl:=hs.b
 refine w0 ?_
 obtain ⟨I,hI⟩:=lpI fun k s=>(∀ (i:Nat) (n:Cp),i<k->x.buckets[i]?=some n->decide (n.group=id)=false)/\s.pe 1=.p (.int .i64 id)/\s.pe 2=.ptr (.slot 2 0) 0 0/\s.pe 5=.p (.int .i64 k)/\s.h (.slot 2 0)=some (0,Ob.box (dvC x))
 refine Aj (x.buckets.length) I ?_ ?_
 ·refine (hI _ _).2 ?_
  and_intros
  ·omega
  all_goals exact cl4
 intro k s hk hIk
 obtain ⟨hall,hH⟩:=(hI _ _).1 hIk
 clear hIk
 refine w1 hH ?_
 refine Ae (fun hlt=>?_) (fun hge=>?_)
 ·have hm:x.buckets[k]?=some x.buckets[k]:=lgg hlt
  generalize x.buckets[k]=m at hm
  cases hb:decide (m.group=id) with
  | true =>
   have hi:=FY hm hall hb
   simp -implicitDefEqProofs (disch:=omega) only [hH,hlt,hm,hb,Cp.pv,PV.cells,hi,go_sem]
  | false =>
   have ha:=G5 hm hall hb
   simp -implicitDefEqProofs (disch:=omega) only [hH,hlt,hm,hb,Cp.pv,PV.cells,go_sem]
   try refine ai ?_
   refine (hI _ _).2 ?_
   and_intros
   .exact ha
   all_goals exact cl4
 ·have hn:BR (fun c:Cp=>decide (c.group=id)) x.buckets=-1:=FM fun n hn=>by
   obtain ⟨i,hi⟩:=lgm hn
   exact hall i n (by have:=(lgs.1 hi).1;omega) hi
  exact z3 hH hge hn
theorem O4 (x:Dv) (id:Int) (hs:x.Small):V 195 [x.vv,.p (.int .i64 id)] []=some (.p (.int .i64 (BR (fun c=>decide (c.group=id)) x.queue)),[]):=by
 refine Ac (vf:=vf195) rfl ?_
 have hbl:=hs.q
 refine w0 ?_
 obtain ⟨I,hI⟩:=lpI fun k s=>(∀ (i:Nat) (n:Rq),i<k->x.queue[i]?=some n->decide (n.group=id)=false)/\s.pe 1=.p (.int .i64 id)/\s.pe 2=.ptr (.slot 2 0) 0 0/\s.pe 5=.p (.int .i64 k)/\s.h (.slot 2 0)=some (0,Ob.box (dvC x))
 refine Aj (x.queue.length) I ?_ ?_
 ·refine (hI _ _).2 ?_
  and_intros
  ·omega
  all_goals exact cl4
 intro k s hk hIk
 obtain ⟨hall,hH⟩:=(hI _ _).1 hIk
 clear hIk
 refine w1 hH ?_
 refine Ae (fun hlt=>?_) (fun hge=>?_)
 ·have hm:x.queue[k]?=some x.queue[k]:=lgg hlt
  generalize x.queue[k]=m at hm
  cases hb:decide (m.group=id) with
  | true =>
   have hi:=FY hm hall hb
   exact z5 hH hlt hm hb hi
  | false =>
   have ha:=G5 hm hall hb
   simp -implicitDefEqProofs (disch:=omega) only [hH,hlt,hm,hb,go_sem]
   try refine ai ?_
   refine (hI _ _).2 ?_
   and_intros
   .exact ha
   all_goals exact cl4
 ·have hn:BR (fun c:Rq=>decide (c.group=id)) x.queue=-1:=FM fun n hn=>by
   obtain ⟨i,hi⟩:=lgm hn
   exact hall i n (by have:=(lgs.1 hi).1;omega) hi
  exact z3 hH hge hn
def EX (c:Cp) (r:Rq):Bool:=decide (Dj (kpB c r.write) r.pages=0/\Dj (koB c r.write) 1=0)
theorem O1 (c:Cp) (r:Rq) {now:Int} (hc:Br now c=true) (hp:1<=r.pages/\r.pages<=4096):V 200 [c.vv,r.vv,.p (.int .i64 now)] []=some (.tup [(Bw c r).vv,.p (.bool (EX c r))],[]):=by
 refine Ac (vf:=vf200) rfl ?_
 obtain ⟨h1,h2,h3,h4⟩:=Cf.1 hc
 have i0:=H6 c
 have e02:Int.toNat (0+2)=2:=rfl
 have e12:Int.toNat (1+2)=3:=rfl
 have e0:Int.toNat 0=0:=rfl
 have e1:Int.toNat 1=1:=rfl
 have e2:Int.toNat 2=2:=rfl
 have e3:Int.toNat 3=3:=rfl
 cases hw:r.write with
 | false =>
  have t1:=I0 c.rp r.pages (AE.1 h1).1 (by omega)
  have t2:=I0 c.ro 1 (AE.1 h3).1 (by omega)
  rw [(AE.1 h1).2.2] at t1
  rw [(AE.1 h3).2.2] at t2
  have i1:=Jg c.group (Bh c.rp r.pages) c.wp (Bh c.ro 1) c.wo
  have hS:Bw c r=⟨c.group,Bh c.rp r.pages,c.wp,Bh c.ro 1,c.wo⟩:=by unfold Bw;rw [hw];rfl
  have hT:EX c r=decide (Dj c.rp r.pages=0/\Dj c.ro 1=0):=by unfold EX;rw [hw];rfl
  simp only [Gi,Bk.pv,Bk.cs,lpc,lpn] at i1
  rw [hS,hT]
  generalize Dj c.rp r.pages=q1 at t1
  generalize Dj c.ro 1=q2 at t2
  by_cases hq:q1=0
  ·have hq':decide (q1=0)=true:=decide_eq_true hq
   rw [show decide (q1=0/\q2=0)=decide (q2=0) by simp [hq]]
   simp -implicitDefEqProofs (disch:=omega) only [vf200,Ie,i0,hw,t1,t2,i1,e0,e1,e2,e3,e02,e12,hq',List.set_cons_zero,List.set_cons_succ,go_sem]
  ·have hq':decide (q1=0)=false:=decide_eq_false hq
   rw [show decide (q1=0/\q2=0)=false by simp [hq]]
   simp -implicitDefEqProofs (disch:=omega) only [vf200,Ie,i0,hw,t1,t2,i1,e0,e1,e2,e3,e02,e12,hq',List.set_cons_zero,List.set_cons_succ,go_sem]
 | true =>
  have t1:=I0 c.wp r.pages (AE.1 h2).1 (by omega)
  have t2:=I0 c.wo 1 (AE.1 h4).1 (by omega)
  rw [(AE.1 h2).2.2] at t1
  rw [(AE.1 h4).2.2] at t2
  have i1:=Jg c.group c.rp (Bh c.wp r.pages) c.ro (Bh c.wo 1)
  have hS:Bw c r=⟨c.group,c.rp,Bh c.wp r.pages,c.ro,Bh c.wo 1⟩:=by unfold Bw;rw [hw];rfl
  have hT:EX c r=decide (Dj c.wp r.pages=0/\Dj c.wo 1=0):=by unfold EX;rw [hw];rfl
  simp only [Gi,Bk.pv,Bk.cs,lpc,lpn] at i1
  rw [hS,hT]
  generalize Dj c.wp r.pages=q1 at t1
  generalize Dj c.wo 1=q2 at t2
  by_cases hq:q1=0
  ·have hq':decide (q1=0)=true:=decide_eq_true hq
   rw [show decide (q1=0/\q2=0)=decide (q2=0) by simp [hq]]
   simp -implicitDefEqProofs (disch:=omega) only [vf200,Ie,i0,hw,t1,t2,i1,e0,e1,e2,e3,e02,e12,hq',List.set_cons_zero,List.set_cons_succ,go_sem]
  ·have hq':decide (q1=0)=false:=decide_eq_false hq
   rw [show decide (q1=0/\q2=0)=false by simp [hq]]
   simp -implicitDefEqProofs (disch:=omega) only [vf200,Ie,i0,hw,t1,t2,i1,e0,e1,e2,e3,e02,e12,hq',List.set_cons_zero,List.set_cons_succ,go_sem]
def insGo {α:Type} (g:α->Int) (x:α):Bool->List α->List α
 | d,[]=>if d then [] else [x]
 | d,c::l=>(if !d && decide (g x<=g c) then [x] else [])++(if g c=g x then [] else [c])++insGo g x (d || decide (g x<=g c)) l
theorem I3 {α:Type} {g:α->Int} {x:α}:∀ {l:List α} {d:Bool} {c:α},c∈insGo g x d l->(d=false/\c=x) \/ c∈l
 | [],d,c,h=>by
  cases d
  ·exact .inl ⟨rfl,by simpa [insGo] using h⟩
  ·simp [insGo] at h
 | y::l,d,c,h=>by
  rw [insGo,laa,lmp,lmp] at h
  rcases h with h|h|h
  ·cases d
   ·split at h
    .exact .inl ⟨rfl,by simpa using h⟩
    .simp at h
   ·simp at h
  ·split at h
   ·simp at h
   ·exact .inr (by simp at h;simp [h])
  ·rcases I3 h with ⟨h1,h2⟩|h1
   ·simp only [Bool.or_eq_false_iff] at h1
    exact .inl ⟨h1.1,h2⟩
   .exact .inr (lmc _ h1)
theorem insGo_sub {α:Type} {g:α->Int} {x:α}:∀ {l:List α},List.Sublist (insGo g x true l) l
 | []=>by simp [insGo]
 | c::l=>by
  have ih:=insGo_sub (g:=g) (x:=x) (l:=l)
  by_cases h:g c=g x
  ·have e:insGo g x true (c::l)=insGo g x true l:=by simp [insGo,h]
   rw [e]
   exact ih.trans (List.sublist_cons_self _ _)
  ·have e:insGo g x true (c::l)=c::insGo g x true l:=by simp [insGo,h]
   rw [e]
   exact ih.cons_cons c
theorem I4 {α:Type} {g:α->Int} {x:α}:∀ {l:List α} {d:Bool},(l.Pairwise fun a b=>g a<g b)->(insGo g x d l).Pairwise fun a b=>g a<g b
 | l,true,h=>h.sublist insGo_sub
 | [],false,_=>by simp [insGo]
 | y::l,false,h=>by
  obtain ⟨h1,h2⟩:=lpw.1 h
  by_cases hge:g x<=g y
  ·have hr:∀ c∈insGo g x true l,g y<g c:=fun c hc=>h1 c (insGo_sub.subset hc)
   have ht:=h2.sublist (insGo_sub (g:=g) (x:=x))
   by_cases hy:g y=g x
   ·have e:insGo g x false (y::l)=x::insGo g x true l:=by simp [insGo,hge,hy]
    rw [e]
    exact lpw.2 ⟨fun c hc=>by have:=hr c hc;omega,ht⟩
   ·have e:insGo g x false (y::l)=x::y::insGo g x true l:=by simp [insGo,hge,hy]
    rw [e]
    refine lpw.2 ⟨fun c hc=>?_,lpw.2 ⟨hr,ht⟩⟩
    rcases lmk.1 hc with rfl|hc
    .omega
    .have:=hr c hc;omega
  ·have hne:¬ g y=g x:=by omega
   have e:insGo g x false (y::l)=y::insGo g x false l:=by simp [insGo,hge,hne]
   rw [e]
   refine lpw.2 ⟨fun c hc=>?_,I4 h2⟩
   rcases I3 hc with ⟨_,rfl⟩|hc
   .omega
   .exact h1 c hc
theorem X7 (l:List Ch) (id n:Int) (hl:l.length<1000000):V 131 [.p (Ap l),.p (.int .i64 id),.p (.int .i64 n)] []=some (.fresh 2 ((withGo id n (decide (n=100)) l).map Ch.pv),[]):=by
 refine Ac (vf:=vf131) rfl ?_
 refine w0 ?_
 obtain ⟨I,hI⟩:=lpI fun k s=>∃ (acc:List Ch) (d:Bool) (w:Nat),withGo id n (decide (n=100)) l=acc++withGo id n d (l.drop k)/\acc.length<=2*k/\s.pe 0=.p (Ap l)/\s.pe 1=.p (.int .i64 id)/\s.pe 2=.p (.int .i64 n)/\s.pe 7=.own (.slot 7 0) w 0 acc.length/\s.pe 8=.p (.bool d)/\s.pe 9=.p (.int .i64 k)/\s.h (.slot 7 0)=some (w,Ob.arr 2 (acc.map Ch.pv))
 refine Aj (l.length) I ?_ ?_
 ·refine (hI _ _).2 ⟨[],(decide (n=100)),0,?_⟩
  and_intros
  ·rfl
  ·exact cl3
  all_goals exact cl4
 intro k s hk hIk
 obtain ⟨acc,d,w,hw,hal,hH⟩:=(hI _ _).1 hIk
 clear hIk
 refine w1 hH ?_
 refine Ae (fun hlt=>?_) (fun hge=>?_)
 ·have hm:l[k]?=some l[k]:=lgg hlt
  have hd:l.drop k=l[k]::l.drop (k+1):=ldg hlt
  generalize l[k]=c at hm hd
  rw [hd,withGo] at hw
  cases d with
  | true =>
   by_cases he:c.group=id
   ·simp only [he,Bool.not_true,bfa,bft,if_false,if_true,lna,lan,Bool.true_or] at hw
    simp -implicitDefEqProofs (disch:=omega) only [hH,hlt,hm,he,go_sem]
    try refine ai ?_
    refine (hI _ _).2 ⟨acc,true,w,?_⟩
    and_intros
    ·exact hw
    ·omega
    all_goals exact cl4
   ·simp only [he,Bool.not_true,bfa,bft,if_false,lna,Bool.true_or,<- laa] at hw
    simp -implicitDefEqProofs (disch:=omega) only [hH,hlt,hm,he,go_sem]
    try refine ai ?_
    refine (hI _ _).2 ⟨acc++[c],true,w+1,?_⟩
    and_intros
    ·exact hw
    ·exact by simp;omega
    all_goals exact cl4
  | false =>
   by_cases hge:id<=c.group
   ·by_cases he:c.group=id
    ·simp only [he,Int.le_refl,decide_true,bnf,bas,if_true,lan,Bool.or_true,<- laa] at hw
     simp -implicitDefEqProofs (disch:=omega) only [hH,hlt,hm,hge,he,Int.le_refl,decide_true,go_sem]
     try refine ai ?_
     refine (hI _ _).2 ⟨acc++[⟨id,n⟩],true,w+1,?_⟩
     and_intros
     .exact hw
     .exact by simp;omega
     all_goals exact cl4
    ·simp only [he,hge,decide_true,bnf,bas,if_true,if_false,Bool.or_true,<- laa] at hw
     simp -implicitDefEqProofs (disch:=omega) only [hH,hlt,hm,hge,he,go_sem]
     try refine ai ?_
     refine (hI _ _).2 ⟨acc++[⟨id,n⟩]++[c],true,w+1+1,?_⟩
     and_intros
     .exact hw
     .exact by simp;omega
     all_goals exact cl4
   ·have he:¬ c.group=id:=by omega
    simp only [he,hge,decide_false,bnf,Bool.and_false,bft,if_false,lna,Bool.or_false,<- laa] at hw
    simp -implicitDefEqProofs (disch:=omega) only [hH,hlt,hm,hge,he,go_sem]
    try refine ai ?_
    refine (hI _ _).2 ⟨acc++[c],false,w+1,?_⟩
    and_intros
    .exact hw
    .exact by simp;omega
    all_goals exact cl4
 ·rw [ldl (by omega),withGo] at hw
  cases d with
  | true =>
   simp only [if_true,lan] at hw
   refine w2 hH hge ?_
   rw [hw]
  | false =>
   simp only [bft,if_false] at hw
   refine w2 hH hge ?_
   rw [hw]
   simp [Ch.pv]
theorem zbj (l:List Dp) (x:Dp) (hl:l.length<1000000):V 133 [.p (BJ l),.agg [.p (.int .i64 x.group),.p (.int .i64 x.target),.p (.int .i64 x.depth)]] []=some (.fresh 3 ((insGo Dp.group x (decide (x.target=0) && decide (x.depth=256)) l).map Dp.pv),[]):=by
 refine Ac (vf:=vf133) rfl ?_
 cases hT:decide (x.target=0) with
 | true =>
  rw [bta]
  refine w1 hT ?_
  obtain ⟨I,hI⟩:=lpI fun k s=>∃ (acc:List Dp) (d:Bool) (w:Nat),insGo Dp.group x (decide (x.depth=256)) l=acc++insGo Dp.group x d (l.drop k)/\acc.length<=2*k/\s.pe 0=.p (BJ l)/\s.pe 3=.ptr (.slot 3 0) 0 0/\s.h (.slot 3 0)=some (0,Ob.box [.p (.int .i64 x.group),.p (.int .i64 x.target),.p (.int .i64 x.depth)])/\s.pe 5=.own (.slot 5 0) w 0 acc.length/\s.pe 6=.p (.bool d)/\s.pe 7=.p (.int .i64 k)/\s.h (.slot 5 0)=some (w,Ob.arr 3 (acc.map Dp.pv))
  refine Aj (l.length) I ?_ ?_
  ·refine (hI _ _).2 ⟨[],(decide (x.depth=256)),0,?_⟩
   and_intros
   ·rfl
   ·exact cl3
   all_goals exact cl4
  intro k s hk hIk
  obtain ⟨acc,d,w,hw,hal,h0,h3,hh3_0,h5,h6,h7,hh5_0⟩:=(hI _ _).1 hIk
  clear hIk
  refine w7 h0 h3 hh3_0 h5 h6 h7 hh5_0 ?_
  refine Ae (fun hlt=>?_) (fun hge=>?_)
  ·have hm:l[k]?=some l[k]:=lgg hlt
   have hd:l.drop k=l[k]::l.drop (k+1):=ldg hlt
   generalize l[k]=c at hm hd
   rw [hd,insGo] at hw
   cases d with
   | true =>
    by_cases he:c.group=x.group
    ·simp only [he,Bool.not_true,bfa,bft,if_false,if_true,lna,lan,Bool.true_or] at hw
     simp -implicitDefEqProofs (disch:=omega) only [h0,h3,hh3_0,h5,h6,h7,hh5_0,hlt,hm,he,Dp.pv,go_sem]
     try refine ai ?_
     refine (hI _ _).2 ⟨acc,true,w,?_⟩
     and_intros
     ·exact hw
     ·omega
     all_goals exact cl4
    ·simp only [he,Bool.not_true,bfa,bft,if_false,lna,Bool.true_or,<- laa] at hw
     simp -implicitDefEqProofs (disch:=omega) only [h0,h3,hh3_0,h5,h6,h7,hh5_0,hlt,hm,he,Dp.pv,go_sem]
     try refine ai ?_
     refine (hI _ _).2 ⟨acc++[c],true,w+1,?_⟩
     and_intros
     ·exact hw
     ·exact by simp;omega
     all_goals exact cl4
   | false =>
    by_cases hge:x.group<=c.group
    ·by_cases he:c.group=x.group
     ·simp only [he,Int.le_refl,decide_true,bnf,bas,if_true,lan,Bool.or_true,<- laa] at hw
      simp -implicitDefEqProofs (disch:=omega) only [h0,h3,hh3_0,h5,h6,h7,hh5_0,hlt,hm,hge,he,Int.le_refl,decide_true,Dp.pv,go_sem]
      try refine ai ?_
      refine (hI _ _).2 ⟨acc++[x],true,w+1,?_⟩
      and_intros
      .exact hw
      .exact by simp;omega
      all_goals exact cl4
     ·simp only [he,hge,decide_true,bnf,bas,if_true,if_false,Bool.or_true,<- laa] at hw
      simp -implicitDefEqProofs (disch:=omega) only [h0,h3,hh3_0,h5,h6,h7,hh5_0,hlt,hm,hge,he,Dp.pv,go_sem]
      try refine ai ?_
      refine (hI _ _).2 ⟨acc++[x]++[c],true,w+1+1,?_⟩
      and_intros
      .exact hw
      .exact by simp;omega
      all_goals exact cl4
    ·have he:¬ c.group=x.group:=by omega
     simp only [he,hge,decide_false,bnf,Bool.and_false,bft,if_false,lna,Bool.or_false,<- laa] at hw
     simp -implicitDefEqProofs (disch:=omega) only [h0,h3,hh3_0,h5,h6,h7,hh5_0,hlt,hm,hge,he,Dp.pv,go_sem]
     try refine ai ?_
     refine (hI _ _).2 ⟨acc++[c],false,w+1,?_⟩
     and_intros
     ·exact hw
     ·exact by simp;omega
     all_goals exact cl4
  ·rw [ldl (by omega),insGo] at hw
   cases d with
   | true =>
    simp only [if_true,lan] at hw
    refine w8 h0 h3 hh3_0 h5 h6 h7 hh5_0 hge ?_
    rw [hw]
   | false =>
    simp only [bft,if_false] at hw
    refine w8 h0 h3 hh3_0 h5 h6 h7 hh5_0 hge ?_
    rw [hw]
    simp [Dp.pv]
 | false =>
  rw [bfa]
  refine w1 hT ?_
  obtain ⟨I,hI⟩:=lpI fun k s=>∃ (acc:List Dp) (d:Bool) (w:Nat),insGo Dp.group x false l=acc++insGo Dp.group x d (l.drop k)/\acc.length<=2*k/\s.pe 0=.p (BJ l)/\s.pe 3=.ptr (.slot 3 0) 0 0/\s.h (.slot 3 0)=some (0,Ob.box [.p (.int .i64 x.group),.p (.int .i64 x.target),.p (.int .i64 x.depth)])/\s.pe 5=.own (.slot 5 0) w 0 acc.length/\s.pe 6=.p (.bool d)/\s.pe 7=.p (.int .i64 k)/\s.h (.slot 5 0)=some (w,Ob.arr 3 (acc.map Dp.pv))
  refine Aj (l.length) I ?_ ?_
  ·refine (hI _ _).2 ⟨[],false,0,?_⟩
   and_intros
   ·rfl
   ·exact cl3
   all_goals exact cl4
  intro k s hk hIk
  obtain ⟨acc,d,w,hw,hal,h0,h3,hh3_0,h5,h6,h7,hh5_0⟩:=(hI _ _).1 hIk
  clear hIk
  refine w7 h0 h3 hh3_0 h5 h6 h7 hh5_0 ?_
  refine Ae (fun hlt=>?_) (fun hge=>?_)
  ·have hm:l[k]?=some l[k]:=lgg hlt
   have hd:l.drop k=l[k]::l.drop (k+1):=ldg hlt
   generalize l[k]=c at hm hd
   rw [hd,insGo] at hw
   cases d with
   | true =>
    by_cases he:c.group=x.group
    ·simp only [he,Bool.not_true,bfa,bft,if_false,if_true,lna,lan,Bool.true_or] at hw
     simp -implicitDefEqProofs (disch:=omega) only [h0,h3,hh3_0,h5,h6,h7,hh5_0,hlt,hm,he,Dp.pv,go_sem]
     try refine ai ?_
     refine (hI _ _).2 ⟨acc,true,w,?_⟩
     and_intros
     ·exact hw
     ·omega
     all_goals exact cl4
    ·simp only [he,Bool.not_true,bfa,bft,if_false,lna,Bool.true_or,<- laa] at hw
     simp -implicitDefEqProofs (disch:=omega) only [h0,h3,hh3_0,h5,h6,h7,hh5_0,hlt,hm,he,Dp.pv,go_sem]
     try refine ai ?_
     refine (hI _ _).2 ⟨acc++[c],true,w+1,?_⟩
     and_intros
     ·exact hw
     ·exact by simp;omega
     all_goals exact cl4
   | false =>
    by_cases hge:x.group<=c.group
    ·by_cases he:c.group=x.group
     ·simp only [he,Int.le_refl,decide_true,bnf,bas,if_true,lan,Bool.or_true,<- laa] at hw
      simp -implicitDefEqProofs (disch:=omega) only [h0,h3,hh3_0,h5,h6,h7,hh5_0,hlt,hm,hge,he,Int.le_refl,decide_true,Dp.pv,go_sem]
      try refine ai ?_
      refine (hI _ _).2 ⟨acc++[x],true,w+1,?_⟩
      and_intros
      .exact hw
      .exact by simp;omega
      all_goals exact cl4
     ·simp only [he,hge,decide_true,bnf,bas,if_true,if_false,Bool.or_true,<- laa] at hw
      simp -implicitDefEqProofs (disch:=omega) only [h0,h3,hh3_0,h5,h6,h7,hh5_0,hlt,hm,hge,he,Dp.pv,go_sem]
      try refine ai ?_
      refine (hI _ _).2 ⟨acc++[x]++[c],true,w+1+1,?_⟩
      and_intros
      .exact hw
      .exact by simp;omega
      all_goals exact cl4
    ·have he:¬ c.group=x.group:=by omega
     simp only [he,hge,decide_false,bnf,Bool.and_false,bft,if_false,lna,Bool.or_false,<- laa] at hw
     simp -implicitDefEqProofs (disch:=omega) only [h0,h3,hh3_0,h5,h6,h7,hh5_0,hlt,hm,hge,he,Dp.pv,go_sem]
     try refine ai ?_
     refine (hI _ _).2 ⟨acc++[c],false,w+1,?_⟩
     and_intros
     .exact hw
     .exact by simp;omega
     all_goals exact cl4
  ·rw [ldl (by omega),insGo] at hw
   cases d with
   | true =>
    simp only [if_true,lan] at hw
    refine w8 h0 h3 hh3_0 h5 h6 h7 hh5_0 hge ?_
    rw [hw]
   | false =>
    simp only [bft,if_false] at hw
    refine w8 h0 h3 hh3_0 h5 h6 h7 hh5_0 hge ?_
    rw [hw]
    simp [Dp.pv]
theorem IP {t:Tr} (ht:TreeOk t) {g:Int} (hk:Ag t.nodes g=true):V 62 [t.vv,.p (.int .i64 g)] []=some (.fresh 1 ((ancF t.nodes t.nodes.length g).map (.int .i64)),[]):=by
 obtain ⟨nd,hnd,hid⟩:=CY hk
 obtain ⟨ni,hni⟩:=lgm hnd
 have c1:=QM t g (by have:=ht.len;omega)
 have e:Dz t g=ancF t.nodes t.nodes.length g:=by rw [<- hid];exact zaQ ht hni
 rw [e] at c1
 exact c1
theorem P5 {t:Tr} (ht:TreeOk t) (act:List Int) (id:Int) (ha:∀ a∈act,Ag t.nodes a=true) (hl:act.length<1000000):V 273 [t.vv,.p (AG act),.p (.int .i64 id)] []=some (.p (.bool (onB t act id)),[]):=by
 refine Ac (vf:=vf273) rfl ?_
 refine w0 ?_
 obtain ⟨I,hI⟩:=lpI fun k s=>onB t act id=onB t (act.drop k) id/\s.pe 1=.p (AG act)/\s.pe 2=.p (.int .i64 id)/\s.pe 3=.ptr (.slot 3 0) 0 0/\s.pe 7=.p (.int .i64 k)/\s.h (.slot 3 0)=some (0,Ob.box [.p (An t.nodes),.p (.int .i64 t.next)])
 refine Aj (act.length) I ?_ ?_
 ·refine (hI _ _).2 ?_
  and_intros
  ·rfl
  all_goals exact cl4
 intro k s hk hIk
 obtain ⟨hq,hH⟩:=(hI _ _).1 hIk
 clear hIk
 refine w1 hH ?_
 refine Ae (fun hlt=>?_) (fun hge=>?_)
 ·have hm:act[k]?=some act[k]:=lgg hlt
  have hd:act.drop k=act[k]::act.drop (k+1):=ldg hlt
  have hk:=ha act[k] (lgk hlt)
  generalize act[k]=a at hm hd hk
  have c1:=IP ht hk
  have hal:=EH t.nodes t.nodes.length a
  have c2:=zbQ (ancF t.nodes t.nodes.length a) id (by have:=ht.len;omega)
  rw [hd] at hq
  have hq':onB t act id=(decide (id∈ancF t.nodes t.nodes.length a) || onB t (act.drop (k+1)) id):=hq
  generalize ancF t.nodes t.nodes.length a=A at c1 c2 hq' hal
  cases hb:decide (id∈A) with
  | true =>
   rw [hb] at c2 hq'
   rw [Bool.true_or] at hq'
   exact z6 hH hlt hm c1 c2 hq'
  | false =>
   rw [hb] at c2 hq'
   rw [Bool.false_or] at hq'
   simp -implicitDefEqProofs (disch:=omega) only [hH,hlt,hm,c1,c2,go_sem]
   try refine ai ?_
   refine (hI _ _).2 ?_
   and_intros
   .exact hq'
   all_goals exact cl4
 ·rw [ldl (by omega)] at hq
  have hq':onB t act id=false:=hq
  exact z3 hH hge hq'
theorem Nz (p:Int->Bool) (w:Int->Int):∀ l:List Int,Am ((l.filter p).map w)=Am (l.map fun x=>if p x=true then w x else 0)
 | []=>rfl
 | x::l=>by
  have ih:=Nz p w l
  cases hp:p x with
  | true=>rw [List.filter_cons_of_pos (by rw [hp])];simp only [lpc,Am,ih,hp,if_true]
  | false=>rw [List.filter_cons_of_neg (by rw [hp];simp)];simp only [lpc,Am,ih,hp,bft,if_false,Int.zero_add]
theorem Kk {f:Int->Int} {C:Int} (hf:∀ x,0<=f x/\f x<=C):∀ l:List Int,0<=Am (l.map f)/\Am (l.map f)<=C*l.length
 | []=>by simp [Am]
 | x::l=>by
  have ih:=Kk hf l
  have:=hf x
  simp only [lpc,Am,llc,Int.natCast_add,Int.natCast_one,Int.mul_add,Int.mul_one]
  omega
theorem Ya {t:Tr} (ht:TreeOk t) {l:List Ch} (hw:MG l) (hll:l.length<1000000) {act:List Int} (ha:∀ a∈act,Ag t.nodes a=true) (hl:act.length<1000000):∀ (i:Nat) (n:Nd),t.nodes[i]?=some n->V 231 [t.vv,.p (Ap l),.p (AG act),.p (.int .i64 n.id)] []=some (.p (.int .i64 (shr t (Ao l) (onB t act) n.id)),[]):=by
 intro i
 induction i using Nat.strongRecOn with
 | _ i ih =>
 intro n hn
 have hlen:=ht.len
 have hsr:=fun (j:Nat) (m:Nd) (hm:t.nodes[j]?=some m)=>X6 ht (fun x=>(EI hw x).1) (Rd ht act) j m hm
 refine Ac (vf:=vf231) rfl ?_
 rcases ht.nodeAt hn with ⟨h0,h1,_⟩|⟨h0,h1,jp,p,hj,hp,hpe⟩
 ·rw [h1,Jf t ht]
  have d1:decide ((1:Int)=1)=true:=rfl
  exact z1 d1
 ·have hne:¬ n.id=1:=by omega
  have c1:=P5 ht act n.id ha hl
  rw [Je ht _ _ hn (by omega)]
  cases hon:onB t act n.id with
  | false =>
   rw [hon] at c1
   rw [if_neg (by simp)]
   exact z2 hne c1
  | true =>
   rw [hon] at c1
   rw [if_pos rfl]
   have c2:=P2 t n.id (by omega)
   rw [ER ((Bo t).2 ht),DA ht.inc hn] at c2
   simp only [Option.getD_some,Option.isSome_some] at c2
   have c3:=Lk t n.parent (by omega)
   rw [OC (by rw [ER ((Bo t).2 ht),<- hpe,DA ht.inc hp];rfl)] at c3
   have hkl:=K6 t.nodes n.parent
   have c4:=ih jp hj p hp
   rw [hpe] at c4
   have hr:=hsr jp p hp
   rw [hpe] at hr
   have hge:=QH (fun x=>(EI hw x).1) hn hon
   have hwn:=EI hw n.id
   have hS:DK t (Ao l) (onB t act) n.parent=Am ((kidsN t.nodes n.parent).map fun x=>if onB t act x=true then Ao l x else 0):=Nz _ _ _
   rw [hS] at hge ⊢
   have hf:∀ x,0<=(if onB t act x=true then Ao l x else 0)/\(if onB t act x=true then Ao l x else 0)<=10000:=fun x=>by
    have:=EI hw x
    split<;>omega
   have hK:=Kk hf (kidsN t.nodes n.parent)
   have hon2:∀ x,V 273 [t.vv,.p (AG act),.p (.int .i64 x)] []=some (.p (.bool (onB t act x)),[]):=fun x=>P5 ht act x ha hl
   generalize kidsN t.nodes n.parent=K at c3 hkl hge hK ⊢
   generalize shr t (Ao l) (onB t act) n.parent=sh at c4 hr ⊢
   have c5:=Rb l n.id hll
   refine w4 hne c1 c2 c3 ?_
   obtain ⟨J,hJ⟩:=lpI fun j s=>s.pe 1=.p (Ap l)/\s.pe 2=.p (AG act)/\s.pe 3=.p (.int .i64 n.id)/\s.pe 4=.ptr (.slot 4 0) 0 0/\s.pe 9=.ptr (.slot 9 0) 0 0/\s.pe 11=.p (.int .i64 (Am ((K.take j).map fun x=>if onB t act x=true then Ao l x else 0)))/\s.pe 12=.own (.slot 30 1) 0 0 K.length/\s.pe 13=.p (.int .i64 j)/\s.h (.slot 4 0)=some (0,Ob.box [.p (An t.nodes),.p (.int .i64 t.next)])/\s.h (.slot 9 0)=some (0,Ob.box [.p (.int .i64 n.id),.p (.int .i64 n.parent),.p (PV.str n.name),.p (.int .i64 n.control),.p (.int .i64 n.kind),.p (.int .i64 n.owner)])/\s.h (.slot 30 1)=some (0,Ob.arr 1 (List.map (.int .i64) K))
   refine Aj (K.length) J ?_ ?_
   ·refine (hJ _ _).2 ?_
    and_intros
    all_goals exact cl4
   intro j s hj hJk
   obtain ⟨h1,h2,h3,h4,h9,h11,hH⟩:=(hJ _ _).1 hJk
   clear hJk
   refine w7 h1 h2 h3 h4 h9 h11 hH ?_
   refine Ae (fun hlt=>?_) (fun hge'=>?_)
   ·have hm:K[j]?=some K[j]:=lgg hlt
    have hs:=Kg (f:=fun x=>if onB t act x=true then Ao l x else 0) hm
    have hKt:=Kk hf (K.take j)
    have hKl:(K.take j).length<=64:=by rw [llt];omega
    have b1:=hon2 K[j]
    have b2:=Rb l K[j] hll
    have b3:=EI hw K[j]
    generalize K[j]=x at hm hs b1 b2 b3
    generalize Am ((K.take j).map fun x=>if onB t act x=true then Ao l x else 0)=S at h11 hs hKt
    cases ho:onB t act x with
    | true =>
     rw [ho] at b1
     simp only [ho,if_true] at hs
     simp -implicitDefEqProofs (disch:=omega) only [h1,h2,h3,h4,h9,h11,hH,hlt,hm,b1,b2,go_sem]
     try refine ai ?_
     refine (hJ _ _).2 ?_
     and_intros
     all_goals exact cl4
    | false =>
     rw [ho] at b1
     simp only [ho,bft,if_false,Int.add_zero] at hs
     simp -implicitDefEqProofs (disch:=omega) only [h1,h2,h3,h4,h9,h11,hH,hlt,hm,b1,b2,go_sem]
     try refine ai ?_
     refine (hJ _ _).2 ?_
     and_intros
     all_goals exact cl4
   ·rw [ltl (by omega)] at h11
    generalize Am (K.map fun x=>if onB t act x=true then Ao l x else 0)=S at h11 hge hK ⊢
    have hm1:=BZ (a:=sh) (b:=Ao l n.id) (A:=1073741824) (B:=10000) hr.1 hr.2.1 (by omega) (by omega)
    have hq:(sh*Ao l n.id).tdiv S=sh*Ao l n.id / S:=Int.tdiv_eq_ediv_of_nonneg hm1.1
    have hq0:0<=sh*Ao l n.id / S:=Int.ediv_nonneg hm1.1 (by omega)
    have hq1:sh*Ao l n.id / S<=sh*Ao l n.id:=Int.ediv_le_self _ hm1.1
    have hS0:¬ S=0:=by omega
    generalize Ao l n.id=w at c5 hm1 hq hq0 hq1 ⊢
    exact z12 h1 h2 h3 h4 h9 h11 hH hge' c4 c5 hq hS0
theorem Yh {t:Tr} (ht:TreeOk t) {l:List Ch} (hw:AscOk (Ag t.nodes) 1 10000 l) (hll:l.length<1000000) {act:List Int} (ha:∀ a∈act,Ag t.nodes a=true) (hl:act.length<1000000) {i:Nat} {n:Nd} (hn:t.nodes[i]?=some n):V 197 [t.vv,.p (Ap l),.p (AG act),.p (.int .i64 n.id)] []=some (.tup [.p (.int .i64 (shr t (Ao l) (onB t act) n.id)),.p (.int .i64 0)],[]):=by
 refine Ac (vf:=vf197) rfl ?_
 have c1:=LK ht hw hll
 have hk:Ag t.nodes n.id=true:=by unfold Ag;rw [DA ht.inc hn];rfl
 have c2:=Ed ht hk
 have c3:=Ya ht (fun c hc=>hw.range c hc) hll ha hl i n hn
 exact z3 c1 c2 c3
theorem zbq (x:Dv) (hs:x.Small):V 198 [x.vv] []=some (.fresh 1 ((actL x).map (.int .i64)),[]):=by
 refine Ac (vf:=vf198) rfl ?_
 have hq:=hs.q
 have hf:=hs.f
 refine w0 ?_
 obtain ⟨I,hI⟩:=lpI fun k s=>∃ (acc:List Int) (w:Nat),acc=(x.queue.take k).map (·.group)/\acc.length=k/\s.pe 1=.ptr (.slot 1 0) 0 0/\s.pe 3=.own (.slot 3 0) w 0 acc.length/\s.pe 4=.p (.int .i64 k)/\s.h (.slot 1 0)=some (0,Ob.box (dvC x))/\s.h (.slot 3 0)=some (w,Ob.arr 1 (acc.map (.int .i64)))
 refine Aj (x.queue.length) I ?_ ?_
 ·refine (hI _ _).2 ⟨[],0,?_⟩
  and_intros
  ·rfl
  ·rfl
  all_goals exact cl4
 intro k s hk hIk
 obtain ⟨acc,w,ha,hal,hH⟩:=(hI _ _).1 hIk
 clear hIk
 refine w1 hH ?_
 refine Ae (fun hlt=>?_) (fun hge=>?_)
 ·have hm:x.queue[k]?=some x.queue[k]:=lgg hlt
  have htk:=Bt hm
  generalize x.queue[k]=r at hm htk
  simp -implicitDefEqProofs (disch:=omega) only [hH,hlt,hm,go_sem]
  try refine ai ?_
  refine (hI _ _).2 ⟨acc++[r.group],w+1,?_⟩
  and_intros
  ·exact by rw [ha,htk,lma];rfl
  ·exact by rw [lla,hal];rfl
  all_goals exact cl4
 ·rw [ltl (by omega)] at ha
  refine w2 hH hge ?_
  obtain ⟨J,hJ⟩:=lpI fun j s=>∃ (ac2:List Int) (w2:Nat),ac2=acc++(x.flights.take j).map (·.r.group)/\ac2.length=x.queue.length+j/\s.pe 1=.ptr (.slot 1 0) 0 0/\s.pe 3=.own (.slot 3 0) w2 0 ac2.length/\s.pe 5=.p (.int .i64 j)/\s.h (.slot 1 0)=some (0,Ob.box (dvC x))/\s.h (.slot 3 0)=some (w2,Ob.arr 1 (ac2.map (.int .i64)))
  refine Aj (x.flights.length) J ?_ ?_
  ·refine (hJ _ _).2 ⟨acc,w,?_⟩
   and_intros
   .exact by simp
   .omega
   all_goals exact cl4
  intro j s hj hJk
  obtain ⟨ac2,w2,hb,hbl,hH⟩:=(hJ _ _).1 hJk
  clear hJk
  refine w1 hH ?_
  refine Ae (fun hlt=>?_) (fun hge'=>?_)
  ·have hm:x.flights[j]?=some x.flights[j]:=lgg hlt
   have htk:=Bt hm
   generalize x.flights[j]=r at hm htk
   simp -implicitDefEqProofs (disch:=omega) only [hH,hlt,hm,Fl.pv,go_sem]
   try refine ai ?_
   refine (hJ _ _).2 ⟨ac2++[r.r.group],w2+1,?_⟩
   and_intros
   .exact by rw [hb,htk,lma,laa];rfl
   .exact by rw [lla,hbl];rfl
   all_goals exact cl4
  ·rw [ltl (by omega),ha] at hb
   have hA:actL x=ac2:=hb.symm
   rw [hA]
   exact z2 hH hge'
theorem YU (l:List Fl) (f:Fl) (id:Int):AT (l++[f]) id=AT l id+if f.r.group=id then 1 else 0:=by
 unfold AT
 rw [List.filter_append,lla]
 by_cases h:f.r.group=id<;>simp [h]
theorem X8 (t:Tr) (x:Dv) (hn:t.nodes.length<1000000) (hf:x.flights.length<1000000):V 211 [t.vv,x.vv] []=some (.fresh 2 ((flyL t x.flights).map Ch.pv),[]):=by
 refine Ac (vf:=vf211) rfl ?_
 refine w0 ?_
 obtain ⟨I,hI⟩:=lpI fun k s=>∃ (acc:List Ch) (w:Nat),(acc=((t.nodes.take k).filter fun n=>decide (0<AT x.flights n.id)).map fun n=>(⟨n.id,AT x.flights n.id⟩:Ch))/\acc.length<=k/\s.pe 2=.ptr (.slot 2 0) 0 0/\s.pe 3=.ptr (.slot 3 0) 0 0/\s.pe 5=.own (.slot 5 0) w 0 acc.length/\s.pe 6=.p (.int .i64 k)/\s.h (.slot 2 0)=some (0,Ob.box [.p (An t.nodes),.p (.int .i64 t.next)])/\s.h (.slot 3 0)=some (0,Ob.box (dvC x))/\s.h (.slot 5 0)=some (w,Ob.arr 2 (acc.map Ch.pv))
 refine Aj (t.nodes.length) I ?_ ?_
 ·refine (hI _ _).2 ⟨[],0,?_⟩
  and_intros
  ·rfl
  ·exact cl3
  all_goals exact cl4
 intro k s hk hIk
 obtain ⟨acc,w,ha,hal,h2,h3,h5,h6,hH⟩:=(hI _ _).1 hIk
 clear hIk
 refine w5 h2 h3 h5 h6 hH ?_
 refine Ae (fun hlt=>?_) (fun hge=>?_)
 rotate_left
 ·rw [ltl (by omega)] at ha
  have hA:flyL t x.flights=acc:=ha.symm
  rw [hA]
  exact z6 h2 h3 h5 h6 hH hge
 ·have hm:t.nodes[k]?=some t.nodes[k]:=lgg hlt
  have htk:=Bt hm
  generalize t.nodes[k]=n at hm htk
  refine w7 h2 h3 h5 h6 hH hlt hm ?_
  obtain ⟨J,hJ⟩:=lpI fun j s=>s.pe 2=.ptr (.slot 2 0) 0 0/\s.pe 3=.ptr (.slot 3 0) 0 0/\s.pe 5=.own (.slot 5 0) w 0 acc.length/\s.pe 6=.p (.int .i64 k)/\s.pe 7=.p (.int .i64 (AT (x.flights.take j) n.id))/\s.pe 8=.p (.int .i64 j)/\s.h (.slot 2 0)=some (0,Ob.box [.p (An t.nodes),.p (.int .i64 t.next)])/\s.h (.slot 3 0)=some (0,Ob.box (dvC x))/\s.h (.slot 5 0)=some (w,Ob.arr 2 (acc.map Ch.pv))
  refine Aj (x.flights.length) J ?_ ?_
  ·refine (hJ _ _).2 ?_
   and_intros
   all_goals exact cl4
  intro j s hj hJk
  obtain ⟨h2,h3,h5,h6,h7,hH⟩:=(hJ _ _).1 hJk
  clear hJk
  refine w6 h2 h3 h5 h6 h7 hH ?_
  refine Ae (fun hj=>?_) (fun hje=>?_)
  ·have hmj:x.flights[j]?=some x.flights[j]:=lgg hj
   have htj:=Bt hmj
   have hc:=YU (x.flights.take j) x.flights[j] n.id
   rw [<- htj] at hc
   have hc0:=Gw (x.flights.take j) n.id
   have hc1:=H8 (x.flights.take j) n.id
   have hl:(x.flights.take j).length<=x.flights.length:=by rw [llt];omega
   generalize x.flights[j]=f at hmj hc
   generalize AT (x.flights.take j) n.id=q at h7 hc hc0 hc1
   by_cases he:f.r.group=n.id
   ·rw [if_pos he] at hc
    simp -implicitDefEqProofs (disch:=omega) only [h2,h3,h5,h6,h7,hH,hj,hm,hmj,Fl.pv,Nd.vv,he,go_sem]
    try refine ai ?_
    refine (hJ _ _).2 ?_
    and_intros
    all_goals exact cl4
   ·rw [if_neg he,Int.add_zero] at hc
    simp -implicitDefEqProofs (disch:=omega) only [h2,h3,h5,h6,h7,hH,hj,hm,hmj,Fl.pv,Nd.vv,he,go_sem]
    try refine ai ?_
    refine (hJ _ _).2 ?_
    and_intros
    all_goals exact cl4
  ·rw [ltl (by omega)] at h7
   have hc0:=Gw x.flights n.id
   by_cases hp:0<AT x.flights n.id
   ·simp -implicitDefEqProofs (disch:=omega) only [h2,h3,h5,h6,h7,hH,hje,hm,hp,Nd.vv,go_sem]
    try refine ai ?_
    refine (hI _ _).2 ⟨acc++[⟨n.id,AT x.flights n.id⟩],w+1,?_⟩
    and_intros
    .exact by rw [ha,htk,List.filter_append,lma];simp [hp]
    .exact by rw [lla,List.length_singleton];omega
    all_goals exact cl4
   ·simp -implicitDefEqProofs (disch:=omega) only [h2,h3,h5,h6,h7,hH,hje,hm,hp,Nd.vv,go_sem]
    try refine ai ?_
    refine (hI _ _).2 ⟨acc,w,?_⟩
    and_intros
    .exact by rw [ha,htk,List.filter_append,lma];simp [hp]
    .omega
    all_goals exact cl4
end Go.V
