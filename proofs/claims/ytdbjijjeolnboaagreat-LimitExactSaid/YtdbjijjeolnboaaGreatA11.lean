import Derived.Test.YtdbjijjeolnboaaGreatA3
set_option linter.unusedSectionVars false
set_option linter.unusedSimpArgs false
set_option linter.unusedVariables false
set_option maxHeartbeats 32000000
open List renaming getElem?_eq_getElem → lgg, getElem?_eq_some_iff → lgs, mem_of_getElem? → lmg, drop_eq_getElem_cons → ldg, mem_cons_of_mem → lmc, map_cons → lpc, drop_of_length_le → ldl, nil_append → lna, append_assoc → laa, append_nil → lan, mem_map → lmm, mem_cons_self → lms, map_append → lma, take_of_length_le → ltl, getElem?_of_mem → lgm, length_cons → llc, flatMap_cons → lfc, mem_cons → lmk, length_nil → lln, length_map → llm, length_take → llt, pairwise_cons → lpw
open Bool renaming false_and → bfa, true_and → bta
namespace Go.V
theorem Wz (t : Tr) (l : List Pt) (root : Int) (hn : t.nodes.length < 1000000) (hl : l.length < 1000000) : V 139 [t.vv,.p (B4 l),.p (.int .i64 root)] [] = some (.p (.bool (CK t l root)),[]):=by
 refine Ag (vf:=vf139) rfl ?_
 have htc := EV t hn
 have hha := CJ t root hn
 by_cases ht : AF t = true
 ·have hT := (A5 t).1 ht
  rw [ht] at htc
  by_cases hh : (A6 t root).isSome = true
  ·rw [hh] at hha
   have hsub := J1 (t := t) root hn
   have hsl := CZ hT root
   have hlen := hT.len
   have hnd := Jq hT root
   have hin : InN t.nodes root:=by
    rw [Cl ht] at hh
    obtain ⟨n, hn, he⟩:=Cu hh
    obtain ⟨i, hi⟩:=lgm hn
    exact ⟨i, n, hi, he⟩
   have hne := (J0 hT).2 hin
   have hv : CK t l root = A0 l (CH (subT t root)):=by
    rw [CK, ht, bta, OP hnd]
    simp [hne]
   rw [hv]
   have hsu := PI (subT t root) (by omega)
   have hsul := Ok (subT t root)
   generalize CH (subT t root) = G at hsu hsul
   by_cases hlg : l.length = G.length
   ·have hlg' : (l.length : Int) = G.length:=by omega
    simp -implicitDefEqProofs (disch:=omega) only [vf139,IA,htc,hha,hsub,hsu,hlg',go_sem]
    obtain ⟨I, hI⟩:=lpI fun k s=>A0 l G = A0 (l.drop k) (G.drop k) /\ s.pe 1 = .p (B4 l) /\ s.pe 7 = .own (.slot 22 1) 0 0 G.length /\ s.pe 8 = .p (.int .i64 k) /\ s.h (.slot 22 1) = some (0, Ob.arr 1 (List.map (.int .i64) G))
    refine Al (l.length) I ?_ ?_
    ·refine (hI _ _).2 ?_
     and_intros
     ·rfl
     all_goals exact cl0
    intro k s hk hIk
    obtain ⟨hp,hH⟩:=(hI _ _).1 hIk
    clear hIk
    simp -implicitDefEqProofs (disch:=omega) only [hH,go_sem]
    refine Ah (fun hlt=>?_) (fun hge=>?_)
    ·have hm : l[k]? = some l[k]:=lgg hlt
     have hg : G[k]? = some G[k]:=lgg (by omega)
     have hdr : l.drop k = l[k] :: l.drop (k + 1):=ldg hlt
     have hdg : G.drop k = G[k] :: G.drop (k + 1):=ldg (by omega)
     generalize l[k] = x at hm hdr
     generalize G[k] = y at hg hdg
     rw [hdr, hdg, A0] at hp
     have hbad : ¬ (x.group = y /\ PtOk x) -> A0 l G = false:=fun h=>by
      rw [hp, show D8 x y = false from Bool.eq_false_iff.2 fun h2=>h ((Lx x y).1 h2), bfa]
     have hgood : (x.group = y /\ PtOk x) -> A0 l G = A0 (l.drop (k + 1)) (G.drop (k + 1)):=fun h=>by
      rw [hp, (Lx x y).2 h, bta]
     by_cases hc0 : x.group = y
     ·by_cases hc1 : x.usage < 0
      ·have hb:=hbad (fun h=>by have:=h.2.u0; omega)
       simp -implicitDefEqProofs (disch:=omega) only [hH,hlt,hm,hg,hc0,hc1,hb,go_sem]
      ·by_cases hc2 : 16777216 < x.usage
       ·have hb:=hbad (fun h=>by have:=h.2.u1; omega)
        simp -implicitDefEqProofs (disch:=omega) only [hH,hlt,hm,hg,hc0,hc1,hc2,hb,go_sem]
       ·by_cases hc3 : x.protect < 0
        ·have hb:=hbad (fun h=>by have:=h.2.p0; omega)
         simp -implicitDefEqProofs (disch:=omega) only [hH,hlt,hm,hg,hc0,hc1,hc2,hc3,hb,go_sem]
        ·by_cases hc4 : 16777216 < x.protect
         ·have hb:=hbad (fun h=>by have:=h.2.p1; omega)
          simp -implicitDefEqProofs (disch:=omega) only [hH,hlt,hm,hg,hc0,hc1,hc2,hc3,hc4,hb,go_sem]
         ·by_cases hc5 : x.own < 0
          ·have hb:=hbad (fun h=>by have:=h.2.o0; omega)
           simp -implicitDefEqProofs (disch:=omega) only [hH,hlt,hm,hg,hc0,hc1,hc2,hc3,hc4,hc5,hb,go_sem]
          ·by_cases hc6 : 16777216 < x.own
           ·have hb:=hbad (fun h=>by have:=h.2.o1; omega)
            simp -implicitDefEqProofs (disch:=omega) only [hH,hlt,hm,hg,hc0,hc1,hc2,hc3,hc4,hc5,hc6,hb,go_sem]
           ·by_cases hc7 : x.room < 0
            ·have hb:=hbad (fun h=>by have:=h.2.r0; omega)
             simp -implicitDefEqProofs (disch:=omega) only [hH,hlt,hm,hg,hc0,hc1,hc2,hc3,hc4,hc5,hc6,hc7,hb,go_sem]
            ·by_cases hc8 : 4611686018427387904 < x.room
             ·have hb:=hbad (fun h=>by have:=h.2.r1; omega)
              simp -implicitDefEqProofs (disch:=omega) only [hH,hlt,hm,hg,hc0,hc1,hc2,hc3,hc4,hc5,hc6,hc7,hc8,hb,go_sem]
             ·have hg0 : A0 l G = A0 (l.drop (k + 1)) (G.drop (k + 1)):=hgood ⟨by omega,⟨by omega,by omega,by omega,by omega,by omega,by omega,by omega,by omega⟩⟩
              simp -implicitDefEqProofs (disch:=omega) only [hH,hlt,hm,hg,hc0,hc1,hc2,hc3,hc4,hc5,hc6,hc7,hc8,go_sem]
              try refine ai ?_
              refine (hI _ _).2 ?_
              and_intros
              .exact hg0
              all_goals exact cl0
     ·have hb:=hbad (fun h=>hc0 h.1)
      simp -implicitDefEqProofs (disch:=omega) only [hH,hlt,hm,hg,hc0,hb,go_sem]
    ·rw [ldl (by omega),ldl (by omega),A0] at hp
     simp -implicitDefEqProofs (disch:=omega) only [hge,hp,go_sem]
   ·have hlg' : ¬ (l.length : Int) = G.length:=by omega
    have hpf : A0 l G = false:=Bool.eq_false_iff.2 fun h=>hlg (KO l G h)
    simp -implicitDefEqProofs (disch:=omega) only [vf139,IA,htc,hha,hsub,hsu,hlg',hpf,go_sem]
  ·have hh' : (A6 t root).isSome = false:=by simpa using hh
   rw [hh'] at hha
   have hv : CK t l root = false:=Bool.eq_false_iff.2 fun h=>by
    obtain ⟨i,n,hi,he⟩:=((Jj t l root).1 h).top
    rw [Cl ht,<- he,BZ hT.inc hi] at hh'
    simp at hh'
   simp -implicitDefEqProofs (disch:=omega) only [vf139,IA,htc,hha,hv,go_sem]
 ·have ht' : AF t = false:=by simpa using ht
  rw [ht'] at htc
  have hv : CK t l root = false:=by rw [CK,ht',bfa]
  simp -implicitDefEqProofs (disch:=omega) only [vf139,IA,htc,hv,go_sem]
theorem WI (x : Pt) (l : List Pt) (g : Int) : partOf (x :: l) g = if x.group = g then x else partOf l g:=by
 unfold partOf
 rw [List.find?_cons]
 by_cases h : x.group = g <;> simp [h]
theorem RG (l : List Pt) (g : Int) (hl : l.length < 1000000) : V 156 [.p (B4 l),.p (.int .i64 g)] [] = some ((partOf l g).vv,[]):=by
 refine Ag (vf:=vf156) rfl ?_
 simp -implicitDefEqProofs only [vf156,S8,go_sem]
 obtain ⟨I,hI⟩:=lpI fun k s=>partOf l g = partOf (l.drop k) g /\ s.pe 0 = .p (B4 l) /\ s.pe 1 = .p (.int .i64 g) /\ s.pe 4 = .ptr (.slot 4 0) 0 0 /\ s.pe 5 = .p (.int .i64 k) /\ s.h (.slot 4 0) = some (0,Ob.box [.p (.int .i64 0),.p (.int .i64 0),.p (.int .i64 0),.p (.int .i64 0),.p (.int .i64 0)])
 refine Al (l.length) I ?_ ?_
 ·refine (hI _ _).2 ?_
  and_intros
  ·rfl
  all_goals exact cl0
 intro k s hk hIk
 obtain ⟨hp,hH⟩:=(hI _ _).1 hIk
 clear hIk
 simp -implicitDefEqProofs only [hH,go_sem]
 refine Ah (fun hlt=>?_) (fun hge=>?_)
 ·have hm : l[k]? = some l[k]:=lgg hlt
  have hdr : l.drop k = l[k] :: l.drop (k + 1):=ldg hlt
  generalize l[k] = x at hm hdr
  rw [hdr,WI] at hp
  by_cases hx : x.group = g
  ·rw [if_pos hx] at hp
   subst hx
   simp -implicitDefEqProofs only [hH,hlt,hm,hp,go_sem]
   try rfl
  ·rw [if_neg hx] at hp
   simp -implicitDefEqProofs only [hH,hlt,hm,hx,go_sem]
   try refine ai ?_
   refine (hI _ _).2 ?_
   and_intros
   .exact hp
   all_goals exact cl0
 ·rw [ldl (by omega)] at hp
  simp -implicitDefEqProofs only [hH,hge,hp,go_sem]
  rfl
theorem XA {t : Tr} (h : TreeOk t) {l : List Pt} (hl : l.length < 1000000) (hp : ∀ x ∈ l,PtOk x) : ∀ (k i : Nat) (n : Nd),t.nodes[i]? = some n -> t.nodes.length <= i + k -> V 141 [t.vv,.p (B4 l),.p (.int .i64 n.id)] [] = some (.p (.int .i64 (BP t.nodes l k n.id)),[]):=by
 intro k
 induction k with
 | zero=>intro i n hn hk; have:=(lgs.1 hn).1; omega
 | succ k ih =>
  intro i n hn hk
  have hlen:=h.len
  refine Ag (vf:=vf141) rfl ?_
  have hkd:=Ii t n.id (by omega)
  rw [MX h ⟨i,n,hn,rfl⟩] at hkd
  have hkl:=Fr t.nodes n.id
  have hkm : ∀ c ∈ kidsN t.nodes n.id,V 141 [t.vv,.p (B4 l),.p (.int .i64 c)] [] = some (.p (.int .i64 (BP t.nodes l k c)),[]):=by
   intro c hc
   obtain ⟨j,m,hj,hp,rfl⟩:=BR.1 hc
   have hij:=h.kid hn hj hp
   exact ih j m hj (by omega)
  rw [JH,F3]
  have hx:=Eo hp n.id
  have hu0:=hx.u0; have hu1:=hx.u1; have hp0:=hx.p0; have hp1:=hx.p1; have ho0:=hx.o0; have ho1:=hx.o1; have hr0:=hx.r0; have hr1:=hx.r1
  clear hx
  have hpt:=RG l n.id hl
  generalize partOf l n.id = x at hpt hu0 hu1 hp0 hp1 ho0 ho1 hr0 hr1
  generalize kidsN t.nodes n.id = ks at hkd hkl hkm
  simp only [Pt.vv] at hpt
  simp -implicitDefEqProofs (disch:=omega) only [vf141,Ti,hkd,hpt,go_sem]
  obtain ⟨J,hJ⟩:=lpI fun j s=>∃ (s0 : Int),s0 = x.own + Ab ((ks.take j).map (BP t.nodes l k)) /\ 0 <= s0 /\ s0 <= 16777216 * (j + 1) /\ s.pe 1 = .p (B4 l) /\ s.pe 3 = .ptr (.slot 3 0) 0 0 /\ s.pe 7 = .ptr (.slot 7 0) 0 0 /\ s.pe 8 = .p (.int .i64 s0) /\ s.pe 9 = .own (.slot 18 1) 0 0 ks.length /\ s.pe 10 = .p (.int .i64 j) /\ s.h (.slot 3 0) = some (0,Ob.box [.p (Au t.nodes),.p (.int .i64 t.next)]) /\ s.h (.slot 7 0) = some (0,Ob.box [.p (.int .i64 x.group),.p (.int .i64 x.usage),.p (.int .i64 x.protect),.p (.int .i64 x.own),.p (.int .i64 x.room)]) /\ s.h (.slot 18 1) = some (0,Ob.arr 1 (List.map (.int .i64) ks))
  refine Al (ks.length) J ?_ ?_
  ·refine (hJ _ _).2 ⟨x.own,?_⟩
   and_intros
   .exact by simp [Ab]
   .exact cl3
   .exact cl3
   all_goals exact cl0
  intro j s hj hJk
  obtain ⟨s0,hs0,hs1,hs2,hH⟩:=(hJ _ _).1 hJk
  clear hJk
  simp -implicitDefEqProofs (disch:=omega) only [hH,go_sem]
  refine Ah (fun hlt=>?_) (fun hge=>?_)
  ·have hm : ks[j]? = some ks[j]:=lgg hlt
   have htk:=GY (f:=BP t.nodes l k) hm
   generalize ks[j] = c at hm htk
   have hc:=hkm c (lmg hm)
   have hb:=El (ns:=t.nodes) hp k c
   generalize BP t.nodes l k c = v at hc hb htk
   have hb0:=hb.1
   have hb1:=hb.2
   simp -implicitDefEqProofs (disch:=omega) only [hH,hlt,hm,hc,go_sem]
   try refine ai ?_
   refine (hJ _ _).2 ⟨s0 + v,?_⟩
   and_intros
   .exact by rw [htk,hs0]; omega
   .omega
   .omega
   all_goals exact cl0
  ·rw [ltl (by omega)] at hs0
   have hmm : min (min (max 0 (x.usage - x.protect)) x.room) (x.own + Ab (ks.map (BP t.nodes l k))) = min (min s0 x.room) (max 0 (x.usage - x.protect)):=by omega
   simp -implicitDefEqProofs (disch:=omega) only [hH,hge,hmm,go_sem]
theorem Qy {t : Tr} (h : TreeOk t) {l : List Pt} (hl : l.length < 1000000) (hp : ∀ x ∈ l,PtOk x) {g : Int} (hg : InN t.nodes g) : V 141 [t.vv,.p (B4 l),.p (.int .i64 g)] [] = some (.p (.int .i64 (capR t l g)),[]):=by
 obtain ⟨i,n,hn,rfl⟩:=hg
 exact XA h hl hp _ i n hn (by omega)
theorem Ju : ∀ (left : Int) (o w : List Int),left <= 0 -> bumpD left o w = o
 | left,o :: os,w :: ws,h=>by
  unfold bumpD
  rw [if_neg (fun hh=>by omega),Ju left os ws h]
 | _,[],_,_=>by unfold bumpD; rfl
 | _,_ :: _,[],_=>by unfold bumpD; rfl
theorem Pb : ∀ (left : Int) (w : List Int),(∀ x ∈ w,x = 0) -> bumpD left (w.map fun _=>0) w = w.map fun _=>0
 | left,w :: ws,h=>by
  have:=h w (by simp)
  subst this
  rw [lpc]
  unfold bumpD
  rw [if_neg (fun hh=>by omega),Pb left ws (fun x hx=>h x (by simp [hx]))]
 | _,[],_=>by unfold bumpD; rfl
theorem Of : ∀ (w : List Int),(∀ x ∈ w,0 <= x) -> Ab w = 0 -> ∀ x ∈ w,x = 0
 | [],_,_,x,hx=>by simp at hx
 | y :: w,h,hs,x,hx=>by
  have h1:=h y (by simp)
  have h2:=ER w (fun z hz=>h z (by simp [hz]))
  simp only [Ab] at hs
  rcases lmk.1 hx with rfl | hx
  .omega
  .exact Of w (fun z hz=>h z (by simp [hz])) (by omega) x hx
theorem Xz (K : Int) (w : List Int) (hk0 : 0 <= K) (hk1 : K <= 16777216) (hl : w.length < 1000) (hw : ∀ x ∈ w,0 <= x /\ x <= 16777216) : V 157 [.p (.int .i64 K),.p (AT w)] [] = some (.fresh 1 ((splitP K w).map (.int .i64)),[]):=by
 refine Ag (vf:=vf157) rfl ?_
 simp -implicitDefEqProofs (disch:=omega) only [vf157,S7,go_sem]
 obtain ⟨I,hI⟩:=lpI fun k s=>∃ (y : Int),y = Ab (w.take k) /\ 0 <= y /\ y <= 16777216 * k /\ s.pe 0 = .p (.int .i64 K) /\ s.pe 1 = .p (AT w) /\ s.pe 5 = .p (.int .i64 y) /\ s.pe 6 = .p (.int .i64 k)
 refine Al (w.length) I ?_ ?_
 ·refine (hI _ _).2 ⟨0,?_⟩
  and_intros
  ·exact by simp [Ab]
  ·exact cl3
  ·exact cl3
  all_goals exact cl0
 intro k s hk hIk
 obtain ⟨y,hy,hy0,hy1,hH⟩:=(hI _ _).1 hIk
 clear hIk
 simp -implicitDefEqProofs (disch:=omega) only [hH,go_sem]
 refine Ah (fun hlt=>?_) (fun hge=>?_)
 ·have hm : w[k]? = some w[k]:=lgg hlt
  have htk:=GY (f:=fun x=>x) hm
  rw [List.map_id',List.map_id'] at htk
  have hb:=hw _ (lmg hm)
  generalize w[k] = x at hm htk hb
  have hb0:=hb.1
  have hb1:=hb.2
  simp -implicitDefEqProofs (disch:=omega) only [hH,hlt,hm,go_sem]
  try refine ai ?_
  refine (hI _ _).2 ⟨y + x,?_⟩
  and_intros
  ·exact by rw [htk,hy]
  ·omega
  ·omega
  all_goals exact cl0
 ·rw [List.take_of_length_le (by omega)] at hy
  have hkw : k = w.length:=by omega
  subst hkw
  obtain ⟨B,hB⟩ : ∃ B : List Int,B = if y = 0 then w.map (fun _=>0) else BE K y w:=⟨_,rfl⟩
  have hBl : B.length = w.length:=by rw [hB]; split <;> simp [BE]
  have hsp : splitP K w = bumpD (K - Ab B) B w:=by
   unfold splitP
   rw [<- hy,hB]
   by_cases hz : y = 0
   ·rw [if_pos hz,if_pos hz]
    exact (Pb _ w (Of w (fun x hx=>(hw x hx).1) (by rw [<- hy]; exact hz))).symm
   ·rw [if_neg hz,if_neg hz]
  rw [hsp]
  have hBn : ∀ o ∈ B,0 <= o:=by
   rw [hB]
   intro o ho
   split at ho
   ·obtain ⟨_,_,rfl⟩:=lmm.1 ho
    omega
   ·obtain ⟨x,hx,rfl⟩:=lmm.1 ho
    exact Int.ediv_nonneg (Int.mul_nonneg hk0 (hw x hx).1) hy0
  simp -implicitDefEqProofs (disch:=omega) only [hH,hge,Jv,go_sem]
  obtain ⟨J,hJ⟩:=lpI fun j s=>∃ (v25_0 : Nat) (arr : List Int) (left : Int),(y = 0 -> j = 0) /\ arr.length = w.length /\ arr.drop j = ((w.drop j).map fun _=>(0 : Int)) /\ arr.take j = B.take j /\ left = K - Ab (arr.take j) /\ -(281474976710656 * j : Int) <= left /\ left <= 16777216 /\ s.pe 0 = .p (.int .i64 K) /\ s.pe 1 = .p (AT w) /\ s.pe 5 = .p (.int .i64 y) /\ s.pe 7 = .own (.slot 25 0) v25_0 0 w.length /\ s.pe 8 = .p (.int .i64 left) /\ s.pe 9 = .p (.int .i64 j) /\ s.h (.slot 25 0) = some (v25_0,Ob.arr 1 (arr.map (.int .i64)))
  refine Al (w.length) J ?_ ?_
  ·refine (hJ _ _).2 ⟨nv (s.h (.slot 25 0)),w.map fun _=>0,K,?_⟩
   and_intros
   ·exact cl3
   ·exact by simp
   ·exact by simp
   ·rfl
   ·exact by simp [Ab]
   ·exact cl3
   ·exact cl3
   all_goals exact cl0
  intro j s hj hJk
  obtain ⟨v25_0,arr,left,hj0,harl,hdz,hpre,hlf,hl0,hl1,hH⟩:=(hJ _ _).1 hJk
  clear hJk
  simp -implicitDefEqProofs (disch:=omega) only [hH,go_sem]
  by_cases hyz : 0 < y /\ j < w.length
  ·have hyp:=hyz.1
   have hlt:=hyz.2
   have hyne : ¬ y = 0:=by omega
   have hm : w[j]? = some w[j]:=lgg hlt
   have htk:=Bf hm
   have hb:=hw _ (lmg hm)
   generalize w[j] = x at hm htk hb
   have hb0:=hb.1
   have hb1:=hb.2
   have hm0 : 0 <= K * x:=Int.mul_nonneg hk0 hb0
   have hm1 : K * x <= 281474976710656:=by
    have:=Int.mul_le_mul hk1 hb1 hb0 (by omega)
    omega
   have hq : (K * x).tdiv y = K * x / y:=Int.tdiv_eq_ediv_of_nonneg hm0
   have hq0 : 0 <= K * x / y:=Int.ediv_nonneg hm0 hy0
   have hq1 : K * x / y <= K * x:=Int.ediv_le_self _ hm0
   have hbd : B.take (j + 1) = B.take j ++ [K * x / y]:=by
    rw [hB,if_neg hyne,BE,<- List.map_take,<- List.map_take,htk,lma]
    rfl
   generalize K * x / y = q at hq hq0 hq1 hbd
   obtain ⟨p,hp⟩ : ∃ p,K * x = p:=⟨_,rfl⟩
   rw [hp] at hm0 hm1 hq hq1
   have hset:=HY arr j q
   have hget : (List.map (PV.int .i64) (arr.set j q))[j]? = some (.int .i64 q):=HZ (by rw [List.getElem?_set_self (by omega)])
   have hga : arr[j]? = some arr[j]:=lgg (by omega)
   generalize arr[j] = z at hga
   have hdz' : (arr.set j q).drop (j + 1) = (w.drop (j + 1)).map fun _=>0:=by
    rw [List.drop_set_of_lt (by omega)]
    have:=congrArg (List.drop 1) hdz
    rw [<- List.map_drop,List.drop_drop,List.drop_drop] at this
    exact this
   simp -implicitDefEqProofs (disch:=omega) only [hH,hyp,hlt,hm,hp,hq,hset,hget,hga,List.headD_cons,go_sem]
   try refine ai ?_
   refine (hJ _ _).2 ⟨v25_0,arr.set j q,left - q,?_⟩
   and_intros
   ·exact fun h=>absurd h hyne
   ·exact by rw [List.length_set,harl]
   ·exact hdz'
   ·exact by rw [F6 (by omega),hpre,hbd]
   ·exact by rw [F6 (by omega),Qm,hlf]; omega
   ·omega
   ·omega
   all_goals exact cl0
  ·have harB : arr = B:=by
    by_cases hy' : y = 0
    ·have:=hj0 hy'
     subst this
     rw [List.drop_zero,List.drop_zero] at hdz
     rw [hdz,hB,if_pos hy']
    ·have : j = w.length:=by omega
     subst this
     rw [ltl (by omega),ltl (by omega)] at hpre
     exact hpre
   have hlB : left = K - Ab B:=by
    by_cases hy' : y = 0
    ·have:=hj0 hy'
     subst this
     rw [List.take_zero] at hlf
     rw [hlf,hB,if_pos hy',H1]
     rfl
    ·have : j = w.length:=by omega
     subst this
     rw [ltl (by omega),harB] at hlf
     exact hlf
   rw [<- harB] at hBl hBn
   rw [<- hlB,<- harB]
   have hl0' : -(281474976710656000 : Int) <= left:=by omega
   clear hl0
   by_cases hyp : 0 < y
   ·have hyne : ¬ y = 0:=by omega
    have hge2 : ¬ j < w.length:=fun h=>hyz ⟨hyp,h⟩
    simp -implicitDefEqProofs (disch:=omega) only [hH,hyp,hge2,go_sem]
    obtain ⟨M,hM⟩:=lpI fun m s=>∃ (a2 : List Int) (lf : Int),a2.length = w.length /\ a2.take m ++ bumpD lf (arr.drop m) (w.drop m) = bumpD left arr w /\ a2.drop m = arr.drop m /\ -(281474976710656000 : Int) - m <= lf /\ lf <= 16777216 /\ s.pe 1 = .p (AT w) /\ s.pe 7 = .own (.slot 25 0) v25_0 0 w.length /\ s.pe 8 = .p (.int .i64 lf) /\ s.pe 10 = .p (.int .i64 m) /\ s.h (.slot 25 0) = some (v25_0,Ob.arr 1 (a2.map (.int .i64)))
    refine Al (w.length) M ?_ ?_
    ·refine (hM _ _).2 ⟨arr,left,?_⟩
     and_intros
     ·exact cl3
     ·exact by simp
     ·rfl
     ·exact cl3
     ·exact cl3
     all_goals exact cl0
    intro m s hm hMk
    obtain ⟨a2,lf,hal,hbp,hdd,hm0,hm1,hH⟩:=(hM _ _).1 hMk
    clear hMk
    simp -implicitDefEqProofs (disch:=omega) only [hH,go_sem]
    by_cases hlt : m < w.length
    ·have hm : w[m]? = some w[m]:=lgg hlt
     have hga : arr[m]? = some arr[m]:=lgg (by omega)
     have hdw : w.drop m = w[m] :: w.drop (m + 1):=ldg hlt
     have hda : arr.drop m = arr[m] :: arr.drop (m + 1):=ldg (by omega)
     have hb:=hw _ (lmg hm)
     by_cases hlf0 : 0 < lf
     ·generalize w[m] = x at hm hdw hb
      generalize arr[m] = o at hga hda
      have hb1:=hb.2
      have hga2 : a2[m]? = some o:=by
       have : (a2.drop m)[0]? = (arr.drop m)[0]?:=by rw [hdd]
       rw [List.getElem?_drop,List.getElem?_drop] at this
       simpa [hga] using this
      have htk2:=Bf hga2
      have hdd' : a2.drop (m + 1) = arr.drop (m + 1):=by
       have:=congrArg (List.drop 1) hdd
       simpa [List.drop_drop,Nat.add_comm] using this
      rw [hdw,hda,bumpD] at hbp
      by_cases hox : o < x
      ·rw [if_pos ⟨hlf0,hox⟩] at hbp
       have ho0:=hBn o (lmg hga)
       have hset:=HY a2 m (o + 1)
       simp -implicitDefEqProofs (disch:=omega) only [hH,hlt,hm,hga2,hlf0,hox,hset,List.headD_cons,go_sem]
       try refine ai ?_
       refine (hM _ _).2 ⟨a2.set m (o + 1),lf - 1,?_⟩
       and_intros
       .exact by rw [List.length_set,hal]
       .exact by rw [F6 (by omega),laa]; exact hbp
       .exact by rw [List.drop_set_of_lt (by omega),hdd']
       .omega
       .omega
       all_goals exact cl0
      ·rw [if_neg (fun h=>hox h.2)] at hbp
       simp -implicitDefEqProofs (disch:=omega) only [hH,hlt,hm,hga2,hlf0,hox,go_sem]
       try refine ai ?_
       refine (hM _ _).2 ⟨a2,lf,?_⟩
       and_intros
       .exact hal
       .exact by rw [htk2,laa]; exact hbp
       .exact hdd'
       .omega
       .omega
       all_goals exact cl0
     ·rw [Ju _ _ _ (by omega),<- hdd,List.take_append_drop] at hbp
      simp -implicitDefEqProofs (disch:=omega) only [hH,hlt,hlf0,go_sem]
      rw [ltl (by rw [llm]; omega),hbp]
    ·rw [ldl (by omega),ldl (by omega),ltl (by omega)] at hbp
     have hbn : bumpD lf [] [] = []:=by unfold bumpD; rfl
     rw [hbn,lan] at hbp
     simp -implicitDefEqProofs (disch:=omega) only [hH,hlt,go_sem]
     rw [ltl (by rw [llm]; omega),hbp]
   ·have hyne : y = 0:=by omega
    simp -implicitDefEqProofs (disch:=omega) only [hyp,go_sem]
    obtain ⟨N,hN⟩:=lpI fun n s=>∃ (a2 : List Int) (lf : Int),a2.length = w.length /\ a2.take n ++ bumpD lf (arr.drop n) (w.drop n) = bumpD left arr w /\ a2.drop n = arr.drop n /\ -(281474976710656000 : Int) - n <= lf /\ lf <= 16777216 /\ s.pe 1 = .p (AT w) /\ s.pe 7 = .own (.slot 25 0) v25_0 0 w.length /\ s.pe 8 = .p (.int .i64 lf) /\ s.pe 10 = .p (.int .i64 n) /\ s.h (.slot 25 0) = some (v25_0,Ob.arr 1 (a2.map (.int .i64)))
    refine Al (w.length) N ?_ ?_
    ·refine (hN _ _).2 ⟨arr,left,?_⟩
     and_intros
     ·exact cl3
     ·exact by simp
     ·rfl
     ·exact cl3
     ·exact cl3
     all_goals exact cl0
    intro n s hn hNk
    obtain ⟨a2,lf,hal,hbp,hdd,hm0,hm1,hH⟩:=(hN _ _).1 hNk
    clear hNk
    simp -implicitDefEqProofs (disch:=omega) only [hH,go_sem]
    by_cases hlt : n < w.length
    ·have hm : w[n]? = some w[n]:=lgg hlt
     have hga : arr[n]? = some arr[n]:=lgg (by omega)
     have hdw : w.drop n = w[n] :: w.drop (n + 1):=ldg hlt
     have hda : arr.drop n = arr[n] :: arr.drop (n + 1):=ldg (by omega)
     have hb:=hw _ (lmg hm)
     by_cases hlf0 : 0 < lf
     ·generalize w[n] = x at hm hdw hb
      generalize arr[n] = o at hga hda
      have hb1:=hb.2
      have hga2 : a2[n]? = some o:=by
       have : (a2.drop n)[0]? = (arr.drop n)[0]?:=by rw [hdd]
       rw [List.getElem?_drop,List.getElem?_drop] at this
       simpa [hga] using this
      have htk2:=Bf hga2
      have hdd' : a2.drop (n + 1) = arr.drop (n + 1):=by
       have:=congrArg (List.drop 1) hdd
       simpa [List.drop_drop,Nat.add_comm] using this
      rw [hdw,hda,bumpD] at hbp
      by_cases hox : o < x
      ·rw [if_pos ⟨hlf0,hox⟩] at hbp
       have ho0:=hBn o (lmg hga)
       have hset:=HY a2 n (o + 1)
       simp -implicitDefEqProofs (disch:=omega) only [hH,hlt,hm,hga2,hlf0,hox,hset,List.headD_cons,go_sem]
       try refine ai ?_
       refine (hN _ _).2 ⟨a2.set n (o + 1),lf - 1,?_⟩
       and_intros
       .exact by rw [List.length_set,hal]
       .exact by rw [F6 (by omega),laa]; exact hbp
       .exact by rw [List.drop_set_of_lt (by omega),hdd']
       .omega
       .omega
       all_goals exact cl0
      ·rw [if_neg (fun h=>hox h.2)] at hbp
       simp -implicitDefEqProofs (disch:=omega) only [hH,hlt,hm,hga2,hlf0,hox,go_sem]
       try refine ai ?_
       refine (hN _ _).2 ⟨a2,lf,?_⟩
       and_intros
       .exact hal
       .exact by rw [htk2,laa]; exact hbp
       .exact hdd'
       .omega
       .omega
       all_goals exact cl0
     ·rw [Ju _ _ _ (by omega),<- hdd,List.take_append_drop] at hbp
      simp -implicitDefEqProofs (disch:=omega) only [hH,hlt,hlf0,go_sem]
      rw [ltl (by rw [llm]; omega),hbp]
    ·rw [ldl (by omega),ldl (by omega),ltl (by omega)] at hbp
     have hbn : bumpD lf [] [] = []:=by unfold bumpD; rfl
     rw [hbn,lan] at hbp
     simp -implicitDefEqProofs (disch:=omega) only [hH,hlt,go_sem]
     rw [ltl (by rw [llm]; omega),hbp]
theorem Wy (w : List Int) : splitP 0 w = w.map fun _=>0:=by
 unfold splitP
 by_cases hz : Ab w = 0
 ·rw [if_pos hz]
 ·rw [if_neg hz]
  have hb : BE 0 (Ab w) w = w.map fun _=>0:=by
   unfold BE
   exact List.map_congr_left fun x _=>by rw [Int.zero_mul,Int.zero_ediv]
  rw [hb,H1,Ju _ _ _ (by omega)]
theorem Xi (ns : List Nd) (l : List Pt) (cap : Int -> Int) : ∀ (k : Nat) (g : Int),takeN ns l cap k g 0 = []
 | 0,_=>rfl
 | k + 1,g=>by
  rw [takeN,Wy,lpc,List.headD_cons,List.tail_cons,if_neg (by omega),lna,List.flatMap_eq_nil_iff]
  intro p hp
  have:=(List.of_mem_zip hp).2
  obtain ⟨_,_,h0⟩:=lmm.1 this
  rw [if_neg (by omega)]
theorem VM {G : Int -> List Int} {ks : List Int} {j : Nat} {c x : Int} (hn : (ks.flatMap G).Nodup) (hj : ks[j]? = some c) (hx : x ∈ G c) : x ∉ (ks.take j).flatMap G:=by
 intro hx'
 have h1 : ks = ks.take j ++ c :: ks.drop (j + 1):=by
  have hl:=(lgs.1 hj).1
  have : ks.drop j = c :: ks.drop (j + 1):=by rw [ldg hl,(lgs.1 hj).2]
  rw [<- this,List.take_append_drop]
 rw [h1,List.flatMap_append,lfc] at hn
 exact (List.nodup_append.1 hn).2.2 x hx' x (List.mem_append_left _ hx) rfl
theorem Rep.congr {ks : List MKey} {vs : List PV} {f g : Int -> Int} (h : Rep ks vs f) (hfg : ∀ x,f x = g x) : Rep ks vs g:=fun id=>by rw [h id,hfg]
theorem Yz {t : Tr} (h : TreeOk t) {l : List Pt} (hl : l.length < 1000000) (hp : ∀ x ∈ l,PtOk x) : ∀ (k i : Nat) (n : Nd) (K : Int) (ks0 : List MKey) (vs0 : List PV) (f : Int -> Int),t.nodes[i]? = some n -> t.nodes.length <= i + k -> 0 <= K -> K <= 16777216 -> Rep ks0 vs0 f -> (∀ x ∈ subF t.nodes k n.id,f x = 0) ->
  ∃ ks vs,V 140 [t.vv,.p (B4 l),.p (.int .i64 n.id),.p (.int .i64 K),.mref (.arg 0 0) 0] [.map (.int .i64) ks0 vs0] = some (.tup [],[.map (.int .i64) ks vs]) /\ Rep ks vs (fun x=>f x + Ar [x] (takeN t.nodes l (capR t l) k n.id K)):=by
 intro k
 induction k with
 | zero=>intro i n K ks0 vs0 f hn hk; have:=(lgs.1 hn).1; omega
 | succ k ih =>
  intro i n K ks0 vs0 f hn hk hK0 hK1 hrep0 hf0
  suffices hw : wp (BW V vf140 [t.vv,.p (B4 l),.p (.int .i64 n.id),.p (.int .i64 K),.mref (.arg 0 0) 0] [.map (.int .i64) ks0 vs0]) (fun r=>∃ ks vs,r = (.tup [],[.map (.int .i64) ks vs]) /\ Rep ks vs (fun x=>f x + Ar [x] (takeN t.nodes l (capR t l) (k + 1) n.id K))) by
   obtain ⟨r,hr,ks,vs,rfl,hrep⟩:=hw
   exact ⟨ks,vs,E9 (vf:=vf140) rfl hr,hrep⟩
  have hlen:=h.len
  have hin : InN t.nodes n.id:=⟨i,n,hn,rfl⟩
  have hkd:=Ii t n.id (by omega)
  rw [MX h hin] at hkd
  have hkl:=Fr t.nodes n.id
  have hkm : ∀ c ∈ kidsN t.nodes n.id,V 141 [t.vv,.p (B4 l),.p (.int .i64 c)] [] = some (.p (.int .i64 (capR t l c)),[]):=fun c hc=>Qy h hl hp (Iy hc)
  have hcb : ∀ c,0 <= capR t l c /\ capR t l c <= 16777216:=fun c=>El hp _ c
  have hnd : (subF t.nodes (k + 1) n.id).Nodup:=He h (k + 1) i n hn hk
  rw [subF,List.nodup_cons] at hnd
  have hf0n : f n.id = 0:=hf0 _ (by rw [subF]; simp)
  have hf0k : ∀ x ∈ (kidsN t.nodes n.id).flatMap (subF t.nodes k),f x = 0:=fun x hx=>hf0 x (by rw [subF]; exact lmc _ hx)
  have hrec : ∀ c ∈ kidsN t.nodes n.id,∀ (K' : Int) (ks1 : List MKey) (vs1 : List PV) (f' : Int -> Int),0 <= K' -> K' <= 16777216 -> Rep ks1 vs1 f' -> (∀ x ∈ subF t.nodes k c,f' x = 0) -> ∃ ks vs,V 140 [t.vv,.p (B4 l),.p (.int .i64 c),.p (.int .i64 K'),.mref (.arg 0 0) 0] [.map (.int .i64) ks1 vs1] = some (.tup [],[.map (.int .i64) ks vs]) /\ Rep ks vs (fun x=>f' x + Ar [x] (takeN t.nodes l (capR t l) k c K')):=by
   intro c hc K' ks1 vs1 f' h0 h1 h2 h3
   obtain ⟨j,m,hj,hpar,rfl⟩:=BR.1 hc
   have hij:=h.kid hn hj hpar
   exact ih j m K' ks1 vs1 f' hj (by omega) h0 h1 h2 h3
  have hx:=Eo hp n.id
  have hpt:=RG l n.id hl
  rw [takeN]
  generalize partOf l n.id = x at hpt hx
  generalize kidsN t.nodes n.id = ks at hkd hkl hkm hrec hnd hf0k
  simp only [Pt.vv] at hpt
  simp -implicitDefEqProofs (disch:=omega) only [vf140,Tj,hkd,hpt,go_sem]
  obtain ⟨J,hJ⟩:=lpI fun j s=>∃ (w : List Int) (ww : Nat),w = x.own :: (ks.take j).map (capR t l) /\ w.length = j + 1 /\ s.pe 1 = .p (B4 l) /\ s.pe 2 = .p (.int .i64 n.id) /\ s.pe 3 = .p (.int .i64 K) /\ s.pe 4 = .mref (.arg 0 0) 0 /\ s.pe 5 = .ptr (.slot 5 0) 0 0 /\ s.pe 10 = .own (.slot 17 1) 0 0 ks.length /\ s.pe 11 = .own (.slot 22 0) ww 0 w.length /\ s.pe 12 = .p (.int .i64 j) /\ s.h (.arg 0 0) = some (0,Ob.map (.int .i64) ks0 vs0) /\ s.h (.slot 5 0) = some (0,Ob.box [.p (Au t.nodes),.p (.int .i64 t.next)]) /\ s.h (.slot 17 1) = some (0,Ob.arr 1 (List.map (.int .i64) ks)) /\ s.h (.slot 22 0) = some (ww,Ob.arr 1 (w.map (.int .i64)))
  refine Al (ks.length) J ?_ ?_
  ·refine (hJ _ _).2 ⟨[x.own],0,?_⟩
   and_intros
   ·exact by simp
   ·rfl
   all_goals exact cl0
  intro j s hj hJk
  obtain ⟨w,ww,hw,hwl,h1,h2,h3,hH⟩:=(hJ _ _).1 hJk
  clear hJk
  simp -implicitDefEqProofs (disch:=omega) only [hH,go_sem]
  refine Ah (fun hlt=>?_) (fun hge=>?_)
  ·have hm : ks[j]? = some ks[j]:=lgg hlt
   have htk:=Bf hm
   generalize ks[j] = c at hm htk
   have hc:=hkm c (lmg hm)
   simp -implicitDefEqProofs (disch:=omega) only [h1,hH,hlt,hm,hc,go_sem]
   try refine ai ?_
   refine (hJ _ _).2 ⟨w ++ [capR t l c],ww + 1,?_⟩
   and_intros
   ·exact by rw [hw,htk]; simp
   ·exact by simp [hwl]
   all_goals exact cl0
  ·have hjl : j = ks.length:=by omega
   subst hjl
   rw [List.take_length] at hw
   have hwb : ∀ x ∈ w,0 <= x /\ x <= 16777216:=by
    rw [hw]
    intro y hy
    rcases lmk.1 hy with rfl | hy
    ·exact ⟨hx.o0,hx.o1⟩
    ·obtain ⟨c,_,rfl⟩:=lmm.1 hy
     exact hcb c
   rw [<- hw]
   have hsp:=Xz K w hK0 hK1 (by omega) hwb
   have hgl:=KU K w
   have hgb:=Oj hK0 hK1 hwb
   generalize splitP K w = got at hsp hgl hgb
   rcases got with - | ⟨g0,gs⟩
   ·simp only [lln] at hgl
    omega
   have hgs : gs.length = ks.length:=by
    rw [llc] at hgl
    omega
   have hg00:=(hgb g0 (by simp)).1
   have hg01:=(hgb g0 (by simp)).2
   have hgb' : ∀ z ∈ gs,0 <= z /\ z <= 16777216:=fun z hz=>hgb z (by simp [hz])
   rw [List.headD_cons,List.tail_cons]
   obtain ⟨F,hFd⟩ : ∃ F : Int × Int -> List (Int × Int),F = fun p=>if 0 < p.2 then takeN t.nodes l (capR t l) k p.1 p.2 else []:=⟨_,rfl⟩
   have hF0 : ∀ a b,0 <= b -> F (a,b) = takeN t.nodes l (capR t l) k a b:=fun a b hb=>by
    rw [hFd]
    show (if 0 < b then _ else _) = _
    by_cases hb0 : 0 < b
    ·rw [if_pos hb0]
    ·have : b = 0:=by omega
     subst this
     rw [if_neg hb0,Xi]
   have hFg : ∀ p,∀ q ∈ F p,q.1 ∈ subF t.nodes k p.1:=by
    intro p q hq
    rw [hFd] at hq
    replace hq : q ∈ (if 0 < p.2 then takeN t.nodes l (capR t l) k p.1 p.2 else []):=hq
    split at hq
    ·exact IZ _ _ _ _ _ _ q hq
    ·simp at hq
   rw [<- hFd]
   clear hFd
   obtain ⟨hd,hhd⟩ : ∃ hd : List (Int × Int),hd = if 0 < g0 then [(n.id,g0)] else []:=⟨_,rfl⟩
   rw [<- hhd]
   have hhs : ∀ x,Ar [x] hd = if x = n.id then g0 else 0:=fun x=>by
    rw [hhd]
    by_cases hg : 0 < g0
    ·rw [if_pos hg]
     by_cases hxn : x = n.id
     ·simp [Ar,Ab,hxn]
     ·have : ¬ n.id = x:=fun e=>hxn e.symm
      simp [Ar,Ab,hxn,this]
    ·have : g0 = 0:=by omega
     rw [if_neg hg,this]
     simp [Ar,Ab]
   have hlk:=hrep0 n.id
   rw [hf0n] at hlk
   have hput:=hrep0.put n.id g0
   simp -implicitDefEqProofs (disch:=omega) only [h2,h3,hH,hge,hsp,hlk,Int.toNat_zero,List.getElem?_cons_zero,go_sem]
   obtain ⟨M,hM⟩:=lpI fun m s=>∃ (v41_1 : Nat) (km : List MKey) (vm : List PV),Rep km vm (fun x=>f x + Ar [x] (hd ++ ((ks.zip gs).take m).flatMap F)) /\ s.pe 1 = .p (B4 l) /\ s.pe 4 = .mref (.arg 0 0) 0 /\ s.pe 5 = .ptr (.slot 5 0) 0 0 /\ s.pe 10 = .own (.slot 17 1) 0 0 ks.length /\ s.pe 13 = .own (.slot 41 1) v41_1 0 (gs.length + 1) /\ s.pe 14 = .p (.int .i64 m) /\ s.h (.arg 0 0) = some (0,Ob.map (.int .i64) km vm) /\ s.h (.slot 5 0) = some (0,Ob.box [.p (Au t.nodes),.p (.int .i64 t.next)]) /\ s.h (.slot 17 1) = some (0,Ob.arr 1 (List.map (.int .i64) ks)) /\ s.h (.slot 41 1) = some (v41_1,Ob.arr 1 (PV.int IntKind.i64 g0 :: List.map (.int .i64) gs))
   refine Al (ks.length) M ?_ ?_
   ·refine (hM _ _).2 ⟨nv (s.h (.slot 41 1)),(At ks0 vs0 (.int n.id) (.int .i64 g0)).1,(At ks0 vs0 (.int n.id) (.int .i64 g0)).2,?_⟩
    and_intros
    ·exact hput.congr (fun x=>by
     rw [List.take_zero,List.flatMap_nil,lan,hhs]
     by_cases hxn : x = n.id
     ·rw [if_pos hxn,if_pos hxn,hxn,hf0n]; omega
     ·rw [if_neg hxn,if_neg hxn]; omega)
    all_goals exact cl0
   intro m s hm hMk
   obtain ⟨v41_1,km,vm,hrep,h1,hH⟩:=(hM _ _).1 hMk
   clear hMk
   simp -implicitDefEqProofs (disch:=omega) only [hH,go_sem]
   refine Ah (fun hlt=>?_) (fun hge2=>?_)
   ·have hm : ks[m]? = some ks[m]:=lgg hlt
    have hgm : gs[m]? = some gs[m]:=lgg (by omega)
    have hzm : (ks.zip gs)[m]? = some (ks[m],gs[m]):=by rw [List.getElem?_zip_eq_some]; exact ⟨hm,hgm⟩
    have htz:=Bf hzm
    generalize ks[m] = c at hm htz hzm
    generalize gs[m] = gk at hgm htz hzm
    have hgk:=hgb' gk (lmg hgm)
    have hidx : (PV.int IntKind.i64 g0 :: List.map (PV.int .i64) gs)[(↑m + 1 : Int).toNat]? = some (.int .i64 gk):=by
     rw [show (↑m + 1 : Int).toNat = m + 1 by omega,List.getElem?_cons_succ]
     exact HZ hgm
    have hcm:=lmg hm
    have hzero : ∀ x ∈ subF t.nodes k c,f x + Ar [x] (hd ++ ((ks.zip gs).take m).flatMap F) = 0:=by
     intro x hx
     have hxf : x ∈ ks.flatMap (subF t.nodes k):=List.mem_flatMap.2 ⟨c,hcm,hx⟩
     have hxn : x ≠ n.id:=fun e=>hnd.1 (by rw [<- e]; exact hxf)
     rw [hf0k x hxf,HQ,hhs,if_neg hxn,DK (fun q hq hqx=>?_)]
     ·rfl
     ·rw [Jw] at hq
      have hq1:=Lq hFg _ _ q hq
      have : q.1 = x:=by simpa using hqx
      rw [this] at hq1
      exact VM hnd.2 hm hx hq1
    obtain ⟨k1,v1,hr,hrep1⟩:=hrec c hcm gk km vm _ hgk.1 hgk.2 hrep hzero
    have hrep2 : Rep k1 v1 (fun x=>f x + Ar [x] (hd ++ ((ks.zip gs).take (m + 1)).flatMap F)):=hrep1.congr fun x=>by
     rw [htz,List.flatMap_append,List.flatMap_singleton,<- laa,HQ _ (hd ++ _),hF0 c gk hgk.1]
     omega
    simp -implicitDefEqProofs (disch:=omega) only [h1,hH,hlt,hm,hidx,hr,go_sem]
    try refine ai ?_
    refine (hM _ _).2 ⟨v41_1,k1,v1,?_⟩
    and_intros
    .exact hrep2
    all_goals exact cl0
   ·rw [ltl (by rw [List.length_zip]; omega)] at hrep
    simp -implicitDefEqProofs (disch:=omega) only [hH,hge2,go_sem]
    exact ⟨_,_,rfl,hrep⟩
theorem QH : ∀ (a b : List (Int × Int)),(a.Pairwise fun x y=>x.1 < y.1) -> (b.Pairwise fun x y=>x.1 < y.1) -> (∀ x,x ∈ a ↔ x ∈ b) -> a = b
 | [],[],_,_,_=>rfl
 | [],y :: b,_,_,h=>by have:=(h y).2 (lms ..); simp at this
 | x :: a,[],_,_,h=>by have:=(h x).1 (lms ..); simp at this
 | x :: a,y :: b,ha,hb,h=>by
  obtain ⟨ha1,ha2⟩:=lpw.1 ha
  obtain ⟨hb1,hb2⟩:=lpw.1 hb
  have hxy : x = y:=by
   rcases lmk.1 ((h x).1 (lms ..)) with h1 | h1
   ·exact h1
   ·rcases lmk.1 ((h y).2 (lms ..)) with h2 | h2
    ·exact h2.symm
    ·have:=hb1 x h1
     have:=ha1 y h2
     omega
  subst hxy
  refine congrArg (x :: ·) (QH a b ha2 hb2 fun z=>?_)
  constructor
  ·intro hz
   rcases lmk.1 ((h z).1 (lmc _ hz)) with h1 | h1
   ·subst h1
    have:=ha1 z hz
    omega
   ·exact h1
  ·intro hz
   rcases lmk.1 ((h z).2 (lmc _ hz)) with h1 | h1
   ·subst h1
    have:=hb1 z hz
    omega
   .exact h1
theorem Qk : ∀ {a : List (Int × Int)},(a.Pairwise fun x y=>x.1 < y.1) -> ∀ q ∈ a,Ar [q.1] a = q.2
 | [],_,q,hq=>by simp at hq
 | p :: a,h,q,hq=>by
  obtain ⟨h1,h2⟩:=lpw.1 h
  have hs : Ar [q.1] (p :: a) = (if p.1 ∈ [q.1] then p.2 else 0) + Ar [q.1] a:=rfl
  rcases lmk.1 hq with rfl | hq
  ·rw [hs,if_pos (by simp),DK (fun r hr=>by
    have:=h1 r hr
    simp only [List.mem_singleton]
    omega)]
   omega
  ·have:=h1 q hq
   rw [hs,if_neg (by simp only [List.mem_singleton]; omega),Qk h2 q hq]
   omega
def E7 (l : List Pt) (f : Int -> Int) : List (Int × Int):=l.filterMap fun x=>if 0 < f x.group then some (x.group,f x.group) else none
theorem XQ (l : List Pt) (f : Int -> Int) (x : Pt) : E7 (l ++ [x]) f = E7 l f ++ if 0 < f x.group then [(x.group,f x.group)] else []:=by
 unfold E7
 rw [List.filterMap_append]
 congr 1
 by_cases h : 0 < f x.group <;> simp [h]
theorem YS (l : List Pt) (f : Int -> Int) : (E7 l f).length <= l.length:=List.length_filterMap_le _ _
theorem zav {t : Tr} {l : List Pt} {root K : Int} {a : List (Int × Int)} (hP : PartsOk t l root) (h : RoundOk t l root K a) : E7 l (fun x=>Ar [x] a) = a:=by
 refine QH _ _ ?_ h.inc fun q=>?_
 ·have : (l.map (·.group)).Pairwise fun a b=>a < b:=hP.groups ▸ LY (Jq hP.tree root)
  rw [List.pairwise_map] at this
  unfold E7
  rw [List.pairwise_filterMap]
  refine this.imp fun {x y} hxy p hp q hq=>?_
  split at hp <;> simp at hp
  split at hq <;> simp at hq
  subst hp
  subst hq
  exact hxy
 ·unfold E7
  rw [List.mem_filterMap]
  constructor
  ·rintro ⟨x,hx,hq⟩
   split at hq <;> simp at hq
   rename_i hpos
   replace hpos : 0 < Ar [x.group] a:=hpos
   subst hq
   rcases LL (g:=x.group) h.inc with h1 | ⟨r,hr,h1,h2⟩
   ·omega
   ·show (x.group,Ar [x.group] a) ∈ a
    rw [h2]
    have : (x.group,r.2) = r:=by rw [<- h1]
    rw [this]
    exact hr
  ·intro hq
   obtain ⟨x,hx,hg⟩:=zaD hP (h.groups q hq)
   have hs:=Qk h.inc q hq
   have hp:=(h.pos q hq).1
   refine ⟨x,hx,?_⟩
   show (if 0 < Ar [x.group] a then some (x.group,Ar [x.group] a) else none) = some q
   rw [hg,hs,if_pos hp]
theorem YA (t : Tr) (l : List Pt) (root n : Int) (hn : t.nodes.length < 1000000) (hl : l.length < 1000000) : V 93 [t.vv,.p (B4 l),.p (.int .i64 root),.p (.int .i64 n)] [] = some (.tup [.fresh 2 ((Cy t l root n).1.map tkP),.p (.int .i64 (Cy t l root n).2)],[]):=by
 refine Ag (vf:=vf93) rfl ?_
 have hv:=Wz t l root hn hl
 by_cases h : CK t l root = true
 ·have hP:=(Jj t l root).1 h
  rw [h] at hv
  by_cases hn0 : n < 0
  ·have hrp : Cy t l root n = ([],3):=by
    rw [Cy,if_pos h,if_neg (by simp [Ap]; omega)]
   rw [hrp]
   simp -implicitDefEqProofs (disch:=omega) only [vf93,IG,hv,hn0,go_sem]
  ·by_cases hn1 : 16777216 < n
   ·have hrp : Cy t l root n = ([],3):=by
     rw [Cy,if_pos h,if_neg (by simp [Ap]; omega)]
    rw [hrp]
    simp -implicitDefEqProofs (disch:=omega) only [vf93,IG,hv,hn0,hn1,go_sem]
   ·obtain ⟨a,hra,hR⟩:=RH hP (show 0 <= n by omega) (by omega)
    have hlist:=zav hP hR
    have hcap:=Qy hP.tree hl hP.ok hP.top
    have hcb : 0 <= capR t l root /\ capR t l root <= 16777216:=El (ns:=t.nodes) hP.ok t.nodes.length root
    have hrp : Cy t l root n = (tsort (takeR t l root (min n (capR t l root))),0):=by
     rw [Cy,if_pos h,if_pos (by simp [Ap]; omega)]
    have hat : a = tsort (takeR t l root (min n (capR t l root))):=by
     rw [hra] at hrp
     exact congrArg Prod.fst hrp
    have htk : ∃ ks vs,V 140 [t.vv,.p (B4 l),.p (.int .i64 root),.p (.int .i64 (min n (capR t l root))),.mref (.arg 0 0) 0] [.map (.int .i64) [] []] = some (.tup [],[.map (.int .i64) ks vs]) /\ Rep ks vs (fun x=>0 + Ar [x] (takeR t l root (min n (capR t l root)))):=by
     obtain ⟨i,r,hr,he⟩:=hP.top
     subst he
     exact Yz hP.tree hl hP.ok _ i r _ [] [] (fun _=>0) hr (by omega) (by omega) (by omega) (fun id=>rfl) (fun _ _=>rfl)
    obtain ⟨km,vm,htk,hrep⟩:=htk
    have hrep' : Rep km vm (fun x=>Ar [x] a):=hrep.congr fun x=>by
     rw [hat,Jm (Lr _)]
     omega
    have hab : ∀ x,0 <= Ar [x] a /\ Ar [x] a <= 16777216:=fun x=>by
     have h1:=QI hP.ok hR x
     have h2:=(Eo hP.ok x).o1
     omega
    rw [hra]
    obtain ⟨f,hf⟩ : ∃ f : Int -> Int,f = fun x=>Ar [x] a:=⟨_,rfl⟩
    rw [<- hf] at hrep' hlist
    have hab' : ∀ x,0 <= f x /\ f x <= 16777216:=fun x=>by rw [hf]; exact hab x
    rw [<- hlist]
    clear hab hrep hf hlist hat hrp hra hR
    simp -implicitDefEqProofs (disch:=omega) only [vf93,IG,hv,hn0,hn1,hcap,htk,go_sem]
    obtain ⟨I,hI⟩:=lpI fun k s=>∃ (out : List (Int × Int)) (ww : Nat),out = E7 (l.take k) f /\ s.pe 1 = .p (B4 l) /\ s.pe 10 = .mref (.slot 25 0) 0 /\ s.pe 11 = .own (.slot 11 0) ww 0 out.length /\ s.pe 12 = .p (.int .i64 k) /\ s.h (.slot 11 0) = some (ww,Ob.arr 2 (List.map tkP out)) /\ s.h (.slot 25 0) = some (0,Ob.map (.int .i64) km vm)
    refine Al (l.length) I ?_ ?_
    ·refine (hI _ _).2 ⟨[],0,?_⟩
     and_intros
     ·exact by simp [E7]
     all_goals exact cl0
    intro k s hk hIk
    obtain ⟨out,ww,hout,h1,hH⟩:=(hI _ _).1 hIk
    clear hIk
    have hol:=YS (l.take k) f
    rw [<- hout,llt] at hol
    simp -implicitDefEqProofs (disch:=omega) only [h1,hH,go_sem]
    refine Ah (fun hlt=>?_) (fun hge=>?_)
    ·have hm : l[k]? = some l[k]:=lgg hlt
     have htk:=Bf hm
     generalize l[k] = x at hm htk
     have hlk:=hrep' x.group
     have hfx:=hab' x.group
     have hstep:=XQ (l.take k) f x
     rw [<- htk,<- hout] at hstep
     generalize f x.group = v at hlk hfx hstep
     have hv0:=hfx.1
     have hv1:=hfx.2
     by_cases hpos : 0 < v
     ·rw [if_pos hpos] at hstep
      simp -implicitDefEqProofs (disch:=omega) only [h1,hH,hlt,hm,hlk,hpos,go_sem]
      try refine ai ?_
      refine (hI _ _).2 ⟨out ++ [(x.group,v)],ww + 1,?_⟩
      and_intros
      .exact hstep.symm
      all_goals exact cl0
     ·rw [if_neg hpos,lan] at hstep
      simp -implicitDefEqProofs (disch:=omega) only [h1,hH,hlt,hm,hlk,hpos,go_sem]
      try refine ai ?_
      refine (hI _ _).2 ⟨out,ww,?_⟩
      and_intros
      .exact hstep.symm
      all_goals exact cl0
    ·rw [ltl (by omega)] at hout
     simp -implicitDefEqProofs (disch:=omega) only [hH,hge,go_sem]
     rw [hout]
 ·have h' : CK t l root = false:=by simpa using h
  rw [h'] at hv
  have hrp : Cy t l root n = ([],1):=by
   rw [Cy,if_neg h]
  rw [hrp]
  simp -implicitDefEqProofs (disch:=omega) only [vf93,IG,hv,go_sem]
end Go.V
