import Derived.Test.YtdbjijjeolnboaaGreatA4
import Derived.Test.YtdbjijjeolnboaaGreatA5
import Derived.Test.YtdbjijjeolnboaaGreatA3
set_option linter.unusedSectionVars false
set_option linter.unusedSimpArgs false
set_option linter.unusedVariables false
set_option maxHeartbeats 32000000
open Nat renaming reduceAdd → rA
open List renaming getElem?_eq_getElem → lgg, mem_of_getElem? → lmg, drop_eq_getElem_cons → ldg, map_cons → lpc, drop_of_length_le → ldl, map_append → lma, length_cons → llc, length_append → lla, mem_cons → lmk, map_nil → lpn, length_nil → lln, length_map → llm, pairwise_cons → lpw
open Bool renaming and_eq_true → bat, false_and → bfa, false_eq_true → bft, true_and → bta
namespace Go.V
theorem RR {ns : List Nd} : ∀ {l : List Mc} {p : Option Int},Dp ns p l = true -> McOk ns l /\ ∀ q,p = some q -> ∀ h ∈ l,q < h.group
 | [],p,_=>⟨⟨fun m hm=>by simp at hm,by simp,fun m hm=>by simp at hm⟩,fun q _ h hh=>by simp at hh⟩
 | h :: l,p,hm=>by
  simp only [Dp,bat] at hm
  obtain ⟨⟨⟨h1,h2⟩,h3⟩,h4⟩:=hm
  obtain ⟨ih,ihq⟩:=RR h4
  refine ⟨⟨fun m hmm=>?_,?_,fun m hmm=>?_⟩,fun q hq x hx=>?_⟩
  ·rcases lmk.1 hmm with rfl | hmm
   ·exact h1
   ·exact ih.known m hmm
  ·exact lpw.2 ⟨fun x hx=>ihq _ rfl x hx,ih.inc⟩
  ·rcases lmk.1 hmm with rfl | hmm
   ·exact (ML _).1 h3
   ·exact ih.amt m hmm
  ·subst hq
   have h5 : q < h.group:=of_decide_eq_true h2
   rcases lmk.1 hx with rfl | hx
   ·exact h5
   ·have:=ihq _ rfl x hx
    omega
theorem Pn {t : Tr} {l : List Mc} : DT t l = true ↔ TreeOk t /\ McOk t.nodes l:=by
 constructor
 ·intro h
  simp only [DT,bat] at h
  exact ⟨(A5 t).1 h.1,(RR h.2).1⟩
 ·rintro ⟨h1,h2⟩
  exact Yh h1 h2
theorem QS (t : Tr) (l : List Mc) (hf : t.Fits) (hn : t.nodes.length < 1000000) (hl : l.length < 1000000) : V 52 [t.vv,.p (AM l)] [] = some (.p (.bool (DT t l)),[]):=by
 refine Ag (vf:=vf52) rfl ?_
 have hc:=Gi t hf hn
 unfold DT
 by_cases ht : AF t = true
 ·rw [ht] at hc ⊢
  rw [Bool.true_and]
  simp -implicitDefEqProofs (disch:=omega) only [vf52,KD,hc,go_sem]
  obtain ⟨I,hI⟩:=lpI fun k s=>∃ (p : Option Int),Dp t.nodes none l = Dp t.nodes p (l.drop k) /\ (k = 0 -> p = none) /\ (∀ j,k = j + 1 -> ∃ c,l[j]? = some c /\ p = some c.group) /\ s.pe 1 = .p (AM l) /\ s.pe 2 = .ptr (.slot 2 0) 0 0 /\ s.pe 12 = .p (AM l) /\ s.pe 13 = .p (.int .i64 ↑l.length) /\ s.pe 14 = .p (.int .i64 k) /\ s.h (.slot 2 0) = some (0,Ob.box [.p (Au t.nodes),.p (.int .i64 t.next)])
  refine Al (l.length) I ?_ ?_
  ·refine (hI _ _).2 ⟨none,?_⟩
   and_intros
   ·rfl
   ·exact fun _=>rfl
   ·exact fun j hj=>by omega
   all_goals exact cl0
  intro k s hk hIk
  obtain ⟨p,hq,hp0,hp1,hH⟩:=(hI _ _).1 hIk
  clear hIk
  simp -implicitDefEqProofs (disch:=omega) only [hH,go_sem]
  refine Ah (fun hlt=>?_) (fun hge=>?_)
  ·have hm : l[k]? = some l[k]:=lgg hlt
   have hd : l.drop k = l[k] :: l.drop (k + 1):=ldg hlt
   generalize l[k] = c at hm hd
   have hfi:=DR t c.group hn
   have hch:=Lk c
   rw [hd,Dp] at hq
   have hnx : ∀ j,k + 1 = j + 1 -> ∃ c',l[j]? = some c' /\ some c.group = some c'.group:=fun j hj=>⟨c,by rw [show j = k by omega]; exact hm,rfl⟩
   simp only [Mc.mv] at hch
   cases hfs : (Ao t.nodes c.group).isSome with
   | false =>
    rw [hfs] at hfi
    simp only [hfs,bfa] at hq
    generalize (Ao t.nodes c.group).getD zeroNd = nd at hfi
    simp -implicitDefEqProofs (disch:=omega) only [hH,hlt,hm,hfi,Nd.vv,hq,go_sem]
   | true =>
    rw [hfs] at hfi
    rw [hfs,bta] at hq
    generalize (Ao t.nodes c.group).getD zeroNd = nd at hfi
    by_cases hk0 : (0 : Int) < k
    ·obtain ⟨e,he,hpe⟩:=hp1 (k - 1) (by omega)
     have he' : l[((k : Int) - 1).toNat]? = some e:=by rw [show ((k : Int) - 1).toNat = k - 1 by omega]; exact he
     have hk1 : (0 : Int) <= (k : Int) - 1:=by omega
     subst hpe
     by_cases hle : c.group <= e.group
     ·rw [show prevOk (some e.group) c.group = false from decide_eq_false (by omega)] at hq
      simp only [bfa] at hq
      simp -implicitDefEqProofs (disch:=omega) only [hH,hlt,hm,hfi,Nd.vv,hk0,hk1,he',hle,hq,go_sem]
     ·rw [show prevOk (some e.group) c.group = true from decide_eq_true (by omega),bta] at hq
      cases hcm : Fc c with
      | false =>
       rw [hcm] at hch hq
       rw [bfa] at hq
       simp -implicitDefEqProofs (disch:=omega) only [hH,hlt,hm,hfi,Nd.vv,hk0,hk1,he',hle,hch,hq,go_sem]
      | true =>
       rw [hcm] at hch hq
       rw [bta] at hq
       simp -implicitDefEqProofs (disch:=omega) only [hH,hlt,hm,hfi,Nd.vv,hk0,hk1,he',hle,hch,go_sem]
       try refine ai ?_
       refine (hI _ _).2 ⟨some c.group,?_⟩
       and_intros
       .exact hq
       .exact by simp
       .exact hnx
       all_goals exact cl0
    ·have hpn:=hp0 (by omega)
     subst hpn
     rw [show prevOk none c.group = true from rfl,bta] at hq
     cases hcm : Fc c with
     | false =>
      rw [hcm] at hch hq
      rw [bfa] at hq
      simp -implicitDefEqProofs (disch:=omega) only [hH,hlt,hm,hfi,Nd.vv,hk0,hch,hq,go_sem]
     | true =>
      rw [hcm] at hch hq
      rw [bta] at hq
      simp -implicitDefEqProofs (disch:=omega) only [hH,hlt,hm,hfi,Nd.vv,hk0,hch,go_sem]
      try refine ai ?_
      refine (hI _ _).2 ⟨some c.group,?_⟩
      and_intros
      .exact hq
      .exact by simp
      .exact hnx
      all_goals exact cl0
  ·rw [ldl (by omega)] at hq
   simp only [Dp] at hq
   simp -implicitDefEqProofs (disch:=omega) only [hge,hq,go_sem]
 ·have htf : AF t = false:=by simpa using ht
  rw [htf] at hc ⊢
  simp -implicitDefEqProofs (disch:=omega) only [vf52,KD,hc,bfa,go_sem]
theorem OR (t : Tr) (l : List Mc) (hn : t.nodes.length < 1000000) (hl : l.length < 1000000) : V 53 [t.vv,.p (AM l)] [] = some (.p (.bool (DT t l)),[]):=by
 refine Ag (vf:=vf53) rfl ?_
 have hc:=EV t hn
 unfold DT
 by_cases ht : AF t = true
 ·rw [ht] at hc ⊢
  rw [Bool.true_and]
  simp -implicitDefEqProofs (disch:=omega) only [vf53,NC,hc,go_sem]
  obtain ⟨I,hI⟩:=lpI fun k s=>∃ (p : Option Int),Dp t.nodes none l = Dp t.nodes p (l.drop k) /\ (k = 0 -> p = none) /\ (∀ j,k = j + 1 -> ∃ c,l[j]? = some c /\ p = some c.group) /\ s.pe 1 = .p (AM l) /\ s.pe 2 = .ptr (.slot 2 0) 0 0 /\ s.pe 5 = .p (.int .i64 k) /\ s.h (.slot 2 0) = some (0,Ob.box [.p (Au t.nodes),.p (.int .i64 t.next)])
  refine Al (l.length) I ?_ ?_
  ·refine (hI _ _).2 ⟨none,?_⟩
   and_intros
   ·rfl
   ·exact fun _=>rfl
   ·exact fun j hj=>by omega
   all_goals exact cl0
  intro k s hk hIk
  obtain ⟨p,hq,hp0,hp1,hH⟩:=(hI _ _).1 hIk
  clear hIk
  simp -implicitDefEqProofs (disch:=omega) only [hH,go_sem]
  refine Ah (fun hlt=>?_) (fun hge=>?_)
  ·have hm : l[k]? = some l[k]:=lgg hlt
   have hd : l.drop k = l[k] :: l.drop (k + 1):=ldg hlt
   generalize l[k] = c at hm hd
   have hfi:=CJ t c.group hn
   rw [Cl ht] at hfi
   have hch:=Lk c
   rw [hd,Dp] at hq
   have hnx : ∀ j,k + 1 = j + 1 -> ∃ c',l[j]? = some c' /\ some c.group = some c'.group:=fun j hj=>⟨c,by rw [show j = k by omega]; exact hm,rfl⟩
   simp only [Mc.mv] at hch
   cases hfs : (Ao t.nodes c.group).isSome with
   | false =>
    rw [hfs] at hfi
    simp only [hfs,bfa] at hq
    simp -implicitDefEqProofs (disch:=omega) only [hH,hlt,hm,hfi,hq,go_sem]
   | true =>
    rw [hfs] at hfi
    rw [hfs,bta] at hq
    by_cases hk0 : (0 : Int) < k
    ·obtain ⟨e,he,hpe⟩:=hp1 (k - 1) (by omega)
     have he' : l[((k : Int) - 1).toNat]? = some e:=by rw [show ((k : Int) - 1).toNat = k - 1 by omega]; exact he
     have hk1 : (0 : Int) <= (k : Int) - 1:=by omega
     subst hpe
     by_cases hle : c.group <= e.group
     ·rw [show prevOk (some e.group) c.group = false from decide_eq_false (by omega)] at hq
      simp only [bfa] at hq
      simp -implicitDefEqProofs (disch:=omega) only [hH,hlt,hm,hfi,hk0,hk1,he',hle,hq,go_sem]
     ·rw [show prevOk (some e.group) c.group = true from decide_eq_true (by omega),bta] at hq
      cases hcm : Fc c with
      | false =>
       rw [hcm] at hch hq
       rw [bfa] at hq
       simp -implicitDefEqProofs (disch:=omega) only [hH,hlt,hm,hfi,hk0,hk1,he',hle,hch,hq,go_sem]
      | true =>
       rw [hcm] at hch hq
       rw [bta] at hq
       simp -implicitDefEqProofs (disch:=omega) only [hH,hlt,hm,hfi,hk0,hk1,he',hle,hch,go_sem]
       try refine ai ?_
       refine (hI _ _).2 ⟨some c.group,?_⟩
       and_intros
       .exact hq
       .exact by simp
       .exact hnx
       all_goals exact cl0
    ·have hpn:=hp0 (by omega)
     subst hpn
     rw [show prevOk none c.group = true from rfl,bta] at hq
     cases hcm : Fc c with
     | false =>
      rw [hcm] at hch hq
      rw [bfa] at hq
      simp -implicitDefEqProofs (disch:=omega) only [hH,hlt,hm,hfi,hk0,hch,hq,go_sem]
     | true =>
      rw [hcm] at hch hq
      rw [bta] at hq
      simp -implicitDefEqProofs (disch:=omega) only [hH,hlt,hm,hfi,hk0,hch,go_sem]
      try refine ai ?_
      refine (hI _ _).2 ⟨some c.group,?_⟩
      and_intros
      .exact hq
      .exact by simp
      .exact hnx
      all_goals exact cl0
  ·rw [ldl (by omega)] at hq
   simp only [Dp] at hq
   simp -implicitDefEqProofs (disch:=omega) only [hge,hq,go_sem]
 ·have htf : AF t = false:=by simpa using ht
  rw [htf] at hc ⊢
  simp -implicitDefEqProofs (disch:=omega) only [vf53,NC,hc,bfa,go_sem]
def Bo (t : Tr) (sw : Stk) (l : List Mc) (id : Int) : Int:=if BJ t sw && DT t l then (if (Ao t.nodes id).isSome then 0 else 4) else 1
theorem H8 (t : Tr) (sw : Stk) (l : List Mc) (id : Int) (hf : t.Fits) (hn : t.nodes.length < 1000000) (hsl : sw.hs.length < 1000000) (hl : l.length < 1000000) : V 98 [t.vv,sw.vv,.p (AM l),.p (.int .i64 id)] [] = some (.p (.int .i64 (Bo t sw l id)),[]):=by
 refine Ag (vf:=vf98) rfl ?_
 have hv:=H5 t sw hf hn hsl
 have hm:=QS t l hf hn hl
 have hfi:=DR t id hn
 unfold Bo
 generalize (Ao t.nodes id).getD zeroNd = nd at hfi
 simp only [Nd.vv] at hfi
 cases h1 : BJ t sw with
 | false =>
  rw [h1] at hv
  simp -implicitDefEqProofs only [vf98,HI,hv,go_sem]
  try rfl
 | true =>
  rw [h1] at hv
  cases h2 : DT t l with
  | false =>
   rw [h2] at hm
   simp -implicitDefEqProofs only [vf98,HI,hv,hm,go_sem]
   try rfl
  | true =>
   rw [h2] at hm
   cases h3 : (Ao t.nodes id).isSome with
   | false =>
    rw [h3] at hfi
    simp -implicitDefEqProofs only [vf98,HI,hv,hm,hfi,go_sem]
    try rfl
   | true =>
    rw [h3] at hfi
    simp -implicitDefEqProofs only [vf98,HI,hv,hm,hfi,go_sem]
    try rfl
theorem HV (t : Tr) (sw : Stk) (l : List Mc) (id : Int) (hn : t.nodes.length < 1000000) (hsl : sw.hs.length < 1000000) (hl : l.length < 1000000) : V 101 [t.vv,sw.vv,.p (AM l),.p (.int .i64 id)] [] = some (.p (.int .i64 (Bo t sw l id)),[]):=by
 refine Ag (vf:=vf101) rfl ?_
 have hv:=Jo t sw hn hsl
 have hm:=OR t l hn hl
 have hh:=CJ t id hn
 unfold Bo
 cases h1 : BJ t sw with
 | false =>
  rw [h1] at hv
  simp -implicitDefEqProofs only [vf101,IC,hv,go_sem]
  try rfl
 | true =>
  rw [h1] at hv
  rw [Cl ((A5 t).2 ((Dc t sw).1 h1).tree)] at hh
  cases h2 : DT t l with
  | false =>
   rw [h2] at hm
   simp -implicitDefEqProofs only [vf101,IC,hv,hm,go_sem]
   try rfl
  | true =>
   rw [h2] at hm
   cases h3 : (Ao t.nodes id).isSome with
   | false =>
    rw [h3] at hh
    simp -implicitDefEqProofs only [vf101,IC,hv,hm,hh,go_sem]
    try rfl
   | true =>
    rw [h3] at hh
    simp -implicitDefEqProofs only [vf101,IC,hv,hm,hh,go_sem]
    try rfl
abbrev IP (t : Tr) (l : List Mc) (g g' : Gw) : List Ob:=[BI t l (.fresh 4 (g'.stk.hs.map Hg.pv)) g'.stk.size (.own (.arg 2 0) 1 0 g'.shr.length) (.own (.arg 3 0) 1 0 g'.maxes.length) (.own (.arg 4 0) 0 0 g.highs.length) g'.refused,.arr 4 (g.stk.hs.map Hg.pv),.box [.undef,.fresh 4 (g'.shr.map Sh.pv)],.box [.undef,.fresh 1 (g'.maxes.map (.int .i64))],.arr 1 (g.highs.map (.int .i64))]
theorem Fv {t : Tr} {l : List Mc} {g : Gw} (hg : StkOk t g.stk) (hl : McOk t.nodes l) {a n : Int} (ha : InN t.nodes a) (hn : 0 <= n) : (As t l g a n).shr.length <= g.shr.length + 64:=by
 have h:=(M7 (t:=t) (sw:=g.stk) (p:=A7 l) (l:=A9 l) (root:=a) (n:=min n 16777216) ⟨hg,J3 hl,Ke hl,ha⟩ (by omega) (by omega)).1.len
 unfold As
 simp only [lla]
 omega
theorem CY {t : Tr} {g : Gw} (hg : StkOk t g.stk) (a : Int) : 0 <= Am t g a /\ Am t g a <= 16777216:=G6 hg.tree (Dw hg.hs) a
theorem G8 {ns : List Nd} {l : List Mc} (hl : McOk ns l) (a : Int) : 0 <= AE l a /\ AE l a <= 4611686018427387904:=by
 have:=Fm (Ij hl a).2
 unfold AE
 split <;> omega
theorem Qw {t : Tr} {l : List Mc} {n : Int} {g : Gw} (hS : StkOk t g.stk) (hl : McOk t.nodes l) {a : Int} (ha : InN t.nodes a) (hsl : g.shr.length < 100000) (hn1 : n <= 16777216) (ho : 0 < AL t l n g a) : ∃ s1 r1,StkOk t s1 /\ As t l (AO g a) a (AL t l n g a) = ⟨s1,r1,g.maxes ++ [a],g.highs,g.refused⟩ /\ r1.length <= g.shr.length + 64 /\
  V 108 [.ptr (.arg 0 0) 0 0,.p (.int .i64 a),.p (.int .i64 (AL t l n g a))] (AX t l ⟨g.stk,g.shr,g.maxes ++ [a],g.highs,g.refused⟩) = some (.tup [],[BI t l (.fresh 4 (s1.hs.map Hg.pv)) s1.size (.own (.arg 2 0) 1 0 r1.length) (.own (.arg 3 0) 0 0 (g.maxes ++ [a]).length) (.own (.arg 4 0) 0 0 g.highs.length) g.refused,.arr 4 (g.stk.hs.map Hg.pv),.box [.undef,.fresh 4 (r1.map Sh.pv)],.arr 1 ((g.maxes ++ [a]).map (.int .i64)),.arr 1 (g.highs.map (.int .i64))]) /\
  V 106 [.ptr (.arg 0 0) 0 0,.p (.int .i64 a)] (AX t l ⟨s1,r1,g.maxes ++ [a],g.highs,g.refused⟩) = some (.p (.int .i64 (Am t ⟨s1,r1,g.maxes ++ [a],g.highs,g.refused⟩ a)),AX t l ⟨s1,r1,g.maxes ++ [a],g.highs,g.refused⟩):=by
 have hb:=CY hS a
 have hM:=G8 hl a
 have h1:=DS (g:=AO g a) hS hl ha (n:=AL t l n g a) (by omega)
 have h2:=Fv (g:=AO g a) hS hl ha (n:=AL t l n g a) (by omega)
 have h3:=LC (g:=AO g a) hS hl ha (n:=AL t l n g a) (by omega) (by unfold AL; omega) (by show g.shr.length < _; omega)
 have h4:=Fs l (g:=As t l (AO g a) a (AL t l n g a)) h1.stk ha
 exact ⟨(As t l (AO g a) a (AL t l n g a)).stk,(As t l (AO g a) a (AL t l n g a)).shr,h1.stk,rfl,h2,h3,h4⟩
theorem zaF {t : Tr} {l : List Mc} {g0 : Gw} (hg0 : StkOk t g0.stk) (hl : McOk t.nodes l) {id n : Int} (hid : InN t.nodes id) (hn : 0 <= n) (hn1 : n <= 16777216) (hsl : g0.shr.length < 1000) (hml : g0.maxes.length < 1000) :
  (AG t l n (ancR t id) g0 = (g0,0) /\ V 142 [.ptr (.arg 0 0) 0 0,.p (.int .i64 id),.p (.int .i64 n)] (AX t l g0) = some (.p (.int .i64 0),AX t l g0)) \/
  V 142 [.ptr (.arg 0 0) 0 0,.p (.int .i64 id),.p (.int .i64 n)] (AX t l g0) = some (.p (.int .i64 (AG t l n (ancR t id) g0).2),IP t l g0 (AG t l n (ancR t id) g0).1):=by
 suffices hw : wp (BW V vf142 [.ptr (.arg 0 0) 0 0,.p (.int .i64 id),.p (.int .i64 n)] (AX t l g0)) (fun r=>(AG t l n (ancR t id) g0 = (g0,0) /\ r = (.p (.int .i64 0),AX t l g0)) \/ r = (.p (.int .i64 (AG t l n (ancR t id) g0).2),IP t l g0 (AG t l n (ancR t id) g0).1)) by
  obtain ⟨r,hr,hr2⟩:=hw
  have hV:=E9 (f:=142) (vf:=vf142) rfl hr
  rcases hr2 with ⟨h1,rfl⟩ | rfl
  ·exact .inl ⟨h1,hV⟩
  ·exact .inr hV
 have hlen:=hg0.tree.len
 have hll:=hl.length
 have hanc:=M2 t id (by omega)
 rw [<- GD hg0.tree hid] at hanc
 have hal:=Ho t id
 have hai : ∀ a ∈ ancR t id,InN t.nodes a:=fun a h=>GC hg0.tree hid h
 generalize ancR t id = W at hanc hal hai ⊢
 obtain ⟨A,hA⟩:=lpI fun k s=>AG t l n W g0 = AG t l n (W.drop k) g0 /\ s.pe 0 = .ptr (.arg 0 0) 0 0 /\ s.pe 2 = .p (.int .i64 n) /\ s.pe 16 = .own (.slot 16 1) 0 0 W.length /\ s.pe 17 = .p (.int .i64 ↑W.length) /\ s.pe 18 = .p (.int .i64 k) /\ s.h (.arg 0 0) = some (0,Cb t l g0.stk.hs.length g0.stk.size g0.shr.length g0.maxes.length g0.highs.length g0.refused) /\ s.h (.arg 1 0) = some (0,Ob.arr 4 (g0.stk.hs.map Hg.pv)) /\ s.h (.arg 2 0) = some (0,Ob.arr 4 (g0.shr.map Sh.pv)) /\ s.h (.arg 3 0) = some (0,Ob.arr 1 (g0.maxes.map (.int .i64))) /\ s.h (.arg 4 0) = some (0,Ob.arr 1 (g0.highs.map (.int .i64))) /\ s.h (.slot 16 1) = some (0,Ob.arr 1 (List.map (.int .i64) W))
 obtain ⟨B,hB⟩:=lpI fun k s=>∃ (s1 : Stk) (r1 : List Sh) (m1 : List Int) (w : Nat) (w2 : Nat) (w3 : Nat),AG t l n W g0 = AG t l n (W.drop k) ⟨s1,r1,m1,g0.highs,g0.refused⟩ /\ StkOk t s1 /\ r1.length <= 1000 + 64 * k /\ m1.length <= 1000 + k /\ w2 ≠ 0 /\ w3 ≠ 0 /\ s.pe 0 = .ptr (.arg 0 0) 0 0 /\ s.pe 2 = .p (.int .i64 n) /\ s.pe 16 = .own (.slot 16 1) 0 0 W.length /\ s.pe 17 = .p (.int .i64 ↑W.length) /\ s.pe 18 = .p (.int .i64 k) /\ s.h (.arg 0 0) = some (0,BI t l (.own (.slot 49 1004) w 0 s1.hs.length) s1.size (.own (.arg 2 0) w2 0 r1.length) (.own (.arg 3 0) w3 0 m1.length) (.own (.arg 4 0) 0 0 g0.highs.length) g0.refused) /\ s.h (.arg 1 0) = some (0,Ob.arr 4 (g0.stk.hs.map Hg.pv)) /\ s.h (.arg 2 0) = some (w2,Ob.arr 4 (r1.map Sh.pv)) /\ s.h (.arg 3 0) = some (w3,Ob.arr 1 (m1.map (.int .i64))) /\ s.h (.arg 4 0) = some (0,Ob.arr 1 (g0.highs.map (.int .i64))) /\ s.h (.slot 16 1) = some (0,Ob.arr 1 (List.map (.int .i64) W)) /\ s.h (.slot 49 1004) = some (w,Ob.arr 4 (s1.hs.map Hg.pv))
 obtain ⟨hs0,shr0,mx0,hi0,rf0⟩:=g0
 simp only [AX,Cb,BI,IP] at *
 simp -implicitDefEqProofs (disch:=omega) only [vf142,Th,hanc,go_sem]
 refine Al W.length (fun k s=>A k s \/ B k s) ?_ ?_
 ·left
  try refine ai ?_
  refine (hA _ _).2 ?_
  and_intros
  ·rfl
  all_goals exact cl0
 intro k s hk hAB
 rcases hAB with hAk | hBk
 ·skip
  obtain ⟨hr,hH⟩:=(hA _ _).1 hAk
  clear hAk
  simp -implicitDefEqProofs (disch:=omega) only [hH,go_sem]
  refine Ah (fun hlt=>?_) (fun hge=>?_)
  ·have hm : W[k]? = some W[k]:=lgg hlt
   have hdr : W.drop k = W[k] :: W.drop (k + 1):=ldg hlt
   generalize W[k] = a at hm hdr
   have ha:=hai a (lmg hm)
   rw [hdr,AG] at hr
   have hq1:=JU t l ⟨hs0,shr0,mx0,hi0,rf0⟩ a (by omega)
   have hq2:=Fs l (g:=⟨hs0,shr0,mx0,hi0,rf0⟩) hg0 ha
   have hU:=CY (g:=⟨hs0,shr0,mx0,hi0,rf0⟩) hg0 a
   have hM:=G8 hl a
   have hst:=Qw (n:=n) (g:=⟨hs0,shr0,mx0,hi0,rf0⟩) hg0 hl ha (by simp only at hsl ⊢; omega) hn1
   unfold AL at hr hst
   generalize hu0 : Am t ⟨hs0,shr0,mx0,hi0,rf0⟩ a = U at *
   generalize AE l a = M at *
   by_cases ho : 0 < U + n - M
   ·rw [if_pos ho] at hr
    obtain ⟨s1,r1,hS1,he1,hl1,hV1,hV2⟩:=hst ho
    have hU1:=CY (g:=⟨s1,r1,mx0 ++ [a],hi0,rf0⟩) hS1 a
    rw [he1] at hr
    generalize Am t ⟨s1,r1,mx0 ++ [a],hi0,rf0⟩ a = U1 at *
    simp only [AX,Cb,BI,lma,lpc,lpn,lla,llc,lln,rA] at hq1 hq2 hV1 hV2
    by_cases hu : M < U1 + n
    ·rw [if_pos hu] at hr
     simp -implicitDefEqProofs (disch:=omega) only [hH,hlt,hm,hq1,hq2,ho,hV1,hV2,hu,go_sem]
     right
     rw [hr]
     simp [IN]
    ·rw [if_neg hu] at hr
     simp -implicitDefEqProofs (disch:=omega) only [hH,hlt,hm,hq1,hq2,ho,hV1,hV2,hu,go_sem]
     try refine ai ?_
     right
     refine (hB _ _).2 ⟨s1,r1,mx0 ++ [a],nv (s.h (.slot 49 1004)) + 1,1,1,?_⟩
     and_intros
     .exact hr
     .exact hS1
     .exact by first | omega | (simp only at hl1; omega)
     .exact by first | (simp; omega) | (simp; simp only at hml; omega)
     .omega
     .omega
     all_goals exact cl0
   ·rw [if_neg ho] at hr
    simp only [AX,Cb,BI] at hq1 hq2
    simp -implicitDefEqProofs (disch:=omega) only [hH,hlt,hm,hq1,hq2,ho,go_sem]
    try refine ai ?_
    left
    refine (hA _ _).2 ?_
    and_intros
    ·exact hr
    all_goals exact cl0
  ·rw [ldl (by omega),AG] at hr
   simp -implicitDefEqProofs (disch:=omega) only [hH,hge,go_sem]
   left
   first | exact hr | exact ⟨hr,rfl⟩
 ·skip
  obtain ⟨s1,r1,m1,w,w2,w3,hr,hS,hb1,hb2,hw2,hw3,hH⟩:=(hB _ _).1 hBk
  clear hBk
  simp -implicitDefEqProofs (disch:=omega) only [hH,go_sem]
  refine Ah (fun hlt=>?_) (fun hge=>?_)
  ·have hm : W[k]? = some W[k]:=lgg hlt
   have hdr : W.drop k = W[k] :: W.drop (k + 1):=ldg hlt
   generalize W[k] = a at hm hdr
   have ha:=hai a (lmg hm)
   rw [hdr,AG] at hr
   have hq1:=JU t l ⟨s1,r1,m1,hi0,rf0⟩ a (by omega)
   have hq2:=Fs l (g:=⟨s1,r1,m1,hi0,rf0⟩) hS ha
   have hU:=CY (g:=⟨s1,r1,m1,hi0,rf0⟩) hS a
   have hM:=G8 hl a
   have hst:=Qw (n:=n) (g:=⟨s1,r1,m1,hi0,rf0⟩) hS hl ha (by simp only; omega) hn1
   unfold AL at hr hst
   generalize hu0 : Am t ⟨s1,r1,m1,hi0,rf0⟩ a = U at *
   generalize AE l a = M at *
   by_cases ho : 0 < U + n - M
   ·rw [if_pos ho] at hr
    obtain ⟨s2,r2,hS2,he2,hl2,hV1,hV2⟩:=hst ho
    have hU1:=CY (g:=⟨s2,r2,m1 ++ [a],hi0,rf0⟩) hS2 a
    rw [he2] at hr
    generalize Am t ⟨s2,r2,m1 ++ [a],hi0,rf0⟩ a = U1 at *
    simp only [AX,Cb,BI,lma,lpc,lpn,lla,llc,lln,rA] at hq1 hq2 hV1 hV2
    by_cases hu : M < U1 + n
    ·rw [if_pos hu] at hr
     simp -implicitDefEqProofs (disch:=omega) only [hH,hlt,hm,hq1,hq2,ho,hV1,hV2,hu,go_sem]
     right
     rw [hr]
     simp [IN]
    ·rw [if_neg hu] at hr
     simp -implicitDefEqProofs (disch:=omega) only [hH,hlt,hm,hq1,hq2,ho,hV1,hV2,hu,go_sem]
     try refine ai ?_
     right
     refine (hB _ _).2 ⟨s2,r2,m1 ++ [a],w + 1 + 1,w2 + 1,w3 + 1,?_⟩
     and_intros
     .exact hr
     .exact hS2
     .exact by first | omega | (simp only at hl2; omega)
     .exact by simp; omega
     .omega
     .omega
     all_goals exact cl0
   ·rw [if_neg ho] at hr
    simp only [AX,Cb,BI] at hq1 hq2
    simp -implicitDefEqProofs (disch:=omega) only [hH,hlt,hm,hq1,hq2,ho,go_sem]
    try refine ai ?_
    right
    refine (hB _ _).2 ⟨s1,r1,m1,w,w2,w3,?_⟩
    and_intros
    .exact hr
    .exact hS
    .omega
    .omega
    .exact hw2
    .exact hw3
    all_goals exact cl0
  ·rw [ldl (by omega),AG] at hr
   simp -implicitDefEqProofs (disch:=omega) only [hH,hge,go_sem]
   right
   rw [hr]
   simp [hw2,hw3]
abbrev cV (b : Bool) (i n : Nat) : VVal:=.own (.arg i 0) (if b then 1 else 0) 0 n
abbrev obV (b : Bool) (sz : Nat) (xs : List PV) : Ob:=if b then .box [.undef,.fresh sz xs] else .arr sz xs
abbrev EI (t : Tr) (l : List Mc) (s m h : Bool) (g g' : Gw) : List Ob:=[BI t l (.fresh 4 (g'.stk.hs.map Hg.pv)) g'.stk.size (cV s 2 g'.shr.length) (cV m 3 g'.maxes.length) (cV h 4 g'.highs.length) g'.refused,.arr 4 (g.stk.hs.map Hg.pv),obV s 4 (g'.shr.map Sh.pv),obV m 1 (g'.maxes.map (.int .i64)),obV h 1 (g'.highs.map (.int .i64))]
theorem RF {t : Tr} {l : List Mc} {g : Gw} (hS : StkOk t g.stk) (hl : McOk t.nodes l) {a : Int} (ha : InN t.nodes a) (hsl : g.shr.length < 100000) (ho : 0 < Am t g a - (AA l a).high) : ∃ s1 r1,StkOk t s1 /\ As t l g a (Am t g a - (AA l a).high) = ⟨s1,r1,g.maxes,g.highs,g.refused⟩ /\ r1.length <= g.shr.length + 64 /\
  V 108 [.ptr (.arg 0 0) 0 0,.p (.int .i64 a),.p (.int .i64 (Am t g a - (AA l a).high))] (AX t l g) = some (.tup [],[BI t l (.fresh 4 (s1.hs.map Hg.pv)) s1.size (.own (.arg 2 0) 1 0 r1.length) (.own (.arg 3 0) 0 0 g.maxes.length) (.own (.arg 4 0) 0 0 g.highs.length) g.refused,.arr 4 (g.stk.hs.map Hg.pv),.box [.undef,.fresh 4 (r1.map Sh.pv)],.arr 1 (g.maxes.map (.int .i64)),.arr 1 (g.highs.map (.int .i64))]) /\
  V 106 [.ptr (.arg 0 0) 0 0,.p (.int .i64 a)] (AX t l ⟨s1,r1,g.maxes,g.highs,g.refused⟩) = some (.p (.int .i64 (Am t ⟨s1,r1,g.maxes,g.highs,g.refused⟩ a)),AX t l ⟨s1,r1,g.maxes,g.highs,g.refused⟩):=by
 have hb:=CY hS a
 have hM:=Fm (Ij hl a).1
 have h1:=DS hS hl ha (n:=Am t g a - (AA l a).high) (by omega)
 have h2:=Fv hS hl ha (n:=Am t g a - (AA l a).high) (by omega)
 have h3:=LC hS hl ha (n:=Am t g a - (AA l a).high) (by omega) (by omega) (by omega)
 have h4:=Fs l (g:=As t l g a (Am t g a - (AA l a).high)) h1.stk ha
 exact ⟨(As t l g a (Am t g a - (AA l a).high)).stk,(As t l g a (Am t g a - (AA l a).high)).shr,h1.stk,rfl,h2,h3,h4⟩
theorem XY {t : Tr} {l : List Mc} {g0 : Gw} (hg0 : StkOk t g0.stk) (hl : McOk t.nodes l) {id : Int} (hid : InN t.nodes id) (hsl : g0.shr.length < 10000) (hml : g0.highs.length < 1000) :
  (A1 t l (ancR t id) g0 = g0 /\ V 143 [.ptr (.arg 0 0) 0 0,.p (.int .i64 id)] (AX t l g0) = some (.tup [],AX t l g0)) \/
  ∃ h,(A1 t l (ancR t id) g0).maxes = g0.maxes /\ V 143 [.ptr (.arg 0 0) 0 0,.p (.int .i64 id)] (AX t l g0) = some (.tup [],EI t l true false h g0 (A1 t l (ancR t id) g0)):=by
 have hset:=Hc hl (ancR t id) g0 (fun a h=>GC hg0.tree hid h) hg0
 suffices hw : wp (BW V vf143 [.ptr (.arg 0 0) 0 0,.p (.int .i64 id)] (AX t l g0)) (fun r=>(A1 t l (ancR t id) g0 = g0 /\ r = (.tup [],AX t l g0)) \/ ∃ h,r = (.tup [],EI t l true false h g0 (A1 t l (ancR t id) g0))) by
  obtain ⟨r,hr,hr2⟩:=hw
  have hV:=E9 (f:=143) (vf:=vf143) rfl hr
  rcases hr2 with ⟨h1,rfl⟩ | ⟨h,rfl⟩
  ·exact .inl ⟨h1,hV⟩
  ·exact .inr ⟨h,hset.maxes,hV⟩
 clear hset
 have hlen:=hg0.tree.len
 have hll:=hl.length
 have hanc:=M2 t id (by omega)
 rw [<- GD hg0.tree hid] at hanc
 have hal:=Ho t id
 have hai : ∀ a ∈ ancR t id,InN t.nodes a:=fun a h=>GC hg0.tree hid h
 generalize ancR t id = W at hanc hal hai ⊢
 obtain ⟨A,hA⟩:=lpI fun k s=>A1 t l W g0 = A1 t l (W.drop k) g0 /\ s.pe 0 = .ptr (.arg 0 0) 0 0 /\ s.pe 13 = .own (.slot 13 1) 0 0 W.length /\ s.pe 14 = .p (.int .i64 ↑W.length) /\ s.pe 15 = .p (.int .i64 k) /\ s.h (.arg 0 0) = some (0,Cb t l g0.stk.hs.length g0.stk.size g0.shr.length g0.maxes.length g0.highs.length g0.refused) /\ s.h (.arg 1 0) = some (0,Ob.arr 4 (g0.stk.hs.map Hg.pv)) /\ s.h (.arg 2 0) = some (0,Ob.arr 4 (g0.shr.map Sh.pv)) /\ s.h (.arg 3 0) = some (0,Ob.arr 1 (g0.maxes.map (.int .i64))) /\ s.h (.arg 4 0) = some (0,Ob.arr 1 (g0.highs.map (.int .i64))) /\ s.h (.slot 13 1) = some (0,Ob.arr 1 (List.map (.int .i64) W))
 obtain ⟨B,hB⟩:=lpI fun k s=>∃ (s1 : Stk) (r1 : List Sh) (q1 : List Int) (w : Nat) (w2 : Nat) (w4 : Nat),A1 t l W g0 = A1 t l (W.drop k) ⟨s1,r1,g0.maxes,q1,g0.refused⟩ /\ StkOk t s1 /\ r1.length <= 10000 + 64 * k /\ q1.length <= 1000 + k /\ w2 ≠ 0 /\ s.pe 0 = .ptr (.arg 0 0) 0 0 /\ s.pe 13 = .own (.slot 13 1) 0 0 W.length /\ s.pe 14 = .p (.int .i64 ↑W.length) /\ s.pe 15 = .p (.int .i64 k) /\ s.h (.arg 0 0) = some (0,BI t l (.own (.slot 36 1004) w 0 s1.hs.length) s1.size (.own (.arg 2 0) w2 0 r1.length) (.own (.arg 3 0) 0 0 g0.maxes.length) (.own (.arg 4 0) w4 0 q1.length) g0.refused) /\ s.h (.arg 1 0) = some (0,Ob.arr 4 (g0.stk.hs.map Hg.pv)) /\ s.h (.arg 2 0) = some (w2,Ob.arr 4 (r1.map Sh.pv)) /\ s.h (.arg 3 0) = some (0,Ob.arr 1 (g0.maxes.map (.int .i64))) /\ s.h (.arg 4 0) = some (w4,Ob.arr 1 (q1.map (.int .i64))) /\ s.h (.slot 13 1) = some (0,Ob.arr 1 (List.map (.int .i64) W)) /\ s.h (.slot 36 1004) = some (w,Ob.arr 4 (s1.hs.map Hg.pv))
 obtain ⟨hs0,shr0,mx0,hi0,rf0⟩:=g0
 simp only [AX,Cb,BI,EI] at *
 simp -implicitDefEqProofs (disch:=omega) only [vf143,Tg,hanc,go_sem]
 refine Al W.length (fun k s=>A k s \/ B k s) ?_ ?_
 ·left
  try refine ai ?_
  refine (hA _ _).2 ?_
  and_intros
  ·rfl
  all_goals exact cl0
 intro k s hk hAB
 rcases hAB with hAk | hBk
 ·skip
  obtain ⟨hr,hH⟩:=(hA _ _).1 hAk
  clear hAk
  simp -implicitDefEqProofs (disch:=omega) only [hH,go_sem]
  refine Ah (fun hlt=>?_) (fun hge=>?_)
  ·have hm : W[k]? = some W[k]:=lgg hlt
   have hdr : W.drop k = W[k] :: W.drop (k + 1):=ldg hlt
   generalize W[k] = a at hm hdr
   have ha:=hai a (lmg hm)
   rw [hdr,A1] at hr
   have hq1:=I1 l a (by omega)
   have hq2:=Fs l (g:=⟨hs0,shr0,mx0,hi0,rf0⟩) hg0 ha
   have hU:=CY (g:=⟨hs0,shr0,mx0,hi0,rf0⟩) hg0 a
   have hM:=Fm (Ij hl a).1
   have hst:=RF (g:=⟨hs0,shr0,mx0,hi0,rf0⟩) hg0 hl ha (by simp only at hsl ⊢; omega)
   generalize Am t ⟨hs0,shr0,mx0,hi0,rf0⟩ a = U at *
   generalize AA l a = M at *
   by_cases ho : 0 < U - M.high
   ·rw [if_pos ho] at hr
    obtain ⟨s1,r1,hS1,he1,hl1,hV1,hV2⟩:=hst ho
    have hU1:=CY (g:=⟨s1,r1,mx0,hi0,rf0⟩) hS1 a
    rw [he1] at hr
    generalize Am t ⟨s1,r1,mx0,hi0,rf0⟩ a = U1 at *
    simp only [AX,Cb,BI] at hq1 hq2 hV1 hV2
    by_cases hu : M.high < U1
    ·rw [if_pos hu] at hr
     simp -implicitDefEqProofs (disch:=omega) only [hH,hlt,hm,hq1,hq2,ho,hV1,hV2,hu,go_sem]
     try refine ai ?_
     right
     refine (hB _ _).2 ⟨s1,r1,hi0 ++ [a],nv (s.h (.slot 36 1004)) + 1,1,1,?_⟩
     and_intros
     .exact hr
     .exact hS1
     .exact by first | omega | (simp only at hl1 hsl; omega)
     .exact by first | (simp; omega) | (simp; simp only at hml; omega)
     .omega
     all_goals exact cl0
    ·rw [if_neg hu] at hr
     simp -implicitDefEqProofs (disch:=omega) only [hH,hlt,hm,hq1,hq2,ho,hV1,hV2,hu,go_sem]
     try refine ai ?_
     right
     refine (hB _ _).2 ⟨s1,r1,hi0,nv (s.h (.slot 36 1004)) + 1,1,0,?_⟩
     and_intros
     .exact hr
     .exact hS1
     .exact by first | omega | (simp only at hl1 hsl; omega)
     .exact by first | omega | (simp only at hml; omega)
     .omega
     all_goals exact cl0
   ·rw [if_neg ho] at hr
    simp only [AX,Cb,BI] at hq1 hq2
    simp -implicitDefEqProofs (disch:=omega) only [hH,hlt,hm,hq1,hq2,ho,go_sem]
    try refine ai ?_
    left
    refine (hA _ _).2 ?_
    and_intros
    ·exact hr
    all_goals exact cl0
  ·rw [ldl (by omega),A1] at hr
   simp -implicitDefEqProofs (disch:=omega) only [hH,hge,go_sem]
   left
   first | exact hr | exact ⟨hr,rfl⟩
 ·skip
  obtain ⟨s1,r1,q1,w,w2,w4,hr,hS,hb1,hb2,hw2,hH⟩:=(hB _ _).1 hBk
  clear hBk
  simp -implicitDefEqProofs (disch:=omega) only [hH,go_sem]
  refine Ah (fun hlt=>?_) (fun hge=>?_)
  ·have hm : W[k]? = some W[k]:=lgg hlt
   have hdr : W.drop k = W[k] :: W.drop (k + 1):=ldg hlt
   generalize W[k] = a at hm hdr
   have ha:=hai a (lmg hm)
   rw [hdr,A1] at hr
   have hq1:=I1 l a (by omega)
   have hq2:=Fs l (g:=⟨s1,r1,mx0,q1,rf0⟩) hS ha
   have hU:=CY (g:=⟨s1,r1,mx0,q1,rf0⟩) hS a
   have hM:=Fm (Ij hl a).1
   have hst:=RF (g:=⟨s1,r1,mx0,q1,rf0⟩) hS hl ha (by simp only; omega)
   generalize Am t ⟨s1,r1,mx0,q1,rf0⟩ a = U at *
   generalize AA l a = M at *
   by_cases ho : 0 < U - M.high
   ·rw [if_pos ho] at hr
    obtain ⟨s2,r2,hS2,he2,hl2,hV1,hV2⟩:=hst ho
    have hU1:=CY (g:=⟨s2,r2,mx0,q1,rf0⟩) hS2 a
    rw [he2] at hr
    generalize Am t ⟨s2,r2,mx0,q1,rf0⟩ a = U1 at *
    simp only [AX,Cb,BI] at hq1 hq2 hV1 hV2
    by_cases hu : M.high < U1
    ·rw [if_pos hu] at hr
     simp -implicitDefEqProofs (disch:=omega) only [hH,hlt,hm,hq1,hq2,ho,hV1,hV2,hu,go_sem]
     try refine ai ?_
     right
     refine (hB _ _).2 ⟨s2,r2,q1 ++ [a],w + 1 + 1,w2 + 1,w4 + 1,?_⟩
     and_intros
     .exact hr
     .exact hS2
     .exact by first | omega | (simp only at hl2; omega)
     .exact by simp; omega
     .omega
     all_goals exact cl0
    ·rw [if_neg hu] at hr
     simp -implicitDefEqProofs (disch:=omega) only [hH,hlt,hm,hq1,hq2,ho,hV1,hV2,hu,go_sem]
     try refine ai ?_
     right
     refine (hB _ _).2 ⟨s2,r2,q1,w + 1 + 1,w2 + 1,w4,?_⟩
     and_intros
     .exact hr
     .exact hS2
     .exact by first | omega | (simp only at hl2; omega)
     .omega
     .omega
     all_goals exact cl0
   ·rw [if_neg ho] at hr
    simp only [AX,Cb,BI] at hq1 hq2
    simp -implicitDefEqProofs (disch:=omega) only [hH,hlt,hm,hq1,hq2,ho,go_sem]
    try refine ai ?_
    right
    refine (hB _ _).2 ⟨s1,r1,q1,w,w2,w4,?_⟩
    and_intros
    .exact hr
    .exact hS
    .omega
    .omega
    .exact hw2
    all_goals exact cl0
  ·rw [ldl (by omega),A1] at hr
   by_cases hw4 : w4 = 0
   ·subst hw4
    simp -implicitDefEqProofs (disch:=omega) only [hH,hge,go_sem]
    right
    refine ⟨false,?_⟩
    rw [hr]
    simp [hw2,obV]
   ·simp -implicitDefEqProofs (disch:=omega) only [hH,hge,go_sem]
    right
    refine ⟨true,?_⟩
    rw [hr]
    simp [hw2,hw4,obV]
theorem R2 {t : Tr} {l : List Mc} {g0 : Gw} (hg0 : StkOk t g0.stk) (hl : McOk t.nodes l) {id file anon : Int} (hid : InN t.nodes id) (hf : 0 <= file) (ha : 0 <= anon) (hfa : file + anon <= 16777216) (hsl : g0.shr.length < 1000) (hml : g0.maxes.length < 1000) (hhl : g0.highs.length < 1000) :
  ∃ s m h,V 100 [.ptr (.arg 0 0) 0 0,.p (.int .i64 id),.p (.int .i64 file),.p (.int .i64 anon)] (AX t l g0) = some (.p (.int .i64 (AW t l g0 id file anon).2),EI t l s m h g0 (AW t l g0 id file anon).1):=by
 have hT:=hg0.tree
 have hlen:=hT.len
 have hin : ∀ a ∈ ancR t id,InN t.nodes a:=fun a h=>GC hT hid h
 have hal:=Ho t id
 have hR:=Hk hl (file + anon) (ancR t id) g0 hin hg0
 have hrm:=zaF hg0 hl hid (n:=file + anon) (by omega) hfa hsl hml
 have hrl : (AG t l (file + anon) (ancR t id) g0).1.shr.length <= g0.shr.length + 64 * (ancR t id).length:=roomG_len hl (file + anon) (ancR t id) g0 hin hg0
 unfold AW
 generalize AG t l (file + anon) (ancR t id) g0 = r at hR hrm hrl ⊢
 obtain ⟨r,e⟩:=r
 have hSr : StkOk t r.stk:=hR.grw.stk
 by_cases he : e = 0
 ·subst he
  simp only [if_true]
  have hp:=Kf hSr hid hf ha (by
   rcases hR.err with ⟨_,_,h3⟩ | ⟨h1,_⟩
   ·have h1:=h3 1 (Ja hT hid)
    have h2 : AE l 1 <= 16777216:=by
     unfold AE
     rw [if_pos rfl]
     omega
    have h4 : Av t (An r.stk.hs) 1 = Am t r 1:=rfl
    simp only at h1
    omega
   ·simp at h1)
  obtain ⟨p1,p2,p3⟩:=hp
  have hgm : (Bt (Ac r.stk.hs id) file anon).group = id:=Dd _ _
  have hrs:=hSr.hs.length
  have hget:=Gy r.stk id (by omega)
  have hput:=So hSr (h:=Bt (Ac r.stk.hs id) file anon) (by rw [hgm]; exact hid) p2 p3 (hSr.hs.get id).2.2 p1
  have hb:=hSr.hs.get id
  have hgr:=Dd r.stk.hs id
  have hset:=XY (g0:=BO r (Bt (Ac r.stk.hs id) file anon)) p1 hl hid (by show r.shr.length < _; simp only at hrl; omega) (by show r.highs.length < _; rw [show r.highs = g0.highs from hR.highs]; exact hhl)
  have hq1 : (BO r (Bt (Ac r.stk.hs id) file anon)).stk = ⟨putS r.stk.hs (Bt (Ac r.stk.hs id) file anon),r.stk.size⟩:=rfl
  have hq : BO r (Bt (Ac r.stk.hs id) file anon) = ⟨⟨putS r.stk.hs (Bt (Ac r.stk.hs id) file anon),r.stk.size⟩,r.shr,r.maxes,r.highs,r.refused⟩:=rfl
  rw [hq] at hset ⊢
  clear hq hq1
  unfold Bt at hput hset ⊢
  generalize hG : Ac r.stk.hs id = b at *
  obtain ⟨bg,bf,ba,bs⟩:=b
  simp only at hgr hb
  subst hgr
  simp only [Ax] at hb
  obtain ⟨⟨c1,c2⟩,⟨c3,c4⟩,c5⟩:=hb
  generalize putS r.stk.hs ⟨bg,bf + file,ba + anon,bs⟩ = y at *
  simp only [Ax] at p2 p3
  rcases hrm with ⟨h1,hV⟩ | hV
  ·have hrg : r = g0:=congrArg Prod.fst h1
   subst hrg
   obtain ⟨⟨hs0,z0⟩,shr0,mx0,hi0,rf0⟩:=r
   simp only [Stk.vv,Stk.fv,Hg.vv,AX,Cb,BI,EI] at hget hput hset hV ⊢
   rcases hset with ⟨e1,hV2⟩ | ⟨h,e2,hV2⟩
   ·rw [e1]
    refine ⟨false,false,false,Ag (vf:=vf100) rfl ?_⟩
    simp -implicitDefEqProofs (disch:=omega) only [vf100,HD,hV,hget,hput,hV2,go_sem]
    all_goals exact cl0
   ·generalize A1 t l (ancR t bg) _ = q at e2 hV2 ⊢
    obtain ⟨⟨qs,qz⟩,qr,qm,qh,qf⟩:=q
    simp only at e2 hV2 ⊢
    subst e2
    refine ⟨true,false,h,Ag (vf:=vf100) rfl ?_⟩
    cases h <;> (simp only [cV,obV,if_true,if_false,bft] at hV2 ⊢; simp -implicitDefEqProofs (disch:=omega) only [vf100,HD,hV,hget,hput,hV2,go_sem]; all_goals exact cl0)
  ·obtain ⟨⟨hs0,z0⟩,shr0,mx0,hi0,rf0⟩:=g0
   obtain ⟨⟨hs1,z1⟩,shr1,mx1,hi1,rf1⟩:=r
   have hhi : hi1 = hi0:=hR.highs
   subst hhi
   simp only [Stk.vv,Stk.fv,Hg.vv,AX,Cb,BI,EI,IP] at hget hput hset hV ⊢
   rcases hset with ⟨e1,hV2⟩ | ⟨h,e2,hV2⟩
   ·rw [e1]
    refine ⟨true,true,false,Ag (vf:=vf100) rfl ?_⟩
    simp -implicitDefEqProofs (disch:=omega) only [vf100,HD,hV,hget,hput,hV2,go_sem]
    all_goals exact cl0
   ·generalize A1 t l (ancR t bg) _ = q at e2 hV2 ⊢
    obtain ⟨⟨qs,qz⟩,qr,qm,qh,qf⟩:=q
    simp only at e2 hV2 ⊢
    subst e2
    refine ⟨true,true,h,Ag (vf:=vf100) rfl ?_⟩
    cases h <;> (simp only [cV,obV,if_true,if_false,bft] at hV2 ⊢; simp -implicitDefEqProofs (disch:=omega) only [vf100,HD,hV,hget,hput,hV2,go_sem]; all_goals exact cl0)
 ·rcases hrm with ⟨h1,_⟩ | hV
  ·exact absurd (congrArg Prod.snd h1) he
  ·simp only [if_neg he]
   refine ⟨true,true,false,Ag (vf:=vf100) rfl ?_⟩
   obtain ⟨⟨hs0,z0⟩,shr0,mx0,hi0,rf0⟩:=g0
   obtain ⟨⟨hs1,z1⟩,shr1,mx1,hi1,rf1⟩:=r
   have hhi : hi1 = hi0:=hR.highs
   subst hhi
   simp only [AX,Cb,BI,EI,IP] at hV ⊢
   simp -implicitDefEqProofs (disch:=omega) only [vf100,HD,hV,he,go_sem]
   all_goals exact cl0
where
 roomG_len {t : Tr} {l : List Mc} (hl : McOk t.nodes l) (n : Int) : ∀ (as_ : List Int) (g : Gw),(∀ a ∈ as_,InN t.nodes a) -> StkOk t g.stk -> (AG t l n as_ g).1.shr.length <= g.shr.length + 64 * as_.length
  | [],g,_,_=>by simp [AG]
  | a :: as_,g,has,hg=>by
   have ha:=has a (by simp)
   have has' : ∀ x ∈ as_,InN t.nodes x:=fun x hx=>has x (by simp [hx])
   unfold AG
   by_cases ho : 0 < AL t l n g a
   ·rw [if_pos ho]
    have h1 : Grw t g (As t l (AO g a) a (AL t l n g a)):=M1 a (DS (g:=AO g a) hg hl ha (by omega))
    have h2:=Fv (g:=AO g a) hg hl ha (n:=AL t l n g a) (by omega)
    have h3 : (AO g a).shr = g.shr:=rfl
    rw [h3] at h2
    split
    ·show (As t l (AO g a) a (AL t l n g a)).shr.length <= _
     rw [llc]
     omega
    ·have:=roomG_len hl n as_ _ has' h1.stk
     rw [llc]
     omega
   ·rw [if_neg ho]
    have:=roomG_len hl n as_ g has' hg
    rw [llc]
    omega
abbrev gwF (g : Gw) : VVal:=.agg [.fresh 4 (g.stk.hs.map Hg.pv),.p (.int .i64 g.stk.size),.fresh 4 (g.shr.map Sh.pv),.fresh 1 (g.maxes.map (.int .i64)),.fresh 1 (g.highs.map (.int .i64)),.p (.int .i64 g.refused)]
theorem L0 (t : Tr) (sw : Stk) (l : List Mc) (hsl : sw.hs.length < 1000000) : V 99 [t.vv,sw.vv,.p (AM l)] [] = some (.boxed [.p (Au t.nodes),.p (.int .i64 t.next),.p (AM l),.fresh 4 (sw.hs.map Hg.pv),.p (.int .i64 sw.size),.fresh 4 [],.fresh 1 [],.fresh 1 [],.p (.int .i64 0)],[]):=by
 refine Ag (vf:=vf99) rfl ?_
 simp -implicitDefEqProofs (disch:=omega) only [vf99,TK,llm,go_sem]
theorem Ka {t : Tr} {sw : Stk} {l : List Mc} (hs : StkOk t sw) (hl : McOk t.nodes l) {id file anon : Int} (hid : InN t.nodes id) (hf : 0 <= file) (hf1 : file <= 16777216) (ha : 0 <= anon) (ha1 : anon <= 16777216 - file) : V 45 [t.vv,sw.vv,.p (AM l),.p (.int .i64 id),.p (.int .i64 file),.p (.int .i64 anon)] [] = some (.tup [gwF (AW t l ⟨sw,[],[],[],0⟩ id file anon).1,.p (.int .i64 (AW t l ⟨sw,[],[],[],0⟩ id file anon).2)],[]):=by
 refine Ag (vf:=vf45) rfl ?_
 have h1:=LZ hs hl hid
 have hsl:=hs.hs.length
 have hlen:=hs.tree.len
 have h2:=L0 t sw l (by omega)
 obtain ⟨s,m,h,hV⟩:=R2 (g0:=⟨sw,[],[],[],0⟩) hs hl hid hf ha (by omega) (by simp) (by simp) (by simp)
 have n1 : ¬ file < 0:=by omega
 have n2 : ¬ 16777216 < file:=by omega
 have n3 : ¬ anon < 0:=by omega
 have n4 : ¬ 16777216 - file < anon:=by omega
 generalize AW t l ⟨sw,[],[],[],0⟩ id file anon = r at hV ⊢
 obtain ⟨⟨⟨x,z⟩,shr,mx,hi,rf⟩,e⟩:=r
 obtain ⟨hs0,z0⟩:=sw
 simp only [Stk.vv,AX,Cb,BI,EI,lpn,lln] at h1 h2 hV ⊢
 cases s <;> cases m <;> cases h <;> (simp only [cV,obV,if_true,if_false,bft] at hV; simp -implicitDefEqProofs (disch:=omega) only [vf45,GR,h1,h2,n1,n2,n3,n4,hV,go_sem])
end Go.V
