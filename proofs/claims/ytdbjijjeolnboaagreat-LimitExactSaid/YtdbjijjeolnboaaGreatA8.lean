import Derived.Test.YtdbjijjeolnboaaGreatA6
import Derived.Test.YtdbjijjeolnboaaGreatA7
import Derived.Test.YtdbjijjeolnboaaGreatA3
set_option linter.unusedSectionVars false
set_option linter.unusedSimpArgs false
set_option linter.unusedVariables false
set_option maxHeartbeats 32000000
open List renaming getElem?_eq_getElem → lgg, drop_eq_getElem_cons → ldg, drop_of_length_le → ldl, nil_append → lna, append_assoc → laa, append_nil → lan, getElem?_of_mem → lgm, length_map → llm
open Bool renaming and_eq_true → bat, true_and → bta
namespace Go.V
theorem Ld (l : List Mc) (hl : l.length < 1000000) : V 58 [.p (AM l)] [] = some (.fresh 3 ((A7 l).map Pr.pv),[]):=by
 refine Ag (vf:=vf58) rfl ?_
 simp -implicitDefEqProofs (disch:=omega) only [vf58,T9,go_sem]
 obtain ⟨I,hI⟩:=lpI fun k s=>∃ (acc : List Pr) (w : Nat),A7 l = acc ++ A7 (l.drop k) /\ acc.length <= k /\ s.pe 0 = .p (AM l) /\ s.pe 3 = .own (.slot 3 0) w 0 acc.length /\ s.pe 4 = .p (.int .i64 k) /\ s.h (.slot 3 0) = some (w,Ob.arr 3 (acc.map Pr.pv))
 refine Al (l.length) I ?_ ?_
 ·refine (hI _ _).2 ⟨[],0,?_⟩
  and_intros
  ·rfl
  ·exact Nat.zero_le _
  all_goals exact cl0
 intro k s hk hIk
 obtain ⟨acc,w,ho,hal,hH⟩:=(hI _ _).1 hIk
 clear hIk
 simp -implicitDefEqProofs (disch:=omega) only [hH,go_sem]
 refine Ah (fun hlt=>?_) (fun hge=>?_)
 ·have hm : l[k]? = some l[k]:=lgg hlt
  have hdr : l.drop k = l[k] :: l.drop (k + 1):=ldg hlt
  generalize l[k] = c at hm hdr
  rw [hdr,QC] at ho
  by_cases h1 : c.least = 0
  ·by_cases h2 : c.low = 0
   ·rw [if_pos ⟨h1,h2⟩,lna] at ho
    simp -implicitDefEqProofs (disch:=omega) only [hH,hlt,hm,h1,h2,go_sem]
    try refine ai ?_
    refine (hI _ _).2 ⟨acc,w,?_⟩
    and_intros
    .exact ho
    .omega
    all_goals exact cl0
   ·rw [if_neg (fun h=>h2 h.2),<- laa,h1] at ho
    simp -implicitDefEqProofs (disch:=omega) only [hH,hlt,hm,h1,h2,go_sem]
    try refine ai ?_
    refine (hI _ _).2 ⟨acc ++ [⟨c.group,0,c.low⟩],w + 1,?_⟩
    and_intros
    .exact ho
    .exact by simp; omega
    all_goals exact cl0
  ·rw [if_neg (fun h=>h1 h.1),<- laa] at ho
   simp -implicitDefEqProofs (disch:=omega) only [hH,hlt,hm,h1,go_sem]
   try refine ai ?_
   refine (hI _ _).2 ⟨acc ++ [⟨c.group,c.least,c.low⟩],w + 1,?_⟩
   and_intros
   .exact ho
   .exact by simp; omega
   all_goals exact cl0
 ·rw [ldl (by omega)] at ho
  rw [show A7 [] = [] from rfl,lan] at ho
  simp -implicitDefEqProofs (disch:=omega) only [hH,hge,go_sem]
  rw [ho]
theorem Mq (l : List Mc) : (A7 l).length <= l.length:=by
 unfold A7
 rw [llm]
 exact List.length_filter_le _ _
theorem MK (l : List Mc) : (A9 l).length <= l.length:=by
 unfold A9
 rw [llm]
 exact List.length_filter_le _ _
theorem ET {t : Tr} {sw : Stk} {l : List Mc} {id : Int} (h : Bo t sw l id = 0) : StkOk t sw /\ McOk t.nodes l /\ InN t.nodes id:=by
 unfold Bo at h
 split at h
 ·rename_i h1
  simp only [bat] at h1
  split at h
  ·rename_i h2
   obtain ⟨m,hm,he⟩:=Cu h2
   obtain ⟨j,hj⟩:=lgm hm
   exact ⟨(Dc t sw).1 h1.1,(Pn.1 h1.2).2,j,m,hj,he⟩
  .omega
 .omega
def g00 : Gw:=⟨⟨[],0⟩,[],[],[],0⟩
def EK (t : Tr) (sw : Stk) (l : List Mc) (id file anon : Int) : Gw × Int :=
 if Bo t sw l id = 0 then (if 0 <= file /\ file <= 16777216 /\ 0 <= anon /\ anon <= 16777216 - file then AW t l ⟨sw,[],[],[],0⟩ id file anon else (g00,3)) else (g00,Bo t sw l id)
def EL (t : Tr) (sw : Stk) (l : List Mc) (id n : Int) : Gw × Int :=
 if Bo t sw l id = 0 then (if 0 <= n /\ n <= (Ac sw.hs id).swap then DE t l ⟨sw,[],[],[],0⟩ id n else (g00,3)) else (g00,Bo t sw l id)
def CS (t : Tr) (sw : Stk) (l : List Mc) (id : Int) : Gw × Int × Int :=
 if Bo t sw l id = 0 then (EF t l ⟨sw,[],[],[],0⟩ id,max 0 (Am t (EF t l ⟨sw,[],[],[],0⟩ id) id - AE l id),0) else (g00,0,Bo t sw l id)
theorem zar (t : Tr) (sw : Stk) (l : List Mc) (id file anon : Int) (hf : t.Fits) (hn : t.nodes.length < 1000000) (hsl : sw.hs.length < 1000000) (hl : l.length < 1000000) : V 45 [t.vv,sw.vv,.p (AM l),.p (.int .i64 id),.p (.int .i64 file),.p (.int .i64 anon)] [] = some (.tup [gwF (EK t sw l id file anon).1,.p (.int .i64 (EK t sw l id file anon).2)],[]):=by
 unfold EK
 by_cases hc : Bo t sw l id = 0
 ·rw [if_pos hc]
  obtain ⟨hs,hM,hid⟩:=ET hc
  by_cases hr : 0 <= file /\ file <= 16777216 /\ 0 <= anon /\ anon <= 16777216 - file
  ·rw [if_pos hr]
   exact Ka hs hM hid hr.1 hr.2.1 hr.2.2.1 hr.2.2.2
  ·rw [if_neg hr]
   refine Ag (vf:=vf45) rfl ?_
   have h1:=H8 t sw l id hf hn hsl hl
   rw [hc] at h1
   by_cases n1 : file < 0
   ·simp -implicitDefEqProofs (disch:=omega) only [vf45,GR,h1,n1,go_sem]
    try rfl
   ·by_cases n2 : 16777216 < file
    ·simp -implicitDefEqProofs (disch:=omega) only [vf45,GR,h1,n1,n2,go_sem]
     try rfl
    ·by_cases n3 : anon < 0
     ·simp -implicitDefEqProofs (disch:=omega) only [vf45,GR,h1,n1,n2,n3,go_sem]
      try rfl
     ·have n4 : 16777216 - file < anon:=by omega
      simp -implicitDefEqProofs (disch:=omega) only [vf45,GR,h1,n1,n2,n3,n4,go_sem]
      try rfl
 ·rw [if_neg hc]
  refine Ag (vf:=vf45) rfl ?_
  have h1:=H8 t sw l id hf hn hsl hl
  generalize Bo t sw l id = e at h1 hc ⊢
  simp -implicitDefEqProofs (disch:=omega) only [vf45,GR,h1,hc,go_sem]
  try rfl
theorem zas (t : Tr) (sw : Stk) (l : List Mc) (id n : Int) (hf : t.Fits) (hn : t.nodes.length < 1000000) (hsl : sw.hs.length < 1000000) (hl : l.length < 1000000) : V 48 [t.vv,sw.vv,.p (AM l),.p (.int .i64 id),.p (.int .i64 n)] [] = some (.tup [gwF (EL t sw l id n).1,.p (.int .i64 (EL t sw l id n).2)],[]):=by
 unfold EL
 by_cases hc : Bo t sw l id = 0
 ·rw [if_pos hc]
  obtain ⟨hs,hM,hid⟩:=ET hc
  by_cases hr : 0 <= n /\ n <= (Ac sw.hs id).swap
  ·rw [if_pos hr]
   exact zcb hs hM hid hr.1 hr.2
  ·rw [if_neg hr]
   refine Ag (vf:=vf48) rfl ?_
   have h1:=H8 t sw l id hf hn hsl hl
   rw [hc] at h1
   have hg1:=Gy sw id hsl
   generalize hgs : Ac sw.hs id = o at *
   simp only [Hg.vv] at hg1
   by_cases n1 : n < 0
   ·simp -implicitDefEqProofs only [vf48,HK,h1,n1,go_sem]
    try rfl
   ·have n2 : o.swap < n:=by omega
    simp -implicitDefEqProofs only [vf48,HK,h1,n1,hg1,n2,go_sem]
    try rfl
 ·rw [if_neg hc]
  refine Ag (vf:=vf48) rfl ?_
  have h1:=H8 t sw l id hf hn hsl hl
  generalize Bo t sw l id = e at h1 hc ⊢
  simp -implicitDefEqProofs only [vf48,HK,h1,hc,go_sem]
  try rfl
theorem zaq (t : Tr) (sw : Stk) (l : List Mc) (id : Int) (hf : t.Fits) (hn : t.nodes.length < 1000000) (hsl : sw.hs.length < 1000000) (hl : l.length < 1000000) : V 50 [t.vv,sw.vv,.p (AM l),.p (.int .i64 id)] [] = some (.tup [Stk.fv (CS t sw l id).1.stk,.fresh 4 ((CS t sw l id).1.shr.map Sh.pv),.p (.int .i64 (CS t sw l id).2.1),.p (.int .i64 (CS t sw l id).2.2)],[]):=by
 unfold CS
 by_cases hc : Bo t sw l id = 0
 ·rw [if_pos hc]
  obtain ⟨hs,hM,hid⟩:=ET hc
  exact zbl hs hM hid
 ·rw [if_neg hc]
  refine Ag (vf:=vf50) rfl ?_
  have h1:=H8 t sw l id hf hn hsl hl
  generalize Bo t sw l id = e at h1 hc ⊢
  simp -implicitDefEqProofs only [vf50,KF,h1,hc,go_sem]
  try rfl
theorem Xx (t : Tr) (l : List Ch) (hn : t.nodes.length < 1000000) (hl : l.length < 1000000) : V 89 [t.vv,.p (AP l)] [] = some (.p (.bool (Du t l)),[]):=by
 refine Ag (vf:=vf89) rfl ?_
 have hc:=EV t hn
 unfold Du
 cases ht : AF t with
 | false =>
  rw [ht] at hc
  simp -implicitDefEqProofs (disch:=omega) only [vf89,Nx,hc,go_sem]
  try rfl
 | true =>
  rw [ht] at hc
  rw [bta]
  simp -implicitDefEqProofs (disch:=omega) only [vf89,Nx,hc,go_sem]
  obtain ⟨I,hI⟩:=lpI fun k s=>Bu (Cx t.nodes) 0 4611686018427387904 none l = Bu (Cx t.nodes) 0 4611686018427387904 (EG l k) (l.drop k) /\ s.pe 1 = .p (AP l) /\ s.pe 2 = .ptr (.slot 2 0) 0 0 /\ s.pe 5 = .p (.int .i64 k) /\ s.h (.slot 2 0) = some (0,Ob.box [.p (Au t.nodes),.p (.int .i64 t.next)])
  refine Al (l.length) I ?_ ?_
  ·refine (hI _ _).2 ?_
   and_intros
   ·exact cl3
   all_goals exact cl0
  intro k s hk hIk
  obtain ⟨hq,h1,h2,hH⟩:=(hI _ _).1 hIk
  clear hIk
  simp -implicitDefEqProofs (disch:=omega) only [h1,hH,go_sem]
  refine Ah (fun hlt=>?_) (fun hge=>?_)
  ·have hm : l[k]? = some l[k]:=lgg hlt
   generalize l[k] = c at hm
   have hg:=MN hq hm
   have hb':=M5 hq hm
   have hfi:=CJ t c.group hn
   rw [Cl ht] at hfi
   have hkn : Cx t.nodes c.group = (Ao t.nodes c.group).isSome:=rfl
   generalize (Ao t.nodes c.group).isSome = kn at hfi hkn
   by_cases hk0 : (0 : Int) < k
   ·obtain ⟨e,he,he'⟩:=MS hm hk0
    have hk1 : (0 : Int) <= (k : Int) - 1:=by omega
    rw [LG hk0 he,hkn] at hg hb'
    simp -implicitDefEqProofs (disch:=omega) only [h1,h2,hH,hlt,hm,hfi,go_sem]
    repeat' ((first | refine Bw ?_ ?_ | refine Bv ?_ ?_ | refine Bz ?_ ?_ | refine By ?_ ?_ | refine Bq ?_ ?_ | refine Bp ?_ ?_ | refine Bx ?_ ?_ | refine Br ?_ ?_ | refine Ah ?_ ?_ | refine BD ?_ ?_) <;> intro hb <;> simp -implicitDefEqProofs (disch:=omega) only [hb,h1,hH,hlt,hm,hk0,hk1,he',go_sem])
    all_goals first
     | (rw [hb' (by first | (rintro ⟨h1,h2,h3,h4⟩; omega) | simp_all)]; done)
     | skip
    try refine ai ?_
    refine (hI _ _).2 ?_
    and_intros
    ·exact hg ⟨by first | assumption | (cases kn <;> simp_all),by omega,by omega,by omega⟩
    all_goals exact cl0
   ·rw [LF hk0,hkn] at hg hb'
    simp -implicitDefEqProofs (disch:=omega) only [h1,h2,hH,hlt,hm,hfi,go_sem]
    repeat' ((first | refine Bw ?_ ?_ | refine Bv ?_ ?_ | refine Bz ?_ ?_ | refine By ?_ ?_ | refine Bq ?_ ?_ | refine Bp ?_ ?_ | refine Bx ?_ ?_ | refine Br ?_ ?_ | refine Ah ?_ ?_ | refine BD ?_ ?_) <;> intro hb <;> simp -implicitDefEqProofs (disch:=omega) only [hb,h1,hH,hlt,hm,hk0,go_sem])
    all_goals first
     | (rw [hb' (by first | (rintro ⟨h1,h2,h3⟩; omega) | simp_all)]; done)
     | skip
    try refine ai ?_
    refine (hI _ _).2 ?_
    and_intros
    .exact hg ⟨by first | assumption | (cases kn <;> simp_all),by omega,by omega⟩
    all_goals exact cl0
  ·have hT:=M4 hq (by omega)
   simp -implicitDefEqProofs (disch:=omega) only [hge,hT,go_sem]
end Go.V
