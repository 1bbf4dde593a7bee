import Derived.Test.YtdbjijjeolnboaaGreatA3
import Derived.Test.YtdbjijjeolnboaaGreatA2
set_option linter.unusedSectionVars false
set_option linter.unusedSimpArgs false
set_option linter.unusedVariables false
set_option maxHeartbeats 32000000
open Nat renaming le_refl → lrf
open List renaming getElem?_eq_getElem → lgg, mem_of_getElem? → lmg, drop_eq_getElem_cons → ldg, mem_cons_of_mem → lmc, map_cons → lpc, drop_of_length_le → ldl, nil_append → lna, append_assoc → laa, append_nil → lan, mem_map → lmm, mem_cons_self → lms, take_of_length_le → ltl, mem_cons → lmk, map_nil → lpn, mem_append → lmp, length_map → llm, getElem_mem → lgk, pairwise_cons → lpw
open Bool renaming and_eq_true → bat, false_and → bfa, false_eq_true → bft, true_and → bta, and_self → bas, or_eq_true → bot
namespace Go.V
structure Gw where
 stk : Stk
 shr : List Sh
 maxes : List Int
 highs : List Int
 refused : Int
abbrev Am (t : Tr) (g : Gw) (id : Int) : Int:=Av t (An g.stk.hs) id
def As (t : Tr) (l : List Mc) (g : Gw) (id n : Int) : Gw:=⟨(BF t g.stk (A7 l) (A9 l) id (min n 16777216)).1,g.shr ++ (BF t g.stk (A7 l) (A9 l) id (min n 16777216)).2.1,g.maxes,g.highs,g.refused⟩
def AL (t : Tr) (l : List Mc) (n : Int) (g : Gw) (a : Int) : Int:=Am t g a + n - AE l a
def AO (g : Gw) (a : Int) : Gw:=⟨g.stk,g.shr,g.maxes ++ [a],g.highs,g.refused⟩
def HF (g : Gw) (a : Int) : Gw:=⟨g.stk,g.shr,g.maxes,g.highs ++ [a],g.refused⟩
def IN (g : Gw) (a : Int) : Gw:=⟨g.stk,g.shr,g.maxes,g.highs,a⟩
def AG (t : Tr) (l : List Mc) (n : Int) : List Int -> Gw -> Gw × Int
 | [],g=>(g,0)
 | a :: as_,g =>
  if 0 < AL t l n g a then
   if AE l a < Am t (As t l (AO g a) a (AL t l n g a)) a + n then (IN (As t l (AO g a) a (AL t l n g a)) a,20)
   else AG t l n as_ (As t l (AO g a) a (AL t l n g a))
  else AG t l n as_ g
def A1 (t : Tr) (l : List Mc) : List Int -> Gw -> Gw
 | [],g=>g
 | a :: as_,g =>
  if 0 < Am t g a - (AA l a).high then
   A1 t l as_ (if (AA l a).high < Am t (As t l g a (Am t g a - (AA l a).high)) a then HF (As t l g a (Am t g a - (AA l a).high)) a else As t l g a (Am t g a - (AA l a).high))
  else A1 t l as_ g
def BO (g : Gw) (h : Hg) : Gw:=⟨⟨putS g.stk.hs h,g.stk.size⟩,g.shr,g.maxes,g.highs,g.refused⟩
def Bt (h : Hg) (file anon : Int) : Hg:=⟨h.group,h.file + file,h.anon + anon,h.swap⟩
def AW (t : Tr) (l : List Mc) (g : Gw) (id file anon : Int) : Gw × Int :=
 if (AG t l (file + anon) (ancR t id) g).2 = 0 then (A1 t l (ancR t id) (BO (AG t l (file + anon) (ancR t id) g).1 (Bt (Ac (AG t l (file + anon) (ancR t id) g).1.stk.hs id) file anon)),0)
 else AG t l (file + anon) (ancR t id) g
structure Grw (t : Tr) (g g' : Gw) : Prop where
 stk : StkOk t g'.stk
 size : g'.stk.size = g.stk.size
 shr : ∃ a,g'.shr = g.shr ++ a /\ Acc g.stk.hs a g'.stk.hs /\ ∀ y ∈ a,0 <= y.file /\ 0 <= y.anon
theorem Grw.refl {t : Tr} {g : Gw} (h : StkOk t g.stk) : Grw t g g:=⟨h,rfl,[],by simp,zce _,by simp⟩
theorem Grw.trans {t : Tr} {a b c : Gw} (h : Grw t a b) (h' : Grw t b c) : Grw t a c:=by
 obtain ⟨x,hx,ax,px⟩:=h.shr
 obtain ⟨y,hy,ay,py⟩:=h'.shr
 refine ⟨h'.stk,h'.size.trans h.size,x ++ y,by rw [hy,hx,laa],ax.trans ay,fun z hz=>?_⟩
 rcases lmp.1 hz with hz | hz
 .exact px z hz
 .exact py z hz
theorem Grw.use {t : Tr} {g g' : Gw} (h : Grw t g g') (h0 : StkOk t g.stk) {id : Int} (hid : InN t.nodes id) : Am t g' id <= Am t g id:=by
 obtain ⟨a,_,ha,hp⟩:=h.shr
 exact Pp h0.tree ha hp h0.hs h.stk.hs hid
theorem DS {t : Tr} {l : List Mc} {g : Gw} (hg : StkOk t g.stk) (hl : McOk t.nodes l) {a n : Int} (ha : InN t.nodes a) (hn : 0 <= n) : Grw t g (As t l g a n):=by
 have h:=(M7 (t:=t) (sw:=g.stk) (p:=A7 l) (l:=A9 l) (root:=a) (n:=min n 16777216) ⟨hg,J3 hl,Ke hl,ha⟩ (by omega) (by omega)).1
 exact ⟨h.stk,h.size,_,rfl,h.acc,h.pos⟩
theorem M1 {t : Tr} {g g' : Gw} (a : Int) (h : Grw t (AO g a) g') : Grw t g g':=⟨h.stk,h.size,h.shr⟩
theorem zbU {t : Tr} {g g' : Gw} (a : Int) (h : Grw t g g') : Grw t g (IN g' a):=⟨h.stk,h.size,h.shr⟩
theorem zaE {t : Tr} {g g' : Gw} (a : Int) (h : Grw t g g') : Grw t g (HF g' a):=⟨h.stk,h.size,h.shr⟩
structure RoomG (t : Tr) (l : List Mc) (n : Int) (as_ : List Int) (g : Gw) (r : Gw × Int) : Prop where
 grw : Grw t g r.1
 highs : r.1.highs = g.highs
 err : (r.2 = 0 /\ r.1.refused = g.refused /\ ∀ a ∈ as_,Am t r.1 a + n <= AE l a) \/ (r.2 = 20 /\ r.1.refused ∈ as_ /\ r.1.refused ∈ r.1.maxes /\ AE l r.1.refused < Am t r.1 r.1.refused + n)
theorem Hk {t : Tr} {l : List Mc} (hl : McOk t.nodes l) (n : Int) : ∀ (as_ : List Int) (g : Gw),(∀ a ∈ as_,InN t.nodes a) -> StkOk t g.stk -> RoomG t l n as_ g (AG t l n as_ g)
 | [], g, _, hg=>⟨Grw.refl hg, rfl, .inl ⟨rfl, rfl, by simp⟩⟩
 | a :: as_,g,has,hg=>by
  have ha:=has a (by simp)
  have has' : ∀ x ∈ as_,InN t.nodes x:=fun x hx=>has x (by simp [hx])
  unfold AG
  by_cases ho : 0 < AL t l n g a
  ·rw [if_pos ho]
   have h1 : Grw t g (As t l (AO g a) a (AL t l n g a)):=M1 a (DS (g:=AO g a) hg hl ha (by omega))
   have e1 : (As t l (AO g a) a (AL t l n g a)).maxes = g.maxes ++ [a]:=rfl
   have e2 : (As t l (AO g a) a (AL t l n g a)).highs = g.highs:=rfl
   have e3 : (As t l (AO g a) a (AL t l n g a)).refused = g.refused:=rfl
   generalize As t l (AO g a) a (AL t l n g a) = g1 at *
   by_cases hu : AE l a < Am t g1 a + n
   ·rw [if_pos hu]
    refine ⟨zbU a h1,e2,.inr ⟨rfl,?_,?_,hu⟩⟩
    ·show a ∈ a :: as_
     simp
    ·show a ∈ g1.maxes
     rw [e1]
     simp
   ·rw [if_neg hu]
    have ih:=Hk hl n as_ g1 has' h1.stk
    refine ⟨h1.trans ih.grw,ih.highs.trans e2,?_⟩
    rcases ih.err with ⟨x1,x2,x3⟩ | ⟨x1,x2,x3,x4⟩
    ·refine .inl ⟨x1,x2.trans e3,fun b hb=>?_⟩
     rcases lmk.1 hb with rfl | hb
     ·have:=ih.grw.use h1.stk ha
      omega
     .exact x3 b hb
    ·exact .inr ⟨x1,lmc _ x2,x3,x4⟩
  ·rw [if_neg ho]
   have ih:=Hk hl n as_ g has' hg
   refine ⟨ih.grw,ih.highs,?_⟩
   rcases ih.err with ⟨x1,x2,x3⟩ | ⟨x1,x2,x3,x4⟩
   ·refine .inl ⟨x1,x2,fun b hb=>?_⟩
    rcases lmk.1 hb with rfl | hb
    ·have:=ih.grw.use hg ha
     unfold AL at ho
     omega
    .exact x3 b hb
   .exact .inr ⟨x1,lmc _ x2,x3,x4⟩
structure SetG (t : Tr) (l : List Mc) (as_ : List Int) (g r : Gw) : Prop where
 grw : Grw t g r
 maxes : r.maxes = g.maxes
 refused : r.refused = g.refused
 highs : ∃ b,r.highs = g.highs ++ b /\ (∀ a ∈ b,a ∈ as_) /\ ∀ a ∈ as_,a ∈ b \/ Am t r a <= (AA l a).high
theorem Hc {t : Tr} {l : List Mc} (hl : McOk t.nodes l) : ∀ (as_ : List Int) (g : Gw),(∀ a ∈ as_,InN t.nodes a) -> StkOk t g.stk -> SetG t l as_ g (A1 t l as_ g)
 | [], g, _, hg=>⟨Grw.refl hg, rfl, rfl, [], by simp [A1], by simp, by simp⟩
 | a :: as_,g,has,hg=>by
  have ha:=has a (by simp)
  have has' : ∀ x ∈ as_,InN t.nodes x:=fun x hx=>has x (by simp [hx])
  unfold A1
  by_cases ho : 0 < Am t g a - (AA l a).high
  ·rw [if_pos ho]
   have h1 : Grw t g (As t l g a (Am t g a - (AA l a).high)):=DS hg hl ha (by omega)
   have e1 : (As t l g a (Am t g a - (AA l a).high)).maxes = g.maxes:=rfl
   have e2 : (As t l g a (Am t g a - (AA l a).high)).highs = g.highs:=rfl
   have e3 : (As t l g a (Am t g a - (AA l a).high)).refused = g.refused:=rfl
   generalize As t l g a (Am t g a - (AA l a).high) = g1 at *
   by_cases hu : (AA l a).high < Am t g1 a
   ·rw [if_pos hu]
    have ih:=Hc hl as_ (HF g1 a) has' h1.stk
    obtain ⟨b,hb1,hb2,hb3⟩:=ih.highs
    refine ⟨(zaE a h1).trans ih.grw,ih.maxes.trans e1,ih.refused.trans e3,a :: b,?_,?_,?_⟩
    ·rw [hb1]
     show (g1.highs ++ [a]) ++ b = _
     rw [e2,laa]
     rfl
    ·intro x hx
     rcases lmk.1 hx with rfl | hx
     ·simp
     ·exact lmc _ (hb2 x hx)
    ·intro x hx
     rcases lmk.1 hx with rfl | hx
     ·exact .inl (by simp)
     ·rcases hb3 x hx with h | h
      .exact .inl (lmc _ h)
      .exact .inr h
   ·rw [if_neg hu]
    have ih:=Hc hl as_ g1 has' h1.stk
    obtain ⟨b,hb1,hb2,hb3⟩:=ih.highs
    refine ⟨h1.trans ih.grw,ih.maxes.trans e1,ih.refused.trans e3,b,by rw [hb1,e2],fun x hx=>lmc _ (hb2 x hx),?_⟩
    intro x hx
    rcases lmk.1 hx with rfl | hx
    ·have:=ih.grw.use h1.stk ha
     exact .inr (by omega)
    .exact hb3 x hx
  ·rw [if_neg ho]
   have ih:=Hc hl as_ g has' hg
   obtain ⟨b,hb1,hb2,hb3⟩:=ih.highs
   refine ⟨ih.grw,ih.maxes,ih.refused,b,hb1,fun x hx=>lmc _ (hb2 x hx),?_⟩
   intro x hx
   rcases lmk.1 hx with rfl | hx
   ·have:=ih.grw.use hg ha
    exact .inr (by omega)
   .exact hb3 x hx
theorem Gu {t : Tr} (h : TreeOk t) {g : Int} (hg : InN t.nodes g) : (Ao t.nodes g).isSome = true:=by
 obtain ⟨i,n,hn,rfl⟩:=hg
 rw [BZ h.inc hn]
 rfl
theorem Zr {t : Tr} (h : TreeOk t) {z : Int} {hs : List Hg} (hh : HgOk t.nodes z hs) : Av t (An hs) 1 = Ab (hs.map fun h=>h.file + h.anon):=by
 obtain ⟨r,hr,hr1⟩:=MQ h
 unfold Av
 rw [if_pos (Gu h ⟨0,r,hr,hr1⟩),ZA h (Dw hh),MI]
theorem GC {t : Tr} (h : TreeOk t) {id c : Int} (hid : InN t.nodes id) (hc : c ∈ ancR t id) : InN t.nodes c:=by
 obtain ⟨i,n,hn,rfl⟩:=hid
 exact parts_down.anc_in h i n hn hc
theorem zba {t : Tr} (h : TreeOk t) {z z' : Int} {hs hs' : List Hg} (h0 : HgOk t.nodes z hs) (h1 : HgOk t.nodes z' hs') {id v : Int} (hid : InN t.nodes id) (hm : ∀ x,Ei hs' x = if x = id then Ei hs id + v else Ei hs x) {k : Int} (hk : InN t.nodes k) : Av t (An hs') k = Av t (An hs) k + if k ∈ ancR t id then v else 0:=by
 unfold Av
 rw [if_pos (Gu h hk),if_pos (Gu h hk)]
 obtain ⟨i,n,hn,rfl⟩:=hk
 obtain ⟨j,m,hj,rfl⟩:=hid
 have e1 : Aq (An hs') = fun x=>if x = m.id then Ei hs m.id + v else Aq (An hs) x:=funext fun x=>by
  rw [Fx h1.inc,hm,Fx h0.inc]
 rw [e1,zbh h (Aq (An hs)) hn hj,Fx h0.inc,E1 h hj]
 split <;> omega
structure GrowG (t : Tr) (l : List Mc) (id file anon : Int) (g r : Gw) : Prop where
 stk : StkOk t r.stk
 size : r.stk.size = g.stk.size
 shr : ∃ a,r.shr = g.shr ++ a /\ (∀ y ∈ a,0 <= y.file /\ 0 <= y.anon) /\ ∀ x,Ac r.stk.hs x = ⟨x,(Ac g.stk.hs x).file + (if x = id then file else 0) - Ca (·.file) a x,(Ac g.stk.hs x).anon + (if x = id then anon else 0) - Ca (·.anon) a x,(Ac g.stk.hs x).swap + Ca (·.anon) a x⟩
 refused : r.refused = g.refused
 on : ∀ k ∈ ancR t id,Am t r k <= AE l k
 off : ∀ k,InN t.nodes k -> k ∉ ancR t id -> Am t r k <= Am t g k
 highs : ∃ b,r.highs = g.highs ++ b /\ (∀ a ∈ b,a ∈ ancR t id) /\ ∀ a ∈ ancR t id,a ∈ b \/ Am t r a <= (AA l a).high
theorem Ja {t : Tr} (h : TreeOk t) {id : Int} (hid : InN t.nodes id) : (1 : Int) ∈ ancR t id:=by
 obtain ⟨i,n,hn,rfl⟩:=hid
 rw [E1 h hn]
 exact JI h i n hn
theorem Kf {t : Tr} {s : Stk} (hs : StkOk t s) {id file anon : Int} (hid : InN t.nodes id) (hf : 0 <= file) (ha : 0 <= anon) (hr : Av t (An s.hs) 1 + (file + anon) <= 16777216) : StkOk t ⟨putS s.hs (Bt (Ac s.hs id) file anon),s.size⟩ /\ Ax ((Ac s.hs id).file + file) /\ Ax ((Ac s.hs id).anon + anon):=by
 have hT:=hs.tree
 obtain ⟨⟨f0,f1⟩,⟨a0,a1⟩,w0⟩:=hs.hs.get id
 have hm:=hs.hs.mem
 have hg:=Dd s.hs id
 have hle : (Ac s.hs id).file + (Ac s.hs id).anon <= Ab (s.hs.map fun h=>h.file + h.anon):=by
  have hnn : ∀ y ∈ s.hs.map (fun h=>h.file + h.anon),0 <= y:=fun y hy=>by
   obtain ⟨x,hx,rfl⟩:=lmm.1 hy
   have:=(hs.hs.file x hx).1
   have:=(hs.hs.anon x hx).1
   omega
  rcases MG (l:=s.hs) (id:=id) with he | he
  ·rw [he]
   exact ER _ hnn
  .exact Jd _ hnn (lmm.2 ⟨_,he,rfl⟩)
 rw [Zr hT hs.hs] at hr
 have b1 : Ax ((Ac s.hs id).file + file):=⟨by omega,by omega⟩
 have b2 : Ax ((Ac s.hs id).anon + anon):=⟨by omega,by omega⟩
 refine ⟨⟨hT,hs.z0,hs.z1,?_⟩,b1,b2⟩
 have hgm : (Bt (Ac s.hs id) file anon).group = id:=hg
 refine hs.hs.put (by rw [hgm]; exact Gu hT hid) b1 b2 w0 ?_ ?_
 ·rw [hgm]
  show _ - _ + ((Ac s.hs id).file + file + ((Ac s.hs id).anon + anon)) <= _
  omega
 ·rw [hgm]
  show _ - _ + (Ac s.hs id).swap <= _
  have:=hs.hs.out
  omega
theorem JT {t : Tr} {l : List Mc} (hl : McOk t.nodes l) {g : Gw} (hg : StkOk t g.stk) {id file anon : Int} (hid : InN t.nodes id) (hf : 0 <= file) (ha : 0 <= anon) : ((AW t l g id file anon).2 = 0 /\ GrowG t l id file anon g (AW t l g id file anon).1) \/ ((AW t l g id file anon).2 = 20 /\ AW t l g id file anon = AG t l (file + anon) (ancR t id) g /\ RoomG t l (file + anon) (ancR t id) g (AW t l g id file anon)):=by
 have hT:=hg.tree
 have hin : ∀ a ∈ ancR t id,InN t.nodes a:=fun a h=>GC hT hid h
 have hR:=Hk hl (file + anon) (ancR t id) g hin hg
 unfold AW
 generalize AG t l (file + anon) (ancR t id) g = r at hR
 obtain ⟨r,e⟩:=r
 rcases hR.err with ⟨h1,h2,h3⟩ | ⟨h1,h2⟩
 ·left
  simp only at h1 h2 h3
  subst h1
  simp only [if_true]
  refine ⟨trivial,?_⟩
  have hg1 : StkOk t r.stk:=hR.grw.stk
  have h1r:=h3 1 (Ja hT hid)
  have hmr : AE l 1 <= 16777216:=by
   unfold AE
   rw [if_pos rfl]
   omega
  obtain ⟨p1,p2,p3⟩:=Kf hg1 hid hf ha (by
   have : Av t (An r.stk.hs) 1 = Am t r 1:=rfl
   omega)
  have p1 : StkOk t (BO r (Bt (Ac r.stk.hs id) file anon)).stk:=p1
  have hgm : (Bt (Ac r.stk.hs id) file anon).group = id:=Dd _ _
  have hget : ∀ x,Ac (BO r (Bt (Ac r.stk.hs id) file anon)).stk.hs x = if x = id then Bt (Ac r.stk.hs id) file anon else Ac r.stk.hs x:=fun x=>by
   show Ac (putS r.stk.hs _) x = _
   rw [JK,hgm]
  have hS:=Hc hl (ancR t id) (BO r (Bt (Ac r.stk.hs id) file anon)) hin p1
  have hup : ∀ {k},InN t.nodes k -> Am t (BO r (Bt (Ac r.stk.hs id) file anon)) k = Am t r k + if k ∈ ancR t id then file + anon else 0:=fun {k} hk=>zba hT hg1.hs p1.hs hid (fun x=>by
   unfold Ei
   rw [hget x]
   by_cases hx : x = id
   ·rw [if_pos hx,if_pos hx]
    show (Ac r.stk.hs id).file + file + ((Ac r.stk.hs id).anon + anon) = _
    omega
   ·rw [if_neg hx,if_neg hx]) hk
  have hqs : (BO r (Bt (Ac r.stk.hs id) file anon)).shr = r.shr /\ (BO r (Bt (Ac r.stk.hs id) file anon)).highs = r.highs /\ (BO r (Bt (Ac r.stk.hs id) file anon)).refused = r.refused /\ (BO r (Bt (Ac r.stk.hs id) file anon)).stk.size = r.stk.size:=⟨rfl,rfl,rfl,rfl⟩
  generalize BO r (Bt (Ac r.stk.hs id) file anon) = q at *
  have hu : ∀ {k},InN t.nodes k -> Am t (A1 t l (ancR t id) q) k <= Am t q k:=fun hk=>hS.grw.use p1 hk
  obtain ⟨b,hb1,hb2,hb3⟩:=hS.highs
  obtain ⟨a1,ha1,hc1,hp1⟩:=hR.grw.shr
  obtain ⟨a2,ha2,hc2,hp2⟩:=hS.grw.shr
  obtain ⟨q1,q2,q3,q4⟩:=hqs
  refine ⟨hS.grw.stk,by rw [hS.grw.size,q4,hR.grw.size],⟨a1 ++ a2,by rw [ha2,q1,ha1,laa],fun y hy=>?_,fun x=>?_⟩,by rw [hS.refused,q3,h2],fun k hk=>?_,fun k hk hno=>?_,⟨b,by rw [hb1,q2,hR.highs],hb2,hb3⟩⟩
  ·rcases lmp.1 hy with hy | hy
   ·exact hp1 y hy
   ·exact hp2 y hy
  ·rw [hc2 x,hget x,HU,HU]
   have hcx:=hc1 x
   by_cases hx : x = id
   ·subst hx
    rw [if_pos rfl,if_pos rfl,if_pos rfl]
    simp only [Bt,hcx,Hg.mk.injEq,true_and]
    omega
   ·rw [if_neg hx,if_neg hx,if_neg hx,hcx]
    simp only [Hg.mk.injEq,true_and]
    omega
  ·have e1:=hup (hin k hk)
   have e2:=hu (hin k hk)
   have e3:=h3 k hk
   rw [if_pos hk] at e1
   omega
  ·have e1:=hup hk
   have e2:=hu hk
   have e3:=hR.grw.use hg hk
   rw [if_neg hno] at e1
   simp only at e3
   omega
 ·right
  simp only at h1
  have hne : ¬ (20 : Int) = 0:=by decide
  subst h1
  simp only [if_neg hne]
  exact ⟨trivial,trivial,hR⟩
def JR : List Int:=[0,0,10,60]
def JQ : List Int:=[0,0,20,100]
def Gp : List Int:=[0,15,60,150]
def Gl : List Int:=[0,8,40,90,200]
def Gj : List Int:=[0,5,30]
def FL (L : List Int) (a : Nat) (n : Int) (xs : List Int) : Int:=if AC L a n = n - 1 then Bs L (Ae L a n) xs else 4611686018427387904
def Nq (L : List Int) (a : Nat) (n : Int) (xs : List Int) : Nat:=if AC L a n = n - 1 then Ae L (Ae L a n) xs.length else Ae L a n
def CV (L : List Int) (a : Nat) : Nat:=Ae L (Ae L a 4) 4
def CU (L : List Int) (a : Nat) : Nat:=Nq L (CV L a) 2 Gp
def CT (L : List Int) (a : Nat) : Nat:=Nq L (CU L a) 2 Gl
def HN (L : List Int) (a : Nat) : Nat:=Nq L (CT L a) 3 Gj
def DZ (L : List Int) (a : Nat) (g : Int) : Mc:=⟨g,Bs L a JR,Bs L (Ae L a 4) JQ,FL L (CV L a) 2 Gp,FL L (CU L a) 2 Gl,FL L (CT L a) 3 Gj,decide (AC L (HN L a) 4 = 3)⟩
def GX (L : List Int) (a : Nat) : Nat:=Ae L (HN L a) 4
def dMems (L : List Int) : List Nd -> Nat -> List Mc × Nat
 | [],a=>([],a)
 | n :: ns,a=>if 0 < AC L a 3 then (DZ L (Ae L a 3) n.id :: (dMems L ns (GX L (Ae L a 3))).1,(dMems L ns (GX L (Ae L a 3))).2) else dMems L ns (Ae L a 3)
theorem Mj {L : List Int} {a : Nat} {xs : List Int} (h0 : 0 < xs.length) (h : ∀ x ∈ xs,0 <= x /\ x <= 1099511627776) : A4 (Bs L a xs) = true:=by
 have:=h _ (QF L a (xs:=xs) h0)
 simp only [A4,bot,bat,decide_eq_true_eq]
 omega
theorem Mi {L : List Int} {a : Nat} {n : Int} {xs : List Int} (h0 : 0 < xs.length) (h : ∀ x ∈ xs,0 <= x /\ x <= 1099511627776) : A4 (FL L a n xs) = true:=by
 unfold FL
 split
 .exact Mj h0 h
 .rfl
theorem zam (L : List Int) (a : Nat) (g : Int) : A4 (DZ L a g).least = true /\ A4 (DZ L a g).low = true /\ A4 (DZ L a g).high = true /\ A4 (DZ L a g).most = true /\ A4 (DZ L a g).swap = true :=
 ⟨Mj (by decide) (by decide),Mj (by decide) (by decide),Mi (by decide) (by decide),Mi (by decide) (by decide),Mi (by decide) (by decide)⟩
theorem zaX (L : List Int) {t : Tr} (h : TreeOk t) (a : Nat) : McOk t.nodes (dMems L t.nodes a).1:=by
 have key : ∀ (ns : List Nd) (a : Nat),(ns.Pairwise fun x y=>x.id < y.id) -> (∀ n ∈ ns,n ∈ t.nodes) -> McOk t.nodes (dMems L ns a).1 /\ ∀ c ∈ (dMems L ns a).1,∃ n ∈ ns,n.id = c.group:=by
  intro ns
  induction ns with
  | nil =>
   intro a _ _
   exact ⟨⟨fun c hc=>by simp [dMems] at hc,by simp [dMems],fun c hc=>by simp [dMems] at hc⟩,fun c hc=>by simp [dMems] at hc⟩
  | cons n ns ih =>
   intro a hp hm
   rw [lpw] at hp
   unfold dMems
   by_cases hx : 0 < AC L a 3
   ·rw [if_pos hx]
    obtain ⟨i1,i2⟩:=ih (GX L (Ae L a 3)) hp.2 fun x hx=>hm x (lmc _ hx)
    have hd:=zam L (Ae L a 3) n.id
    have hg : (DZ L (Ae L a 3) n.id).group = n.id:=rfl
    generalize DZ L (Ae L a 3) n.id = m at hd hg
    refine ⟨⟨fun c hc=>?_,?_,fun c hc=>?_⟩,fun c hc=>?_⟩
    ·rcases lmk.1 hc with rfl | hc
     ·rw [hg]
      exact zal (hm n (lms ..))
     ·exact i1.known c hc
    ·rw [lpw]
     refine ⟨fun c hc=>?_,i1.inc⟩
     obtain ⟨x,hx1,hx2⟩:=i2 c hc
     have:=hp.1 x hx1
     rw [hg]
     omega
    ·rcases lmk.1 hc with rfl | hc
     ·exact hd
     ·exact i1.amt c hc
    ·rcases lmk.1 hc with rfl | hc
     ·exact ⟨n,lms ..,hg.symm⟩
     ·obtain ⟨x,hx1,hx2⟩:=i2 c hc
      exact ⟨x,lmc _ hx1,hx2⟩
   ·rw [if_neg hx]
    obtain ⟨i1,i2⟩:=ih (Ae L a 3) hp.2 fun x hx=>hm x (lmc _ hx)
    exact ⟨i1,fun c hc=>by
     obtain ⟨x,hx1,hx2⟩:=i2 c hc
     exact ⟨x,lmc _ hx1,hx2⟩⟩
 exact (key t.nodes a h.inc fun n hn=>hn).1
theorem McOk.length {t : Tr} {l : List Mc} (h : McOk t.nodes l) : l.length <= t.nodes.length:=by
 have:=L4 (t:=t) (gs:=l.map (·.group)) (by rw [List.pairwise_map]; exact h.inc) fun g hg=>by
  obtain ⟨x,hx,rfl⟩:=lmm.1 hg
  exact h.known x hx
 simpa using this
def Mc.pv (h : Mc) : PV:=.agg [.int .i64 h.group,.int .i64 h.least,.int .i64 h.low,.int .i64 h.high,.int .i64 h.most,.int .i64 h.swap,.bool h.tog]
abbrev Mc.vv (h : Mc) : VVal:=.agg [.p (.int .i64 h.group),.p (.int .i64 h.least),.p (.int .i64 h.low),.p (.int .i64 h.high),.p (.int .i64 h.most),.p (.int .i64 h.swap),.p (.bool h.tog)]
abbrev Mc.mv (h : Mc) : VVal:=.agg [.p (.int .i64 h.least),.p (.int .i64 h.low),.p (.int .i64 h.high),.p (.int .i64 h.most),.p (.int .i64 h.swap),.p (.bool h.tog)]
abbrev AM (l : List Mc) : PV:=.slice 7 (l.map Mc.pv)
attribute [go_sem] Mc.pv
theorem zan (l : List Mc) : (l.map Mc.pv).all PV.flat = true:=by
 rw [List.all_eq_true]
 intro x hx
 obtain ⟨n,_,rfl⟩:=lmm.1 hx
 rfl
attribute [go_sem] zan
def Uy (n a b : Int) : Bool:=(decide (a <= n) && decide (n <= b)) || decide (n = 4611686018427387904)
theorem Zm (n a b : Int) : V 146 [.p (.int .i64 n),.p (.int .i64 a),.p (.int .i64 b)] [] = some (.p (.bool (Uy n a b)),[]):=by
 refine Ag (vf:=vf146) rfl ?_
 unfold Uy
 by_cases h1 : a <= n
 ·by_cases h2 : n <= b
  ·have e1 : ¬ n < a:=by omega
   have e2 : ¬ b < n:=by omega
   simp -implicitDefEqProofs only [vf146,Kn,h1,h2,go_sem]
   try simp [h1,h2]
  ·have e1 : ¬ n < a:=by omega
   have e2 : b < n:=by omega
   simp -implicitDefEqProofs only [vf146,Kn,h1,h2,go_sem]
   try simp [h1,h2]
 ·have e1 : n < a:=by omega
  simp -implicitDefEqProofs only [vf146,Kn,h1,go_sem]
  try simp [h1]
def Fc (m : Mc) : Bool:=A4 m.least && A4 m.low && A4 m.high && A4 m.most && A4 m.swap
theorem Lk (m : Mc) : V 109 [m.mv] [] = some (.p (.bool (Fc m)),[]):=by
 refine Ag (vf:=vf109) rfl ?_
 have ha : ∀ n,V 146 [.p (.int .i64 n),.p (.int .i64 0),.p (.int .i64 1099511627776)] [] = some (.p (.bool (A4 n)),[]):=fun n=>Zm n 0 1099511627776
 unfold Fc
 cases h1 : A4 m.least with
 | false =>
  simp -implicitDefEqProofs only [vf109,GP,ha,h1,bfa,go_sem]
 | true =>
  cases h2 : A4 m.low with
  | false=>simp -implicitDefEqProofs only [vf109,GP,ha,h1,h2,bfa,bta,go_sem]
  | true =>
   cases h3 : A4 m.high with
   | false=>simp -implicitDefEqProofs only [vf109,GP,ha,h1,h2,h3,bfa,bta,go_sem]
   | true =>
    cases h4 : A4 m.most with
    | false=>simp -implicitDefEqProofs only [vf109,GP,ha,h1,h2,h3,h4,bfa,bta,go_sem]
    | true =>
     cases h5 : A4 m.swap with
     | false=>simp -implicitDefEqProofs only [vf109,GP,ha,h1,h2,h3,h4,h5,bta,go_sem]
     | true=>simp -implicitDefEqProofs only [vf109,GP,ha,h1,h2,h3,h4,h5,bta,go_sem]
def Dp (ns : List Nd) : Option Int -> List Mc -> Bool
 | _,[]=>true
 | p,h :: l=>(Ao ns h.group).isSome && prevOk p h.group && Fc h && Dp ns (some h.group) l
def DT (t : Tr) (l : List Mc) : Bool:=AF t && Dp t.nodes none l
theorem ML (m : Mc) : Fc m = true ↔ (A4 m.least = true /\ A4 m.low = true /\ A4 m.high = true /\ A4 m.most = true /\ A4 m.swap = true):=by
 simp only [Fc,bat,and_assoc]
theorem SE {ns : List Nd} : ∀ {l : List Mc} {p : Option Int},McOk ns l -> (∀ q,p = some q -> ∀ h ∈ l,q < h.group) -> Dp ns p l = true
 | [],_,_,_=>rfl
 | h :: l,p,hm,hq=>by
  obtain ⟨h1,h2⟩:=lpw.1 hm.inc
  have ih:=SE (ns:=ns) (l:=l) (p:=some h.group) ⟨fun m hmm=>hm.known m (by simp [hmm]),h2,fun m hmm=>hm.amt m (by simp [hmm])⟩ fun q hq' x hx=>by
   cases hq'
   exact h1 x hx
  have hp : prevOk p h.group = true:=by
   cases p with
   | none=>rfl
   | some q=>exact decide_eq_true (hq q rfl h (by simp))
  simp only [Dp,hm.known h (by simp),hp,(ML h).2 (hm.amt h (by simp)),ih,bas]
theorem Yh {t : Tr} {l : List Mc} (h : TreeOk t) (hl : McOk t.nodes l) : DT t l = true:=by
 rw [DT,(A5 t).2 h,SE hl (by simp)]
 rfl
theorem YM {t : Tr} {l : List Mc} (h : TreeOk t) (hM : McOk t.nodes l) : V 52 [t.vv,.p (AM l)] [] = some (.p (.bool true),[]):=by
 refine Ag (vf:=vf52) rfl ?_
 have hlen:=h.len
 have hll:=hM.length
 have hc:=Gi t h.fits (by omega)
 rw [(A5 t).2 h] at hc
 simp -implicitDefEqProofs (disch:=omega) only [vf52,KD,hc,go_sem]
 obtain ⟨I,hI⟩:=lpI fun k s=>s.pe 1 = .p (AM l) /\ s.pe 2 = .ptr (.slot 2 0) 0 0 /\ s.pe 12 = .p (AM l) /\ s.pe 13 = .p (.int .i64 ↑l.length) /\ s.pe 14 = .p (.int .i64 k) /\ s.h (.slot 2 0) = some (0,Ob.box [.p (Au t.nodes),.p (.int .i64 t.next)])
 refine Al (l.length) I ?_ ?_
 ·refine (hI _ _).2 ⟨?_,?_,?_,?_,?_,?_⟩
  all_goals exact cl0
 intro k s hk hIk
 obtain ⟨h1,h2,h12,h13,h14,hh2_0⟩:=(hI _ _).1 hIk
 clear hIk
 simp -implicitDefEqProofs (disch:=omega) only [h13,h14,go_sem]
 refine Ah (fun hlt=>?_) (fun hge=>?_)
 ·have hm : l[k]? = some l[k]:=lgg hlt
  have hprev : ∀ j (h : j < k),l[j].group < l[k].group:=fun j h=>(List.pairwise_iff_getElem.1 hM.inc) j k (by omega) hlt h
  have hkn:=hM.known l[k] (lgk hlt)
  have hch:=Lk l[k]
  rw [(ML _).2 (hM.amt l[k] (lgk hlt))] at hch
  generalize l[k] = c at hm hprev hkn hch
  have hfi:=DR t c.group (by omega)
  rw [hkn] at hfi
  generalize (Ao t.nodes c.group).getD zeroNd = nd at hfi
  by_cases hk0 : (0 : Int) < k
  ·have he : l[k - 1]? = some l[k - 1]:=lgg (by omega)
   have hlt1:=hprev (k - 1) (by omega)
   generalize l[k - 1] = e at he hlt1
   have he' : l[((k : Int) - 1).toNat]? = some e:=by rw [show ((k : Int) - 1).toNat = k - 1 by omega]; exact he
   have hk1 : (0 : Int) <= (k : Int) - 1:=by omega
   have hle : ¬ c.group <= e.group:=by omega
   simp only [Mc.mv] at hch
   simp -implicitDefEqProofs (disch:=omega) only [h1,h2,h12,h14,hh2_0,hlt,hm,hfi,Nd.vv,hk0,hk1,he',hle,hch,go_sem]
   try refine ai ?_
   refine (hI _ _).2 ⟨?_,?_,?_,?_,?_,?_⟩
   all_goals exact cl0
  ·simp only [Mc.mv] at hch
   simp -implicitDefEqProofs (disch:=omega) only [h2,h12,h14,hh2_0,hlt,hm,hfi,Nd.vv,hk0,hch,go_sem]
   try refine ai ?_
   refine (hI _ _).2 ⟨?_,?_,?_,?_,?_,?_⟩
   all_goals exact cl0
 .simp -implicitDefEqProofs (disch:=omega) only [hge,go_sem]
theorem I1 (l : List Mc) (id : Int) (hl : l.length < 1000000) : V 54 [.p (AM l),.p (.int .i64 id)] [] = some ((AA l id).mv,[]):=by
 refine Ag (vf:=vf54) rfl ?_
 simp -implicitDefEqProofs (disch:=omega) only [vf54,Ud,go_sem]
 obtain ⟨I,hI⟩:=lpI fun k s=>AA l id = AA (l.drop k) id /\ s.pe 1 = .p (.int .i64 id) /\ s.pe 4 = .ptr (.slot 4 0) 0 0 /\ s.pe 7 = .p (AM l) /\ s.pe 8 = .p (.int .i64 ↑l.length) /\ s.pe 9 = .p (.int .i64 k) /\ s.h (.slot 4 0) = some (0,Ob.box [.p (.int .i64 0),.p (.int .i64 0),.p (.int .i64 0),.p (.int .i64 0),.p (.int .i64 0),.p (.bool false)])
 refine Al (l.length) I ?_ ?_
 ·refine (hI _ _).2 ?_
  and_intros
  ·rfl
  all_goals exact cl0
 intro k s hk hIk
 obtain ⟨hp,hH⟩:=(hI _ _).1 hIk
 clear hIk
 simp -implicitDefEqProofs (disch:=omega) only [hH,go_sem]
 refine Ah (fun hlt=>?_) (fun hge=>?_)
 ·have hm : l[k]? = some l[k]:=lgg hlt
  have hdr : l.drop k = l[k] :: l.drop (k + 1):=ldg hlt
  generalize l[k] = c at hm hdr
  rw [hdr,AA] at hp
  by_cases hc : c.group = id
  ·rw [if_pos hc] at hp
   rw [hp]
   simp -implicitDefEqProofs (disch:=omega) only [hH,hlt,hm,hc,go_sem]
  ·rw [if_neg hc] at hp
   simp -implicitDefEqProofs (disch:=omega) only [hH,hlt,hm,hc,go_sem]
   try refine ai ?_
   refine (hI _ _).2 ?_
   and_intros
   .exact hp
   all_goals exact cl0
 ·rw [ldl (by omega)] at hp
  have hdf : V 44 [] [] = some (.agg [.p (.int .i64 0),.p (.int .i64 0),.p (.int .i64 4611686018427387904),.p (.int .i64 4611686018427387904),.p (.int .i64 4611686018427387904),.p (.bool false)],[]):=by
   refine Ag (vf:=vf44) rfl ?_
   simp -implicitDefEqProofs (disch:=omega) only [vf44,IJ,go_sem]
  rw [hp]
  simp -implicitDefEqProofs (disch:=omega) only [hH,hge,hdf,go_sem]
  all_goals rfl
theorem QC (m : Mc) (l : List Mc) : A7 (m :: l) = (if m.least = 0 /\ m.low = 0 then [] else [⟨m.group,m.least,m.low⟩]) ++ A7 l:=by
 unfold A7
 by_cases h : m.least = 0 /\ m.low = 0
 ·rw [List.filter_cons_of_neg (by simp [h.1,h.2]),if_pos h]
  rfl
 ·rw [List.filter_cons_of_pos (by simp; omega),if_neg h]
  rfl
theorem Rl (m : Mc) (l : List Mc) : A9 (m :: l) = (if m.swap = 4611686018427387904 then [] else [⟨m.group,m.swap⟩]) ++ A9 l:=by
 unfold A9
 by_cases h : m.swap = 4611686018427387904
 ·rw [List.filter_cons_of_neg (by simp [h]),if_pos h]
  rfl
 ·rw [List.filter_cons_of_pos (by simpa using h),if_neg h]
  rfl
theorem QX (l : List Mc) (hl : l.length < 1000000) : V 57 [.p (AM l)] [] = some (.fresh 3 ((A7 l).map Pr.pv),[]):=by
 refine Ag (vf:=vf57) rfl ?_
 simp -implicitDefEqProofs (disch:=omega) only [vf57,Ua,go_sem]
 obtain ⟨I,hI⟩:=lpI fun k s=>∃ (acc : List Pr) (w : Nat),A7 l = acc ++ A7 (l.drop k) /\ acc.length <= k /\ s.pe 3 = .own (.slot 3 0) w 0 acc.length /\ s.pe 6 = .p (AM l) /\ s.pe 7 = .p (.int .i64 ↑l.length) /\ s.pe 8 = .p (.int .i64 k) /\ s.h (.slot 3 0) = some (w,Ob.arr 3 (acc.map Pr.pv))
 refine Al (l.length) I ?_ ?_
 ·refine (hI _ _).2 ⟨[],0,?_⟩
  and_intros
  ·rfl
  ·exact Nat.zero_le _
  all_goals exact cl0
 intro k s hk hIk
 obtain ⟨acc,w,ho,hal,hH⟩:=(hI _ _).1 hIk
 clear hIk
 simp -implicitDefEqProofs (disch:=omega) only [hH,go_sem]
 refine Ah (fun hlt=>?_) (fun hge=>?_)
 ·have hm : l[k]? = some l[k]:=lgg hlt
  have hdr : l.drop k = l[k] :: l.drop (k + 1):=ldg hlt
  generalize l[k] = c at hm hdr
  rw [hdr,QC] at ho
  by_cases h1 : c.least = 0
  ·by_cases h2 : c.low = 0
   ·rw [if_pos ⟨h1,h2⟩,lna] at ho
    simp -implicitDefEqProofs (disch:=omega) only [hH,hlt,hm,h1,h2,go_sem]
    try refine ai ?_
    refine (hI _ _).2 ⟨acc,w,?_⟩
    and_intros
    .exact ho
    .omega
    all_goals exact cl0
   ·rw [if_neg (fun h=>h2 h.2),<- laa,h1] at ho
    simp -implicitDefEqProofs (disch:=omega) only [hH,hlt,hm,h1,h2,go_sem]
    try refine ai ?_
    refine (hI _ _).2 ⟨acc ++ [⟨c.group,0,c.low⟩],w + 1,?_⟩
    and_intros
    .exact ho
    .exact by simp; omega
    all_goals exact cl0
  ·rw [if_neg (fun h=>h1 h.1),<- laa] at ho
   simp -implicitDefEqProofs (disch:=omega) only [hH,hlt,hm,h1,go_sem]
   try refine ai ?_
   refine (hI _ _).2 ⟨acc ++ [⟨c.group,c.least,c.low⟩],w + 1,?_⟩
   and_intros
   .exact ho
   .exact by simp; omega
   all_goals exact cl0
 ·rw [ldl (by omega)] at ho
  rw [show A7 [] = [] from rfl,lan] at ho
  simp -implicitDefEqProofs (disch:=omega) only [hH,hge,go_sem]
  rw [ho]
theorem QV (l : List Mc) (hl : l.length < 1000000) : V 60 [.p (AM l)] [] = some (.fresh 2 ((A9 l).map Ch.pv),[]):=by
 refine Ag (vf:=vf60) rfl ?_
 simp -implicitDefEqProofs (disch:=omega) only [vf60,T7,go_sem]
 obtain ⟨I,hI⟩:=lpI fun k s=>∃ (acc : List Ch) (w : Nat),A9 l = acc ++ A9 (l.drop k) /\ acc.length <= k /\ s.pe 3 = .own (.slot 3 0) w 0 acc.length /\ s.pe 6 = .p (AM l) /\ s.pe 7 = .p (.int .i64 ↑l.length) /\ s.pe 8 = .p (.int .i64 k) /\ s.h (.slot 3 0) = some (w,Ob.arr 2 (acc.map Ch.pv))
 refine Al (l.length) I ?_ ?_
 ·refine (hI _ _).2 ⟨[],0,?_⟩
  and_intros
  ·rfl
  ·exact Nat.zero_le _
  all_goals exact cl0
 intro k s hk hIk
 obtain ⟨acc,w,ho,hal,hH⟩:=(hI _ _).1 hIk
 clear hIk
 simp -implicitDefEqProofs (disch:=omega) only [hH,go_sem]
 refine Ah (fun hlt=>?_) (fun hge=>?_)
 ·have hm : l[k]? = some l[k]:=lgg hlt
  have hdr : l.drop k = l[k] :: l.drop (k + 1):=ldg hlt
  generalize l[k] = c at hm hdr
  rw [hdr,Rl] at ho
  by_cases h1 : c.swap = 4611686018427387904
  ·rw [if_pos h1,lna] at ho
   simp -implicitDefEqProofs (disch:=omega) only [hH,hlt,hm,h1,go_sem]
   try refine ai ?_
   refine (hI _ _).2 ⟨acc,w,?_⟩
   and_intros
   .exact ho
   .omega
   all_goals exact cl0
  ·rw [if_neg h1,<- laa] at ho
   simp -implicitDefEqProofs (disch:=omega) only [hH,hlt,hm,h1,go_sem]
   try refine ai ?_
   refine (hI _ _).2 ⟨acc ++ [⟨c.group,c.swap⟩],w + 1,?_⟩
   and_intros
   .exact ho
   .exact by simp; omega
   all_goals exact cl0
 ·rw [ldl (by omega)] at ho
  rw [show A9 [] = [] from rfl,lan] at ho
  simp -implicitDefEqProofs (disch:=omega) only [hH,hge,go_sem]
  rw [ho]
abbrev prF (b : Bool) (y : Pr) : Int:=if b then y.low else y.least
theorem WB (l : List Pr) (g : Int) (b : Bool) (hl : l.length < 1000000) : V 180 [.p (BH l),.p (.int .i64 g),.p (.bool b)] [] = some (.p (.int .i64 (B1 (prF b) l g)),[]):=by
 refine Ag (vf:=vf180) rfl ?_
 simp -implicitDefEqProofs (disch:=omega) only [vf180,S4,go_sem]
 obtain ⟨I,hI⟩:=lpI fun k s=>B1 (prF b) l g = B1 (prF b) (l.drop k) g /\ s.pe 0 = .p (BH l) /\ s.pe 1 = .p (.int .i64 g) /\ s.pe 2 = .p (.bool b) /\ s.pe 7 = .p (.int .i64 k)
 refine Al (l.length) I ?_ ?_
 ·refine (hI _ _).2 ?_
  and_intros
  ·rfl
  all_goals exact cl0
 intro k s hk hIk
 obtain ⟨hp,hH⟩:=(hI _ _).1 hIk
 clear hIk
 simp -implicitDefEqProofs (disch:=omega) only [hH,go_sem]
 refine Ah (fun hlt=>?_) (fun hge=>?_)
 ·have hm : l[k]? = some l[k]:=lgg hlt
  have hdr : l.drop k = l[k] :: l.drop (k + 1):=ldg hlt
  generalize l[k] = x at hm hdr
  rw [hdr,B1] at hp
  by_cases hx : x.group = g
  ·rw [if_pos hx] at hp
   subst hx
   cases b with
   | true =>
    simp only [prF,if_true] at hp
    simp -implicitDefEqProofs (disch:=omega) only [hH,hlt,hm,hp,go_sem]
    all_goals first | rfl | (congr 3; omega)
   | false =>
    simp only [prF,bft,if_false] at hp
    simp -implicitDefEqProofs (disch:=omega) only [hH,hlt,hm,hp,go_sem]
    all_goals first | rfl | (congr 3; omega)
  ·rw [if_neg hx] at hp
   simp -implicitDefEqProofs (disch:=omega) only [hH,hlt,hm,hx,go_sem]
   try refine ai ?_
   refine (hI _ _).2 ?_
   and_intros
   .exact hp
   all_goals exact cl0
 ·rw [ldl (by omega)] at hp
  simp -implicitDefEqProofs (disch:=omega) only [hge,hp,go_sem]
  try rfl
abbrev clR (t : Tr) (c : List Ch) (l : List Pr) (b : Bool) (x : Int) : Int:=min (Av t c x) (B1 (prF b) l x)
theorem Mk {t : Tr} (h : TreeOk t) {c : List Ch} {i : Nat} {n : Nd} (hn : t.nodes[i]? = some n) : Av t c n.id = tot t (Aq c) n.id:=by
 unfold Av
 rw [if_pos]
 rw [BZ h.inc hn]
 rfl
theorem Ze {t : Tr} (h : TreeOk t) {c : List Ch} (hc : ChOk t.nodes c) {l : List Pr} (hl : PrOk t.nodes l) (b : Bool) (x : Int) : 0 <= clR t c l b x /\ clR t c l b x <= 16777216:=Lj h hc (prF b) (fun y hy=>by
 have h1:=(hl.least y hy).1
 have h2:=(hl.low y hy).1
 unfold prF
 split <;> omega) x
theorem Qx {t : Tr} (h : TreeOk t) {c : List Ch} (hc : ChOk t.nodes c) (hcl : c.length < 1000000) (l : List Pr) (hl : l.length < 1000000) (b : Bool) {i : Nat} {n : Nd} (hn : t.nodes[i]? = some n) : V 155 [t.vv,Dq c,.p (BH l),.p (.int .i64 n.id),.p (.bool b)] [] = some (.p (.int .i64 (clR t c l b n.id)),[]):=by
 refine Ag (vf:=vf155) rfl ?_
 have h1:=Sp h hc hcl hn
 have h2:=WB l n.id b hl
 rw [<- Mk h hn] at h1
 unfold clR
 generalize Av t c n.id = u at h1
 generalize B1 (prF b) l n.id = v at h2
 simp -implicitDefEqProofs only [vf155,S9,h1,h2,go_sem]
theorem RK {t : Tr} (h : TreeOk t) {c : List Ch} (hc : ChOk t.nodes c) (hcl : c.length < 1000000) {l : List Pr} (hp : PrOk t.nodes l) (hl : l.length < 1000000) (b : Bool) (root : Int) : ∀ (i : Nat) (n : Nd),t.nodes[i]? = some n -> root ∈ ancF t.nodes t.nodes.length n.id -> V 138 [t.vv,Dq c,.p (BH l),.p (.int .i64 root),.p (.int .i64 n.id),.p (.bool b)] [] = some (.p (.int .i64 (AR t (clR t c l b) root n.id)),[]):=by
 intro i
 induction i using Nat.strongRecOn with
 | _ i ih =>
  intro n hn ha
  have hlen:=h.len
  refine Ag (vf:=vf138) rfl ?_
  by_cases h1 : n.id = root
  ·rw [h1,Me]
   simp -implicitDefEqProofs (disch:=omega) only [vf138,Ko,go_sem]
  ·obtain ⟨jp,p,hj,hpn,he,hpa⟩ : ∃ j p,j < i /\ t.nodes[j]? = some p /\ p.id = n.parent /\ root ∈ ancF t.nodes t.nodes.length p.id:=by
    rcases (Cm h hn root).1 ha with h2 | ⟨hi,h2⟩
    ·exact absurd h2.symm h1
    ·rcases h.nodeAt hn with ⟨h3,_⟩ | ⟨_,_,j,p,hj,hpn,he⟩
     ·exact absurd h3 hi
     ·exact ⟨j,p,by omega,hpn,he,by rw [he]; exact h2⟩
   have hst:=Rj h (clR t c l b) hn hpn he hpa
   have hb:=Ze h hc hp b
   have hfi:=RJ t n.id (by omega)
   rw [Cl ((A5 t).2 h),BZ h.inc hn] at hfi
   simp only [Option.getD_some,Option.isSome_some,Nd.vv] at hfi
   have hcn:=Qx h hc hcl l hl b hn
   have hin : ∀ x ∈ kidsN t.nodes p.id,InN t.nodes x:=fun x hx=>Iy hx
   have hks:=Ii t p.id (by omega)
   rw [MX h ⟨jp,p,hpn,rfl⟩] at hks
   have hkl:=Fr t.nodes p.id
   have hrec:=ih jp hj p hpn hpa
   have hE:=Jt t (clR t c l b) hb root p.id
   rw [he] at hst hks hrec hin hkl hE
   rw [hst]
   by_cases h2 : n.parent = root
   ·have h2' : root = n.parent:=h2.symm
    subst h2'
    rw [if_pos rfl]
    simp -implicitDefEqProofs (disch:=omega) only [vf138,Ko,h1,hfi,hcn,go_sem]
   ·rw [if_neg h2]
    have hn0:=hb n.id
    generalize clR t c l b n.id = cn at hcn hn0
    generalize kidsN t.nodes n.parent = ks at hks hkl hin
    generalize AR t (clR t c l b) root n.parent = E at hrec hE
    simp -implicitDefEqProofs (disch:=omega) only [vf138,Ko,h1,h2,hfi,hcn,hrec,hks,go_sem]
    obtain ⟨J,hJ⟩:=lpI fun j s=>∃ (q : Int),Ab (ks.map (clR t c l b)) = q + Ab ((ks.drop j).map (clR t c l b)) /\ 0 <= q /\ q <= 16777216 * j /\ s.pe 2 = .p (BH l) /\ s.pe 5 = .p (.bool b) /\ s.pe 6 = .ptr (.slot 6 0) 0 0 /\ s.pe 7 = .ptr (.slot 7 0) 0 0 /\ s.pe 15 = .p (.int .i64 cn) /\ s.pe 16 = .p (.int .i64 E) /\ s.pe 17 = .p (.int .i64 q) /\ s.pe 18 = .own (.slot 51 1) 0 0 ks.length /\ s.pe 19 = .p (.int .i64 j) /\ s.h (.slot 6 0) = some (0,Ob.box [.p (Au t.nodes),.p (.int .i64 t.next)]) /\ s.h (.slot 7 0) = some (0,Ob.box [.p (AP c)]) /\ s.h (.slot 51 1) = some (0,Ob.arr 1 (List.map (.int .i64) ks))
    refine Al (ks.length) J ?_ ?_
    ·refine (hJ _ _).2 ⟨0,?_⟩
     and_intros
     ·exact by simp
     ·omega
     ·omega
     all_goals exact cl0
    intro j s hj hJk
    obtain ⟨q,hq,q0,q1,h2,hH⟩:=(hJ _ _).1 hJk
    clear hJk
    simp -implicitDefEqProofs (disch:=omega) only [hH,go_sem]
    refine Ah (fun hlt=>?_) (fun hge=>?_)
    ·have hm : ks[j]? = some ks[j]:=lgg hlt
     have hdr : ks.drop j = ks[j] :: ks.drop (j + 1):=ldg hlt
     generalize ks[j] = x at hm hdr
     obtain ⟨a,m,ham,hme⟩:=hin x (lmg hm)
     have hcx:=Qx h hc hcl l hl b ham
     rw [hme] at hcx
     rw [hdr,lpc,Ab,<- Int.add_assoc] at hq
     obtain ⟨c0,c1⟩:=hb x
     generalize clR t c l b x = v at hcx hq c0 c1
     simp -implicitDefEqProofs (disch:=omega) only [h2,hH,hlt,hm,hcx,go_sem]
     try refine ai ?_
     refine (hJ _ _).2 ⟨q + v,?_⟩
     and_intros
     ·exact hq
     ·omega
     ·exact by push_cast; omega
     all_goals exact cl0
    ·rw [ldl (by omega),lpn,Ab,Int.add_zero] at hq
     rw [hq]
     by_cases hle : q <= E
     ·rw [if_pos hle]
      simp -implicitDefEqProofs (disch:=omega) only [hH,hge,hle,go_sem]
     ·rw [if_neg hle]
      have m0 : 0 <= cn * E:=Int.mul_nonneg hn0.1 hE.1
      have m1 : cn * E <= 16777216 * 16777216:=Int.mul_le_mul hn0.2 hE.2 hE.1 (by omega)
      have m2 : (cn * E).tdiv q = cn * E / q:=Int.tdiv_eq_ediv_of_nonneg m0
      have m3 : 0 <= cn * E / q:=Int.ediv_nonneg m0 (by omega)
      have m4 : cn * E / q <= 16777216 * 16777216:=Int.le_trans (Int.ediv_le_self _ m0) m1
      simp -implicitDefEqProofs (disch:=omega) only [hH,hge,hle,m2,go_sem]
theorem OS (t : Tr) (l : List Pr) (hn : t.nodes.length < 1000000) (hl : l.length < 1000000) : V 91 [t.vv,.p (BH l)] [] = some (.p (.bool (Dt t l)),[]):=by
 refine Ag (vf:=vf91) rfl ?_
 have hc := EV t hn
 unfold Dt
 by_cases ht : AF t = true
 ·rw [ht] at hc ⊢
  rw [Bool.true_and]
  simp -implicitDefEqProofs (disch:=omega) only [vf91,Nw,hc,go_sem]
  obtain ⟨I,hI⟩:=lpI fun k s=>∃ (p : Option Int),DG t.nodes none l = DG t.nodes p (l.drop k) /\ (k = 0 -> p = none) /\ (∀ j,k = j + 1 -> ∃ c,l[j]? = some c /\ p = some c.group) /\ s.pe 1 = .p (BH l) /\ s.pe 2 = .ptr (.slot 2 0) 0 0 /\ s.pe 5 = .p (.int .i64 k) /\ s.h (.slot 2 0) = some (0,Ob.box [.p (Au t.nodes),.p (.int .i64 t.next)])
  refine Al (l.length) I ?_ ?_
  ·refine (hI _ _).2 ⟨none,?_⟩
   and_intros
   ·rfl
   ·exact fun _=>rfl
   ·exact fun j hj=>by omega
   all_goals exact cl0
  intro k s hk hIk
  obtain ⟨p,hq,hp0,hp1,hH⟩:=(hI _ _).1 hIk
  clear hIk
  simp -implicitDefEqProofs (disch:=omega) only [hH,go_sem]
  refine Ah (fun hlt=>?_) (fun hge=>?_)
  ·have hm : l[k]? = some l[k]:=lgg hlt
   have hd : l.drop k = l[k] :: l.drop (k + 1):=ldg hlt
   generalize l[k] = c at hm hd
   have hfi:=CJ t c.group hn
   rw [Cl ht] at hfi
   rw [hd, DG] at hq
   have hnx : ∀ j,k + 1 = j + 1 -> ∃ c',l[j]? = some c' /\ some c.group = some c'.group:=fun j hj=>⟨c,by rw [show j = k by omega]; exact hm,rfl⟩
   cases hfs : (Ao t.nodes c.group).isSome with
   | false =>
    rw [hfs] at hfi
    simp only [hfs,bfa] at hq
    simp -implicitDefEqProofs (disch:=omega) only [hH,hlt,hm,hfi,hq,go_sem]
   | true =>
    rw [hfs] at hfi
    rw [hfs,bta] at hq
    by_cases hk0 : (0 : Int) < k
    ·obtain ⟨e,he,hpe⟩:=hp1 (k - 1) (by omega)
     have he' : l[((k : Int) - 1).toNat]? = some e:=by rw [show ((k : Int) - 1).toNat = k - 1 by omega]; exact he
     have hk1 : (0 : Int) <= (k : Int) - 1:=by omega
     subst hpe
     by_cases hle : c.group <= e.group
     ·rw [show prevOk (some e.group) c.group = false from decide_eq_false (by omega)] at hq
      simp only [bfa] at hq
      simp -implicitDefEqProofs (disch:=omega) only [hH,hlt,hm,hfi,hk0,hk1,he',hle,hq,go_sem]
     ·rw [show prevOk (some e.group) c.group = true from decide_eq_true (by omega),bta] at hq
      by_cases b0 : c.least < 0
      ·rw [show AJ c.least = false by simp [AJ]; omega] at hq
       simp only [bfa] at hq
       simp -implicitDefEqProofs (disch:=omega) only [hH,hlt,hm,hfi,hk0,hk1,he',hle,b0,hq,go_sem]
      ·skip
       by_cases b1 : 4611686018427387904 < c.least
       ·rw [show AJ c.least = false by simp [AJ]; omega] at hq
        simp only [bfa] at hq
        simp -implicitDefEqProofs (disch:=omega) only [hH,hlt,hm,hfi,hk0,hk1,he',hle,b0,b1,hq,go_sem]
       ·rw [show AJ c.least = true by simp [AJ]; omega,bta] at hq
        by_cases b2 : c.low < 0
        ·rw [show AJ c.low = false by simp [AJ]; omega] at hq
         simp only [bfa] at hq
         simp -implicitDefEqProofs (disch:=omega) only [hH,hlt,hm,hfi,hk0,hk1,he',hle,b0,b1,b2,hq,go_sem]
        ·skip
         by_cases b3 : 4611686018427387904 < c.low
         ·rw [show AJ c.low = false by simp [AJ]; omega] at hq
          simp only [bfa] at hq
          simp -implicitDefEqProofs (disch:=omega) only [hH,hlt,hm,hfi,hk0,hk1,he',hle,b0,b1,b2,b3,hq,go_sem]
         ·rw [show AJ c.low = true by simp [AJ]; omega,bta] at hq
          simp -implicitDefEqProofs (disch:=omega) only [hH,hlt,hm,hfi,hk0,hk1,he',hle,b0,b1,b2,b3,go_sem]
          try refine ai ?_
          refine (hI _ _).2 ⟨some c.group,?_⟩
          and_intros
          .exact hq
          .exact by simp
          .exact hnx
          all_goals exact cl0
    ·have hpn:=hp0 (by omega)
     subst hpn
     rw [show prevOk none c.group = true from rfl,bta] at hq
     by_cases b0 : c.least < 0
     ·rw [show AJ c.least = false by simp [AJ]; omega] at hq
      simp only [bfa] at hq
      simp -implicitDefEqProofs (disch:=omega) only [hH,hlt,hm,hfi,hk0,b0,hq,go_sem]
     ·skip
      by_cases b1 : 4611686018427387904 < c.least
      ·rw [show AJ c.least = false by simp [AJ]; omega] at hq
       simp only [bfa] at hq
       simp -implicitDefEqProofs (disch:=omega) only [hH,hlt,hm,hfi,hk0,b0,b1,hq,go_sem]
      ·rw [show AJ c.least = true by simp [AJ]; omega,bta] at hq
       by_cases b2 : c.low < 0
       ·rw [show AJ c.low = false by simp [AJ]; omega] at hq
        simp only [bfa] at hq
        simp -implicitDefEqProofs (disch:=omega) only [hH,hlt,hm,hfi,hk0,b0,b1,b2,hq,go_sem]
       ·skip
        by_cases b3 : 4611686018427387904 < c.low
        ·rw [show AJ c.low = false by simp [AJ]; omega] at hq
         simp only [bfa] at hq
         simp -implicitDefEqProofs (disch:=omega) only [hH,hlt,hm,hfi,hk0,b0,b1,b2,b3,hq,go_sem]
        ·rw [show AJ c.low = true by simp [AJ]; omega,bta] at hq
         simp -implicitDefEqProofs (disch:=omega) only [hH,hlt,hm,hfi,hk0,b0,b1,b2,b3,go_sem]
         try refine ai ?_
         refine (hI _ _).2 ⟨some c.group,?_⟩
         and_intros
         .exact hq
         .exact by simp
         .exact hnx
         all_goals exact cl0
  ·rw [ldl (by omega)] at hq
   simp only [DG] at hq
   simp -implicitDefEqProofs (disch:=omega) only [hge,hq,go_sem]
 ·have htf : AF t = false:=by simpa using ht
  rw [htf] at hc ⊢
  simp -implicitDefEqProofs (disch:=omega) only [vf91,Nw,hc,bfa,go_sem]
theorem zbr {t : Tr} {c : List Ch} {l : List Pr} {root : Int} (h : TreeOk t) (hc : ChOk t.nodes c) (hp : PrOk t.nodes l) (hr : InN t.nodes root) (hcl : c.length < 1000000) (hl : l.length < 1000000) : V 92 [t.vv,Dq c,.p (BH l),.p (.int .i64 root)] [] = some (.tup [.fresh 3 ((A8 t c l root).map Pr.pv),.p (.int .i64 0)],[]):=by
 refine Ag (vf:=vf92) rfl ?_
 have hlen:=h.len
 have ht:=(A5 t).2 h
 have h1:=Xq t c (by omega) hcl
 rw [(Fh t c).2 ⟨h,hc⟩] at h1
 have h2:=OS t l (by omega) hl
 rw [(G5 t l).2 ⟨h,hp⟩] at h2
 have hhas : (Ao t.nodes root).isSome = true:=by
  obtain ⟨i,n,hn,rfl⟩:=hr
  rw [BZ h.inc hn]
  rfl
 have h3:=CJ t root (by omega)
 rw [Cl ht,hhas] at h3
 have hsub:=J1 (t:=t) root (by omega)
 have hsl:=CZ h root
 have hnd:=Jq h root
 have hsu:=PI (subT t root) (by omega)
 rw [OP hnd] at hsu
 have hml:=F9 (subT t root)
 have hmem : ∀ g ∈ msort (subT t root),∃ (i : Nat) (n : Nd),t.nodes[i]? = some n /\ n.id = g /\ root ∈ ancF t.nodes t.nodes.length n.id:=by
  intro g hg
  rw [(D2 _).mem_iff] at hg
  obtain ⟨i,n,hn,hne⟩:=hr
  rw [<- hne,DM h hn] at hg
  have hga : g ∈ subA t root:=by rw [<- hne]; exact hg
  obtain ⟨j,m,hm,hme⟩:=D3 h ⟨i,n,hn,hne⟩ hga
  refine ⟨j,m,hm,hme,?_⟩
  rw [<- E1 h hm,hme]
  exact (FA h ⟨i,n,hn,hne⟩ ⟨j,m,hm,hme⟩).2 hga
 unfold A8
 generalize msort (subT t root) = S at hsu hml hmem
 have hE : ∀ {k : Nat} {g : Int},S[k]? = some g -> (S.map (CP t c l root))[k]? = some (CP t c l root g):=fun {k g} hk=>by rw [List.getElem?_map,hk]; rfl
 have hEl : (S.map (CP t c l root)).length = S.length:=llm _
 generalize S.map (CP t c l root) = E at hE hEl
 simp -implicitDefEqProofs (disch:=omega) only [vf92,TO,h1,h2,h3,hsub,hsu,go_sem]
 obtain ⟨I,hI⟩:=lpI fun k s=>∃ (acc : List Pr) (w : Nat),acc = E.take k /\ acc.length <= k /\ s.pe 2 = .p (BH l) /\ s.pe 3 = .p (.int .i64 root) /\ s.pe 4 = .ptr (.slot 4 0) 0 0 /\ s.pe 5 = .ptr (.slot 5 0) 0 0 /\ s.pe 10 = .own (.slot 10 0) w 0 acc.length /\ s.pe 11 = .own (.slot 30 1) 0 0 S.length /\ s.pe 12 = .p (.int .i64 k) /\ s.h (.slot 4 0) = some (0,Ob.box [.p (Au t.nodes),.p (.int .i64 t.next)]) /\ s.h (.slot 5 0) = some (0,Ob.box [.p (AP c)]) /\ s.h (.slot 10 0) = some (w,Ob.arr 3 (acc.map Pr.pv)) /\ s.h (.slot 30 1) = some (0,Ob.arr 1 (List.map (.int .i64) S))
 refine Al (S.length) I ?_ ?_
 ·refine (hI _ _).2 ⟨[],0,?_⟩
  and_intros
  .rfl
  .exact Nat.zero_le _
  all_goals exact cl0
 intro k s hk hIk
 obtain ⟨acc,w,hacc,hal,h2,h3,hH⟩:=(hI _ _).1 hIk
 clear hIk
 simp -implicitDefEqProofs (disch:=omega) only [hH,go_sem]
 refine Ah (fun hlt=>?_) (fun hge=>?_)
 ·have hm : S[k]? = some S[k]:=lgg hlt
  generalize S[k] = g at hm
  have he:=hE hm
  have htk:=Bf he
  obtain ⟨i,n,hn,hne,hna⟩:=hmem g (lmg hm)
  have e1:=RK h hc hcl hp hl false root i n hn hna
  have e2:=RK h hc hcl hp hl true root i n hn hna
  rw [hne] at e1 e2
  have g0 : g = (CP t c l root g).group:=rfl
  have g1 : AR t (clR t c l false) root g = (CP t c l root g).least:=rfl
  have g2 : AR t (clR t c l true) root g = (CP t c l root g).low:=rfl
  rw [g1] at e1
  rw [g2] at e2
  generalize CP t c l root g = e at he htk e1 e2 g0
  subst g0
  simp -implicitDefEqProofs (disch:=omega) only [h2,h3,hH,hlt,hm,e1,e2,go_sem]
  try refine ai ?_
  refine (hI _ _).2 ⟨acc ++ [e],w + 1,?_⟩
  and_intros
  .exact by rw [htk,hacc]
  .exact by simp; omega
  all_goals exact cl0
 ·rw [ltl (by omega)] at hacc
  subst hacc
  simp -implicitDefEqProofs (disch:=omega) only [hH,hge,go_sem]
theorem N1 (sw : Stk) (hl : sw.hs.length < 1000000) (hb : ∀ h ∈ sw.hs,Ax h.file /\ Ax h.anon) : V 35 [sw.vv] [] = some (IQ (An sw.hs),[]):=by
 refine Ag (vf:=vf35) rfl ?_
 simp -implicitDefEqProofs (disch:=omega) only [vf35,Ug,go_sem]
 obtain ⟨I,hI⟩:=lpI fun k s=>∃ (acc : List Ch) (w : Nat),An sw.hs = acc ++ An (sw.hs.drop k) /\ acc.length <= k /\ s.pe 1 = .ptr (.slot 1 0) 0 0 /\ s.pe 2 = .ptr (.slot 2 0) 0 0 /\ s.pe 3 = .own (.slot 3 0) w 0 acc.length /\ s.pe 4 = .p (.int .i64 k) /\ s.h (.slot 1 0) = some (0,Ob.box [.p (Bc sw.hs),.p (.int .i64 sw.size)]) /\ s.h (.slot 2 0) = some (0,Ob.box [.own (.slot 2 1) 0 0 0]) /\ s.h (.slot 2 1) = some (0,Ob.arr 2 []) /\ s.h (.slot 3 0) = some (w,Ob.arr 2 (acc.map Ch.pv))
 refine Al (sw.hs.length) I ?_ ?_
 ·refine (hI _ _).2 ⟨[],0,?_⟩
  and_intros
  ·rfl
  ·exact lrf _
  all_goals exact cl0
 intro k s hk hIk
 obtain ⟨acc,w,ho,hal,hH⟩:=(hI _ _).1 hIk
 clear hIk
 simp -implicitDefEqProofs (disch:=omega) only [hH,go_sem]
 refine Ah (fun hlt=>?_) (fun hge=>?_)
 ·have hm : sw.hs[k]? = some sw.hs[k]:=lgg hlt
  have hd : sw.hs.drop k = sw.hs[k] :: sw.hs.drop (k + 1):=ldg hlt
  obtain ⟨⟨b1,b2⟩,b3,b4⟩:=hb _ (lmg hm)
  generalize sw.hs[k] = c at hm hd b1 b2 b3 b4
  rw [hd,JF] at ho
  by_cases he : c.file + c.anon = 0
  ·rw [if_pos he,lna] at ho
   simp -implicitDefEqProofs (disch:=omega) only [hH,hlt,hm,he,go_sem]
   try refine ai ?_
   refine (hI _ _).2 ⟨acc,w,?_⟩
   and_intros
   .exact ho
   .omega
   all_goals exact cl0
  ·rw [if_neg he,<- laa] at ho
   simp -implicitDefEqProofs (disch:=omega) only [hH,hlt,hm,he,go_sem]
   try refine ai ?_
   refine (hI _ _).2 ⟨acc ++ [⟨c.group,c.file + c.anon⟩],w + 1,?_⟩
   and_intros
   .exact ho
   .exact by simp; omega
   all_goals exact cl0
 ·rw [ldl (by omega)] at ho
  rw [show An [] = [] from rfl,lan] at ho
  simp -implicitDefEqProofs (disch:=omega) only [hH,hge,go_sem]
  rw [ho]
theorem Gk {t : Tr} (h : TreeOk t) {z : Int} {hs : List Hg} (hh : HgOk t.nodes z hs) (hl : hs.length < 1000000) {i : Nat} {n : Nd} (hn : t.nodes[i]? = some n) : V 103 [t.vv,Stk.vv ⟨hs,z⟩,.p (.int .i64 n.id)] [] = some (.p (.int .i64 (Av t (An hs) n.id)),[]):=by
 refine Ag (vf:=vf103) rfl ?_
 have h1:=N1 ⟨hs,z⟩ hl fun x hx=>⟨hh.file x hx,hh.anon x hx⟩
 have hc:=Dw hh
 have h2:=Sp h hc (by have:=MJ hs; omega) hn
 rw [<- Mk h hn] at h2
 simp only [Stk.vv,IQ,Dq] at h1 h2
 simp -implicitDefEqProofs only [vf103,TC,h1,h2,go_sem]
abbrev BI (t : Tr) (l : List Mc) (H : VVal) (z : Int) (S M G : VVal) (r : Int) : Ob:=.box [.p (Au t.nodes),.p (.int .i64 t.next),.p (AM l),H,.p (.int .i64 z),S,M,G,.p (.int .i64 r)]
abbrev Cb (t : Tr) (l : List Mc) (n : Nat) (z : Int) (m p q : Nat) (r : Int) : Ob:=BI t l (.own (.arg 1 0) 0 0 n) z (.own (.arg 2 0) 0 0 m) (.own (.arg 3 0) 0 0 p) (.own (.arg 4 0) 0 0 q) r
abbrev AX (t : Tr) (l : List Mc) (g : Gw) : List Ob:=[Cb t l g.stk.hs.length g.stk.size g.shr.length g.maxes.length g.highs.length g.refused,.arr 4 (g.stk.hs.map Hg.pv),.arr 4 (g.shr.map Sh.pv),.arr 1 (g.maxes.map (.int .i64)),.arr 1 (g.highs.map (.int .i64))]
theorem JU (t : Tr) (l : List Mc) (g : Gw) (id : Int) (hl : l.length < 1000000) : V 107 [.ptr (.arg 0 0) 0 0,.p (.int .i64 id)] (AX t l g) = some (.p (.int .i64 (AE l id)),AX t l g):=by
 refine Ag (vf:=vf107) rfl ?_
 have h1:=I1 l id hl
 unfold AE
 by_cases hid : id = 1
 ·rw [if_pos hid]
  subst hid
  generalize AA l 1 = m at h1 ⊢
  simp -implicitDefEqProofs only [vf107,Nm,h1,go_sem]
 ·rw [if_neg hid]
  generalize AA l id = m at h1 ⊢
  simp -implicitDefEqProofs only [vf107,Nm,h1,hid,go_sem]
theorem zbb {t : Tr} {s : Stk} (h : StkOk t s) {i : Nat} {m : Nd} (hm : t.nodes[i]? = some m) : V 145 [t.vv,Dq (An s.hs),.p (.int .i64 m.id)] [] = some (.tup [.p (.int .i64 (Av t (An s.hs) m.id)),.p (.int .i64 0)],[]):=by
 rw [Mk h.tree hm]
 exact Zy h.tree (Dw h.hs) hm
theorem Fs {t : Tr} (l : List Mc) {g : Gw} (hg : StkOk t g.stk) {id : Int} (hid : InN t.nodes id) : V 106 [.ptr (.arg 0 0) 0 0,.p (.int .i64 id)] (AX t l g) = some (.p (.int .i64 (Am t g id)),AX t l g):=by
 refine Ag (vf:=vf106) rfl ?_
 obtain ⟨i,m,hm,rfl⟩:=hid
 have hlen:=hg.tree.len
 have hsl:=hg.hs.length
 have h1:=Lb g.stk (by omega) fun x hx=>⟨hg.hs.file x hx,hg.hs.anon x hx⟩
 have h2:=zbb hg hm
 simp only [Stk.vv,IQ,Dq] at h1 h2
 unfold Am
 generalize Av t (An g.stk.hs) m.id = u at h2 ⊢
 simp -implicitDefEqProofs only [vf106,TB,h1,h2,go_sem]
abbrev Ur (t : Tr) (l : List Mc) (g g' : Gw) : List Ob:=[BI t l (.fresh 4 (g'.stk.hs.map Hg.pv)) g'.stk.size (.own (.arg 2 0) 1 0 g'.shr.length) (.own (.arg 3 0) 0 0 g.maxes.length) (.own (.arg 4 0) 0 0 g.highs.length) g.refused,.arr 4 (g.stk.hs.map Hg.pv),.box [.undef,.fresh 4 (g'.shr.map Sh.pv)],.arr 1 (g.maxes.map (.int .i64)),.arr 1 (g.highs.map (.int .i64))]
theorem LC {t : Tr} {l : List Mc} {g : Gw} (hg : StkOk t g.stk) (hl : McOk t.nodes l) {id n : Int} (hid : InN t.nodes id) (hn : 0 <= n) (hn1 : n < 4611686018427387904) (hsl : g.shr.length < 1000000) : V 108 [.ptr (.arg 0 0) 0 0,.p (.int .i64 id),.p (.int .i64 n)] (AX t l g) = some (.tup [],Ur t l g (As t l g id n)):=by
 refine Ag (vf:=vf108) rfl ?_
 have hlen:=hg.tree.len
 have hhl:=hg.hs.length
 have hll:=hl.length
 have hpl:=(J3 hl).length
 have hcl:=(Ke hl).length
 have h1:=QX l (by omega)
 have h2:=QV l (by omega)
 have h3:=Yv t g.stk (A7 l) (A9 l) id (min n 16777216) hg.tree.fits (by omega) (by omega) (by omega) (by omega)
 have hk:=(M7 (t:=t) (sw:=g.stk) (p:=A7 l) (l:=A9 l) (root:=id) (n:=min n 16777216) ⟨hg,J3 hl,Ke hl,hid⟩ (by omega) (by omega)).1.len
 unfold As
 generalize BF t g.stk (A7 l) (A9 l) id (min n 16777216) = X at h3 hk ⊢
 obtain ⟨⟨x,z⟩,a,e⟩:=X
 obtain ⟨⟨hs,z0⟩,shr,mx,hi,rf⟩:=g
 simp only [Stk.vv,Stk.fv] at h3 hk ⊢
 have hta : List.take shr.length (shr.map Sh.pv) = shr.map Sh.pv:=ltl (by simp)
 simp only at hsl
 simp -implicitDefEqProofs (disch:=omega) only [vf108,TA,h1,h2,h3,llm,hta,go_sem]
 all_goals first | rfl | simp
theorem So {t : Tr} {sw : Stk} {h : Hg} (hs : StkOk t sw) (hid : InN t.nodes h.group) (h1 : Ax h.file) (h2 : Ax h.anon) (h3 : Ax h.swap) (hx : StkOk t ⟨putS sw.hs h,sw.size⟩) : V 28 [t.vv,sw.vv,h.vv] [] = some (.tup [Stk.fv ⟨putS sw.hs h,sw.size⟩,.p (.int .i64 0)],[]):=by
 refine Ag (vf:=vf28) rfl ?_
 have hlen:=hs.tree.len
 have hsl:=hs.hs.length
 have hxl : (putS sw.hs h).length <= t.nodes.length:=hx.hs.length
 have hck:=Qt t sw h.group hs.tree.fits (by omega) (by omega)
 obtain ⟨i,m,hm,hme⟩:=hid
 rw [W8.2 ⟨hs,i,m,hm,hme⟩] at hck
 have hput:=Sl sw h (by omega)
 have hv:=H5 t ⟨putS sw.hs h,sw.size⟩ hs.tree.fits (by omega) (by show (putS sw.hs h).length < _; omega)
 rw [(Dc _ _).2 hx] at hv
 have p1:=Fo h.file
 have p2:=Fo h.anon
 have p3:=Fo h.swap
 rw [show Ap h.file = true by simp [Ap,h1.1,h1.2]] at p1
 rw [show Ap h.anon = true by simp [Ap,h2.1,h2.2]] at p2
 rw [show Ap h.swap = true by simp [Ap,h3.1,h3.2]] at p3
 obtain ⟨hg,hf,ha,hw⟩:=h
 simp only [Stk.vv,Stk.fv,Hg.vv] at hck hput hv p1 p2 p3 ⊢
 generalize putS sw.hs ⟨hg,hf,ha,hw⟩ = y at *
 simp -implicitDefEqProofs only [vf28,Ui,hck,p1,p2,p3,hput,hv,go_sem]
theorem LZ {t : Tr} {sw : Stk} {l : List Mc} (hs : StkOk t sw) (hl : McOk t.nodes l) {id : Int} (hid : InN t.nodes id) : V 98 [t.vv,sw.vv,.p (AM l),.p (.int .i64 id)] [] = some (.p (.int .i64 0),[]):=by
 refine Ag (vf:=vf98) rfl ?_
 have hlen:=hs.tree.len
 have hsl:=hs.hs.length
 have hv:=H5 t sw hs.tree.fits (by omega) (by omega)
 rw [(Dc _ _).2 hs] at hv
 have hm:=YM hs.tree hl
 have hfi:=DR t id (by omega)
 rw [Gu hs.tree hid] at hfi
 generalize (Ao t.nodes id).getD zeroNd = nd at hfi
 simp only [Nd.vv] at hfi
 simp -implicitDefEqProofs only [vf98,HI,hv,hm,hfi,go_sem]
end Go.V
