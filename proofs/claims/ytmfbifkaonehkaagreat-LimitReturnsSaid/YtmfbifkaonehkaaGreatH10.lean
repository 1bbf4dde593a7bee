/- Part 10 of the proof. -/
import Derived.Test.YtmfbifkaonehkaaGreatH5
set_option linter.unusedSimpArgs false
set_option linter.unusedVariables false
open Nat renaming reduceAdd → rA, reduceSub → rS, reduceEqDiff → rE, reduceLeDiff → rL
open List renaming map_nil → lpn, length_nil → lln
open Bool renaming false_eq_true → bft
namespace Go.V
def lessH (h : Hg) (n : Int) : Hg:=⟨h.group,h.file,h.anon,h.swap - n⟩
def backG (t : Tr) (l : List Mc) (g : Gw) (id n : Int) : Gw × Int:=if (growG t l g id 0 n).2 = 0 then (putG (growG t l g id 0 n).1 (lessH (getS (growG t l g id 0 n).1.stk.hs id) n),0) else growG t l g id 0 n
theorem less_ok {t : Tr} {s : Stk} (hs : StkOk t s) {id n : Int} (hid : InN t.nodes id) (hn : 0 <= n) (hw : n <= (getS s.hs id).swap) : StkOk t ⟨putS s.hs (lessH (getS s.hs id) n),s.size⟩:=by
 have hT:=hs.tree
 obtain ⟨f0,a0,w0⟩:=hs.hs.get id
 have hm:=hs.hs.mem
 have ho:=hs.hs.out
 have hgm : (lessH (getS s.hs id) n).group = id:=getS_group _ _
 refine ⟨hT,hs.z0,hs.z1,hs.hs.put (by rw [hgm]; exact found_in hT hid) f0 a0 ⟨by show 0 <= _ - n; omega,by show _ - n <= _; have:=w0.2; omega⟩ ?_ ?_⟩
 ·rw [hgm]
  show _ - _ + ((getS s.hs id).file + (getS s.hs id).anon) <= _
  omega
 ·rw [hgm]
  show _ - _ + ((getS s.hs id).swap - n) <= _
  omega
set_option maxHeartbeats 8000000 in
theorem back_eq {t : Tr} {sw : Stk} {l : List Mc} (hs : StkOk t sw) (hl : McOk t.nodes l) {id n : Int} (hid : InN t.nodes id) (hn : 0 <= n) (hn1 : n <= (getS sw.hs id).swap) : V 30 [t.vv,sw.vv,.p (mcsP l),.p (.int .i64 id),.p (.int .i64 n)] [] = some (.tup [gwF (backG t l ⟨sw,[],[],[],0⟩ id n).1,.p (.int .i64 (backG t l ⟨sw,[],[],[],0⟩ id n).2)],[]):=by
 refine V_wp (vf:=vf30) rfl ?_
 have h1:=mcheck_ok hs hl hid
 have hsl:=hs.hs.length
 have hlen:=hs.tree.len
 have h2:=mbegin_eq t sw l (by omega)
 have hgo:=(hs.hs.get id).2.2
 have hg1:=sget_eq sw id (by omega)
 obtain ⟨s,m,h,hV⟩:=ggrow_eq (g0:=⟨sw,[],[],[],0⟩) hs hl hid (file:=0) (anon:=n) (by omega) hn (by have:=hgo.2; omega) (by simp) (by simp) (by simp)
 have hG:=growG_ok hl (g:=⟨sw,[],[],[],0⟩) hs hid (file:=0) (anon:=n) (by omega) hn
 have n1 : ¬ n < 0:=by omega
 have n2 : ¬ (getS sw.hs id).swap < n:=by omega
 unfold backG
 generalize growG t l ⟨sw,[],[],[],0⟩ id 0 n = r at hV hG ⊢
 obtain ⟨r,e⟩:=r
 by_cases he : e = 0
 ·subst he
  simp only [if_true]
  rcases hG with ⟨_,hG⟩ | ⟨h1,_⟩
  ·simp only at hG
   obtain ⟨a,_,hp,hget⟩:=hG.shr
   have hr2:=sget_eq r.stk id (by have:=hG.stk.hs.length; omega)
   have hgi:=hget id
   have hst:=sumT_nonneg (f:=(·.anon)) (fun y hy=>(hp y hy).2) id
   have hw : n <= (getS r.stk.hs id).swap:=by
    rw [hgi]
    show n <= (getS sw.hs id).swap + _
    omega
   have hok:=less_ok hG.stk hid hn hw
   have hgm : (lessH (getS r.stk.hs id) n).group = id:=getS_group _ _
   have hb:=hG.stk.hs.get id
   have hput:=sPut_ok hG.stk (h:=lessH (getS r.stk.hs id) n) (by rw [hgm]; exact hid) hb.1 hb.2.1 ⟨by show 0 <= _ - n; omega,by show _ - n <= _; have:=hb.2.2.2; omega⟩ hok
   unfold lessH at hput ⊢
   generalize hq : getS r.stk.hs id = b at *
   clear hgi
   obtain ⟨bg,bf,ba,bs⟩:=b
   have hbg : bg = id:=hgm
   subst hbg
   simp only [inPg] at hb hw
   obtain ⟨⟨c1,c2⟩,⟨c3,c4⟩,c5,c6⟩:=hb
   generalize hy : putS r.stk.hs ⟨bg,bf,ba,bs - n⟩ = y at *
   generalize hgs : getS sw.hs bg = o at *
   obtain ⟨og,of,oa,os⟩:=o
   obtain ⟨⟨x,z⟩,shr,mx,hi,rf⟩:=r
   obtain ⟨hs0,z0⟩:=sw
   simp only at hy
   simp only [putG,hy,Stk.vv,Stk.fv,Hg.vv,grwH,grwB,grwC,growH,lpn,lln] at h1 h2 hg1 hr2 hput hV n2 ⊢
   cases s <;> cases m <;> cases h <;> (simp only [cV,obV,if_true,if_false,bft] at hV; simp -implicitDefEqProofs (disch:=omega) only [vf30,vb30,h1,h2,hg1,n1,n2,hV,hr2,hput,go_sem,↓reduceIte,rA,rS,rE,rL,reduceCtorEq] <;> (first | rfl | simp [putG,hy]))
  .simp at h1
 ·simp only [if_neg he]
  generalize hgs : getS sw.hs id = o at *
  obtain ⟨og,of,oa,os⟩:=o
  obtain ⟨⟨x,z⟩,shr,mx,hi,rf⟩:=r
  obtain ⟨hs0,z0⟩:=sw
  simp only [Stk.vv,Stk.fv,Hg.vv,grwH,grwB,grwC,growH,lpn,lln] at h1 h2 hg1 hV n2 ⊢
  cases s <;> cases m <;> cases h <;> (simp only [cV,obV,if_true,if_false,bft] at hV; simp -implicitDefEqProofs (disch:=omega) only [vf30,vb30,h1,h2,hg1,n1,n2,hV,he,go_sem,↓reduceIte,rA,rS,rE,rL,reduceCtorEq])
def shedG (t : Tr) (l : List Mc) (g : Gw) (id : Int) : Gw:=if 0 < useG t g id - mostM l id then shrG t l g id (useG t g id - mostM l id) else g
set_option maxHeartbeats 8000000 in
theorem shed_eq {t : Tr} {sw : Stk} {l : List Mc} (hs : StkOk t sw) (hl : McOk t.nodes l) {id : Int} (hid : InN t.nodes id) : V 31 [t.vv,sw.vv,.p (mcsP l),.p (.int .i64 id)] [] = some (.tup [Stk.fv (shedG t l ⟨sw,[],[],[],0⟩ id).stk,.fresh 4 ((shedG t l ⟨sw,[],[],[],0⟩ id).shr.map Sh.pv),.p (.int .i64 (max 0 (useG t (shedG t l ⟨sw,[],[],[],0⟩ id) id - mostM l id))),.p (.int .i64 0)],[]):=by
 refine V_wp (vf:=vf31) rfl ?_
 have h1:=mcheck_ok hs hl hid
 have hsl:=hs.hs.length
 have hlen:=hs.tree.len
 have hll:=hl.length
 have h2:=mbegin_eq t sw l (by omega)
 have hu:=gusage_eq l (g:=⟨sw,[],[],[],0⟩) hs hid
 have hm:=gmost_eq t l ⟨sw,[],[],[],0⟩ id (by omega)
 have hU:=useG_bound (g:=⟨sw,[],[],[],0⟩) hs id
 have hM:=mostM_bound hl id
 have hsh:=fun ho=>gshrink_eq (g:=⟨sw,[],[],[],0⟩) hs hl hid (n:=useG t ⟨sw,[],[],[],0⟩ id - mostM l id) ho (by omega) (by simp)
 have hso:=fun ho=>shrG_ok (g:=⟨sw,[],[],[],0⟩) hs hl hid (n:=useG t ⟨sw,[],[],[],0⟩ id - mostM l id) ho
 unfold shedG
 by_cases ho : 0 < useG t ⟨sw,[],[],[],0⟩ id - mostM l id
 ·rw [if_pos ho]
  have hsh:=hsh (by omega)
  have hso:=hso (by omega)
  have e1 : shrG t l ⟨sw,[],[],[],0⟩ id (useG t ⟨sw,[],[],[],0⟩ id - mostM l id) = ⟨(shrG t l ⟨sw,[],[],[],0⟩ id (useG t ⟨sw,[],[],[],0⟩ id - mostM l id)).stk,(shrG t l ⟨sw,[],[],[],0⟩ id (useG t ⟨sw,[],[],[],0⟩ id - mostM l id)).shr,[],[],0⟩:=rfl
  have hu2:=gusage_eq l (g:=shrG t l ⟨sw,[],[],[],0⟩ id (useG t ⟨sw,[],[],[],0⟩ id - mostM l id)) hso.stk hid
  have hm2:=gmost_eq t l (shrG t l ⟨sw,[],[],[],0⟩ id (useG t ⟨sw,[],[],[],0⟩ id - mostM l id)) id (by omega)
  have hU2:=useG_bound (g:=shrG t l ⟨sw,[],[],[],0⟩ id (useG t ⟨sw,[],[],[],0⟩ id - mostM l id)) hso.stk id
  rw [e1] at hsh hu2 hm2 hU2 ⊢
  generalize (shrG t l ⟨sw,[],[],[],0⟩ id (useG t ⟨sw,[],[],[],0⟩ id - mostM l id)).stk = s1 at *
  generalize (shrG t l ⟨sw,[],[],[],0⟩ id (useG t ⟨sw,[],[],[],0⟩ id - mostM l id)).shr = r1 at *
  generalize useG t ⟨s1,r1,[],[],0⟩ id = U2 at *
  generalize useG t ⟨sw,[],[],[],0⟩ id = U at *
  generalize mostM l id = M at *
  obtain ⟨x,z⟩:=s1
  obtain ⟨hs0,z0⟩:=sw
  simp only [Stk.vv,Stk.fv,grwH,grwB,grwC,shrH,lpn,lln] at h1 h2 hu hm hsh hu2 hm2 ⊢
  simp -implicitDefEqProofs (disch:=omega) only [vf31,vb31,h1,h2,hu,hm,ho,hsh,hu2,hm2,go_sem,↓reduceIte,rA,rS,rE,rL,reduceCtorEq]
 ·rw [if_neg ho]
  generalize useG t ⟨sw,[],[],[],0⟩ id = U at *
  generalize mostM l id = M at *
  obtain ⟨hs0,z0⟩:=sw
  simp only [Stk.vv,Stk.fv,grwH,grwB,grwC,lpn,lln] at h1 h2 hu hm ⊢
  simp -implicitDefEqProofs (disch:=omega) only [vf31,vb31,h1,h2,hu,hm,ho,go_sem,↓reduceIte,rA,rS,rE,rL,reduceCtorEq]
  all_goals first | rfl | simp
end Go.V
