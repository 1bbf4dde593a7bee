import Derived.Test.YtdbjijjeolnboaaGreatA6
set_option linter.unusedSectionVars false
set_option linter.unusedSimpArgs false
set_option linter.unusedVariables false
set_option maxHeartbeats 32000000
open List renaming map_nil → lpn, length_nil → lln
open Bool renaming false_eq_true → bft
namespace Go.V
def Eb (h : Hg) (n : Int) : Hg:=⟨h.group,h.file,h.anon,h.swap - n⟩
def DE (t : Tr) (l : List Mc) (g : Gw) (id n : Int) : Gw × Int:=if (AW t l g id 0 n).2 = 0 then (BO (AW t l g id 0 n).1 (Eb (Ac (AW t l g id 0 n).1.stk.hs id) n),0) else AW t l g id 0 n
theorem SF {t : Tr} {s : Stk} (hs : StkOk t s) {id n : Int} (hid : InN t.nodes id) (hn : 0 <= n) (hw : n <= (Ac s.hs id).swap) : StkOk t ⟨putS s.hs (Eb (Ac s.hs id) n),s.size⟩:=by
 have hT:=hs.tree
 obtain ⟨f0,a0,w0⟩:=hs.hs.get id
 have hm:=hs.hs.mem
 have ho:=hs.hs.out
 have hgm : (Eb (Ac s.hs id) n).group = id:=Dd _ _
 refine ⟨hT,hs.z0,hs.z1,hs.hs.put (by rw [hgm]; exact Gu hT hid) f0 a0 ⟨by show 0 <= _ - n; omega,by show _ - n <= _; have:=w0.2; omega⟩ ?_ ?_⟩
 ·rw [hgm]
  show _ - _ + ((Ac s.hs id).file + (Ac s.hs id).anon) <= _
  omega
 ·rw [hgm]
  show _ - _ + ((Ac s.hs id).swap - n) <= _
  omega
theorem zcb {t : Tr} {sw : Stk} {l : List Mc} (hs : StkOk t sw) (hl : McOk t.nodes l) {id n : Int} (hid : InN t.nodes id) (hn : 0 <= n) (hn1 : n <= (Ac sw.hs id).swap) : V 48 [t.vv,sw.vv,.p (AM l),.p (.int .i64 id),.p (.int .i64 n)] [] = some (.tup [gwF (DE t l ⟨sw,[],[],[],0⟩ id n).1,.p (.int .i64 (DE t l ⟨sw,[],[],[],0⟩ id n).2)],[]):=by
 refine Ag (vf:=vf48) rfl ?_
 have h1:=LZ hs hl hid
 have hsl:=hs.hs.length
 have hlen:=hs.tree.len
 have h2:=L0 t sw l (by omega)
 have hgo:=(hs.hs.get id).2.2
 have hg1:=Gy sw id (by omega)
 obtain ⟨s,m,h,hV⟩:=R2 (g0:=⟨sw,[],[],[],0⟩) hs hl hid (file:=0) (anon:=n) (by omega) hn (by have:=hgo.2; omega) (by simp) (by simp) (by simp)
 have hG:=JT hl (g:=⟨sw,[],[],[],0⟩) hs hid (file:=0) (anon:=n) (by omega) hn
 have n1 : ¬ n < 0:=by omega
 have n2 : ¬ (Ac sw.hs id).swap < n:=by omega
 unfold DE
 generalize AW t l ⟨sw,[],[],[],0⟩ id 0 n = r at hV hG ⊢
 obtain ⟨r,e⟩:=r
 by_cases he : e = 0
 ·subst he
  simp only [if_true]
  rcases hG with ⟨_,hG⟩ | ⟨h1,_⟩
  ·simp only at hG
   obtain ⟨a,_,hp,hget⟩:=hG.shr
   have hr2:=Gy r.stk id (by have:=hG.stk.hs.length; omega)
   have hgi:=hget id
   have hst:=Gc (f:=(·.anon)) (fun y hy=>(hp y hy).2) id
   have hw : n <= (Ac r.stk.hs id).swap:=by
    rw [hgi]
    show n <= (Ac sw.hs id).swap + _
    omega
   have hok:=SF hG.stk hid hn hw
   have hgm : (Eb (Ac r.stk.hs id) n).group = id:=Dd _ _
   have hb:=hG.stk.hs.get id
   have hput:=So hG.stk (h:=Eb (Ac r.stk.hs id) n) (by rw [hgm]; exact hid) hb.1 hb.2.1 ⟨by show 0 <= _ - n; omega,by show _ - n <= _; have:=hb.2.2.2; omega⟩ hok
   unfold Eb at hput ⊢
   generalize hq : Ac r.stk.hs id = b at *
   clear hgi
   obtain ⟨bg,bf,ba,bs⟩:=b
   have hbg : bg = id:=hgm
   subst hbg
   simp only [Ax] at hb hw
   obtain ⟨⟨c1,c2⟩,⟨c3,c4⟩,c5,c6⟩:=hb
   generalize hy : putS r.stk.hs ⟨bg,bf,ba,bs - n⟩ = y at *
   generalize hgs : Ac sw.hs bg = o at *
   obtain ⟨og,of,oa,os⟩:=o
   obtain ⟨⟨x,z⟩,shr,mx,hi,rf⟩:=r
   obtain ⟨hs0,z0⟩:=sw
   simp only at hy
   simp only [BO,Stk.vv,Stk.fv,Hg.vv,AX,Cb,BI,EI,lpn,lln] at h1 h2 hg1 hr2 hput hV n2 ⊢
   cases s <;> cases m <;> cases h <;> (simp only [cV,obV,if_true,if_false,bft] at hV; simp -implicitDefEqProofs (disch:=omega) only [vf48,HK,h1,h2,hg1,n1,n2,hV,hr2,hput,go_sem] <;> (first | rfl | simp [hy]))
  .simp at h1
 ·simp only [if_neg he]
  generalize hgs : Ac sw.hs id = o at *
  obtain ⟨og,of,oa,os⟩:=o
  obtain ⟨⟨x,z⟩,shr,mx,hi,rf⟩:=r
  obtain ⟨hs0,z0⟩:=sw
  simp only [Stk.vv,Hg.vv,AX,Cb,BI,EI,lpn,lln] at h1 h2 hg1 hV n2 ⊢
  cases s <;> cases m <;> cases h <;> (simp only [cV,obV,if_true,if_false,bft] at hV; simp -implicitDefEqProofs (disch:=omega) only [vf48,HK,h1,h2,hg1,n1,n2,hV,he,go_sem])
def EF (t : Tr) (l : List Mc) (g : Gw) (id : Int) : Gw:=if 0 < Am t g id - AE l id then As t l g id (Am t g id - AE l id) else g
theorem zbl {t : Tr} {sw : Stk} {l : List Mc} (hs : StkOk t sw) (hl : McOk t.nodes l) {id : Int} (hid : InN t.nodes id) : V 50 [t.vv,sw.vv,.p (AM l),.p (.int .i64 id)] [] = some (.tup [Stk.fv (EF t l ⟨sw,[],[],[],0⟩ id).stk,.fresh 4 ((EF t l ⟨sw,[],[],[],0⟩ id).shr.map Sh.pv),.p (.int .i64 (max 0 (Am t (EF t l ⟨sw,[],[],[],0⟩ id) id - AE l id))),.p (.int .i64 0)],[]):=by
 refine Ag (vf:=vf50) rfl ?_
 have h1:=LZ hs hl hid
 have hsl:=hs.hs.length
 have hlen:=hs.tree.len
 have hll:=hl.length
 have h2:=L0 t sw l (by omega)
 have hu:=Fs l (g:=⟨sw,[],[],[],0⟩) hs hid
 have hm:=JU t l ⟨sw,[],[],[],0⟩ id (by omega)
 have hU:=CY (g:=⟨sw,[],[],[],0⟩) hs id
 have hM:=G8 hl id
 have hsh:=fun ho=>LC (g:=⟨sw,[],[],[],0⟩) hs hl hid (n:=Am t ⟨sw,[],[],[],0⟩ id - AE l id) ho (by omega) (by simp)
 have hso:=fun ho=>DS (g:=⟨sw,[],[],[],0⟩) hs hl hid (n:=Am t ⟨sw,[],[],[],0⟩ id - AE l id) ho
 unfold EF
 by_cases ho : 0 < Am t ⟨sw,[],[],[],0⟩ id - AE l id
 ·rw [if_pos ho]
  have hsh:=hsh (by omega)
  have hso:=hso (by omega)
  have e1 : As t l ⟨sw,[],[],[],0⟩ id (Am t ⟨sw,[],[],[],0⟩ id - AE l id) = ⟨(As t l ⟨sw,[],[],[],0⟩ id (Am t ⟨sw,[],[],[],0⟩ id - AE l id)).stk,(As t l ⟨sw,[],[],[],0⟩ id (Am t ⟨sw,[],[],[],0⟩ id - AE l id)).shr,[],[],0⟩:=rfl
  have hu2:=Fs l (g:=As t l ⟨sw,[],[],[],0⟩ id (Am t ⟨sw,[],[],[],0⟩ id - AE l id)) hso.stk hid
  have hm2:=JU t l (As t l ⟨sw,[],[],[],0⟩ id (Am t ⟨sw,[],[],[],0⟩ id - AE l id)) id (by omega)
  have hU2:=CY (g:=As t l ⟨sw,[],[],[],0⟩ id (Am t ⟨sw,[],[],[],0⟩ id - AE l id)) hso.stk id
  rw [e1] at hsh hu2 hm2 hU2 ⊢
  generalize (As t l ⟨sw,[],[],[],0⟩ id (Am t ⟨sw,[],[],[],0⟩ id - AE l id)).stk = s1 at *
  generalize (As t l ⟨sw,[],[],[],0⟩ id (Am t ⟨sw,[],[],[],0⟩ id - AE l id)).shr = r1 at *
  generalize Am t ⟨s1,r1,[],[],0⟩ id = U2 at *
  generalize Am t ⟨sw,[],[],[],0⟩ id = U at *
  generalize AE l id = M at *
  obtain ⟨x,z⟩:=s1
  obtain ⟨hs0,z0⟩:=sw
  simp only [Stk.vv,Stk.fv,AX,Cb,BI,Ur,lpn,lln] at h1 h2 hu hm hsh hu2 hm2 ⊢
  simp -implicitDefEqProofs (disch:=omega) only [vf50,KF,h1,h2,hu,hm,ho,hsh,hu2,hm2,go_sem]
 ·rw [if_neg ho]
  generalize Am t ⟨sw,[],[],[],0⟩ id = U at *
  generalize AE l id = M at *
  obtain ⟨hs0,z0⟩:=sw
  simp only [Stk.vv,Stk.fv,AX,Cb,BI,lpn,lln] at h1 h2 hu hm ⊢
  simp -implicitDefEqProofs (disch:=omega) only [vf50,KF,h1,h2,hu,hm,ho,go_sem]
  all_goals first | rfl | simp
end Go.V
