/- Part 14 of the proof. -/
import Derived.Test.YtekkdllchjmhdaaGreatF12
import Derived.Test.YtekkdllchjmhdaaGreatF7
import Derived.Test.YtekkdllchjmhdaaGreatF2
import Derived.Test.YtekkdllchjmhdaaGreatProg
import Derived.Shelf.RegionOpenPlain
import Derived.WalkKit
import Derived.Deep.LoopGhost
import Derived.Deep.RegionLaw
import Derived.Lib.Walk
import Derived.Sort.WalkB12
import Derived.Lib.SliceRun
set_option linter.unusedSectionVars false
set_option linter.unusedSimpArgs false
set_option linter.unusedVariables false
set_option maxHeartbeats 32000000
open Nat renaming le_refl → lrf
open List renaming getElem?_eq_getElem → lgg, getElem?_eq_some_iff → lgs, mem_of_getElem? → lmg, mem_map → lmm, getElem?_of_mem → lgm, length_append → lla, getElem?_append_right → lgr, mem_append → lmp, getElem_mem → lgk, length_take → llt, length_drop → lld
open Option renaming some.injEq → osi
open Array renaming getElem?_eq_getElem → agg, getD_eq_getD_getElem? → agd
open Prod renaming mk.injEq → pmi
namespace Go.V
open Go.RowKit Go.Sort Go.Proofs Go.Shelf Go.Lib
theorem HU {P:Program} {e:TypeId} {sz bt:Nat} (h:((P.info? e).bind fun i=>i.zero.map fun z=>(z.cells.size,i.size,i.bytes,z.cells.toList.all fun v=>v.oneCell'))=some (sz,sz,bt,true)):∃ i z,P.info? e=some i/\i.zero=some z/\i.size=sz/\i.bytes=bt/\z.cells.size=sz/\∀ v∈z.cells.toList,v.oneCell'=true:=by
 cases hi:P.info? e with
 | none=>rw [hi] at h;cases h
 | some i =>
  rw [hi] at h
  cases hz:i.zero with
  | none=>simp [hz] at h
  | some z =>
   simp only [Option.bind_some,hz,Option.map_some,osi,pmi,List.all_eq_true] at h
   exact ⟨i,z,rfl,hz,h.2.1,h.2.2.1,h.1,h.2.2.2⟩
theorem Gl {z:Array Value} {n:Nat} (h:∀ v∈z.toList,v.oneCell'=true):∀ u∈(Builtin.zeroCells z n).toList,u.oneCell'=true:=fun u hu=>by
 simp only [Builtin.zeroCells,Array.toList_map,lmm] at hu
 obtain ⟨k,hk,rfl⟩:=hu
 have hk':k<n*z.size:=by simpa using hk
 have hp:k % z.size<z.size:=(GE hk').2
 rw [Array.getElem!_eq_getD,agd,agg hp]
 exact h _ (by simp)
theorem EG {P:Program} (b o:Nat) (vs:List Value) (w:World) {arr:Array Value} {tt:TypeId} (hb:w.heap[b]?=some (.cells arr tt (0,0))) (hfit:o+vs.length<=arr.size) (h1:∀ v∈vs,v.oneCell'=true) :
  w.setCells b o vs=w.setRow b (AB arr.toList o vs).toArray:=by
 have e1:=run_storeCells_cells (P:=P) b o vs 0 w (fun j hj=>by
  rw [Nat.add_zero,BY hb,agg (by omega)];rfl) (fun j hj=>by simp [World.frozen?,hb]) h1
 have e2:=run_storeCells_at P b o tt vs 0 arr w hb (by simpa using hfit) h1
 rw [e1] at e2
 simp only [Nat.add_zero] at e2
 simpa [AB] using e2
theorem SZ {cargs:Array Value} (h:3=cargs.size):∃ a b c,cargs=#[a,b,c]:=by
 match hcl:cargs.toList with
 | [a,b,c]=>exact ⟨a,b,c,by rw [<- Array.toList_inj,hcl]⟩
 | []=>simp [<- Array.length_toList,hcl] at h
 | [_]=>simp [<- Array.length_toList,hcl] at h
 | [_,_]=>simp [<- Array.length_toList,hcl] at h
 | _::_::_::_::_=>simp [<- Array.length_toList,hcl] at h
theorem LY {G:Gh} {h:VHeap} {w:World} {k:IntKind} {n:Int} {c:Value} (hv:VRel G h w (.p (.int k n)) c):c=.int k n:=by
 cases hv with
 | p hp _=>cases hp;rfl
theorem YS {fz:Nat->Prop} {w:World} {sz n i j:Nat} {xs:List PV} {arr:Array Value} {zs:List Value} (hn:n=xs.length) (hij:i<j) (hj:j<=n) (hfit:n*sz<=arr.size) (hz:zs.length=(j - i)*sz)
  (hcs:∀ x∈xs,x.cells.length=sz) (hcell:∀ (i:Nat) (x:PV) (j:Nat) (c:PV),xs[i]?=some x->x.cells[j]?=some c->∃ v,arr[i*sz+j]?=some v/\v.oneCell'=true/\PRel fz w c v)
  {N1 N2:Array Value} (h1:N1=(AB arr.toList (i*sz) ((arr.toList.drop (j*sz)).take ((n - j)*sz))).toArray) (h2:N2=(AB N1.toList ((i+(n - j))*sz) zs).toArray) :
  N1.size=arr.size/\N2.size=arr.size/\∀ (k:Nat) (x:PV) (q:Nat) (c:PV),(xs.take i++xs.drop j)[k]?=some x->x.cells[q]?=some c->∃ v,N2[k*sz+q]?=some v/\v.oneCell'=true/\PRel fz w c v:=by
 have hnl:((arr.toList.drop (j*sz)).take ((n - j)*sz)).length=(n - j)*sz:=by
  have:j*sz+(n - j)*sz=n*sz:=by rw [<- Nat.add_mul];congr 1;omega
  rw [llt,lld,Array.length_toList];omega
 have e1:i*sz+(n - j)*sz=(i+(n - j))*sz:=by rw [Nat.add_mul]
 have e2:(i+(n - j))*sz+(j - i)*sz=n*sz:=by rw [<- Nat.add_mul];congr 1;omega
 have hs1:i*sz+((arr.toList.drop (j*sz)).take ((n - j)*sz)).length<=arr.toList.length:=by
  rw [hnl,Array.length_toList];omega
 have z1:N1.size=arr.size:=by rw [h1,List.size_toArray,CA _ _ _ hs1,Array.length_toList]
 have hs2:(i+(n - j))*sz+zs.length<=N1.toList.length:=by rw [hz,Array.length_toList,z1];omega
 have z2:N2.size=arr.size:=by rw [h2,List.size_toArray,CA _ _ _ hs2,Array.length_toList,z1]
 refine ⟨z1,z2,fun k x q c hk hq=>?_⟩
 have hqs:q<sz:=by
  have hx:x∈xs:=by
   rcases lmp.1 (lmg hk) with h|h
   .exact List.mem_of_mem_take h
   .exact List.mem_of_mem_drop h
  rw [<- hcs x hx]
  exact (lgs.1 hq).1
 have hkl:k<i+(n - j):=by
  have:=(lgs.1 hk).1
  rw [lla,llt,lld] at this
  omega
 have hti:(xs.take i).length=i:=by rw [llt];omega
 have hlt:=CX hkl hqs
 have g2:N2[k*sz+q]?=N1[k*sz+q]?:=by
  rw [h2,List.getElem?_toArray,C7 _ _ _ hs2,if_neg (by omega),Array.getElem?_toList]
 rw [g2,h1,List.getElem?_toArray,C7 _ _ _ hs1,hnl]
 by_cases hki:k<i
 ·rw [List.getElem?_append_left (by omega),List.getElem?_take_of_lt hki] at hk
  have:=CX hki hqs
  rw [if_neg (by omega),Array.getElem?_toList]
  exact hcell k x q c hk hq
 ·rw [lgr (by omega),hti,List.getElem?_drop] at hk
  have h3:=CX (show k - i<n - j by omega) hqs
  have e3:k*sz+q=i*sz+((k - i)*sz+q):=by
   rw [<- Nat.add_assoc,<- Nat.add_mul]
   congr 2
   omega
  have e4:j*sz+((k - i)*sz+q)=(j+(k - i))*sz+q:=by rw [<- Nat.add_assoc,<- Nat.add_mul]
  rw [if_pos (by omega),show k*sz+q - i*sz=(k - i)*sz+q by omega,List.getElem?_take_of_lt h3,List.getElem?_drop,Array.getElem?_toList,e4]
  exact hcell _ x q c hk hq
theorem L5 [GK] {P:Program} {f sz:Nat} {args:List VVal} {H:List Ob} {res:VVal} {H':List Ob}
  (hnil:∀ w:World,Calls P f #[.slice none 0 0,.int .i64 (0:Nat),.int .i64 (0:Nat)] w fun e w'=>e=.returned (.slice none 0 0)/\w'=w)
  (heq : ∀ (a : Addr) (n cap i : Nat) (w : World),i<=n->n<=cap->Calls P f #[.slice (some a) n cap,.int .i64 i,.int .i64 i] w fun e w'=>e=.returned (.slice (some a) n cap)/\w'=w)
  (hdel:∀ (b n cap i j:Nat) (arr:Array Value) (tt:TypeId) (w:World),w.heap[b]?=some (.cells arr tt (0,0))->n<=cap->n<=9223372036854775807->cap*sz<=arr.size->(∀ (k:Nat) (v:Value),k<n*sz->arr[k]?=some v->v.oneCell'=true)->i<j->j<=n ->
   Calls P f #[.slice (some ⟨b,0,none⟩) n cap,.int .i64 i,.int .i64 j] w fun e w'=>e=.returned (.slice (some ⟨b,0,none⟩) (n - (j - i)) cap)/\∃ zs:List Value,zs.length=(j - i)*sz /\
    (∀ v∈zs,v.oneCell'=true)/\w'=(w.drew.setCells b (i*sz) ((arr.toList.drop (j*sz)).take ((n - j)*sz))).setCells b ((i+(n - j))*sz) zs)
  (h : D9 sz args H=some (res,H')) : CR P f args H res H':=by
 unfold D9 at h
 split at h<;>try (cases h;done)
 rename_i n i j k xs
 obtain ⟨rfl,h⟩:=Ab h
 obtain ⟨hn,h⟩:=Ab h
 obtain ⟨hbig,h⟩:=Ab h
 obtain ⟨hi0,h⟩:=Ab h
 obtain ⟨hij,h⟩:=Ab h
 obtain ⟨hjn,h⟩:=Ab h
 simp only [osi,pmi] at h
 obtain ⟨rfl,rfl⟩:=h
 intro G w cargs hinv hgd hlen hargs _
 obtain ⟨c0,c1,c2,rfl⟩:=SZ hlen
 obtain ⟨i,rfl⟩:=Int.eq_ofNat_of_zero_le hi0
 obtain ⟨j,rfl⟩:=Int.eq_ofNat_of_zero_le (Int.le_trans hi0 hij)
 cases LY (hargs 1 _ c1 rfl rfl)
 cases LY (hargs 2 _ c2 rfl rfl)
 have hvr:=hargs 0 _ c0 rfl rfl
 have hh0:As [.arr k xs] (.arg 0 0)=some (0,.arr k xs):=rfl
 obtain ⟨hcs,hem,hall⟩:=hinv _ _ _ hh0
 simp only [Int.toNat_natCast]
 have hlen2':=hn
 cases hvr with
 | @own _ _ _ _ a n' cap v o hn' hcap hh hle hoo =>
  rw [hh0] at hh
  simp only [osi,pmi] at hh
  obtain ⟨rfl,rfl⟩:=hh
  subst hn'
  obtain ⟨sz2,xs2,e,hlen2,hreal⟩:=hoo rfl
  simp only [Ob.arr.injEq] at e
  obtain ⟨rfl,rfl⟩:=e
  have hout:∀ (G':Gh) (w':World) (xs':List PV),xs'.length=n' - (j - i)->Ck ((As [.arr k xs]).upd (.arg 0 0) (1,.arr k xs')) ([Ob.arr k xs]:List Ob).length [.own (.arg 0 0) 1 0 (n' - (j - i))]=some (.own (.arg 0 0) 1 0 (n' - (j - i)))/\Bf ((As [.arr k xs]).upd (.arg 0 0) (1,.arr k xs')) 0 ([Ob.arr k xs]:List Ob).length=some [.box [.undef,.fresh k xs']]:=fun G' w' xs' hx=>by
   refine ⟨?_,?_⟩
   ·simp [Ck,CS,Ez,De,ET,Df,DZ,EP,capIds1,capIds0,gd,BG,BE]
   ·simp [Bf,Eo,BE,ob]
  have stay:i=j->∃ G' h',Step G (As [.arr k xs]) w G' h' w/\HeapInv G' h' w/\VRel G' h' w (.own (.arg 0 0) 1 0 (n' - (j - i))) (.slice a n' cap)/\h'=(As [.arr k xs]).upd (.arg 0 0) (1,.arr k (xs.take i++xs.drop j)):=fun hij'=>by
   subst hij'
   have hx:xs.take i++xs.drop i=xs:=List.take_append_drop i xs
   rw [hx]
   have hst:Step G (As [.arr k xs]) w G ((As [.arr k xs]).upd (.arg 0 0) (0+1,.arr k xs)) w:=Step.bump (.arg 0 0) hh0 rfl (fun _ _=>rfl) rfl rfl rfl
   refine ⟨G,_,hst,HeapInv.bump hinv (.arg 0 0) hst (fun _ _=>rfl) ⟨hcs,hem,hall⟩,?_,rfl⟩
   exact .own (by omega) (by omega) (BE _ _ _) (lrf _) fun _=>⟨k,xs,rfl,by omega,by simpa using hreal⟩
  by_cases hij':i=j
  ·obtain ⟨G',h',hst,hinv',hv',he'⟩:=stay hij'
   subst hij'
   have fin:Calls P f #[.slice a n' cap,.int .i64 i,.int .i64 i] w fun e w'=>e=.returned (.slice a n' cap)/\w'=w:=by
    cases a with
    | some a=>exact heq a n' cap i w (by omega) hcap
    | none =>
     have hc0:cap=0:=by
      rcases hreal with ⟨h0,_⟩|⟨_,_,g3⟩
      ·exact h0
      ·rcases Nat.eq_zero_or_pos cap with h0|h0
       .exact h0
       .have:=g3 h0;simp at this
     have hn0:n'=0:=by omega
     have hi0':i=0:=by omega
     subst hc0 hn0 hi0'
     exact hnil w
   refine fin.mono fun e w' ⟨he,hw⟩=>?_
   subst he
   subst hw
   obtain ⟨o1,o2⟩:=hout G' w' (xs.take i++xs.drop i) (by rw [List.take_append_drop];omega)
   exact ⟨_,G',h',[.own (.arg 0 0) 1 0 (n' - (i - i))],rfl,hst,hinv',hv',by rw [he'];exact o1,by rw [he'];exact o2⟩
  ·have hlt:i<j:=by omega
   have hjn':j<=n':=by omega
   rcases hreal with ⟨h0,_⟩|⟨g1,g2,g3⟩
   ·omega
   ·have hadd:=g3 (by omega)
    simp only [Nat.zero_mul] at hadd
    subst hadd
    obtain ⟨hxc,arr,tt,hb,has,hcell⟩:=hall g1
    have hcz:n'*k<=G.cap (.arg 0 0)*k:=Nat.mul_le_mul_right _ (by omega)
    have hcc:cap*k<=G.cap (.arg 0 0)*k:=Nat.mul_le_mul_right _ (by omega)
    have hone:∀ (q:Nat) (v:Value),q<n'*k->arr[q]?=some v->v.oneCell'=true:=fun q v hq hv=>by
     obtain ⟨d1,d2⟩:=GE hq
     have hx:xs[q / k]?=some xs[q / k]:=lgg (by omega)
     have hc:(xs[q / k]).cells[q % k]?=some ((xs[q / k]).cells[q % k]'(by rw [hcs _ (lgk _)];exact d2)):=lgg _
     obtain ⟨v',e1,e2,_⟩:=hcell _ _ _ _ hx hc
     rw [Nat.mul_comm,Nat.div_add_mod,hv] at e1
     cases e1
     exact e2
    refine (hdel (G.blk (.arg 0 0)) n' cap i j arr tt w hb hcap hbig (by rw [has];exact hcc) hone hlt hjn').mono fun e w' ⟨he,zs,hzl,hzo,hw⟩=>?_
    subst he
    have hfit1:i*k+((arr.toList.drop (j*k)).take ((n' - j)*k)).length<=arr.size:=by
     have e1:(i+(n' - j))*k<=n'*k:=Nat.mul_le_mul_right _ (by omega)
     rw [Nat.add_mul] at e1
     rw [llt,has]
     omega
    have hon1:∀ v∈(arr.toList.drop (j*k)).take ((n' - j)*k),v.oneCell'=true:=fun v hv=>by
     obtain ⟨q,hq⟩:=lgm hv
     rw [List.getElem?_take] at hq
     split at hq
     ·rename_i hlt'
      rw [List.getElem?_drop,Array.getElem?_toList] at hq
      refine hone _ v ?_ hq
      have:j*k+(n' - j)*k=n'*k:=by rw [<- Nat.add_mul];congr 1;omega
      omega
     .cases hq
    obtain ⟨N1,hN1⟩:∃ N1,N1=(AB arr.toList (i*k) ((arr.toList.drop (j*k)).take ((n' - j)*k))).toArray:=⟨_,rfl⟩
    obtain ⟨N2,hN2⟩:∃ N2,N2=(AB N1.toList ((i+(n' - j))*k) zs).toArray:=⟨_,rfl⟩
    obtain ⟨q1,q2,q3⟩:=YS (fz:=fun b=>G.kind b=.frozen) (w:=w) hlen2' hlt hjn' (by rw [has];exact hcz) hzl hcs hcell hN1 hN2
    rw [EG (P:=P) _ _ _ w.drew hb hfit1 hon1,<- hN1] at hw
    have hb1:(w.drew.setRow (G.blk (.arg 0 0)) N1).heap[G.blk (.arg 0 0)]?=some (.cells N1 tt (0,0)):=setRow_heap w.drew _ _ _ _ _ hb
    rw [EG (P:=P) _ _ _ _ hb1 (by
     have:(i+(n' - j))*k+(j - i)*k=n'*k:=by rw [<- Nat.add_mul];congr 1;omega
     rw [hzl,q1,has];omega) hzo,<- hN2] at hw
    have hblk:∀ b,b ≠ G.blk (.arg 0 0)->w'.heap[b]?=w.heap[b]?:=fun b hb'=>by
     rw [hw]
     exact (setRow_other _ _ _ _ hb').trans (setRow_other w.drew _ _ _ hb')
    have hblk':∀ b,(G.kind b=.mine (.arg 0 0)->b ≠ G.blk (.arg 0 0))->w'.heap[b]?=w.heap[b]?:=fun b hb'=>hblk b (fun e=>hb' (by rw [e];exact g1) e)
    have hst:Step G (As [.arr k xs]) w G ((As [.arr k xs]).upd (.arg 0 0) (0+1,.arr k (xs.take i++xs.drop j))) w':=Step.bump (.arg 0 0) hh0 (by rw [hw];show w.drew.heap.size=_;simp [World.setRow]) hblk' (by rw [hw];rfl) (by rw [hw];rfl) (by rw [hw];rfl)
    have hln:(xs.take i++xs.drop j).length=n' - (j - i):=by rw [lla,llt,lld];omega
    obtain ⟨o1,o2⟩:=hout G w' (xs.take i++xs.drop j) hln
    refine ⟨_,G,_,[.own (.arg 0 0) 1 0 (n' - (j - i))],rfl,hst,HeapInv.bump hinv (.arg 0 0) hst hblk' ⟨fun x hx=>?_,.inr g1,fun _=>⟨by omega,N2,tt,?_,by rw [q2,has],fun q x s c hx hs=>?_⟩⟩,?_,o1,o2⟩
    ·rcases lmp.1 hx with h|h
     .exact hcs x (List.mem_of_mem_take h)
     .exact hcs x (List.mem_of_mem_drop h)
    ·rw [hw]
     exact setRow_heap _ _ _ _ _ _ hb1
    ·obtain ⟨v,e1,e2,e3⟩:=q3 q x s c hx hs
     exact ⟨v,e1,e2,e3.mono hst.keeps hst.size⟩
    .exact .own rfl (by omega) (BE _ _ _) (lrf _) fun _=>⟨k,_,rfl,by omega,.inr ⟨g1,g2,fun _=>by simp⟩⟩
set_option maxRecDepth 1000000 in
theorem Y9 (b n cap i j:Nat) (arr:Array Value) (tt:TypeId) (w:World) (hb:w.heap[b]?=some (.cells arr tt (0,0))) (hcap:n<=cap) (hm:n<=9223372036854775807) (hfit:cap*6<=arr.size) (h1:∀ (k:Nat) (v:Value),k<n*6->arr[k]?=some v->v.oneCell'=true) (hij:i<j) (hj:j<=n) :
  Calls Tryz.prog 128 #[.slice (some ⟨b,0,none⟩) n cap,.int .i64 i,.int .i64 j] w fun e w'=>e=.returned (.slice (some ⟨b,0,none⟩) (n - (j - i)) cap)/\∃ zs:List Value,zs.length=(j - i)*6/\(∀ v∈zs,v.oneCell'=true) /\
   w'=(w.drew.setCells b (i*6) ((arr.toList.drop (j*6)).take ((n - j)*6))).setCells b ((i+(n - j))*6) zs:=by
 obtain ⟨news,hnews⟩:∃ news,news=(arr.toList.drop (j*6)).take ((n - j)*6):=⟨_,rfl⟩
 have hlen:news.length=(n - j)*6:=by rw [hnews,llt,lld,Array.length_toList];omega
 have hget:∀ t,t<(n - j)*6->news[t]?=arr[j*6+t]?:=fun t ht=>by
  rw [hnews,List.getElem?_take_of_lt ht,List.getElem?_drop,Array.getElem?_toList]
 obtain ⟨i0,z0,hi0,hz0,hz1,hz2,hz3,hz4⟩:=HU (P:=Tryz.prog) (e:=50) (sz:=6) (bt:=48) (by kernel_rfl)
 obtain ⟨A,hA,hsrc⟩:∃ A:Addr,(if cap=j then some (⟨b,0,none⟩:Addr) else some ⟨b,j*6,none⟩)=some A/\Hid (∀ t u,news[t]?=some u->w.drew.cell? (A.add t)=some u):=by
  by_cases h:cap=j
  ·refine ⟨⟨b,0,none⟩,by simp [h],fun t u hu=>?_⟩
   have h0:news.length=0:=by rw [hlen];omega
   rw [List.length_eq_zero_iff.1 h0] at hu
   simp at hu
  ·refine ⟨⟨b,j*6,none⟩,by simp [h],fun t u hu=>?_⟩
   have ht:t<(n - j)*6:=by
    have:=(lgs.1 hu).1
    rwa [hlen] at this
   rw [hget t ht] at hu
   rw [Addr.add_lit]
   exact (BY hb).trans hu
 have s1:Hid (news.length=(n - j)*6):=hlen
 have s2:Hid (∀ u∈news,u.oneCell'=true):=fun u hu=>by
  obtain ⟨t,ht⟩:=lgm hu
  have hlt:t<(n - j)*6:=by
   have:=(lgs.1 ht).1
   rwa [hlen] at this
  rw [hget t hlt] at ht
  exact h1 _ _ (by omega) ht
 have s3:Hid (∀ t,t<news.length->(w.drew.cell? ⟨b,0+i*6+t,none⟩).isSome=true/\w.drew.frozen? ⟨b,0+i*6+t,none⟩=false):=fun t ht=>by
  rw [hlen] at ht
  refine ⟨?_,?_⟩
  ·show (w.cell? _).isSome=true
   rw [BY hb,agg (by omega)];rfl
  ·show w.frozen? _=false
   simp [World.frozen?,hb]
 obtain ⟨W1,hW1⟩:∃ W1,W1=w.drew.setCells b (0+i*6) news:=⟨_,rfl⟩
 have hfitn:0+i*6+news.length<=arr.size:=by rw [hlen];omega
 have hW1r:W1=w.drew.setRow b (AB arr.toList (0+i*6) news).toArray:=by
  rw [hW1]
  exact EG (P:=Tryz.prog) b _ news w.drew hb hfitn s2.out
 have hb1:W1.heap[b]?=some (.cells (AB arr.toList (0+i*6) news).toArray tt (0,0)):=by
  rw [hW1r]
  exact setRow_heap w.drew _ _ _ _ _ hb
 have hsz1:(AB arr.toList (0+i*6) news).toArray.size=arr.size:=by
  rw [List.size_toArray,CA _ _ _ (by rw [Array.length_toList];exact hfitn),Array.length_toList]
 obtain ⟨zs,hzs⟩:∃ zs,zs=(Builtin.zeroCells z0.cells (n - (i+(n - j)))).toList:=⟨_,rfl⟩
 have hzl:zs.length=(j - i)*6:=by
  rw [hzs,Array.length_toList,size_zeroCells,hz3,show n - (i+(n - j))=j - i by omega]
 have hcl:∀ ty,(Builtin.clear_ #[39] ty #[.slice (some ⟨b,(i+(n - j))*6,none⟩) (n - (i+(n - j))) (cap - (i+(n - j)))]).run Tryz.prog W1=.ok (.tuple #[]) (W1.setCells b ((i+(n - j))*6) zs):=fun ty=>by
  have hst:=run_storeCells_cells (P:=Tryz.prog) b ((i+(n - j))*6) zs 0 W1 (fun k hk=>by
   rw [Nat.add_zero,BY hb1,agg (by rw [hsz1];omega)];rfl) (fun k hk=>by simp [World.frozen?,hb1]) (by rw [hzs];exact Gl hz4)
  rw [Nat.add_zero,hzs] at hst
  rw [hzs]
  obtain ⟨m,hm'⟩:∃ m,n - (i+(n - j))=m+1:=⟨n - (i+(n - j)) - 1,by omega⟩
  rw [hm'] at hst ⊢
  simp [Builtin.clear_,run_underlying Tryz.underlying39,zeroValue,typeInfo,hi0,hz0,hst]
 have hzo:∀ v∈zs,v.oneCell'=true:=by rw [hzs];exact Gl hz4
 clear hzs
 have hW:Hid (W1=w.drew.setCells b (0+i*6) news):=hW1
 have hic:i<=cap:=by omega
 have hjc:j<=cap:=by omega
 have mixed:Tryz.prog.follows Departure.mixedOrders=true:=by kernel_rfl
 have hne:¬ (i:Int)=(j:Int):=by omega
 clear hW1 hW1r hb1 hb hget hlen hsz1
 go_enter Tryz.func128,Tryz.ntmps128
 go_wp2_with fail
 go_region_law_o (refine step_append_room rfl (.tmp 22) (.tmp 25) 39 rfl 50 i0 6 Tryz.underlying39 hi0 hz1 b 0 i cap (by simp [Act.eval,Act.put]) A (n - j) (cap - j) news (by simp [Act.eval,Act.put]) s1.out hsrc.out s2.out (by omega) s3.out ?_;rw [<- hW.out])
 go_wp2
 go_ret
 rw [hW.out,Nat.zero_add]
 exact ⟨by rw [show i+(n - j)=n - (j - i) by omega];rfl,zs,hzl,hzo,by rw [hnews]⟩
theorem V3 (a:Addr) (n cap i:Nat) (w:World) (hin:i<=n) (hcap:n<=cap) :
  Calls Tryz.prog 128 #[.slice (some a) n cap,.int .i64 i,.int .i64 i] w fun e w'=>e=.returned (.slice (some a) n cap)/\w'=w:=by
 obtain ⟨ab,ao,asp⟩:=a
 have hic:i<=cap:=by omega
 go_enter Tryz.func128,Tryz.ntmps128
 go_wp2
 all_goals (go_ret;exact ⟨rfl,rfl⟩)
theorem Vt (w:World) :
  Calls Tryz.prog 128 #[.slice none 0 0,.int .i64 (0:Nat),.int .i64 (0:Nat)] w fun e w'=>e=.returned (.slice none 0 0)/\w'=w:=by
 go_enter Tryz.func128,Tryz.ntmps128
 go_wp2
 all_goals (go_ret;exact ⟨rfl,rfl⟩)
theorem zaT [GK] {args:List VVal} {H:List Ob} {res:VVal} {H':List Ob} (h:D9 6 args H=some (res,H')):CR Tryz.prog 128 args H res H' :=
 L5 Vt V3 Y9 h
set_option maxRecDepth 1000000 in
theorem Za (b n cap i j:Nat) (arr:Array Value) (tt:TypeId) (w:World) (hb:w.heap[b]?=some (.cells arr tt (0,0))) (hcap:n<=cap) (hm:n<=9223372036854775807) (hfit:cap*7<=arr.size) (h1:∀ (k:Nat) (v:Value),k<n*7->arr[k]?=some v->v.oneCell'=true) (hij:i<j) (hj:j<=n) :
  Calls Tryz.prog 116 #[.slice (some ⟨b,0,none⟩) n cap,.int .i64 i,.int .i64 j] w fun e w'=>e=.returned (.slice (some ⟨b,0,none⟩) (n - (j - i)) cap)/\∃ zs:List Value,zs.length=(j - i)*7/\(∀ v∈zs,v.oneCell'=true) /\
   w'=(w.drew.setCells b (i*7) ((arr.toList.drop (j*7)).take ((n - j)*7))).setCells b ((i+(n - j))*7) zs:=by
 obtain ⟨news,hnews⟩:∃ news,news=(arr.toList.drop (j*7)).take ((n - j)*7):=⟨_,rfl⟩
 have hlen:news.length=(n - j)*7:=by rw [hnews,llt,lld,Array.length_toList];omega
 have hget:∀ t,t<(n - j)*7->news[t]?=arr[j*7+t]?:=fun t ht=>by
  rw [hnews,List.getElem?_take_of_lt ht,List.getElem?_drop,Array.getElem?_toList]
 obtain ⟨i0,z0,hi0,hz0,hz1,hz2,hz3,hz4⟩:=HU (P:=Tryz.prog) (e:=65) (sz:=7) (bt:=56) (by kernel_rfl)
 obtain ⟨A,hA,hsrc⟩:∃ A:Addr,(if cap=j then some (⟨b,0,none⟩:Addr) else some ⟨b,j*7,none⟩)=some A/\Hid (∀ t u,news[t]?=some u->w.drew.cell? (A.add t)=some u):=by
  by_cases h:cap=j
  ·refine ⟨⟨b,0,none⟩,by simp [h],fun t u hu=>?_⟩
   have h0:news.length=0:=by rw [hlen];omega
   rw [List.length_eq_zero_iff.1 h0] at hu
   simp at hu
  ·refine ⟨⟨b,j*7,none⟩,by simp [h],fun t u hu=>?_⟩
   have ht:t<(n - j)*7:=by
    have:=(lgs.1 hu).1
    rwa [hlen] at this
   rw [hget t ht] at hu
   rw [Addr.add_lit]
   exact (BY hb).trans hu
 have s1:Hid (news.length=(n - j)*7):=hlen
 have s2:Hid (∀ u∈news,u.oneCell'=true):=fun u hu=>by
  obtain ⟨t,ht⟩:=lgm hu
  have hlt:t<(n - j)*7:=by
   have:=(lgs.1 ht).1
   rwa [hlen] at this
  rw [hget t hlt] at ht
  exact h1 _ _ (by omega) ht
 have s3:Hid (∀ t,t<news.length->(w.drew.cell? ⟨b,0+i*7+t,none⟩).isSome=true/\w.drew.frozen? ⟨b,0+i*7+t,none⟩=false):=fun t ht=>by
  rw [hlen] at ht
  refine ⟨?_,?_⟩
  ·show (w.cell? _).isSome=true
   rw [BY hb,agg (by omega)];rfl
  ·show w.frozen? _=false
   simp [World.frozen?,hb]
 obtain ⟨W1,hW1⟩:∃ W1,W1=w.drew.setCells b (0+i*7) news:=⟨_,rfl⟩
 have hfitn:0+i*7+news.length<=arr.size:=by rw [hlen];omega
 have hW1r:W1=w.drew.setRow b (AB arr.toList (0+i*7) news).toArray:=by
  rw [hW1]
  exact EG (P:=Tryz.prog) b _ news w.drew hb hfitn s2.out
 have hb1:W1.heap[b]?=some (.cells (AB arr.toList (0+i*7) news).toArray tt (0,0)):=by
  rw [hW1r]
  exact setRow_heap w.drew _ _ _ _ _ hb
 have hsz1:(AB arr.toList (0+i*7) news).toArray.size=arr.size:=by
  rw [List.size_toArray,CA _ _ _ (by rw [Array.length_toList];exact hfitn),Array.length_toList]
 obtain ⟨zs,hzs⟩:∃ zs,zs=(Builtin.zeroCells z0.cells (n - (i+(n - j)))).toList:=⟨_,rfl⟩
 have hzl:zs.length=(j - i)*7:=by
  rw [hzs,Array.length_toList,size_zeroCells,hz3,show n - (i+(n - j))=j - i by omega]
 have hcl:∀ ty,(Builtin.clear_ #[40] ty #[.slice (some ⟨b,(i+(n - j))*7,none⟩) (n - (i+(n - j))) (cap - (i+(n - j)))]).run Tryz.prog W1=.ok (.tuple #[]) (W1.setCells b ((i+(n - j))*7) zs):=fun ty=>by
  have hst:=run_storeCells_cells (P:=Tryz.prog) b ((i+(n - j))*7) zs 0 W1 (fun k hk=>by
   rw [Nat.add_zero,BY hb1,agg (by rw [hsz1];omega)];rfl) (fun k hk=>by simp [World.frozen?,hb1]) (by rw [hzs];exact Gl hz4)
  rw [Nat.add_zero,hzs] at hst
  rw [hzs]
  obtain ⟨m,hm'⟩:∃ m,n - (i+(n - j))=m+1:=⟨n - (i+(n - j)) - 1,by omega⟩
  rw [hm'] at hst ⊢
  simp [Builtin.clear_,run_underlying Tryz.underlying40,zeroValue,typeInfo,hi0,hz0,hst]
 have hzo:∀ v∈zs,v.oneCell'=true:=by rw [hzs];exact Gl hz4
 clear hzs
 have hW:Hid (W1=w.drew.setCells b (0+i*7) news):=hW1
 have hic:i<=cap:=by omega
 have hjc:j<=cap:=by omega
 have mixed:Tryz.prog.follows Departure.mixedOrders=true:=by kernel_rfl
 have hne:¬ (i:Int)=(j:Int):=by omega
 clear hW1 hW1r hb1 hb hget hlen hsz1
 go_enter Tryz.func116,Tryz.ntmps116
 go_wp2_with fail
 go_region_law_o (refine step_append_room rfl (.tmp 22) (.tmp 25) 40 rfl 65 i0 7 Tryz.underlying40 hi0 hz1 b 0 i cap (by simp [Act.eval,Act.put]) A (n - j) (cap - j) news (by simp [Act.eval,Act.put]) s1.out hsrc.out s2.out (by omega) s3.out ?_;rw [<- hW.out])
 go_wp2
 go_ret
 rw [hW.out,Nat.zero_add]
 exact ⟨by rw [show i+(n - j)=n - (j - i) by omega];rfl,zs,hzl,hzo,by rw [hnews]⟩
theorem V4 (a:Addr) (n cap i:Nat) (w:World) (hin:i<=n) (hcap:n<=cap) :
  Calls Tryz.prog 116 #[.slice (some a) n cap,.int .i64 i,.int .i64 i] w fun e w'=>e=.returned (.slice (some a) n cap)/\w'=w:=by
 obtain ⟨ab,ao,asp⟩:=a
 have hic:i<=cap:=by omega
 go_enter Tryz.func116,Tryz.ntmps116
 go_wp2
 all_goals (go_ret;exact ⟨rfl,rfl⟩)
theorem Vu (w:World) :
  Calls Tryz.prog 116 #[.slice none 0 0,.int .i64 (0:Nat),.int .i64 (0:Nat)] w fun e w'=>e=.returned (.slice none 0 0)/\w'=w:=by
 go_enter Tryz.func116,Tryz.ntmps116
 go_wp2
 all_goals (go_ret;exact ⟨rfl,rfl⟩)
theorem zaU [GK] {args:List VVal} {H:List Ob} {res:VVal} {H':List Ob} (h:D9 7 args H=some (res,H')):CR Tryz.prog 116 args H res H' :=
 L5 Vu V4 Za h
set_option maxRecDepth 1000000 in
theorem Zb (b n cap i j:Nat) (arr:Array Value) (tt:TypeId) (w:World) (hb:w.heap[b]?=some (.cells arr tt (0,0))) (hcap:n<=cap) (hm:n<=9223372036854775807) (hfit:cap*21<=arr.size) (h1:∀ (k:Nat) (v:Value),k<n*21->arr[k]?=some v->v.oneCell'=true) (hij:i<j) (hj:j<=n) :
  Calls Tryz.prog 160 #[.slice (some ⟨b,0,none⟩) n cap,.int .i64 i,.int .i64 j] w fun e w'=>e=.returned (.slice (some ⟨b,0,none⟩) (n - (j - i)) cap)/\∃ zs:List Value,zs.length=(j - i)*21/\(∀ v∈zs,v.oneCell'=true) /\
   w'=(w.drew.setCells b (i*21) ((arr.toList.drop (j*21)).take ((n - j)*21))).setCells b ((i+(n - j))*21) zs:=by
 obtain ⟨news,hnews⟩:∃ news,news=(arr.toList.drop (j*21)).take ((n - j)*21):=⟨_,rfl⟩
 have hlen:news.length=(n - j)*21:=by rw [hnews,llt,lld,Array.length_toList];omega
 have hget:∀ t,t<(n - j)*21->news[t]?=arr[j*21+t]?:=fun t ht=>by
  rw [hnews,List.getElem?_take_of_lt ht,List.getElem?_drop,Array.getElem?_toList]
 obtain ⟨i0,z0,hi0,hz0,hz1,hz2,hz3,hz4⟩:=HU (P:=Tryz.prog) (e:=117) (sz:=21) (bt:=168) (by kernel_rfl)
 obtain ⟨A,hA,hsrc⟩:∃ A:Addr,(if cap=j then some (⟨b,0,none⟩:Addr) else some ⟨b,j*21,none⟩)=some A/\Hid (∀ t u,news[t]?=some u->w.drew.cell? (A.add t)=some u):=by
  by_cases h:cap=j
  ·refine ⟨⟨b,0,none⟩,by simp [h],fun t u hu=>?_⟩
   have h0:news.length=0:=by rw [hlen];omega
   rw [List.length_eq_zero_iff.1 h0] at hu
   simp at hu
  ·refine ⟨⟨b,j*21,none⟩,by simp [h],fun t u hu=>?_⟩
   have ht:t<(n - j)*21:=by
    have:=(lgs.1 hu).1
    rwa [hlen] at this
   rw [hget t ht] at hu
   rw [Addr.add_lit]
   exact (BY hb).trans hu
 have s1:Hid (news.length=(n - j)*21):=hlen
 have s2:Hid (∀ u∈news,u.oneCell'=true):=fun u hu=>by
  obtain ⟨t,ht⟩:=lgm hu
  have hlt:t<(n - j)*21:=by
   have:=(lgs.1 ht).1
   rwa [hlen] at this
  rw [hget t hlt] at ht
  exact h1 _ _ (by omega) ht
 have s3:Hid (∀ t,t<news.length->(w.drew.cell? ⟨b,0+i*21+t,none⟩).isSome=true/\w.drew.frozen? ⟨b,0+i*21+t,none⟩=false):=fun t ht=>by
  rw [hlen] at ht
  refine ⟨?_,?_⟩
  ·show (w.cell? _).isSome=true
   rw [BY hb,agg (by omega)];rfl
  ·show w.frozen? _=false
   simp [World.frozen?,hb]
 obtain ⟨W1,hW1⟩:∃ W1,W1=w.drew.setCells b (0+i*21) news:=⟨_,rfl⟩
 have hfitn:0+i*21+news.length<=arr.size:=by rw [hlen];omega
 have hW1r:W1=w.drew.setRow b (AB arr.toList (0+i*21) news).toArray:=by
  rw [hW1]
  exact EG (P:=Tryz.prog) b _ news w.drew hb hfitn s2.out
 have hb1:W1.heap[b]?=some (.cells (AB arr.toList (0+i*21) news).toArray tt (0,0)):=by
  rw [hW1r]
  exact setRow_heap w.drew _ _ _ _ _ hb
 have hsz1:(AB arr.toList (0+i*21) news).toArray.size=arr.size:=by
  rw [List.size_toArray,CA _ _ _ (by rw [Array.length_toList];exact hfitn),Array.length_toList]
 obtain ⟨zs,hzs⟩:∃ zs,zs=(Builtin.zeroCells z0.cells (n - (i+(n - j)))).toList:=⟨_,rfl⟩
 have hzl:zs.length=(j - i)*21:=by
  rw [hzs,Array.length_toList,size_zeroCells,hz3,show n - (i+(n - j))=j - i by omega]
 have hcl:∀ ty,(Builtin.clear_ #[36] ty #[.slice (some ⟨b,(i+(n - j))*21,none⟩) (n - (i+(n - j))) (cap - (i+(n - j)))]).run Tryz.prog W1=.ok (.tuple #[]) (W1.setCells b ((i+(n - j))*21) zs):=fun ty=>by
  have hst:=run_storeCells_cells (P:=Tryz.prog) b ((i+(n - j))*21) zs 0 W1 (fun k hk=>by
   rw [Nat.add_zero,BY hb1,agg (by rw [hsz1];omega)];rfl) (fun k hk=>by simp [World.frozen?,hb1]) (by rw [hzs];exact Gl hz4)
  rw [Nat.add_zero,hzs] at hst
  rw [hzs]
  obtain ⟨m,hm'⟩:∃ m,n - (i+(n - j))=m+1:=⟨n - (i+(n - j)) - 1,by omega⟩
  rw [hm'] at hst ⊢
  simp [Builtin.clear_,run_underlying Tryz.underlying36,zeroValue,typeInfo,hi0,hz0,hst]
 have hzo:∀ v∈zs,v.oneCell'=true:=by rw [hzs];exact Gl hz4
 clear hzs
 have hW:Hid (W1=w.drew.setCells b (0+i*21) news):=hW1
 have hic:i<=cap:=by omega
 have hjc:j<=cap:=by omega
 have mixed:Tryz.prog.follows Departure.mixedOrders=true:=by kernel_rfl
 have hne:¬ (i:Int)=(j:Int):=by omega
 clear hW1 hW1r hb1 hb hget hlen hsz1
 go_enter Tryz.func160,Tryz.ntmps160
 go_wp2_with fail
 go_region_law_o (refine step_append_room rfl (.tmp 22) (.tmp 25) 36 rfl 117 i0 21 Tryz.underlying36 hi0 hz1 b 0 i cap (by simp [Act.eval,Act.put]) A (n - j) (cap - j) news (by simp [Act.eval,Act.put]) s1.out hsrc.out s2.out (by omega) s3.out ?_;rw [<- hW.out])
 go_wp2
 go_ret
 rw [hW.out,Nat.zero_add]
 exact ⟨by rw [show i+(n - j)=n - (j - i) by omega];rfl,zs,hzl,hzo,by rw [hnews]⟩
theorem V5 (a:Addr) (n cap i:Nat) (w:World) (hin:i<=n) (hcap:n<=cap) :
  Calls Tryz.prog 160 #[.slice (some a) n cap,.int .i64 i,.int .i64 i] w fun e w'=>e=.returned (.slice (some a) n cap)/\w'=w:=by
 obtain ⟨ab,ao,asp⟩:=a
 have hic:i<=cap:=by omega
 go_enter Tryz.func160,Tryz.ntmps160
 go_wp2
 all_goals (go_ret;exact ⟨rfl,rfl⟩)
theorem Vv (w:World) :
  Calls Tryz.prog 160 #[.slice none 0 0,.int .i64 (0:Nat),.int .i64 (0:Nat)] w fun e w'=>e=.returned (.slice none 0 0)/\w'=w:=by
 go_enter Tryz.func160,Tryz.ntmps160
 go_wp2
 all_goals (go_ret;exact ⟨rfl,rfl⟩)
theorem zaV [GK] {args:List VVal} {H:List Ob} {res:VVal} {H':List Ob} (h:D9 21 args H=some (res,H')):CR Tryz.prog 160 args H res H' :=
 L5 Vv V5 Zb h
end Go.V
