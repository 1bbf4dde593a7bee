/- Part 10 of the proof. -/
import Derived.Test.YtekkdllchjmhdaaGreatF8
import Derived.Test.YtekkdllchjmhdaaGreatF2
import Derived.Shelf.Sort.Plain
import Derived.Shelf.Slices.In.SortNone
import Derived.Shelf.SlSortCmp.NoneTotal
import Derived.Shelf.SlSortCmp.WholeK
set_option linter.unusedSectionVars false
set_option linter.unusedSimpArgs false
set_option linter.unusedVariables false
set_option maxHeartbeats 32000000
open Nat renaming le_refl → lrf
open List renaming getElem?_eq_getElem → lgg, getElem?_eq_some_iff → lgs, map_cons → lpc, map_nil → lpn, length_map → llm, eq_nil_of_length_eq_zero → lez
open Option renaming some.injEq → osi
open Array renaming getElem?_eq_some_iff → ags
open Prod renaming mk.injEq → pmi
namespace Go.V
open Go.RowKit Go.Sort Go.Proofs Go.Shelf
section
variable [GK]
theorem MU {β:Type} [Inhabited β] (enc:β->Value) (off:Nat) (D:Array β) (c:Array Value):(putCells enc off D c).size=c.size:=by simp [putCells]
theorem Nh {β:Type} [Inhabited β] (enc:β->Value) (off:Nat) (D:Array β) (c:Array Value) {k:Nat} (hk:k<D.size) (hc:off+k<c.size):(putCells enc off D c)[off+k]?=some (enc D[k]!):=by
 simp [putCells,hc,hk]
theorem Of {β:Type} [Inhabited β] (enc:β->Value) {w w':World} {blk off q:Nat} {D:Array β} {os:Array Obj} {arr:Array Value} {t:TypeId} (hb:w.heap[blk]?=some (.cells arr t (0,0))) (hw:w'=grow (putRow enc (Go.Sort.ahead w q) blk off D) os) :
  w'.heap[blk]?=some (.cells (putCells enc off D arr) t (0,0))/\(∀ b,b<w.heap.size->b ≠ blk->w'.heap[b]?=w.heap[b]?)/\w.heap.size<=w'.heap.size/\w'.os=w.os/\w'.tape=w.tape/\w'.output=w.output:=by
 subst hw
 have hlt:=(ags.1 hb).1
 refine ⟨?_,fun b hbl hne=>?_,by simp [grow,putRow,mapBlock,Go.Sort.ahead],rfl,rfl,rfl⟩
 ·simp only [grow,putRow,mapBlock,Go.Sort.ahead]
  rw [Array.getElem?_append_left (by simpa using hlt),Array.getElem?_modify,if_pos rfl,hb]
  rfl
 ·simp only [grow,putRow,mapBlock,Go.Sort.ahead]
  rw [Array.getElem?_append_left (by simpa using hbl),Array.getElem?_modify,if_neg (Ne.symm hne)]
theorem PT {G:Gh} {w w':World} {sz:Nat} {xs xs':List PV} {arr arr':Array Value} {t:TypeId} (hinv:HeapInv G (As [.arr sz xs]) w) (hm:G.kind (G.blk (.arg 0 0))=.mine (.arg 0 0)) (hb:w.heap[G.blk (.arg 0 0)]?=some (.cells arr t (0,0)))
  (hcap:xs.length<=G.cap (.arg 0 0)/\arr.size=G.cap (.arg 0 0)*sz) (hlen:xs'.length=xs.length) (hcs:∀ x∈xs',x.cells.length=sz) (hb':w'.heap[G.blk (.arg 0 0)]?=some (.cells arr' t (0,0))) (hsz':arr'.size=arr.size)
  (hoth:∀ b,b<w.heap.size->b ≠ G.blk (.arg 0 0)->w'.heap[b]?=w.heap[b]?) (hsize:w.heap.size<=w'.heap.size) (hos:w'.os=w.os) (htp:w'.tape=w.tape) (hout:w'.output=w.output)
  (hcells:∀ (i:Nat) (x:PV) (j:Nat) (c:PV),xs'[i]?=some x->x.cells[j]?=some c->∃ v,arr'[i*sz+j]?=some v/\v.oneCell'=true/\∀ fz u,PRel fz u c v) :
  ∃ c G' h' vs,Ending.returned (.tuple #[])=.returned c/\Step G (As [.arr sz xs]) w G' h' w'/\HeapInv G' h' w'/\DI G' h' w' vs c/\Ck h' 1 vs=some (.tup [])/\Bf h' 0 1=some [.arr sz xs']:=by
 have hh:As [.arr sz xs] (.arg 0 0)=some (0,.arr sz xs):=rfl
 have hlt:=(ags.1 hb).1
 have hst:Step G (As [.arr sz xs]) w { G with kind:=fun b=>if b<w.heap.size then G.kind b else .other } ((As [.arr sz xs]).upd (.arg 0 0) (0,.arr sz xs')) w':={
  frozen:=fun b hk hl=>⟨by simp [hl,hk],hoth b hl (fun e=>by rw [e,hm] at hk;cases hk)⟩
  other:=fun b hk hl=>⟨by simp [hl,hk],hoth b hl (fun e=>by rw [e,hm] at hk;cases hk)⟩
  mine:=fun b id hl hk=>.inl (by simpa [hl] using hk)
  frz:=fun b hl hk=>.inl (by simpa [hl] using hk)
  size:=hsize
  os:=hos
  tape:=htp
  output:=hout
  vers:=fun id v o hi=>by
   by_cases he:id=.arg 0 0
   ·subst he
    rw [hh] at hi
    simp at hi
    obtain ⟨rfl,rfl⟩:=hi
    exact ⟨0,_,BE _ _ _,lrf _,fun _=>⟨rfl,rfl,by simp [SameOb,hlen],fun _ _ _ _=>by simp [hlt,hm]⟩⟩
   ·refine ⟨v,o,by rw [DO _ _ he];exact hi,lrf _,fun _=>⟨rfl,rfl,by cases o<;>simp [SameOb],fun s x ho hk=>?_⟩⟩
    simp [D0 hinv hi hk (by rw [ho];simp),hk] }
 refine ⟨.tuple #[],_,_,[],rfl,hst,fun id v o hi=>?_,⟨#[],rfl,rfl,fun i v c h=>by simp at h⟩,by simp [Ck,CS,Ez,Df,BE,DZ,EP,capIds1,capIds0,gd,Ad,ob],by simp [Bf,Eo,BE,ob]⟩
 by_cases he:id=.arg 0 0
 ·subst he
  rw [BE] at hi
  simp at hi
  obtain ⟨rfl,rfl⟩:=hi
  refine ⟨hcs,.inr (by simp [hlt,hm]),fun _=>⟨by rw [hlen];exact hcap.1,arr',t,hb',by rw [hsz'];exact hcap.2,fun i x j c hx hj=>?_⟩⟩
  obtain ⟨v,e1,e2,e3⟩:=hcells i x j c hx hj
  exact ⟨v,e1,e2,e3 _ _⟩
 ·rw [DO _ _ he] at hi
  simp only [As] at hi
  split at hi
  ·rename_i i
   cases i with
   | zero=>exact absurd rfl he
   | succ i=>simp at hi
  .cases hi
theorem PU {G:Gh} {w:World} {n sz:Nat} {xs:List PV} {c:Value} (hinv:HeapInv G (As [.arr sz xs]) w) (hv:VRel G (As [.arr sz xs]) w (.own (.arg 0 0) 0 0 n) c) (hn:n=xs.length) :
  ∃ a cap,c=.slice a n cap/\(n=0 \/ (a=some ⟨G.blk (.arg 0 0),0,none⟩/\G.kind (G.blk (.arg 0 0))=.mine (.arg 0 0)/\∃ arr t,w.heap[G.blk (.arg 0 0)]?=some (.cells arr t (0,0))/\(xs.length<=G.cap (.arg 0 0)/\arr.size=G.cap (.arg 0 0)*sz) /\
   ∀ (i:Nat) (x:PV) (j:Nat) (c:PV),xs[i]?=some x->x.cells[j]?=some c->∃ v,arr[i*sz+j]?=some v/\PRel (fun b=>G.kind b=.frozen) w c v)):=by
 cases hv with
 | @own _ _ _ _ a n' cap v o hn' hcap hh hle hoo =>
  have h0:As [.arr sz xs] (.arg 0 0)=some (0,.arr sz xs):=rfl
  rw [h0] at hh
  simp at hh
  obtain ⟨rfl,rfl⟩:=hh
  subst hn'
  obtain ⟨sz2,xs2,e,hlen,hreal⟩:=hoo rfl
  simp at e
  obtain ⟨rfl,rfl⟩:=e
  refine ⟨a,cap,rfl,?_⟩
  by_cases hz:n'=0
  ·exact .inl hz
  ·right
   rcases hreal with ⟨hc0,_⟩|⟨k1,k2,k3⟩
   ·omega
   ·obtain ⟨hcs,_,hall⟩:=hinv _ _ _ h0
    obtain ⟨a1,arr,t,a2,a3,a4⟩:=hall k1
    refine ⟨by rw [k3 (by omega)];simp,k1,arr,t,a2,⟨a1,a3⟩,fun i x j c hx hj=>?_⟩
    obtain ⟨v,e1,_,e3⟩:=a4 i x j c hx hj
    exact ⟨v,e1,e3⟩
theorem Jk {α β:Type} {f:α->Option β} {g:β->α} (hfg:∀ x y,f x=some y->x=g y):∀ {l:List α} {ys:List β},Ad f l=some ys->l=ys.map g
 | [],ys,h=>by simp [Ad] at h;subst h;rfl
 | x::xs,ys,h=>by
  simp only [Ad] at h
  obtain ⟨y,hy,h⟩:=Aa h
  obtain ⟨zs,hz,h⟩:=Aa h
  simp at h
  subst h
  rw [lpc,<- hfg x y hy,<- Jk hfg hz]
theorem zcX {P:Program} {ρ:Ren} (L:Lays.n189 P ρ) {args:List VVal} {H:List Ob} {res:VVal} {H':List Ob} (h:XI args H=some (res,H')):CR P (ρ.f 189) args H res H':=by
 unfold XI at h
 split at h<;>try (cases h;done)
 rename_i n xs
 obtain ⟨hn,h⟩:=Ab h
 obtain ⟨hbig,h⟩:=Ab h
 obtain ⟨zs,hzs,h⟩:=Aa h
 simp only [osi,pmi] at h
 obtain ⟨rfl,rfl⟩:=h
 have hxs:=Jk (g:=PV.int .i64) (fun x y=>Ra) hzs
 have hzl:zs.length=n:=by rw [hn,hxs,llm]
 intro G w cargs hinv hgd hlen hargs _
 have hsize:cargs.size=1:=by simpa using hlen.symm
 obtain ⟨c,hc⟩:∃ c,cargs=#[c]:=by
  match hcl:cargs.toList with
  | [c]=>exact ⟨c,by rw [<- Array.toList_inj,hcl]⟩
  | []=>simp [<- Array.length_toList,hcl] at hsize
  | _::_::_=>simp [<- Array.length_toList,hcl] at hsize
 subst hc
 obtain ⟨a,cap,rfl,harg⟩:=PU hinv (hargs 0 _ c rfl rfl) hn
 by_cases h0:n=0
 ·subst h0
  have hz:zs=[]:=lez hzl
  subst hz
  simp only [lpn] at hxs
  subst hxs
  refine (Any.slices_Sort_int_none L a cap w).mono fun e w' ⟨he,hw⟩=>?_
  subst he
  subst hw
  exact ⟨.tuple #[],G,_,[],rfl,Step.refl _ _ _,hinv,⟨#[],rfl,rfl,fun i v c h=>by simp at h⟩,by simp [Ck,CS,Ez,Df,As,DZ,EP,capIds1,capIds0,gd,Ad,ob],by simp [Bf,Eo,As,ob]⟩
 ·rcases harg with h1|⟨rfl,hm,arr,t,hb,hcap,hcells⟩
  ·exact absurd h1 h0
  ·have hget:∀ k,k<n->arr[k]?=some (.int .i64 zs[k]!):=fun k hk=>by
    have hx:xs[k]?=some (.int .i64 zs[k]!):=by
     rw [hxs,List.getElem?_map,lgg (by omega)]
     simp [List.getElem!_eq_getElem?_getD,lgg (show k<zs.length by omega)]
    obtain ⟨v,e1,e2⟩:=hcells k _ 0 _ hx rfl
    cases e2
    simpa using e1
   have hH:Holds (Value.int .i64) w (G.blk (.arg 0 0)) 0 zs.toArray:=fun j hj=>by
    have hj':j<n:=by simpa [hzl] using hj
    constructor
    ·rw [Nat.zero_add,BY hb,hget j hj']
     simp
    ·have:=hget j hj'
     simp [World.frozen?,hb]
   have hcon:=Any.slices_Sort_int L (G.blk (.arg 0 0)) 0 cap zs w hH (ags.1 hb).1 (by omega)
   rw [hzl] at hcon
   refine hcon.mono fun e w' ⟨he,q,os,hw⟩=>?_
   subst he
   obtain ⟨a1,a2,a3,a4,a5,a6⟩:=Of (Value.int .i64) hb hw
   have hml:(zs.mergeSort fun x y=>decide (x<=y)).length=zs.length:=List.length_mergeSort ..
   refine PT hinv hm hb hcap (by simp [hml,hzl,hn]) (by simp [PV.cells]) a1 (MU ..) a2 a3 a4 a5 a6 fun i x j c hx hj=>?_
   rw [List.getElem?_map,Option.map_eq_some_iff] at hx
   obtain ⟨z,hz,rfl⟩:=hx
   cases j with
   | succ j=>simp [PV.cells] at hj
   | zero =>
    simp [PV.cells] at hj
    subst hj
    have hi:i<zs.length:=by rw [<- hml];exact (lgs.1 hz).1
    refine ⟨.int .i64 z,?_,rfl,fun _ _=>.int _ _⟩
    have hai:i<arr.size:=by
     have:=(ags.1 (hget i (by omega))).1
     exact this
    have:=Nh (Value.int .i64) 0 (zs.mergeSort fun x y=>decide (x<=y)).toArray arr (k:=i) (by simpa [hml] using hi) (by omega)
    rw [Nat.zero_add] at this
    rw [Nat.mul_one,Nat.add_zero,this]
    simp [List.getElem!_eq_getElem?_getD,hz]
end
end Go.V
