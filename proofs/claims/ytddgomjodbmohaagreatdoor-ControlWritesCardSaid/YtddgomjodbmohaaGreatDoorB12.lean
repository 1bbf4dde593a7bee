/- Part 12 of the proof. -/
import Derived.Test.YtddgomjodbmohaaGreatDoorB10
import Derived.Test.YtddgomjodbmohaaGreatDoorB2
import Derived.Shelf.Slices.CompactI
set_option linter.unusedSectionVars false
set_option linter.unusedSimpArgs false
set_option linter.unusedVariables false
open Nat renaming le_refl → lrf
open List renaming getElem?_eq_getElem → lgg, getElem?_eq_some_iff → lgs, mem_map → lmm, map_nil → lpn, length_map → llm, eq_nil_of_length_eq_zero → lez, length_take → llt, cons_append → lca
open Option renaming some.injEq → osi
open Array renaming getElem?_eq_some_iff → ags
open Prod renaming mk.injEq → pmi
namespace Go.V
open Go.RowKit Go.Sort Go.Proofs Go.Shelf
section
variable [GK]
theorem compR_snoc : ∀ (r : List Int) (x y : Int),compR x (r ++ [y]) = compR x r ++ (if (x :: r).getLast? = some y then [] else [y])
 | [],x,y=>by
  by_cases h : y = x
  .subst h; simp [compR]
  .simp [compR,h,Ne.symm h]
 | z :: r,x,y=>by
  have ih:=compR_snoc r z y
  have e : (x :: z :: r).getLast? = (z :: r).getLast?:=by simp [List.getLast?_cons_cons]
  rw [lca,e]
  simp only [compR]
  split
  .exact ih
  .rw [ih,lca]
theorem compL_snoc (l : List Int) (y : Int) : compL (l ++ [y]) = compL l ++ (if l.getLast? = some y then [] else [y]):=by
 cases l with
 | nil=>simp [compL,compR]
 | cons x r =>
  rw [lca]
  simp only [compL]
  rw [compR_snoc,lca]
theorem compact_upto (zs : List Int) : ∀ m,m <= zs.length -> Lib.compactUpTo zs.toArray m = compL (zs.take m)
 | 0,_=>by simp [Lib.compactUpTo,compL]
 | m + 1,h=>by
  have hm : zs[m]? = some zs[m]:=lgg (by omega)
  have htk : zs.take (m + 1) = zs.take m ++ [zs[m]]:=by rw [List.take_add_one,hm]; rfl
  have hg : zs.toArray[m]! = zs[m]:=by rw [getElem!_pos zs.toArray m (by simpa using (show m < zs.length by omega))]; simp
  rw [Lib.compactUpTo_succ,compact_upto zs m (by omega),htk,compL_snoc,hg]
  congr 1
  by_cases h0 : m = 0
  ·subst h0
   simp [Lib.keeps]
  ·have hg1 : zs.toArray[m - 1]! = zs[m - 1]:=by rw [getElem!_pos zs.toArray (m - 1) (by simpa using (show m - 1 < zs.length by omega))]; simp
   have hl : (zs.take m).getLast? = some zs[m - 1]:=by
    rw [List.getLast?_eq_getElem?,llt,show min m zs.length = m by omega,List.getElem?_take,if_pos (by omega)]
    exact lgg (by omega)
   rw [hl]
   unfold Lib.keeps
   rw [hg,hg1]
   by_cases he : zs[m] = zs[m - 1]
   .simp [h0,he]
   .simp [h0,he,Ne.symm he]
theorem compact_eq (zs : List Int) : Lib.compact zs = compL zs:=by
 rw [Lib.compact,compact_upto zs zs.length (lrf _),List.take_length]
theorem sort_state {G : Gh} {w w' : World} {sz : Nat} {xs xs' : List PV} {arr arr' : Array Value} {t : TypeId} (hinv : HeapInv G (enterH [.arr sz xs]) w) (hm : G.kind (G.blk (.arg 0 0)) = .mine (.arg 0 0)) (hb : w.heap[G.blk (.arg 0 0)]? = some (.cells arr t (0,0)))
  (hcap : xs.length <= G.cap (.arg 0 0) /\ arr.size = G.cap (.arg 0 0) * sz) (hlen : xs'.length = xs.length) (hcs : ∀ x ∈ xs',x.cells.length = sz) (hb' : w'.heap[G.blk (.arg 0 0)]? = some (.cells arr' t (0,0))) (hsz' : arr'.size = arr.size)
  (hoth : ∀ b,b < w.heap.size -> b ≠ G.blk (.arg 0 0) -> w'.heap[b]? = w.heap[b]?) (hsize : w.heap.size <= w'.heap.size) (hos : w'.os = w.os) (htp : w'.tape = w.tape) (hout : w'.output = w.output)
  (hcells : ∀ (i : Nat) (x : PV) (j : Nat) (c : PV),xs'[i]? = some x -> x.cells[j]? = some c -> ∃ v,arr'[i * sz + j]? = some v /\ v.oneCell' = true /\ ∀ fz u,PRel fz u c v) :
  ∃ G' h',Step G (enterH [.arr sz xs]) w G' h' w' /\ HeapInv G' h' w' /\ h' (.arg 0 0) = some (0,.arr sz xs') /\ outH h' 0 1 = some [.arr sz xs']:=by
 have hh : enterH [.arr sz xs] (.arg 0 0) = some (0,.arr sz xs):=rfl
 have hlt:=(ags.1 hb).1
 have hst : Step G (enterH [.arr sz xs]) w { G with kind:=fun b=>if b < w.heap.size then G.kind b else .other } ((enterH [.arr sz xs]).upd (.arg 0 0) (0,.arr sz xs')) w':={
  frozen:=fun b hk hl=>⟨by simp [hl,hk],hoth b hl (fun e=>by rw [e,hm] at hk; cases hk)⟩
  other:=fun b hk hl=>⟨by simp [hl,hk],hoth b hl (fun e=>by rw [e,hm] at hk; cases hk)⟩
  mine:=fun b id hl hk=>.inl (by simpa [hl] using hk)
  frz:=fun b hl hk=>.inl (by simpa [hl] using hk)
  size:=hsize
  os:=hos
  tape:=htp
  output:=hout
  vers:=fun id v o hi=>by
   by_cases he : id = .arg 0 0
   ·subst he
    rw [hh] at hi
    simp at hi
    obtain ⟨rfl,rfl⟩:=hi
    exact ⟨0,_,upd_same _ _ _,lrf _,fun _=>⟨rfl,rfl,by simp [SameOb,hlen],fun _ _ _ _=>by simp [hlt,hm]⟩⟩
   ·refine ⟨v,o,by rw [upd_other _ _ he]; exact hi,lrf _,fun _=>⟨rfl,rfl,by cases o <;> simp [SameOb],fun s x ho hk=>?_⟩⟩
    simp [blk_lt hinv hi hk (by rw [ho]; simp),hk] }
 refine ⟨_,_,hst,fun id v o hi=>?_,upd_same _ _ _,by simp [outH,outBox,upd_same,ob]⟩
 by_cases he : id = .arg 0 0
 ·subst he
  rw [upd_same] at hi
  simp at hi
  obtain ⟨rfl,rfl⟩:=hi
  refine ⟨hcs,.inr (by simp [hlt,hm]),fun _=>⟨by rw [hlen]; exact hcap.1,arr',t,hb',by rw [hsz']; exact hcap.2,fun i x j c hx hj=>?_⟩⟩
  obtain ⟨v,e1,e2,e3⟩:=hcells i x j c hx hj
  exact ⟨v,e1,e2,e3 _ _⟩
 ·rw [upd_other _ _ he] at hi
  simp only [enterH] at hi
  split at hi
  ·rename_i i
   cases i with
   | zero=>exact absurd rfl he
   | succ i=>simp at hi
  .cases hi
theorem XC_ok {P : Program} {ρ : Ren} (L : Lays2.n20 P ρ) {args : List VVal} {H : List Ob} {res : VVal} {H' : List Ob} (h : XC args H = some (res,H')) : CallOK P (ρ.f 20) args H res H':=by
 unfold XC at h
 split at h <;> try (cases h; done)
 rename_i n xs
 obtain ⟨hn,h⟩:=gd_eq h
 obtain ⟨hbig,h⟩:=gd_eq h
 obtain ⟨zs,hzs,h⟩:=ob_eq h
 simp only [osi,pmi] at h
 obtain ⟨rfl,rfl⟩:=h
 have hxs:=mapO_map (g:=PV.int .i64) (fun x y=>unI_eq) hzs
 have hzl : zs.length = n:=by rw [hn,hxs,llm]
 intro G w cargs hinv hgd hlen hargs _
 have hsize : cargs.size = 1:=by simpa using hlen.symm
 obtain ⟨c,hc⟩ : ∃ c,cargs = #[c]:=by
  match hcl : cargs.toList with
  | [c]=>exact ⟨c,by rw [<- Array.toList_inj,hcl]⟩
  | []=>simp [<- Array.length_toList,hcl] at hsize
  | _ :: _ :: _=>simp [<- Array.length_toList,hcl] at hsize
 subst hc
 obtain ⟨a,cap,rfl,harg⟩:=sort_arg hinv (hargs 0 _ c rfl rfl) hn
 by_cases h0 : n = 0
 ·subst h0
  have hz : zs = []:=lez hzl
  subst hz
  simp only [lpn] at hxs
  subst hxs
  refine (Any.slices_Compact_int_empty L a cap w).mono fun e w' ⟨he,hw⟩=>?_
  subst he
  subst hw
  exact ⟨_,G,_,[.own (.arg 0 0) 0 0 0],rfl,Step.refl _ _ _,hinv,hargs 0 _ _ rfl rfl,by simp [outs,outsT,outO,ownIds1,ownIds0,argOwns,enterH,nodupB,gd,alive,compL],by simp [outH,outBox,enterH,ob,compL]⟩
 ·rcases harg with h1 | ⟨rfl,hm,arr,t,hb,hcap,hcells⟩
  ·exact absurd h1 h0
  ·have hget : ∀ k,k < n -> arr[k]? = some (.int .i64 zs[k]!):=fun k hk=>by
    have hx : xs[k]? = some (.int .i64 zs[k]!):=by
     rw [hxs,List.getElem?_map,lgg (by omega)]
     simp [List.getElem!_eq_getElem?_getD,lgg (show k < zs.length by omega)]
    obtain ⟨v,e1,e2⟩:=hcells k _ 0 _ hx rfl
    cases e2
    simpa using e1
   have hH : Holds (Value.int .i64) w (G.blk (.arg 0 0)) 0 zs.toArray:=fun j hj=>by
    have hj' : j < n:=by simpa [hzl] using hj
    constructor
    ·rw [Nat.zero_add,cell_block hb,hget j hj']
     simp
    ·have:=hget j hj'
     simp [World.frozen?,hb]
   have hvr:=hargs 0 _ _ rfl rfl
   have hca : zs.length <= cap:=by
    cases hvr with
    | own _ hcap' _ _ _=>rw [hzl]; exact hcap'
   have hcon:=Any.slices_Compact_int L (G.blk (.arg 0 0)) 0 cap zs w hH (by omega) hca
   rw [compact_eq,hzl] at hcon
   refine hcon.mono fun e w' ⟨he,q,hw⟩=>?_
   subst he
   have hw' : w' = grow (putRow (Value.int .i64) (Go.Sort.ahead w q) (G.blk (.arg 0 0)) 0 (compL zs ++ List.replicate (n - (compL zs).length) 0).toArray) #[]:=by
    rw [hw]
    unfold grow
    rw [Array.append_empty]
   obtain ⟨a1,a2,a3,a4,a5,a6⟩:=sort_world (Value.int .i64) hb hw'
   have hcl:=compL_len zs
   have hml : (compL zs ++ List.replicate (n - (compL zs).length) 0).length = n:=by simp; omega
   obtain ⟨G',h',hst,hinv',hh',hout'⟩:=sort_state (xs':=(compL zs ++ List.replicate (n - (compL zs).length) 0).map (.int .i64)) hinv hm hb hcap (by rw [llm,hml,hn]) (fun x hx=>by obtain ⟨z,_,rfl⟩:=lmm.1 hx; rfl) a1 (size_putCells ..) a2 a3 a4 a5 a6 fun i x j c hx hj=>by
    rw [List.getElem?_map,Option.map_eq_some_iff] at hx
    obtain ⟨z,hz,rfl⟩:=hx
    cases j with
    | succ j=>simp [PV.cells] at hj
    | zero =>
     simp [PV.cells] at hj
     subst hj
     have hi : i < (compL zs ++ List.replicate (n - (compL zs).length) 0).length:=(lgs.1 hz).1
     refine ⟨.int .i64 z,?_,rfl,fun _ _=>.int _ _⟩
     have hai : i < arr.size:=(ags.1 (hget i (by omega))).1
     have hg1:=get_putCells (Value.int .i64) 0 (compL zs ++ List.replicate (n - (compL zs).length) 0).toArray arr (k:=i) (by simpa using hi) (by omega)
     rw [Nat.zero_add] at hg1
     simp only [Nat.mul_one,Nat.add_zero]
     rw [hg1]
     rw [getElem!_pos _ i (by simpa using hi)]
     simp only [List.getElem_toArray]
     rw [(lgs.1 hz).2]
   have hv2:=VRel.mono hst hvr
   refine ⟨_,G',h',[.own (.arg 0 0) 0 0 (compL zs).length],rfl,hst,hinv',?_,?_,by rw [hzl]; exact hout'⟩
   ·cases hv2 with
    | own h1 h2 h3 h4 h5 =>
     refine .own rfl (by omega) h3 h4 fun e=>?_
     obtain ⟨sz,xs2,e1,e2,e3⟩:=h5 e
     exact ⟨sz,xs2,e1,by omega,e3⟩
   .simp [outs,outsT,outO,ownIds1,ownIds0,argOwns,nodupB,gd,alive,hh']
end
end Go.V
