/- Part 13 of the proof. -/
import Derived.Test.YtddgomjodbmohaaGreatDoorC12
import Derived.Test.YtddgomjodbmohaaGreatDoorC4
import Derived.Shelf.Strconv.Itoa3
import Derived.Shelf.Strings.Cut
import Derived.Test.YtddgomjodbmohaaGreatDoorC11
import Derived.Test.YtddgomjodbmohaaGreatDoorC5
set_option linter.unusedSectionVars false
set_option linter.unusedSimpArgs false
set_option linter.unusedVariables false
open Nat renaming le_refl → lrf
open List renaming getElem?_eq_getElem → lgg, getElem?_eq_some_iff → lgs, mem_map → lmm, map_nil → lpn, length_map → llm, eq_nil_of_length_eq_zero → lez
open Option renaming some.injEq → osi
open Array renaming getElem?_eq_some_iff → ags
open Prod renaming mk.injEq → pmi
namespace Go.V
open Go.RowKit Go.Sort Go.Proofs Go.Shelf
section
variable [GK]
theorem below_grown (w : World) (k : Nat) (os : Array Obj) : Below w.heap.size w (grow (w.drewN k) os) :=
 ⟨rfl,rfl,rfl,by simp [grow],fun b hb=>by simp only [grow,World.heap_drewN]; exact Array.getElem?_append_left hb⟩
theorem XItoa_ok {P : Program} {ρ : Ren} (L : LaysM.n171 P ρ) (hT : ∀ w, Keep w → Lib.TabIs P w "internal/strconv.uint64pow10" .u64 Lib.pow10Tab) {args : List VVal} {H : List Ob} {res : VVal} {H' : List Ob} (h : XItoa args H = some (res, H')) : CallOK P (ρ.f 171) args H res H' := by
 unfold XItoa at h
 split at h <;> try (cases h; done)
 rename_i n
 obtain ⟨hn,h⟩:=gd_eq h
 simp only [osi,pmi] at h
 obtain ⟨rfl,rfl⟩:=h
 intro G w cargs hinv hgd hlen hargs _
 obtain ⟨c,rfl⟩:=args1 hlen
 have hc:=vrel_int (hargs 0 _ c rfl rfl)
 subst hc
 refine (Any.strconv_Itoa L n hn.1 hn.2 w (hT w hgd.keep)).mono fun e w' ⟨he,k,os,hw⟩=>?_
 subst he
 have hb : Below w.heap.size w w':=by subst hw; exact below_grown ..
 exact ⟨_,_,_,[.p (.str (itoaS n))],rfl,Step.grown hinv hb,hinv.grown hb,vrel_mkStr _,by simp [outs,outsT,outO,ownIds1,ownIds0,argOwns,nodupB,gd,out1,out0],by simp [outH]⟩
theorem XCut_ok {P : Program} {ρ : Ren} (L : Lays.n145 P ρ) (hM : ∀ w,Keep w -> ∃ m,w.cell? ⟨(ρ.g 1),0,none⟩ = some (.int .i64 m)) {args : List VVal} {H : List Ob} {res : VVal} {H' : List Ob} (h : XCut args H = some (res,H')) : CallOK P (ρ.f 145) args H res H':=by
 unfold XCut at h
 split at h <;> try (cases h; done)
 rename_i s sep
 obtain ⟨hs,h⟩:=gd_eq h
 simp only [osi,pmi] at h
 obtain ⟨rfl,rfl⟩:=h
 intro G w cargs hinv hgd hlen hargs _
 obtain ⟨c,d,rfl⟩:=args2 hlen
 have hc:=vrel_str (hargs 0 _ c rfl rfl)
 have hd:=vrel_str (hargs 1 _ d rfl rfl)
 subst hc
 subst hd
 obtain ⟨m,hm⟩:=hM w hgd.keep
 refine (Any.strings_Cut L s sep m w hs hm).mono fun e w' ⟨he,n,hw⟩=>?_
 subst he
 have hb : Below w.heap.size w w':=by subst hw; exact ⟨rfl,rfl,rfl,lrf _,fun _ _=>rfl⟩
 refine ⟨_,_,_,[.p (.str ⟨(cutS s sep).1.toArray⟩),.p (.str ⟨(cutS s sep).2.1.toArray⟩),.p (.bool (cutS s sep).2.2)],rfl,Step.grown hinv hb,hinv.grown hb,⟨_,rfl,rfl,fun i v c hv hc=>?_⟩,by simp [outs,outsT,ownIds1,ownIds0,argOwns,nodupB,gd,out1,out0,mapO,ob],by simp [outH]⟩
 match i with
 | 0=>simp at hv hc; subst hv; subst hc; exact vrel_mkStr _
 | 1=>simp at hv hc; subst hv; subst hc; exact vrel_mkStr _
 | 2=>simp at hv hc; subst hv; subst hc; exact vrel_mkBool _
 | n + 3=>simp at hv
end
end Go.V
namespace Go.V
open Go.RowKit Go.Sort Go.Proofs Go.Shelf
section
variable [GK]
def encP {ps : List (Int × Int)} (x : Sub ps) : List Value:=[.int .i64 x.1.1,.int .i64 x.1.2]
def cfP {ps : List (Int × Int)} (x y : Sub ps) : Int:=x.1.1 - y.1.1
theorem XQ_ok {P : Program} {ρ : Ren} (L : SlLaysF0.n6 P ρ) (aE : ∀ w,(isAgg (ρ.t 24)).run P w = .ok true w) (zE : ∀ w,(Go.sizeOf (ρ.t 24)).run P w = .ok 2 w) {g : FuncId} (eg : ∀ args w,(callFunc g args).run P w = .ok (.enter g args) w)
  (hcl : ∀ (x y : Int × Int) (W : World),0 <= x.1 -> x.1 < 4611686018427387904 -> 0 <= y.1 -> y.1 < 4611686018427387904 -> Calls P g #[.agg #[.int .i64 x.1,.int .i64 x.2],.agg #[.int .i64 y.1,.int .i64 y.2]] W fun e w'=>e = .returned (.int .i64 (x.1 - y.1)) /\ ∃ q os',w' = grow (W.drewN q) os')
  {args : List VVal} {H : List Ob} {res : VVal} {H' : List Ob} (h : XQ g args H = some (res,H')) : CallOK P (ρ.f 6) args H res H':=by
 unfold XQ at h
 split at h <;> try (cases h; done)
 rename_i n g' xs
 obtain ⟨hg,h⟩:=gd_eq h
 obtain ⟨hn,h⟩:=gd_eq h
 obtain ⟨hbig,h⟩:=gd_eq h
 obtain ⟨ps,hps,h⟩:=ob_eq h
 obtain ⟨hbd,h⟩:=gd_eq h
 simp only [osi,pmi] at h
 obtain ⟨rfl,rfl⟩:=h
 subst hg
 have hxs:=mapO_map (g:=pairPV) (fun x y=>unPair_eq) hps
 have hpl : ps.length = n:=by rw [hn,hxs,llm]
 intro G w cargs hinv hgd hlen hargs _
 have hsize : cargs.size = 2:=by simpa using hlen.symm
 obtain ⟨c,f,hc⟩ : ∃ c f,cargs = #[c,f]:=by
  match hcl : cargs.toList with
  | [c,f]=>exact ⟨c,f,by rw [<- Array.toList_inj,hcl]⟩
  | []=>simp [<- Array.length_toList,hcl] at hsize
  | [_]=>simp [<- Array.length_toList,hcl] at hsize
  | _ :: _ :: _ :: _=>simp [<- Array.length_toList,hcl] at hsize
 subst hc
 have hf : f = .func (.func g') #[] #[]:=by
  have:=hargs 1 _ f rfl rfl
  cases this with
  | p hp _=>cases hp; rfl
 subst hf
 obtain ⟨a,cap,rfl,harg⟩:=sort_arg hinv (hargs 0 _ c rfl rfl) hn
 by_cases h0 : n = 0
 ·subst h0
  have hz : ps = []:=lez hpl
  subst hz
  simp only [lpn] at hxs
  subst hxs
  refine (AnyF.slices_SortFunc_none L a cap _ w).mono fun e w' ⟨he,hw⟩=>?_
  subst he
  subst hw
  exact ⟨.tuple #[],G,_,[],rfl,Step.refl _ _ _,hinv,⟨#[],rfl,rfl,fun i v c h=>by simp at h⟩,by simp [outs,outsT,outO,argOwns,enterH,nodupB,gd,mapO,ob],by simp [sortQ_nil,outH,outBox,enterH,ob]⟩
 ·rcases harg with h1 | ⟨rfl,hm,arr,t,hb,hcap,hcells⟩
  ·exact absurd h1 h0
  ·have hne : ps ≠ []:=fun e=>by rw [e] at hpl; exact h0 hpl.symm
   letI:=inhS hne
   have hlt:=(ags.1 hb).1
   have hget : ∀ (l : List (Sub ps)) (i j : Nat),i < l.length -> j < 2 -> (flatK encP 2 l.toArray)[i * 2 + j]! = (encP l[i]!)[j]!:=fun l i j hi hj=>by
    rw [get_flatK _ _ _ _ (by simp; omega),show (i * 2 + j) / 2 = i by omega,show (i * 2 + j) % 2 = j by omega]
    simp
   have hat : ∀ i (hi : i < n),(ps.attach[i]!).1 = ps[i]'(by omega):=fun i hi=>by
    rw [getElem!_pos ps.attach i (by simp; omega)]
    simp
   have hcell : ∀ i j,i < n -> j < 2 -> arr[i * 2 + j]? = some ((encP (ps.attach[i]!))[j]!):=fun i j hi hj=>by
    have hx : xs[i]? = some (pairPV (ps.attach[i]!).1):=by
     rw [hxs,List.getElem?_map,lgg (by omega),hat i hi]
     rfl
    match j,hj with
    | 0,_ =>
     obtain ⟨v,e1,e2⟩:=hcells i _ 0 _ hx rfl
     cases e2
     exact e1
    | 1,_ =>
     obtain ⟨v,e1,e2⟩:=hcells i _ 1 _ hx rfl
     cases e2
     exact e1
   have hH : HoldsK (encP (ps:=ps)) 2 w (G.blk (.arg 0 0)) 0 ps.attach.toArray:=fun k hk=>by
    have hk' : k < n * 2:=by simpa [hpl] using hk
    have e : k = (k / 2) * 2 + k % 2:=by omega
    have:=hcell (k / 2) (k % 2) (by omega) (by omega)
    rw [<- e] at this
    constructor
    ·rw [Nat.zero_add,cell_block hb,this]
     have:=hget ps.attach (k / 2) (k % 2) (by simp; omega) (by omega)
     rw [<- e] at this
     rw [id,this]
    .simp [World.frozen?,hb]
   have hcmp : CmpLays P g' #[] (encP (ps:=ps)) 2 cfP (G.blk (.arg 0 0)) 0 ps.attach.toArray.size w:=fun m os dk _ x y=>by
    have hx:=hbd x.1 x.2
    have hy:=hbd y.1 y.2
    exact hcl x.1 y.1 _ hx.1 hx.2 hy.1 hy.2
   have hcon:=AnyQ.slices_SortFunc_eq L 2 aE zE encP (fun _=>rfl) (fun x v hv=>by simp [encP] at hv; rcases hv with rfl | rfl <;> rfl) cfP (swoS (ps:=ps)) g' #[] (G.blk (.arg 0 0)) 0 cap ps.attach.toArray w eg hcmp hH hlt (by simp; omega)
   have hS0 : pdq (ltOf cfP) ps.attach.toArray 0 ps.attach.toArray.size (Lib.bitLen ps.attach.toArray.size) true true = sortA ps hne:=by
    simp only [List.size_toArray,List.length_attach]
    rfl
   rw [hS0] at hcon
   simp only [List.size_toArray,List.length_attach,hpl] at hcon
   refine hcon.mono fun e w' ⟨he,q,os,hw⟩=>?_
   subst he
   obtain ⟨S,hSv⟩ : ∃ S : List (Sub ps),sortA ps hne = S.toArray:=⟨(sortA ps hne).toList,by simp⟩
   rw [hSv] at hw
   obtain ⟨a1,a2,a3,a4,a5,a6⟩:=sort_world id hb hw
   have hval : sortQ ps = S.map Subtype.val:=by
    unfold sortQ
    rw [dif_pos hne,hSv]
   have hml : S.length = n:=by
    have:=(sortA_ok ps hne).1.length_eq
    rw [hSv] at this
    simp at this
    omega
   have hsz : arr.size = G.cap (.arg 0 0) * 2:=hcap.2
   refine sort_end hinv hm hb hcap (by simp [hval,hml,hn]) (by intro x hx; simp only [lmm] at hx; obtain ⟨p,_,rfl⟩:=hx; rfl) a1 (size_putCells ..) a2 a3 a4 a5 a6 fun i x j c hx hj=>?_
   rw [hval] at hx
   rw [List.map_map,List.getElem?_map,Option.map_eq_some_iff] at hx
   obtain ⟨z,hz,rfl⟩:=hx
   have hi : i < S.length:=(lgs.1 hz).1
   have hzi : S[i]! = z:=by rw [getElem!_pos S i hi]; exact (lgs.1 hz).2
   have hj2 : j < 2:=by
    have:=(lgs.1 hj).1
    simpa [pairPV,PV.cells] using this
   have hcap2 : n * 2 <= arr.size:=by
    rw [hsz]
    have:=hcap.1
    rw [<- hn] at this
    omega
   have hg1:=get_putCells id 0 (flatK encP 2 S.toArray) arr (k:=i * 2 + j) (by simp; omega) (by omega)
   rw [Nat.zero_add,hget S i j hi hj2,hzi] at hg1
   match j,hj2,hj,hg1 with
   | 0,_,hj,hg1 =>
    simp [pairPV,PV.cells] at hj
    subst hj
    exact ⟨_,hg1,rfl,fun _ _=>.int _ _⟩
   | 1,_,hj,hg1 =>
    simp [pairPV,PV.cells] at hj
    subst hj
    exact ⟨_,hg1,rfl,fun _ _=>.int _ _⟩
end
end Go.V
