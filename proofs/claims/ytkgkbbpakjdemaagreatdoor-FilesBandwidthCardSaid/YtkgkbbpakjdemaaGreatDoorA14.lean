/- Part 14 of the proof. -/
import Derived.Test.YtkgkbbpakjdemaaGreatDoorA13
import Derived.Test.YtkgkbbpakjdemaaGreatDoorA3
import Derived.Shelf.Strings.OnBuilder
import Derived.Shelf.Strings.Split
import Derived.Shelf.Spec.TrailingZeros
set_option linter.unusedSectionVars false
set_option linter.unusedSimpArgs false
set_option linter.unusedVariables false
open Nat renaming le_refl → lrf
open List renaming take_of_length_le → ltl, length_map → llm, eq_nil_of_length_eq_zero → lez
open Option renaming some.injEq → osi
open Array renaming getElem?_eq_some_iff → ags
open Prod renaming mk.injEq → pmi
namespace Go.V
open Go.RowKit Go.Proofs Go.Shelf
section
variable [GK]
abbrev Keep (w : World) : Prop:=∀ b B,GK.K b = some B -> w.heap[b]? = some B
theorem Good.keep {G : Gh} {w : World} (h : Good G w) : Keep w:=fun b B hb=>(h b B hb).2.2
def Gh.cut (G : Gh) (w : World) : Gh:={ G with kind:=fun b=>if b < w.heap.size then G.kind b else .other }
theorem Step.grown {G : Gh} {h : VHeap} {w w' : World} (hinv : HeapInv G h w) (hw : Below w.heap.size w w') : Step G h w (G.cut w) h w' where
 frozen:=fun b hk hl=>⟨by simp [Gh.cut,hl,hk],hw.block b hl⟩
 other:=fun b hk hl=>⟨by simp [Gh.cut,hl,hk],hw.block b hl⟩
 mine:=fun b id hl hk=>.inl (by simpa [Gh.cut,hl] using hk)
 frz:=fun b hl hk=>.inl (by simpa [Gh.cut,hl] using hk)
 size:=hw.size
 os:=hw.os
 tape:=hw.tape
 output:=hw.output
 vers:=fun id v o hi=>⟨v,o,hi,lrf _,fun _=>⟨rfl,rfl,by cases o <;> simp [SameOb],fun s x ho hk=>by simp [Gh.cut,blk_lt hinv hi hk (by rw [ho]; simp),hk]⟩⟩
theorem HeapInv.grown {G : Gh} {h : VHeap} {w w' : World} (hinv : HeapInv G h w) (hw : Below w.heap.size w w') : HeapInv (G.cut w) h w':=fun id v o hi=>by
 by_cases hg : o = .gone
 ·subst hg; trivial
 ·refine OBRel.keep (Step.grown hinv hw) (hinv id v o hi) rfl rfl (fun hm=>?_) fun hm=>?_
  ·have hlt:=blk_lt hinv hi hm hg
   exact ⟨by simp [Gh.cut,hlt,hm],hw.block _ hlt⟩
  ·simp only [Gh.cut] at hm
   split at hm
   .exact hm
   .cases hm
theorem args2 {cargs : Array Value} (h : 2 = cargs.size) : ∃ a b,cargs = #[a,b]:=by
 match hcl : cargs.toList with
 | [a,b]=>exact ⟨a,b,by rw [<- Array.toList_inj,hcl]⟩
 | []=>simp [<- Array.length_toList,hcl] at h
 | [_]=>simp [<- Array.length_toList,hcl] at h
 | _ :: _ :: _ :: _=>simp [<- Array.length_toList,hcl] at h
theorem args1 {cargs : Array Value} (h : 1 = cargs.size) : ∃ a,cargs = #[a]:=by
 match hcl : cargs.toList with
 | [a]=>exact ⟨a,by rw [<- Array.toList_inj,hcl]⟩
 | []=>simp [<- Array.length_toList,hcl] at h
 | _ :: _ :: _=>simp [<- Array.length_toList,hcl] at h
theorem XSplit_ok {P : Program} {ρ : Ren} (L : Lays.n146 P ρ) (hi9 : (P.info? (ρ.t 9)).map (fun i=>(i.zero,i.size,i.bytes)) = some (some (.string ByteArray.empty),1,16)) (hM : ∀ w,Keep w -> ∃ m,w.cell? ⟨(ρ.g 1),0,none⟩ = some (.int .i64 m))
  {args : List VVal} {H : List Ob} {res : VVal} {H' : List Ob} (h : XSplit args H = some (res,H')) : CallOK P (ρ.f 146) args H res H':=by
 unfold XSplit at h
 split at h <;> try (cases h; done)
 rename_i s sep
 obtain ⟨hs,h⟩:=gd_eq h
 obtain ⟨h1,h⟩:=gd_eq h
 simp only [osi,pmi] at h
 obtain ⟨rfl,rfl⟩:=h
 intro G w cargs hinv hgd hlen hargs _
 obtain ⟨c,d,rfl⟩:=args2 hlen
 have hc:=vrel_str (hargs 0 _ c rfl rfl)
 have hd:=vrel_str (hargs 1 _ d rfl rfl)
 subst hc
 subst hd
 obtain ⟨m,hm⟩:=hM w hgd.keep
 refine (Any.strings_Split L hi9 s sep m w hs hm h1).mono fun e w' ⟨he,hw⟩=>?_
 subst he
 subst hw
 have hlen:=Lib.splitB_all sep h1 0 _ s rfl
 obtain ⟨G',hst,hinv',hv⟩:=new_arr (w':=w.alloc (.cells ((Lib.splitB sep 0 (Lib.countB s sep) s).map Value.string).toArray (ρ.t 9))) hinv (.slot 0 0) 1 ((splitS s sep).map PV.str) (Lib.countB s sep + 1) (by simp) (fun b hb=>Below.heap_alloc w _ b hb) rfl rfl rfl (heap_alloc_new w _) (by simp [PV.cells]) (by simp [hlen]) (by simp [hlen]) fun i x j c hx hj=>by
  rw [List.getElem?_map,Option.map_eq_some_iff] at hx
  obtain ⟨z,hz,rfl⟩:=hx
  cases j with
  | succ j=>simp [PV.cells] at hj
  | zero =>
   simp [PV.cells] at hj
   subst hj
   exact ⟨.string z,by simp [hz],rfl,.str z⟩
 rw [llm,hlen] at hv
 refine ⟨_,G',_,[.own (.slot 0 0) (nv (enterH [] (.slot 0 0))) 0 (Lib.countB s sep + 1)],rfl,hst,hinv',hv,?_,by simp [outH]⟩
 have ht : List.take (Lib.countB s sep + 1) ((splitS s sep).map PV.str) = (splitS s sep).map PV.str:=ltl (by simp [splitS,hlen])
 simp [outs,outsT,outO,ownIds1,ownIds0,argOwns,nodupB,capsApart,capIds1,capIds0,gd,out1,out0,velems,upd_same,ob,hlen,ht]
theorem XJoin_ok {P : Program} {ρ : Ren} (L : Lays.n156 P ρ) (X : Builder.Extra P ρ) {args : List VVal} {H : List Ob} {res : VVal} {H' : List Ob} (h : XJoin args H = some (res,H')) : CallOK P (ρ.f 156) args H res H':=by
 unfold XJoin at h
 split at h <;> try (cases h; done)
 rename_i n sep xs
 obtain ⟨hn,h⟩:=gd_eq h
 obtain ⟨hbig,h⟩:=gd_eq h
 obtain ⟨ss,hss,h⟩:=ob_eq h
 obtain ⟨hj,h⟩:=gd_eq h
 simp only [osi,pmi] at h
 obtain ⟨rfl,rfl⟩:=h
 have hxs:=mapO_map (g:=PV.str) (fun x y=>unS_eq) hss
 have hsl : ss.length = n:=by rw [hn,hxs,llm]
 intro G w cargs hinv hgd hlen hargs _
 obtain ⟨c,d,rfl⟩:=args2 hlen
 have hd:=vrel_str (hargs 1 _ d rfl rfl)
 subst hd
 obtain ⟨a,cap,rfl,harg⟩:=sort_arg hinv (hargs 0 _ c rfl rfl) hn
 have fin : ∀ w',Below w.heap.size w w' -> ∃ c G' h' vs,Ending.returned (.string (joinS ss sep)) = .returned c /\ Step G (enterH [.arr 1 xs]) w G' h' w' /\ HeapInv G' h' w' /\ RetRel G' h' w' vs c /\ outs h' [Ob.arr 1 xs].length vs = some (.p (.str (joinS ss sep))) /\ outH h' 0 [Ob.arr 1 xs].length = some [.arr 1 xs]:=fun w' hb =>
  ⟨_,_,_,[.p (.str (joinS ss sep))],rfl,Step.grown hinv hb,hinv.grown hb,vrel_mkStr _,by simp [outs,outsT,outO,ownIds1,ownIds0,argOwns,enterH,nodupB,capsApart,capIds1,capIds0,gd,out1,out0],by simp [outH,outBox,enterH,ob]⟩
 by_cases h0 : n = 0
 ·subst h0
  have hz : ss = []:=lez hsl
  subst hz
  refine (Any.strings_Join_none L X a cap sep w).mono fun e w' ⟨he,hw⟩=>?_
  subst he
  subst hw
  exact fin w' (Below.refl _ _)
 ·rcases harg with h1 | ⟨rfl,hm,arr,t,hb,hcap,hcells⟩
  ·exact absurd h1 h0
  ·have hget : ∀ (k : Nat) (x : ByteArray),ss[k]? = some x -> w.cell? ⟨G.blk (.arg 0 0),0 + k,none⟩ = some (.string x):=fun k x hx=>by
    have hx' : xs[k]? = some (.str x):=by rw [hxs,List.getElem?_map,hx]; rfl
    obtain ⟨v,e1,e2⟩:=hcells k _ 0 _ hx' rfl
    cases e2
    rw [Nat.zero_add,cell_block hb]
    simpa using e1
   have hn' : n <= cap:=by
    have:=hargs 0 _ _ rfl rfl
    cases this with
    | own _ hc _ _ _=>exact hc
   have hcon:=Any.strings_Join L X (G.blk (.arg 0 0)) 0 cap ss sep w hget (ags.1 hb).1 (by omega) (by omega) hj
   rw [hsl] at hcon
   refine hcon.mono fun e w' ⟨he,hw⟩=>?_
   subst he
   exact fin w' hw
end
end Go.V
