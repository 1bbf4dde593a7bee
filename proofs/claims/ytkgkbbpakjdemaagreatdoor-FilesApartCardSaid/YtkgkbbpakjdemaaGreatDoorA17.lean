/- Part 17 of the proof. -/
import Derived.Test.YtkgkbbpakjdemaaGreatDoorA14
import Derived.Test.YtkgkbbpakjdemaaGreatDoorA10
import Derived.Test.YtkgkbbpakjdemaaGreatDoorA2
import Derived.Test.YtkgkbbpakjdemaaGreatDoorProg
import Derived.Shelf.RegionOpenPlain
import Derived.WalkKit
import Derived.Deep.LoopGhost
import Derived.Lib.Walk
import Derived.Lib.SliceRun
import Derived.Test.YtkgkbbpakjdemaaGreatDoorA13
import Derived.Test.YtkgkbbpakjdemaaGreatDoorA6
set_option linter.unusedSectionVars false
set_option linter.unusedSimpArgs false
set_option linter.unusedVariables false
open Nat renaming le_refl → lrf
open List renaming getElem?_eq_getElem → lgg, getElem?_eq_some_iff → lgs, mem_of_getElem? → lmg, mem_map → lmm, map_nil → lpn, length_map → llm, eq_nil_of_length_eq_zero → lez
open Option renaming some.injEq → osi
open Array renaming getElem?_eq_some_iff → ags
open Prod renaming mk.injEq → pmi
namespace Go.V
open Go.RowKit Go.Sort Go.Proofs Go.Shelf Go.Lib
theorem info_of {P : Program} {e : TypeId} {sz bt : Nat} (h : ((P.info? e).bind fun i=>i.zero.map fun z=>(z.cells.size,i.size,i.bytes)) = some (sz,sz,bt)) : ∃ i z,P.info? e = some i /\ i.zero = some z /\ i.size = sz /\ i.bytes = bt /\ z.cells.size = sz:=by
 cases hi : P.info? e with
 | none=>rw [hi] at h; cases h
 | some i =>
  rw [hi] at h
  cases hz : i.zero with
  | none=>simp [hz] at h
  | some z =>
   simp only [Option.bind_some,hz,Option.map_some,osi,pmi] at h
   exact ⟨i,z,rfl,hz,h.2.1,h.2.2,h.1⟩
theorem made_world {G : Gh} {w w' : World} {h : VHeap} (hinv : HeapInv G h w) (id : Id) {sz : Nat} {xs : List PV} {e : TypeId} {v' : Value} {ad : Option Addr} {news : List Value} (hrow : RowOf (fun b=>G.kind b = .frozen) w sz xs ad news)
  (hown : w'.ownsRow w.heap.size e sz v' xs.length news) (hb : Below w.heap.size w w') :
  ∃ G',Step G h w G' (h.upd id (nv (h id),.arr sz xs)) w' /\ HeapInv G' (h.upd id (nv (h id),.arr sz xs)) w' /\ VRel G' (h.upd id (nv (h id),.arr sz xs)) w' (.own id (nv (h id)) 0 xs.length) v':=by
 rcases hown.2 with ⟨rfl,hn⟩ | ⟨g,cap,cur,rfl,hbg,hg,hnc,hcm,hcs,htk⟩
 ·have hx : xs = []:=lez hn
  subst hx
  have s1:=Step.grown hinv hb
  obtain ⟨G',s2,i2,v2⟩:=new_nil (HeapInv.grown hinv hb) id sz none
  exact ⟨G',s1.trans s2,i2,v2⟩
 ·have hgl : g < w'.heap.size:=(ags.1 hg).1
  have hb1 : Below w.heap.size w { w' with heap:=w'.heap.extract 0 g }:=⟨hb.os,hb.tape,hb.output,by simp; omega,fun k hk=>by
   rw [<- hb.block k hk]
   simp only [Array.getElem?_extract]
   rw [if_pos (by omega),Nat.zero_add]⟩
  have hsz : ({ w' with heap:=w'.heap.extract 0 g } : World).heap.size = g:=by simp; omega
  have s1:=Step.grown hinv hb1
  have i1:=HeapInv.grown hinv hb1
  generalize hw1 : ({ w' with heap:=w'.heap.extract 0 g } : World) = w1 at s1 i1 hsz hb1
  obtain ⟨G',s2,i2,v2⟩:=new_arr (w':=w') i1 id sz xs cap (arr:=cur) (t:=e) (by omega) (fun b hlt=>by
   subst hw1
   simp only [Array.getElem?_extract]
   rw [if_pos (by omega),Nat.zero_add]) (by subst hw1; rfl) (by subst hw1; rfl) (by subst hw1; rfl) (by rw [hsz]; exact hg) hrow.cs hnc hcs (fun i x j c hx hj=>by
    obtain ⟨u,hu,hr⟩:=hrow.rel i x j c hx hj
    refine ⟨u,?_,hrow.one u (lmg hu),hr.mono s1.keeps s1.size⟩
    have hil : i * sz + j < xs.length * sz:=by
     have:=(lgs.1 hu).1
     rw [hrow.len] at this
     exact this
    rw [<- htk,List.getElem?_take_of_lt hil] at hu
    simpa using hu)
  rw [hsz] at v2
  exact ⟨G',s1.trans s2,i2,v2⟩
set_option maxHeartbeats 4000000 in
set_option maxRecDepth 100000 in
theorem walkCloneI (ad : Addr) (n c : Nat) (news : List Value) (w : World) (hl : news.length = n * 1) (hbig : n * 8 <= 140737488355328) (hc : ∀ j u,news[j]? = some u -> w.cell? (ad.add j) = some u) (h1 : ∀ u ∈ news,u.oneCell' = true) :
  Calls Tryz.prog 45 #[.slice (some ad) n c] w fun e w'=>∃ v',e = .returned v' /\ w'.ownsRow w.heap.size 3 1 v' n news /\ Below w.heap.size w w':=by
 obtain ⟨i0,z0,hi,hz0,hz1,hz2,hz3⟩:=info_of (P:=Tryz.prog) (e:=3) (sz:=1) (bt:=8) (by kernel_rfl)
 have q : ∀ (w : World) (a : Option Addr) (n c n' c' : Nat),(binOp .eql 22 (.slice a n c) (.slice none n' c')).run Tryz.prog w = .ok (.bool a.isNone) w:=fun w a n c n' c'=>Lib.run_eql_slice_nil w _ _ a n c n' c' Tryz.underlying22
 have u : ∀ w,Sem.run Tryz.prog (underlying 22) w = .ok (TypeDesc.slice 3) w:=run_underlying Tryz.underlying22
 have A : Aside ((∀ j u,news[j]? = some u -> w.cell? (ad.add j) = some u) /\ (∀ u ∈ news,u.oneCell' = true) /\ news.length = n * 1):=⟨hc,h1,hl⟩
 clear hc h1 hl
 go_enter Tryz.func45,Tryz.ntmps45
 go_wp2_with (at_builtin; refine wpList_append_own _ rfl _ _ 22 rfl w.heap.size 3 i0 z0 1 8 Tryz.underlying22 hi hz0 hz1 hz2 hz3 (by decide) _ _ _ rfl (World.ownsRow_made w #[] 0 (lrf _) (Nat.zero_le _) rfl) ad n c news rfl A.out.2.2 ?qc2 A.out.2.1 ?qc4 ?qc5 ?qc6 ?_)
 case qc2 =>
  intro j u hj
  exact Lib.cell?_alloc_some _ (A.out.1 j u hj)
 case qc4=>unfold maxLen; omega
 case qc5=>omega
 case qc6=>simp
 intro v' w1 hown hgrow hnil
 go_wp2
 go_ret
 refine ⟨v',rfl,by simpa using hown,?_⟩
 exact ((Below.refl _ w).alloc (lrf _) _).grown hgrow (by simp) (by intro k hk; simp [Value.ownBlock] at hk; omega)
set_option maxHeartbeats 4000000 in
theorem walkCloneI_nil (n c : Nat) (w : World) :
  Calls Tryz.prog 45 #[.slice none n c] w fun e w'=>e = .returned (.slice none 0 0) /\ w' = w:=by
 have q : ∀ (w : World) (a : Option Addr) (n c n' c' : Nat),(binOp .eql 22 (.slice a n c) (.slice none n' c')).run Tryz.prog w = .ok (.bool a.isNone) w:=fun w a n c n' c'=>Lib.run_eql_slice_nil w _ _ a n c n' c' Tryz.underlying22
 go_enter Tryz.func45,Tryz.ntmps45
 go_wp2
 go_ret
 exact ⟨rfl,rfl⟩
theorem XCloneI_ok [GK] {args : List VVal} {H : List Ob} {res : VVal} {H' : List Ob} (h : XClone 1 8 args H = some (res,H')) : CallOK Tryz.prog 45 args H res H':=by
 unfold XClone at h
 split at h <;> try (cases h; done)
 rename_i k xs
 obtain ⟨hk,h⟩:=gd_eq h
 obtain ⟨hby,h⟩:=gd_eq h
 obtain ⟨h63,h⟩:=gd_eq h
 simp only [osi,pmi] at h
 obtain ⟨rfl,rfl⟩:=h
 subst hk
 intro G w cargs hinv hgd hlen hargs _
 obtain ⟨c,rfl⟩:=args1 hlen
 obtain ⟨ad,cap,news,rfl,hrow⟩:=elems_row hinv (hargs 0 _ c rfl rfl) (show velems (enterH []) (.p (.slice 1 xs)) = some (1,xs) from rfl)
 have fin : ∀ v' w',w'.ownsRow w.heap.size 3 1 v' xs.length news -> Below w.heap.size w w' -> ∃ c G' h' vs,Ending.returned v' = .returned c /\ Step G (enterH []) w G' h' w' /\ HeapInv G' h' w' /\ RetRel G' h' w' vs c /\ outs h' ([] : List Ob).length vs = some (.fresh 1 xs) /\ outH h' 0 ([] : List Ob).length = some []:=fun v' w' hown hb=>by
  obtain ⟨G',hst,hinv',hv⟩:=made_world hinv (.slot 0 0) hrow hown hb
  refine ⟨v',G',_,[.own (.slot 0 0) (nv (enterH [] (.slot 0 0))) 0 xs.length],rfl,hst,hinv',hv,?_,by simp [outH]⟩
  simp [outs,outsT,outO,ownIds1,ownIds0,argOwns,nodupB,capsApart,capIds1,capIds0,gd,out1,out0,velems,upd_same,ob]
 cases ad with
 | none =>
  have hx : xs = []:=by
   cases xs with
   | nil=>rfl
   | cons x r=>obtain ⟨a,ha,_⟩:=hrow.at_ (by simp); cases ha
  refine (walkCloneI_nil _ _ w).mono fun e w' ⟨he,hw⟩=>?_
  subst he
  subst hw
  have hn : news = []:=lez (by rw [hrow.len,hx]; simp)
  exact fin _ _ ⟨by rw [hn,hx]; simp,.inl ⟨rfl,by rw [hx]; rfl⟩⟩ (Below.refl _ _)
 | some a =>
  have hcell : ∀ j u,news[j]? = some u -> w.cell? (a.add j) = some u:=fun j u hj=>by
   by_cases h0 : 0 < xs.length
   ·obtain ⟨a',ha,hc⟩:=hrow.at_ h0
    cases ha
    exact hc j u hj
   ·have hn : news = []:=lez (by rw [hrow.len,show xs.length = 0 by omega,Nat.zero_mul])
    rw [hn] at hj
    simp at hj
  refine (walkCloneI a xs.length cap news w hrow.len hby hcell hrow.one).mono fun e w' ⟨v',he,hown,hb⟩=>?_
  subst he
  exact fin v' w' hown hb
set_option maxHeartbeats 4000000 in
set_option maxRecDepth 100000 in
theorem walkCloneD (ad : Addr) (n c : Nat) (news : List Value) (w : World) (hl : news.length = n * 7) (hbig : n * 56 <= 140737488355328) (hc : ∀ j u,news[j]? = some u -> w.cell? (ad.add j) = some u) (h1 : ∀ u ∈ news,u.oneCell' = true) :
  Calls Tryz.prog 46 #[.slice (some ad) n c] w fun e w'=>∃ v',e = .returned v' /\ w'.ownsRow w.heap.size 83 7 v' n news /\ Below w.heap.size w w':=by
 obtain ⟨i0,z0,hi,hz0,hz1,hz2,hz3⟩:=info_of (P:=Tryz.prog) (e:=83) (sz:=7) (bt:=56) (by kernel_rfl)
 have q : ∀ (w : World) (a : Option Addr) (n c n' c' : Nat),(binOp .eql 28 (.slice a n c) (.slice none n' c')).run Tryz.prog w = .ok (.bool a.isNone) w:=fun w a n c n' c'=>Lib.run_eql_slice_nil w _ _ a n c n' c' Tryz.underlying28
 have u : ∀ w,Sem.run Tryz.prog (underlying 28) w = .ok (TypeDesc.slice 83) w:=run_underlying Tryz.underlying28
 have A : Aside ((∀ j u,news[j]? = some u -> w.cell? (ad.add j) = some u) /\ (∀ u ∈ news,u.oneCell' = true) /\ news.length = n * 7):=⟨hc,h1,hl⟩
 clear hc h1 hl
 go_enter Tryz.func46,Tryz.ntmps46
 go_wp2_with (at_builtin; refine wpList_append_own _ rfl _ _ 28 rfl w.heap.size 83 i0 z0 7 56 Tryz.underlying28 hi hz0 hz1 hz2 hz3 (by decide) _ _ _ rfl (World.ownsRow_made w #[] 0 (lrf _) (Nat.zero_le _) rfl) ad n c news rfl A.out.2.2 ?qc2 A.out.2.1 ?qc4 ?qc5 ?qc6 ?_)
 case qc2 =>
  intro j u hj
  exact Lib.cell?_alloc_some _ (A.out.1 j u hj)
 case qc4=>unfold maxLen; omega
 case qc5=>omega
 case qc6=>simp
 intro v' w1 hown hgrow hnil
 go_wp2
 go_ret
 refine ⟨v',rfl,by simpa using hown,?_⟩
 exact ((Below.refl _ w).alloc (lrf _) _).grown hgrow (by simp) (by intro k hk; simp [Value.ownBlock] at hk; omega)
set_option maxHeartbeats 4000000 in
theorem walkCloneD_nil (n c : Nat) (w : World) :
  Calls Tryz.prog 46 #[.slice none n c] w fun e w'=>e = .returned (.slice none 0 0) /\ w' = w:=by
 have q : ∀ (w : World) (a : Option Addr) (n c n' c' : Nat),(binOp .eql 28 (.slice a n c) (.slice none n' c')).run Tryz.prog w = .ok (.bool a.isNone) w:=fun w a n c n' c'=>Lib.run_eql_slice_nil w _ _ a n c n' c' Tryz.underlying28
 go_enter Tryz.func46,Tryz.ntmps46
 go_wp2
 go_ret
 exact ⟨rfl,rfl⟩
theorem XCloneD_ok [GK] {args : List VVal} {H : List Ob} {res : VVal} {H' : List Ob} (h : XClone 7 56 args H = some (res,H')) : CallOK Tryz.prog 46 args H res H':=by
 unfold XClone at h
 split at h <;> try (cases h; done)
 rename_i k xs
 obtain ⟨hk,h⟩:=gd_eq h
 obtain ⟨hby,h⟩:=gd_eq h
 obtain ⟨h63,h⟩:=gd_eq h
 simp only [osi,pmi] at h
 obtain ⟨rfl,rfl⟩:=h
 subst hk
 intro G w cargs hinv hgd hlen hargs _
 obtain ⟨c,rfl⟩:=args1 hlen
 obtain ⟨ad,cap,news,rfl,hrow⟩:=elems_row hinv (hargs 0 _ c rfl rfl) (show velems (enterH []) (.p (.slice 7 xs)) = some (7,xs) from rfl)
 have fin : ∀ v' w',w'.ownsRow w.heap.size 83 7 v' xs.length news -> Below w.heap.size w w' -> ∃ c G' h' vs,Ending.returned v' = .returned c /\ Step G (enterH []) w G' h' w' /\ HeapInv G' h' w' /\ RetRel G' h' w' vs c /\ outs h' ([] : List Ob).length vs = some (.fresh 7 xs) /\ outH h' 0 ([] : List Ob).length = some []:=fun v' w' hown hb=>by
  obtain ⟨G',hst,hinv',hv⟩:=made_world hinv (.slot 0 0) hrow hown hb
  refine ⟨v',G',_,[.own (.slot 0 0) (nv (enterH [] (.slot 0 0))) 0 xs.length],rfl,hst,hinv',hv,?_,by simp [outH]⟩
  simp [outs,outsT,outO,ownIds1,ownIds0,argOwns,nodupB,capsApart,capIds1,capIds0,gd,out1,out0,velems,upd_same,ob]
 cases ad with
 | none =>
  have hx : xs = []:=by
   cases xs with
   | nil=>rfl
   | cons x r=>obtain ⟨a,ha,_⟩:=hrow.at_ (by simp); cases ha
  refine (walkCloneD_nil _ _ w).mono fun e w' ⟨he,hw⟩=>?_
  subst he
  subst hw
  have hn : news = []:=lez (by rw [hrow.len,hx]; simp)
  exact fin _ _ ⟨by rw [hn,hx]; simp,.inl ⟨rfl,by rw [hx]; rfl⟩⟩ (Below.refl _ _)
 | some a =>
  have hcell : ∀ j u,news[j]? = some u -> w.cell? (a.add j) = some u:=fun j u hj=>by
   by_cases h0 : 0 < xs.length
   ·obtain ⟨a',ha,hc⟩:=hrow.at_ h0
    cases ha
    exact hc j u hj
   ·have hn : news = []:=lez (by rw [hrow.len,show xs.length = 0 by omega,Nat.zero_mul])
    rw [hn] at hj
    simp at hj
  refine (walkCloneD a xs.length cap news w hrow.len hby hcell hrow.one).mono fun e w' ⟨v',he,hown,hb⟩=>?_
  subst he
  exact fin v' w' hown hb
end Go.V
namespace Go.V
open Go.RowKit Go.Sort Go.Proofs Go.Shelf
section
variable [GK]
def encP {ps : List (Int × Int)} (x : Sub ps) : List Value:=[.int .i64 x.1.1,.int .i64 x.1.2]
def cfP {ps : List (Int × Int)} (x y : Sub ps) : Int:=x.1.1 - y.1.1
theorem XQ_ok {P : Program} {ρ : Ren} (L : SlLaysF0.n6 P ρ) (aE : ∀ w,(isAgg (ρ.t 24)).run P w = .ok true w) (zE : ∀ w,(Go.sizeOf (ρ.t 24)).run P w = .ok 2 w) {g : FuncId} (eg : ∀ args w,(callFunc g args).run P w = .ok (.enter g args) w)
  (hcl : ∀ (x y : Int × Int) (W : World),0 <= x.1 -> x.1 < 4611686018427387904 -> 0 <= y.1 -> y.1 < 4611686018427387904 -> Calls P g #[.agg #[.int .i64 x.1,.int .i64 x.2],.agg #[.int .i64 y.1,.int .i64 y.2]] W fun e w'=>e = .returned (.int .i64 (x.1 - y.1)) /\ ∃ q os',w' = grow (W.drewN q) os')
  {args : List VVal} {H : List Ob} {res : VVal} {H' : List Ob} (h : XQ g args H = some (res,H')) : CallOK P (ρ.f 6) args H res H':=by
 unfold XQ at h
 split at h <;> try (cases h; done)
 rename_i n g' xs
 obtain ⟨hg,h⟩:=gd_eq h
 obtain ⟨hn,h⟩:=gd_eq h
 obtain ⟨hbig,h⟩:=gd_eq h
 obtain ⟨ps,hps,h⟩:=ob_eq h
 obtain ⟨hbd,h⟩:=gd_eq h
 simp only [osi,pmi] at h
 obtain ⟨rfl,rfl⟩:=h
 subst hg
 have hxs:=mapO_map (g:=pairPV) (fun x y=>unPair_eq) hps
 have hpl : ps.length = n:=by rw [hn,hxs,llm]
 intro G w cargs hinv hgd hlen hargs _
 have hsize : cargs.size = 2:=by simpa using hlen.symm
 obtain ⟨c,f,hc⟩ : ∃ c f,cargs = #[c,f]:=by
  match hcl : cargs.toList with
  | [c,f]=>exact ⟨c,f,by rw [<- Array.toList_inj,hcl]⟩
  | []=>simp [<- Array.length_toList,hcl] at hsize
  | [_]=>simp [<- Array.length_toList,hcl] at hsize
  | _ :: _ :: _ :: _=>simp [<- Array.length_toList,hcl] at hsize
 subst hc
 have hf : f = .func (.func g') #[] #[]:=by
  have:=hargs 1 _ f rfl rfl
  cases this with
  | p hp _=>cases hp; rfl
 subst hf
 obtain ⟨a,cap,rfl,harg⟩:=sort_arg hinv (hargs 0 _ c rfl rfl) hn
 by_cases h0 : n = 0
 ·subst h0
  have hz : ps = []:=lez hpl
  subst hz
  simp only [lpn] at hxs
  subst hxs
  refine (AnyF.slices_SortFunc_none L a cap _ w).mono fun e w' ⟨he,hw⟩=>?_
  subst he
  subst hw
  exact ⟨.tuple #[],G,_,[],rfl,Step.refl _ _ _,hinv,⟨#[],rfl,rfl,fun i v c h=>by simp at h⟩,by simp [outs,outsT,outO,argOwns,enterH,nodupB,capsApart,capIds1,capIds0,gd,mapO,ob],by simp [sortQ_nil,outH,outBox,enterH,ob]⟩
 ·rcases harg with h1 | ⟨rfl,hm,arr,t,hb,hcap,hcells⟩
  ·exact absurd h1 h0
  ·have hne : ps ≠ []:=fun e=>by rw [e] at hpl; exact h0 hpl.symm
   letI:=inhS hne
   have hlt:=(ags.1 hb).1
   have hget : ∀ (l : List (Sub ps)) (i j : Nat),i < l.length -> j < 2 -> (flatK encP 2 l.toArray)[i * 2 + j]! = (encP l[i]!)[j]!:=fun l i j hi hj=>by
    rw [get_flatK _ _ _ _ (by simp; omega),show (i * 2 + j) / 2 = i by omega,show (i * 2 + j) % 2 = j by omega]
    simp
   have hat : ∀ i (hi : i < n),(ps.attach[i]!).1 = ps[i]'(by omega):=fun i hi=>by
    rw [getElem!_pos ps.attach i (by simp; omega)]
    simp
   have hcell : ∀ i j,i < n -> j < 2 -> arr[i * 2 + j]? = some ((encP (ps.attach[i]!))[j]!):=fun i j hi hj=>by
    have hx : xs[i]? = some (pairPV (ps.attach[i]!).1):=by
     rw [hxs,List.getElem?_map,lgg (by omega),hat i hi]
     rfl
    match j,hj with
    | 0,_ =>
     obtain ⟨v,e1,e2⟩:=hcells i _ 0 _ hx rfl
     cases e2
     exact e1
    | 1,_ =>
     obtain ⟨v,e1,e2⟩:=hcells i _ 1 _ hx rfl
     cases e2
     exact e1
   have hH : HoldsK (encP (ps:=ps)) 2 w (G.blk (.arg 0 0)) 0 ps.attach.toArray:=fun k hk=>by
    have hk' : k < n * 2:=by simpa [hpl] using hk
    have e : k = (k / 2) * 2 + k % 2:=by omega
    have:=hcell (k / 2) (k % 2) (by omega) (by omega)
    rw [<- e] at this
    constructor
    ·rw [Nat.zero_add,cell_block hb,this]
     have:=hget ps.attach (k / 2) (k % 2) (by simp; omega) (by omega)
     rw [<- e] at this
     rw [id,this]
    .simp [World.frozen?,hb]
   have hcmp : CmpLays P g' #[] (encP (ps:=ps)) 2 cfP (G.blk (.arg 0 0)) 0 ps.attach.toArray.size w:=fun m os dk _ x y=>by
    have hx:=hbd x.1 x.2
    have hy:=hbd y.1 y.2
    exact hcl x.1 y.1 _ hx.1 hx.2 hy.1 hy.2
   have hcon:=AnyQ.slices_SortFunc_eq L 2 aE zE encP (fun _=>rfl) (fun x v hv=>by simp [encP] at hv; rcases hv with rfl | rfl <;> rfl) cfP (swoS (ps:=ps)) g' #[] (G.blk (.arg 0 0)) 0 cap ps.attach.toArray w eg hcmp hH hlt (by simp; omega)
   have hS0 : pdq (ltOf cfP) ps.attach.toArray 0 ps.attach.toArray.size (Lib.bitLen ps.attach.toArray.size) true true = sortA ps hne:=by
    simp only [List.size_toArray,List.length_attach]
    rfl
   rw [hS0] at hcon
   simp only [List.size_toArray,List.length_attach,hpl] at hcon
   refine hcon.mono fun e w' ⟨he,q,os,hw⟩=>?_
   subst he
   obtain ⟨S,hSv⟩ : ∃ S : List (Sub ps),sortA ps hne = S.toArray:=⟨(sortA ps hne).toList,by simp⟩
   rw [hSv] at hw
   obtain ⟨a1,a2,a3,a4,a5,a6⟩:=sort_world id hb hw
   have hval : sortQ ps = S.map Subtype.val:=by
    unfold sortQ
    rw [dif_pos hne,hSv]
   have hml : S.length = n:=by
    have:=(sortA_ok ps hne).1.length_eq
    rw [hSv] at this
    simp at this
    omega
   have hsz : arr.size = G.cap (.arg 0 0) * 2:=hcap.2
   refine sort_end hinv hm hb hcap (by simp [hval,hml,hn]) (by intro x hx; simp only [lmm] at hx; obtain ⟨p,_,rfl⟩:=hx; rfl) a1 (size_putCells ..) a2 a3 a4 a5 a6 fun i x j c hx hj=>?_
   rw [hval] at hx
   rw [List.map_map,List.getElem?_map,Option.map_eq_some_iff] at hx
   obtain ⟨z,hz,rfl⟩:=hx
   have hi : i < S.length:=(lgs.1 hz).1
   have hzi : S[i]! = z:=by rw [getElem!_pos S i hi]; exact (lgs.1 hz).2
   have hj2 : j < 2:=by
    have:=(lgs.1 hj).1
    simpa [pairPV,PV.cells] using this
   have hcap2 : n * 2 <= arr.size:=by
    rw [hsz]
    have:=hcap.1
    rw [<- hn] at this
    omega
   have hg1:=get_putCells id 0 (flatK encP 2 S.toArray) arr (k:=i * 2 + j) (by simp; omega) (by omega)
   rw [Nat.zero_add,hget S i j hi hj2,hzi] at hg1
   match j,hj2,hj,hg1 with
   | 0,_,hj,hg1 =>
    simp [pairPV,PV.cells] at hj
    subst hj
    exact ⟨_,hg1,rfl,fun _ _=>.int _ _⟩
   | 1,_,hj,hg1 =>
    simp [pairPV,PV.cells] at hj
    subst hj
    exact ⟨_,hg1,rfl,fun _ _=>.int _ _⟩
end
end Go.V
