import Derived.Test.YtdbjijjeolnboaaGreatA16
import Derived.Test.YtdbjijjeolnboaaGreatA2
import Derived.Shelf.Sort.Plain
import Derived.Shelf.Slices.In.SortNone
import Derived.Shelf.SlSortCmp.NoneTotal
import Derived.Shelf.SlSortCmp.WholeK
set_option linter.unusedSectionVars false
set_option linter.unusedSimpArgs false
set_option linter.unusedVariables false
set_option maxHeartbeats 32000000
open Nat renaming le_refl → lrf
open List renaming getElem?_eq_getElem → lgg, getElem?_eq_some_iff → lgs, map_cons → lpc, mem_map → lmm, mem_cons → lmk, map_nil → lpn, length_map → llm, eq_nil_of_length_eq_zero → lez
open Option renaming some.injEq → osi
open Array renaming getElem?_eq_some_iff → ags
open Prod renaming mk.injEq → pmi
namespace Go.V
open Go.RowKit Go.Sort Go.Proofs Go.Shelf
section
variable [GK]
theorem N0 {β : Type} [Inhabited β] (enc : β -> Value) (off : Nat) (D : Array β) (c : Array Value) : (putCells enc off D c).size = c.size:=by simp [putCells]
theorem Ox {β : Type} [Inhabited β] (enc : β -> Value) (off : Nat) (D : Array β) (c : Array Value) {k : Nat} (hk : k < D.size) (hc : off + k < c.size) : (putCells enc off D c)[off + k]? = some (enc D[k]!):=by
 simp [putCells,hc,hk]
theorem PA {β : Type} [Inhabited β] (enc : β -> Value) {w w' : World} {blk off q : Nat} {D : Array β} {os : Array Obj} {arr : Array Value} {t : TypeId} (hb : w.heap[blk]? = some (.cells arr t (0,0))) (hw : w' = grow (putRow enc (Go.Sort.ahead w q) blk off D) os) :
  w'.heap[blk]? = some (.cells (putCells enc off D arr) t (0,0)) /\ (∀ b,b < w.heap.size -> b ≠ blk -> w'.heap[b]? = w.heap[b]?) /\ w.heap.size <= w'.heap.size /\ w'.os = w.os /\ w'.tape = w.tape /\ w'.output = w.output:=by
 subst hw
 have hlt:=(ags.1 hb).1
 refine ⟨?_,fun b hbl hne=>?_,by simp [grow,putRow,mapBlock,Go.Sort.ahead],rfl,rfl,rfl⟩
 ·simp only [grow,putRow,mapBlock,Go.Sort.ahead]
  rw [Array.getElem?_append_left (by simpa using hlt),Array.getElem?_modify,if_pos rfl,hb]
  rfl
 ·simp only [grow,putRow,mapBlock,Go.Sort.ahead]
  rw [Array.getElem?_append_left (by simpa using hbl),Array.getElem?_modify,if_neg (Ne.symm hne)]
theorem RA {G : Gh} {w w' : World} {sz : Nat} {xs xs' : List PV} {arr arr' : Array Value} {t : TypeId} (hinv : HeapInv G (AV [.arr sz xs]) w) (hm : G.kind (G.blk (.arg 0 0)) = .mine (.arg 0 0)) (hb : w.heap[G.blk (.arg 0 0)]? = some (.cells arr t (0,0)))
  (hcap : xs.length <= G.cap (.arg 0 0) /\ arr.size = G.cap (.arg 0 0) * sz) (hlen : xs'.length = xs.length) (hcs : ∀ x ∈ xs',x.cells.length = sz) (hb' : w'.heap[G.blk (.arg 0 0)]? = some (.cells arr' t (0,0))) (hsz' : arr'.size = arr.size)
  (hoth : ∀ b,b < w.heap.size -> b ≠ G.blk (.arg 0 0) -> w'.heap[b]? = w.heap[b]?) (hsize : w.heap.size <= w'.heap.size) (hos : w'.os = w.os) (htp : w'.tape = w.tape) (hout : w'.output = w.output)
  (hcells : ∀ (i : Nat) (x : PV) (j : Nat) (c : PV),xs'[i]? = some x -> x.cells[j]? = some c -> ∃ v,arr'[i * sz + j]? = some v /\ v.oneCell' = true /\ ∀ fz u,PRel fz u c v) :
  ∃ c G' h' vs,Ending.returned (.tuple #[]) = .returned c /\ Step G (AV [.arr sz xs]) w G' h' w' /\ HeapInv G' h' w' /\ E6 G' h' w' vs c /\ Eh h' 1 vs = some (.tup []) /\ B5 h' 0 1 = some [.arr sz xs']:=by
 have hh : AV [.arr sz xs] (.arg 0 0) = some (0,.arr sz xs):=rfl
 have hlt:=(ags.1 hb).1
 have hst : Step G (AV [.arr sz xs]) w { G with kind:=fun b=>if b < w.heap.size then G.kind b else .other } ((AV [.arr sz xs]).upd (.arg 0 0) (0,.arr sz xs')) w':={
  frozen:=fun b hk hl=>⟨by simp [hl,hk],hoth b hl (fun e=>by rw [e,hm] at hk; cases hk)⟩
  other:=fun b hk hl=>⟨by simp [hl,hk],hoth b hl (fun e=>by rw [e,hm] at hk; cases hk)⟩
  mine:=fun b id hl hk=>.inl (by simpa [hl] using hk)
  frz:=fun b hl hk=>.inl (by simpa [hl] using hk)
  size:=hsize
  os:=hos
  tape:=htp
  output:=hout
  vers:=fun id v o hi=>by
   by_cases he : id = .arg 0 0
   ·subst he
    rw [hh] at hi
    simp at hi
    obtain ⟨rfl,rfl⟩:=hi
    exact ⟨0,_,CF _ _ _,lrf _,fun _=>⟨rfl,rfl,by simp [SameOb,hlen],fun _ _ _ _=>by simp [hlt,hm]⟩⟩
   ·refine ⟨v,o,by rw [En _ _ he]; exact hi,lrf _,fun _=>⟨rfl,rfl,by cases o <;> simp [SameOb],fun s x ho hk=>?_⟩⟩
    simp [E5 hinv hi hk (by rw [ho]; simp),hk] }
 refine ⟨.tuple #[],_,_,[],rfl,hst,fun id v o hi=>?_,⟨#[],rfl,rfl,fun i v c h=>by simp at h⟩,by simp [Eh,DB,GV,FC,CF,FH,gd,Af,ob],by simp [B5,FE,CF,ob]⟩
 by_cases he : id = .arg 0 0
 ·subst he
  rw [CF] at hi
  simp at hi
  obtain ⟨rfl,rfl⟩:=hi
  refine ⟨hcs,.inr (by simp [hlt,hm]),fun _=>⟨by rw [hlen]; exact hcap.1,arr',t,hb',by rw [hsz']; exact hcap.2,fun i x j c hx hj=>?_⟩⟩
  obtain ⟨v,e1,e2,e3⟩:=hcells i x j c hx hj
  exact ⟨v,e1,e2,e3 _ _⟩
 ·rw [En _ _ he] at hi
  simp only [AV] at hi
  split at hi
  ·rename_i i
   cases i with
   | zero=>exact absurd rfl he
   | succ i=>simp at hi
  .cases hi
theorem RB {G : Gh} {w : World} {n sz : Nat} {xs : List PV} {c : Value} (hinv : HeapInv G (AV [.arr sz xs]) w) (hv : VRel G (AV [.arr sz xs]) w (.own (.arg 0 0) 0 0 n) c) (hn : n = xs.length) :
  ∃ a cap,c = .slice a n cap /\ (n = 0 \/ (a = some ⟨G.blk (.arg 0 0),0,none⟩ /\ G.kind (G.blk (.arg 0 0)) = .mine (.arg 0 0) /\ ∃ arr t,w.heap[G.blk (.arg 0 0)]? = some (.cells arr t (0,0)) /\ (xs.length <= G.cap (.arg 0 0) /\ arr.size = G.cap (.arg 0 0) * sz) /\
   ∀ (i : Nat) (x : PV) (j : Nat) (c : PV),xs[i]? = some x -> x.cells[j]? = some c -> ∃ v,arr[i * sz + j]? = some v /\ PRel (fun b=>G.kind b = .frozen) w c v)):=by
 cases hv with
 | @own _ _ _ _ a n' cap v o hn' hcap hh hle hoo =>
  have h0 : AV [.arr sz xs] (.arg 0 0) = some (0,.arr sz xs):=rfl
  rw [h0] at hh
  simp at hh
  obtain ⟨rfl,rfl⟩:=hh
  subst hn'
  obtain ⟨sz2,xs2,e,hlen,hreal⟩:=hoo rfl
  simp at e
  obtain ⟨rfl,rfl⟩:=e
  refine ⟨a,cap,rfl,?_⟩
  by_cases hz : n' = 0
  ·exact .inl hz
  ·right
   rcases hreal with ⟨hc0,_⟩ | ⟨k1,k2,k3⟩
   ·omega
   ·obtain ⟨hcs,_,hall⟩:=hinv _ _ _ h0
    obtain ⟨a1,arr,t,a2,a3,a4⟩:=hall k1
    refine ⟨by rw [k3 (by omega)]; simp,k1,arr,t,a2,⟨a1,a3⟩,fun i x j c hx hj=>?_⟩
    obtain ⟨v,e1,_,e3⟩:=a4 i x j c hx hj
    exact ⟨v,e1,e3⟩
theorem MB {α β : Type} {f : α -> Option β} {g : β -> α} (hfg : ∀ x y,f x = some y -> x = g y) : ∀ {l : List α} {ys : List β},Af f l = some ys -> l = ys.map g
 | [],ys,h=>by simp [Af] at h; subst h; rfl
 | x :: xs,ys,h=>by
  simp only [Af] at h
  obtain ⟨y,hy,h⟩:=Aa h
  obtain ⟨zs,hz,h⟩:=Aa h
  simp at h
  subst h
  rw [lpc,<- hfg x y hy,<- MB hfg hz]
theorem zcO {P : Program} {ρ : Ren} (L : Lays.n189 P ρ) {args : List VVal} {H : List Ob} {res : VVal} {H' : List Ob} (h : XI args H = some (res,H')) : Kk P (ρ.f 189) args H res H':=by
 unfold XI at h
 split at h <;> try (cases h; done)
 rename_i n xs
 obtain ⟨hn,h⟩:=Ad h
 obtain ⟨hbig,h⟩:=Ad h
 obtain ⟨zs,hzs,h⟩:=Aa h
 simp only [osi,pmi] at h
 obtain ⟨rfl,rfl⟩:=h
 have hxs:=MB (g:=PV.int .i64) (fun x y=>zch) hzs
 have hzl : zs.length = n:=by rw [hn,hxs,llm]
 intro G w cargs hinv hgd hlen hargs _
 have hsize : cargs.size = 1:=by simpa using hlen.symm
 obtain ⟨c,hc⟩ : ∃ c,cargs = #[c]:=by
  match hcl : cargs.toList with
  | [c]=>exact ⟨c,by rw [<- Array.toList_inj,hcl]⟩
  | []=>simp [<- Array.length_toList,hcl] at hsize
  | _ :: _ :: _=>simp [<- Array.length_toList,hcl] at hsize
 subst hc
 obtain ⟨a,cap,rfl,harg⟩:=RB hinv (hargs 0 _ c rfl rfl) hn
 by_cases h0 : n = 0
 ·subst h0
  have hz : zs = []:=lez hzl
  subst hz
  simp only [lpn] at hxs
  subst hxs
  refine (Any.slices_Sort_int_none L a cap w).mono fun e w' ⟨he,hw⟩=>?_
  subst he
  subst hw
  exact ⟨.tuple #[],G,_,[],rfl,Step.refl _ _ _,hinv,⟨#[],rfl,rfl,fun i v c h=>by simp at h⟩,by simp [Eh,DB,GV,FC,AV,FH,gd,Af,ob],by simp [B5,FE,AV,ob]⟩
 ·rcases harg with h1 | ⟨rfl,hm,arr,t,hb,hcap,hcells⟩
  ·exact absurd h1 h0
  ·have hget : ∀ k,k < n -> arr[k]? = some (.int .i64 zs[k]!):=fun k hk=>by
    have hx : xs[k]? = some (.int .i64 zs[k]!):=by
     rw [hxs,List.getElem?_map,lgg (by omega)]
     simp [List.getElem!_eq_getElem?_getD,lgg (show k < zs.length by omega)]
    obtain ⟨v,e1,e2⟩:=hcells k _ 0 _ hx rfl
    cases e2
    simpa using e1
   have hH : Holds (Value.int .i64) w (G.blk (.arg 0 0)) 0 zs.toArray:=fun j hj=>by
    have hj' : j < n:=by simpa [hzl] using hj
    constructor
    ·rw [Nat.zero_add,Fl hb,hget j hj']
     simp
    ·have:=hget j hj'
     simp [World.frozen?,hb]
   have hcon:=Any.slices_Sort_int L (G.blk (.arg 0 0)) 0 cap zs w hH (ags.1 hb).1 (by omega)
   rw [hzl] at hcon
   refine hcon.mono fun e w' ⟨he,q,os,hw⟩=>?_
   subst he
   obtain ⟨a1,a2,a3,a4,a5,a6⟩:=PA (Value.int .i64) hb hw
   have hml : (zs.mergeSort fun x y=>decide (x <= y)).length = zs.length:=List.length_mergeSort ..
   refine RA hinv hm hb hcap (by simp [hml,hzl,hn]) (by simp [PV.cells]) a1 (N0 ..) a2 a3 a4 a5 a6 fun i x j c hx hj=>?_
   rw [List.getElem?_map,Option.map_eq_some_iff] at hx
   obtain ⟨z,hz,rfl⟩:=hx
   cases j with
   | succ j=>simp [PV.cells] at hj
   | zero =>
    simp [PV.cells] at hj
    subst hj
    have hi : i < zs.length:=by rw [<- hml]; exact (lgs.1 hz).1
    refine ⟨.int .i64 z,?_,rfl,fun _ _=>.int _ _⟩
    have hai : i < arr.size:=by
     have:=(ags.1 (hget i (by omega))).1
     exact this
    have:=Ox (Value.int .i64) 0 (zs.mergeSort fun x y=>decide (x <= y)).toArray arr (k:=i) (by simpa [hml] using hi) (by omega)
    rw [Nat.zero_add] at this
    rw [Nat.mul_one,Nat.add_zero,this]
    simp [List.getElem!_eq_getElem?_getD,hz]
end
end Go.V
namespace Go.V
open Go.RowKit Go.Sort Go.Proofs Go.Shelf
section
variable [GK]
abbrev Sub (ps : List (Int × Int)):={ p : Int × Int // p ∈ ps }
def F2 {ps : List (Int × Int)} (x : Sub ps) : List Value:=[.int .i64 x.1.1,.int .i64 x.1.2]
def cfP {ps : List (Int × Int)} (x y : Sub ps) : Int:=x.1.1 - y.1.1
theorem ltP {ps : List (Int × Int)} (x y : Sub ps) : ltOf cfP x y = decide (x.1.1 < y.1.1):=by
 unfold ltOf cfP
 rw [decide_eq_decide]
 omega
theorem swoP {ps : List (Int × Int)} : SWO (ltOf (cfP (ps:=ps))) where
 irrefl x:=by rw [ltP]; simp
 trans x y z h1 h2:=by rw [ltP] at *; simp at *; omega
 ntrans x y z h1 h2:=by rw [ltP] at *; simp at *; omega
theorem SP : ∀ {ps : List (Int × Int)},(ps.map Prod.fst).Nodup -> ∀ x ∈ ps,∀ y ∈ ps,x.1 = y.1 -> x = y
 | [],_,x,hx,_,_,_=>by simp at hx
 | p :: ps,h,x,hx,y,hy,e=>by
  rw [lpc,List.nodup_cons] at h
  rcases lmk.1 hx with hx | hx <;> rcases lmk.1 hy with hy | hy
  .rw [hx,hy]
  .exact absurd (lmm.2 ⟨y,hy,by rw [<- e,hx]⟩) h.1
  .exact absurd (lmm.2 ⟨x,hx,by rw [e,hy]⟩) h.1
  .exact SP h.2 x hx y hy e
theorem totP {ps : List (Int × Int)} (h : (ps.map Prod.fst).Nodup) (x y : Sub ps) (h1 : ltOf cfP x y = false) (h2 : ltOf cfP y x = false) : x = y:=by
 rw [ltP] at h1 h2
 simp at h1 h2
 exact Subtype.ext (SP h x.1 x.2 y.1 y.2 (by omega))
theorem Yu {ps : List (Int × Int)} : (ps.attach.mergeSort fun x y=>!(ltOf cfP) y x).map Subtype.val = ps.mergeSort fun x y=>decide (x.1 <= y.1):=by
 rw [List.map_mergeSort (s:=fun x y=>decide (x.1 <= y.1)),List.attach_map_subtype_val]
 intro a _ b _
 rw [ltP,Bool.eq_iff_iff]
 simp
theorem zcN {P : Program} {ρ : Ren} (L : SlLaysF0.n6 P ρ) (aE : ∀ w,(isAgg (ρ.t 24)).run P w = .ok true w) (zE : ∀ w,(Go.sizeOf (ρ.t 24)).run P w = .ok 2 w) {g : FuncId} (eg : ∀ args w,(callFunc g args).run P w = .ok (.enter g args) w)
  (hcl : ∀ (x y : Int × Int) (W : World),0 <= x.1 -> x.1 < 4611686018427387904 -> 0 <= y.1 -> y.1 < 4611686018427387904 -> Calls P g #[.agg #[.int .i64 x.1,.int .i64 x.2],.agg #[.int .i64 y.1,.int .i64 y.2]] W fun e w'=>e = .returned (.int .i64 (x.1 - y.1)) /\ ∃ q os',w' = grow (W.drewN q) os')
  {args : List VVal} {H : List Ob} {res : VVal} {H' : List Ob} (h : XP g args H = some (res,H')) : Kk P (ρ.f 6) args H res H':=by
 unfold XP at h
 split at h <;> try (cases h; done)
 rename_i n g' xs
 obtain ⟨hg,h⟩:=Ad h
 obtain ⟨hn,h⟩:=Ad h
 obtain ⟨hbig,h⟩:=Ad h
 obtain ⟨ps,hps,h⟩:=Aa h
 obtain ⟨hbd,h⟩:=Ad h
 obtain ⟨hnd,h⟩:=Ad h
 simp only [osi,pmi] at h
 obtain ⟨rfl,rfl⟩:=h
 subst hg
 have hxs:=MB (g:=GH) (fun x y=>Yj) hps
 have hpl : ps.length = n:=by rw [hn,hxs,llm]
 intro G w cargs hinv hgd hlen hargs _
 have hsize : cargs.size = 2:=by simpa using hlen.symm
 obtain ⟨c,f,hc⟩ : ∃ c f,cargs = #[c,f]:=by
  match hcl : cargs.toList with
  | [c,f]=>exact ⟨c,f,by rw [<- Array.toList_inj,hcl]⟩
  | []=>simp [<- Array.length_toList,hcl] at hsize
  | [_]=>simp [<- Array.length_toList,hcl] at hsize
  | _ :: _ :: _ :: _=>simp [<- Array.length_toList,hcl] at hsize
 subst hc
 have hf : f = .func (.func g') #[] #[]:=by
  have:=hargs 1 _ f rfl rfl
  cases this with
  | p hp _=>cases hp; rfl
 subst hf
 obtain ⟨a,cap,rfl,harg⟩:=RB hinv (hargs 0 _ c rfl rfl) hn
 by_cases h0 : n = 0
 ·subst h0
  have hz : ps = []:=lez hpl
  subst hz
  simp only [lpn] at hxs
  subst hxs
  refine (AnyF.slices_SortFunc_none L a cap _ w).mono fun e w' ⟨he,hw⟩=>?_
  subst he
  subst hw
  exact ⟨.tuple #[],G,_,[],rfl,Step.refl _ _ _,hinv,⟨#[],rfl,rfl,fun i v c h=>by simp at h⟩,by simp [Eh,DB,GV,FC,AV,FH,gd,Af,ob],by simp [B5,FE,AV,ob]⟩
 ·rcases harg with h1 | ⟨rfl,hm,arr,t,hb,hcap,hcells⟩
  ·exact absurd h1 h0
  ·obtain ⟨p0,hp0⟩ : ∃ p,p ∈ ps:=List.exists_mem_of_length_pos (by omega)
   haveI : Inhabited (Sub ps):=⟨⟨p0,hp0⟩⟩
   have hlt:=(ags.1 hb).1
   have hget : ∀ (l : List (Sub ps)) (i j : Nat),i < l.length -> j < 2 -> (flatK F2 2 l.toArray)[i * 2 + j]! = (F2 l[i]!)[j]!:=fun l i j hi hj=>by
    rw [get_flatK _ _ _ _ (by simp; omega),show (i * 2 + j) / 2 = i by omega,show (i * 2 + j) % 2 = j by omega]
    simp
   have hat : ∀ i (hi : i < n),(ps.attach[i]!).1 = ps[i]'(by omega):=fun i hi=>by
    rw [getElem!_pos ps.attach i (by simp; omega)]
    simp
   have hcell : ∀ i j,i < n -> j < 2 -> arr[i * 2 + j]? = some ((F2 (ps.attach[i]!))[j]!):=fun i j hi hj=>by
    have hx : xs[i]? = some (GH (ps.attach[i]!).1):=by
     rw [hxs,List.getElem?_map,lgg (by omega),hat i hi]
     rfl
    match j,hj with
    | 0,_ =>
     obtain ⟨v,e1,e2⟩:=hcells i _ 0 _ hx rfl
     cases e2
     exact e1
    | 1,_ =>
     obtain ⟨v,e1,e2⟩:=hcells i _ 1 _ hx rfl
     cases e2
     exact e1
   have hH : HoldsK (F2 (ps:=ps)) 2 w (G.blk (.arg 0 0)) 0 ps.attach.toArray:=fun k hk=>by
    have hk' : k < n * 2:=by simpa [hpl] using hk
    have e : k = (k / 2) * 2 + k % 2:=by omega
    have:=hcell (k / 2) (k % 2) (by omega) (by omega)
    rw [<- e] at this
    constructor
    ·rw [Nat.zero_add,Fl hb,this]
     have:=hget ps.attach (k / 2) (k % 2) (by simp; omega) (by omega)
     rw [<- e] at this
     rw [id,this]
    .simp [World.frozen?,hb]
   have hcmp : CmpLays P g' #[] (F2 (ps:=ps)) 2 cfP (G.blk (.arg 0 0)) 0 ps.attach.toArray.size w:=fun m os dk _ x y=>by
    have hx:=hbd x.1 x.2
    have hy:=hbd y.1 y.2
    exact hcl x.1 y.1 _ hx.1 hx.2 hy.1 hy.2
   have hcon:=AnyQ.slices_SortFunc_total L 2 aE zE F2 (fun _=>rfl) (fun x v hv=>by simp [F2] at hv; rcases hv with rfl | rfl <;> rfl) cfP swoP g' #[] (G.blk (.arg 0 0)) 0 cap ps.attach.toArray w eg hcmp hH hlt (by simp; omega) (totP hnd)
   simp only [List.size_toArray,List.length_attach,hpl] at hcon
   refine hcon.mono fun e w' ⟨he,q,os,hw⟩=>?_
   subst he
   obtain ⟨a1,a2,a3,a4,a5,a6⟩:=PA id hb hw
   have hml : (ps.attach.mergeSort fun x y=>!(ltOf cfP) y x).length = n:=by rw [List.length_mergeSort,List.length_attach,hpl]
   have hsz : arr.size = G.cap (.arg 0 0) * 2:=hcap.2
   refine RA hinv hm hb hcap (by simp [hn,hxs]) (by intro x hx; simp only [lmm] at hx; obtain ⟨p,_,rfl⟩:=hx; rfl) a1 (N0 ..) a2 a3 a4 a5 a6 fun i x j c hx hj=>?_
   rw [<- Yu] at hx
   generalize hS : (ps.attach.mergeSort fun x y=>!(ltOf cfP) y x) = S at hx hml
   rw [List.map_map,List.getElem?_map,Option.map_eq_some_iff] at hx
   obtain ⟨z,hz,rfl⟩:=hx
   have hi : i < S.length:=(lgs.1 hz).1
   have hzi : S[i]! = z:=by rw [getElem!_pos S i hi]; exact (lgs.1 hz).2
   have hj2 : j < 2:=by
    have:=(lgs.1 hj).1
    simpa [GH,PV.cells] using this
   have hcap2 : n * 2 <= arr.size:=by
    rw [hsz]
    have:=hcap.1
    rw [<- hn] at this
    omega
   have hg1:=Ox id 0 (flatK F2 2 S.toArray) arr (k:=i * 2 + j) (by simp; omega) (by omega)
   rw [Nat.zero_add,hget S i j hi hj2,hzi] at hg1
   match j,hj2,hj,hg1 with
   | 0,_,hj,hg1 =>
    simp [GH,PV.cells] at hj
    subst hj
    exact ⟨_,hg1,rfl,fun _ _=>.int _ _⟩
   | 1,_,hj,hg1 =>
    simp [GH,PV.cells] at hj
    subst hj
    exact ⟨_,hg1,rfl,fun _ _=>.int _ _⟩
end
end Go.V
