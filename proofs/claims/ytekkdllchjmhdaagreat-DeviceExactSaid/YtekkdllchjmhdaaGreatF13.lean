/- Part 13 of the proof. -/
import Derived.Test.YtekkdllchjmhdaaGreatF12
import Derived.Test.YtekkdllchjmhdaaGreatF7
import Derived.Test.YtekkdllchjmhdaaGreatF2
import Derived.Test.YtekkdllchjmhdaaGreatProg
import Derived.Shelf.RegionOpenPlain
import Derived.WalkKit
import Derived.Deep.LoopGhost
import Derived.Lib.Walk
import Derived.Lib.SliceRun
set_option linter.unusedSectionVars false
set_option linter.unusedSimpArgs false
set_option linter.unusedVariables false
set_option maxHeartbeats 32000000
open Nat renaming le_refl → lrf
open List renaming getElem?_eq_some_iff → lgs, mem_of_getElem? → lmg, eq_nil_of_length_eq_zero → lez
open Option renaming some.injEq → osi
open Array renaming getElem?_eq_some_iff → ags
open Prod renaming mk.injEq → pmi
namespace Go.V
open Go.RowKit Go.Sort Go.Proofs Go.Shelf Go.Lib
theorem GY {P:Program} {e:TypeId} {sz bt:Nat} (h:((P.info? e).bind fun i=>i.zero.map fun z=>(z.cells.size,i.size,i.bytes))=some (sz,sz,bt)):∃ i z,P.info? e=some i/\i.zero=some z/\i.size=sz/\i.bytes=bt/\z.cells.size=sz:=by
 cases hi:P.info? e with
 | none=>rw [hi] at h;cases h
 | some i =>
  rw [hi] at h
  cases hz:i.zero with
  | none=>simp [hz] at h
  | some z =>
   simp only [Option.bind_some,hz,Option.map_some,osi,pmi] at h
   exact ⟨i,z,rfl,hz,h.2.1,h.2.2,h.1⟩
theorem Xo {G:Gh} {w w':World} {h:VHeap} (hinv:HeapInv G h w) (id:Id) {sz:Nat} {xs:List PV} {e:TypeId} {v':Value} {ad:Option Addr} {news:List Value} (hrow:RowOf (fun b=>G.kind b=.frozen) w sz xs ad news)
  (hown:w'.ownsRow w.heap.size e sz v' xs.length news) (hb:Below w.heap.size w w') :
  ∃ G',Step G h w G' (h.upd id (nv (h id),.arr sz xs)) w'/\HeapInv G' (h.upd id (nv (h id),.arr sz xs)) w'/\VRel G' (h.upd id (nv (h id),.arr sz xs)) w' (.own id (nv (h id)) 0 xs.length) v':=by
 rcases hown.2 with ⟨rfl,hn⟩|⟨g,cap,cur,rfl,hbg,hg,hnc,hcm,hcs,htk⟩
 ·have hx:xs=[]:=lez hn
  subst hx
  have s1:=Step.grown hinv hb
  obtain ⟨G',s2,i2,v2⟩:=H3 (HeapInv.grown hinv hb) id sz none
  exact ⟨G',s1.trans s2,i2,v2⟩
 ·have hgl:g<w'.heap.size:=(ags.1 hg).1
  have hb1:Below w.heap.size w { w' with heap:=w'.heap.extract 0 g }:=⟨hb.os,hb.tape,hb.output,by simp;omega,fun k hk=>by
   rw [<- hb.block k hk]
   simp only [Array.getElem?_extract]
   rw [if_pos (by omega),Nat.zero_add]⟩
  have hsz:({ w' with heap:=w'.heap.extract 0 g }:World).heap.size=g:=by simp;omega
  have s1:=Step.grown hinv hb1
  have i1:=HeapInv.grown hinv hb1
  generalize hw1:({ w' with heap:=w'.heap.extract 0 g }:World)=w1 at s1 i1 hsz hb1
  obtain ⟨G',s2,i2,v2⟩:=H4 (w':=w') i1 id sz xs cap (arr:=cur) (t:=e) (by omega) (fun b hlt=>by
   subst hw1
   simp only [Array.getElem?_extract]
   rw [if_pos (by omega),Nat.zero_add]) (by subst hw1;rfl) (by subst hw1;rfl) (by subst hw1;rfl) (by rw [hsz];exact hg) hrow.cs hnc hcs (fun i x j c hx hj=>by
    obtain ⟨u,hu,hr⟩:=hrow.rel i x j c hx hj
    refine ⟨u,?_,hrow.one u (lmg hu),hr.mono s1.keeps s1.size⟩
    have hil:i*sz+j<xs.length*sz:=by
     have:=(lgs.1 hu).1
     rw [hrow.len] at this
     exact this
    rw [<- htk,List.getElem?_take_of_lt hil] at hu
    simpa using hu)
  rw [hsz] at v2
  exact ⟨G',s1.trans s2,i2,v2⟩
def CloS (P:Program) (f:FuncId) (e:TypeId) (sz bt:Nat):Prop:=∀ (ad:Addr) (n c:Nat) (news:List Value) (w:World),news.length=n*sz->n*bt<=140737488355328->(∀ j u,news[j]?=some u->w.cell? (ad.add j)=some u)->(∀ u∈news,u.oneCell'=true) ->
  Calls P f #[.slice (some ad) n c] w fun e' w'=>∃ v',e'=.returned v'/\w'.ownsRow w.heap.size e sz v' n news/\Below w.heap.size w w'
def CloN (P:Program) (f:FuncId):Prop:=∀ (n c:Nat) (w:World),Calls P f #[.slice none n c] w fun e w'=>e=.returned (.slice none 0 0)/\w'=w
theorem GF [GK] {P:Program} {f:FuncId} {e:TypeId} {sz bt:Nat} (hw1:CloS P f e sz bt) (hw2:CloN P f) {args:List VVal} {H:List Ob} {res:VVal} {H':List Ob} (h:Ca sz bt args H=some (res,H')):CR P f args H res H':=by
 unfold Ca at h
 split at h<;>try (cases h;done)
 rename_i k xs
 obtain ⟨hk,h⟩:=Ab h
 obtain ⟨hby,h⟩:=Ab h
 obtain ⟨h63,h⟩:=Ab h
 simp only [osi,pmi] at h
 obtain ⟨rfl,rfl⟩:=h
 cases hk
 intro G w cargs hinv hgd hlen hargs _
 obtain ⟨c,rfl⟩:=zcW hlen
 obtain ⟨ad,cap,news,rfl,hrow⟩:=GL hinv (hargs 0 _ c rfl rfl) (show A0 (As []) (.p (.slice sz xs))=some (sz,xs) from rfl)
 have fin:∀ v' w',w'.ownsRow w.heap.size e sz v' xs.length news->Below w.heap.size w w'->∃ c G' h' vs,Ending.returned v'=.returned c/\Step G (As []) w G' h' w'/\HeapInv G' h' w'/\DI G' h' w' vs c/\Ck h' ([]:List Ob).length vs=some (.fresh sz xs)/\Bf h' 0 ([]:List Ob).length=some []:=fun v' w' hown hb=>by
  obtain ⟨G',hst,hinv',hv⟩:=Xo hinv (.slot 0 0) hrow hown hb
  refine ⟨v',G',_,[.own (.slot 0 0) (nv (As [] (.slot 0 0))) 0 xs.length],rfl,hst,hinv',hv,?_,by simp [Bf]⟩
  simp [Ck,CS,Ez,De,ET,Df,DZ,EP,capIds1,capIds0,gd,BB,Ar,A0,BE,ob]
 cases ad with
 | none =>
  have hx:xs=[]:=by
   cases xs with
   | nil=>rfl
   | cons x r=>obtain ⟨a,ha,_⟩:=hrow.at_ (by simp);cases ha
  refine (hw2 _ _ w).mono fun e' w' ⟨he,hw⟩=>?_
  subst he
  subst hw
  have hn:news=[]:=lez (by rw [hrow.len,hx];simp)
  exact fin _ _ ⟨by rw [hn,hx];simp,.inl ⟨rfl,by rw [hx];rfl⟩⟩ (Below.refl _ _)
 | some a =>
  have hcell:∀ j u,news[j]?=some u->w.cell? (a.add j)=some u:=fun j u hj=>by
   by_cases h0:0<xs.length
   ·obtain ⟨a',ha,hc⟩:=hrow.at_ h0
    cases ha
    exact hc j u hj
   ·have hn:news=[]:=lez (by rw [hrow.len,show xs.length=0 by omega,Nat.zero_mul])
    rw [hn] at hj
    simp at hj
  refine (hw1 a xs.length cap news w hrow.len hby hcell hrow.one).mono fun e' w' ⟨v',he,hown,hb⟩=>?_
  subst he
  exact fin v' w' hown hb
set_option maxRecDepth 100000 in
theorem WO (ad:Addr) (n c:Nat) (news:List Value) (w:World) (hl:news.length=n*2) (hbig:n*16<=140737488355328) (hc:∀ j u,news[j]?=some u->w.cell? (ad.add j)=some u) (h1:∀ u∈news,u.oneCell'=true) :
  Calls Tryz.prog 103 #[.slice (some ad) n c] w fun e w'=>∃ v',e=.returned v'/\w'.ownsRow w.heap.size 112 2 v' n news/\Below w.heap.size w w':=by
 obtain ⟨i0,z0,hi,hz0,hz1,hz2,hz3⟩:=GY (P:=Tryz.prog) (e:=112) (sz:=2) (bt:=16) (by kernel_rfl)
 have q:∀ (w:World) (a:Option Addr) (n c n' c':Nat),(binOp .eql 35 (.slice a n c) (.slice none n' c')).run Tryz.prog w=.ok (.bool a.isNone) w:=fun w a n c n' c'=>Lib.run_eql_slice_nil w _ _ a n c n' c' Tryz.underlying35
 have u:∀ w,Sem.run Tryz.prog (underlying 35) w=.ok (TypeDesc.slice 112) w:=run_underlying Tryz.underlying35
 have A:Aside ((∀ j u,news[j]?=some u->w.cell? (ad.add j)=some u)/\(∀ u∈news,u.oneCell'=true)/\news.length=n*2):=⟨hc,h1,hl⟩
 clear hc h1 hl
 go_enter Tryz.func103,Tryz.ntmps103
 go_wp2_with (at_builtin;refine wpList_append_own _ rfl _ _ 35 rfl w.heap.size 112 i0 z0 2 16 Tryz.underlying35 hi hz0 hz1 hz2 hz3 (by decide) _ _ _ rfl (World.ownsRow_made w #[] 0 (lrf _) (Nat.zero_le _) rfl) ad n c news rfl A.out.2.2 ?qc2 A.out.2.1 ?qc4 ?qc5 ?qc6 ?_)
 case qc2 =>
  intro j u hj
  exact Lib.cell?_alloc_some _ (A.out.1 j u hj)
 case qc4=>unfold maxLen;omega
 case qc5=>omega
 case qc6=>simp
 intro v' w1 hown hgrow hnil
 go_wp2
 go_ret
 refine ⟨v',rfl,by simpa using hown,?_⟩
 exact ((Below.refl _ w).alloc (lrf _) _).grown hgrow (by simp) (by intro k hk;simp [Value.ownBlock] at hk;omega)
theorem UO (n c:Nat) (w:World) :
  Calls Tryz.prog 103 #[.slice none n c] w fun e w'=>e=.returned (.slice none 0 0)/\w'=w:=by
 have q:∀ (w:World) (a:Option Addr) (n c n' c':Nat),(binOp .eql 35 (.slice a n c) (.slice none n' c')).run Tryz.prog w=.ok (.bool a.isNone) w:=fun w a n c n' c'=>Lib.run_eql_slice_nil w _ _ a n c n' c' Tryz.underlying35
 go_enter Tryz.func103,Tryz.ntmps103
 go_wp2
 go_ret
 exact ⟨rfl,rfl⟩
theorem XO [GK] {args:List VVal} {H:List Ob} {res:VVal} {H':List Ob} (h:Ca 2 16 args H=some (res,H')):CR Tryz.prog 103 args H res H' :=
 GF (fun ad n c news w=>WO ad n c news w) (fun n c w=>UO n c w) h
set_option maxRecDepth 100000 in
theorem WS (ad:Addr) (n c:Nat) (news:List Value) (w:World) (hl:news.length=n*21) (hbig:n*168<=140737488355328) (hc:∀ j u,news[j]?=some u->w.cell? (ad.add j)=some u) (h1:∀ u∈news,u.oneCell'=true) :
  Calls Tryz.prog 104 #[.slice (some ad) n c] w fun e w'=>∃ v',e=.returned v'/\w'.ownsRow w.heap.size 117 21 v' n news/\Below w.heap.size w w':=by
 obtain ⟨i0,z0,hi,hz0,hz1,hz2,hz3⟩:=GY (P:=Tryz.prog) (e:=117) (sz:=21) (bt:=168) (by kernel_rfl)
 have q:∀ (w:World) (a:Option Addr) (n c n' c':Nat),(binOp .eql 36 (.slice a n c) (.slice none n' c')).run Tryz.prog w=.ok (.bool a.isNone) w:=fun w a n c n' c'=>Lib.run_eql_slice_nil w _ _ a n c n' c' Tryz.underlying36
 have u:∀ w,Sem.run Tryz.prog (underlying 36) w=.ok (TypeDesc.slice 117) w:=run_underlying Tryz.underlying36
 have A:Aside ((∀ j u,news[j]?=some u->w.cell? (ad.add j)=some u)/\(∀ u∈news,u.oneCell'=true)/\news.length=n*21):=⟨hc,h1,hl⟩
 clear hc h1 hl
 go_enter Tryz.func104,Tryz.ntmps104
 go_wp2_with (at_builtin;refine wpList_append_own _ rfl _ _ 36 rfl w.heap.size 117 i0 z0 21 168 Tryz.underlying36 hi hz0 hz1 hz2 hz3 (by decide) _ _ _ rfl (World.ownsRow_made w #[] 0 (lrf _) (Nat.zero_le _) rfl) ad n c news rfl A.out.2.2 ?qc2 A.out.2.1 ?qc4 ?qc5 ?qc6 ?_)
 case qc2 =>
  intro j u hj
  exact Lib.cell?_alloc_some _ (A.out.1 j u hj)
 case qc4=>unfold maxLen;omega
 case qc5=>omega
 case qc6=>simp
 intro v' w1 hown hgrow hnil
 go_wp2
 go_ret
 refine ⟨v',rfl,by simpa using hown,?_⟩
 exact ((Below.refl _ w).alloc (lrf _) _).grown hgrow (by simp) (by intro k hk;simp [Value.ownBlock] at hk;omega)
theorem US (n c:Nat) (w:World) :
  Calls Tryz.prog 104 #[.slice none n c] w fun e w'=>e=.returned (.slice none 0 0)/\w'=w:=by
 have q:∀ (w:World) (a:Option Addr) (n c n' c':Nat),(binOp .eql 36 (.slice a n c) (.slice none n' c')).run Tryz.prog w=.ok (.bool a.isNone) w:=fun w a n c n' c'=>Lib.run_eql_slice_nil w _ _ a n c n' c' Tryz.underlying36
 go_enter Tryz.func104,Tryz.ntmps104
 go_wp2
 go_ret
 exact ⟨rfl,rfl⟩
theorem XT [GK] {args:List VVal} {H:List Ob} {res:VVal} {H':List Ob} (h:Ca 21 168 args H=some (res,H')):CR Tryz.prog 104 args H res H' :=
 GF (fun ad n c news w=>WS ad n c news w) (fun n c w=>US n c w) h
set_option maxRecDepth 100000 in
theorem WR (ad:Addr) (n c:Nat) (news:List Value) (w:World) (hl:news.length=n*3) (hbig:n*24<=140737488355328) (hc:∀ j u,news[j]?=some u->w.cell? (ad.add j)=some u) (h1:∀ u∈news,u.oneCell'=true) :
  Calls Tryz.prog 105 #[.slice (some ad) n c] w fun e w'=>∃ v',e=.returned v'/\w'.ownsRow w.heap.size 68 3 v' n news/\Below w.heap.size w w':=by
 obtain ⟨i0,z0,hi,hz0,hz1,hz2,hz3⟩:=GY (P:=Tryz.prog) (e:=68) (sz:=3) (bt:=24) (by kernel_rfl)
 have q:∀ (w:World) (a:Option Addr) (n c n' c':Nat),(binOp .eql 37 (.slice a n c) (.slice none n' c')).run Tryz.prog w=.ok (.bool a.isNone) w:=fun w a n c n' c'=>Lib.run_eql_slice_nil w _ _ a n c n' c' Tryz.underlying37
 have u:∀ w,Sem.run Tryz.prog (underlying 37) w=.ok (TypeDesc.slice 68) w:=run_underlying Tryz.underlying37
 have A:Aside ((∀ j u,news[j]?=some u->w.cell? (ad.add j)=some u)/\(∀ u∈news,u.oneCell'=true)/\news.length=n*3):=⟨hc,h1,hl⟩
 clear hc h1 hl
 go_enter Tryz.func105,Tryz.ntmps105
 go_wp2_with (at_builtin;refine wpList_append_own _ rfl _ _ 37 rfl w.heap.size 68 i0 z0 3 24 Tryz.underlying37 hi hz0 hz1 hz2 hz3 (by decide) _ _ _ rfl (World.ownsRow_made w #[] 0 (lrf _) (Nat.zero_le _) rfl) ad n c news rfl A.out.2.2 ?qc2 A.out.2.1 ?qc4 ?qc5 ?qc6 ?_)
 case qc2 =>
  intro j u hj
  exact Lib.cell?_alloc_some _ (A.out.1 j u hj)
 case qc4=>unfold maxLen;omega
 case qc5=>omega
 case qc6=>simp
 intro v' w1 hown hgrow hnil
 go_wp2
 go_ret
 refine ⟨v',rfl,by simpa using hown,?_⟩
 exact ((Below.refl _ w).alloc (lrf _) _).grown hgrow (by simp) (by intro k hk;simp [Value.ownBlock] at hk;omega)
theorem UR (n c:Nat) (w:World) :
  Calls Tryz.prog 105 #[.slice none n c] w fun e w'=>e=.returned (.slice none 0 0)/\w'=w:=by
 have q:∀ (w:World) (a:Option Addr) (n c n' c':Nat),(binOp .eql 37 (.slice a n c) (.slice none n' c')).run Tryz.prog w=.ok (.bool a.isNone) w:=fun w a n c n' c'=>Lib.run_eql_slice_nil w _ _ a n c n' c' Tryz.underlying37
 go_enter Tryz.func105,Tryz.ntmps105
 go_wp2
 go_ret
 exact ⟨rfl,rfl⟩
theorem XR [GK] {args:List VVal} {H:List Ob} {res:VVal} {H':List Ob} (h:Ca 3 24 args H=some (res,H')):CR Tryz.prog 105 args H res H' :=
 GF (fun ad n c news w=>WR ad n c news w) (fun n c w=>UR n c w) h
set_option maxRecDepth 100000 in
theorem WT (ad:Addr) (n c:Nat) (news:List Value) (w:World) (hl:news.length=n*2) (hbig:n*16<=140737488355328) (hc:∀ j u,news[j]?=some u->w.cell? (ad.add j)=some u) (h1:∀ u∈news,u.oneCell'=true) :
  Calls Tryz.prog 106 #[.slice (some ad) n c] w fun e w'=>∃ v',e=.returned v'/\w'.ownsRow w.heap.size 121 2 v' n news/\Below w.heap.size w w':=by
 obtain ⟨i0,z0,hi,hz0,hz1,hz2,hz3⟩:=GY (P:=Tryz.prog) (e:=121) (sz:=2) (bt:=16) (by kernel_rfl)
 have q:∀ (w:World) (a:Option Addr) (n c n' c':Nat),(binOp .eql 38 (.slice a n c) (.slice none n' c')).run Tryz.prog w=.ok (.bool a.isNone) w:=fun w a n c n' c'=>Lib.run_eql_slice_nil w _ _ a n c n' c' Tryz.underlying38
 have u:∀ w,Sem.run Tryz.prog (underlying 38) w=.ok (TypeDesc.slice 121) w:=run_underlying Tryz.underlying38
 have A:Aside ((∀ j u,news[j]?=some u->w.cell? (ad.add j)=some u)/\(∀ u∈news,u.oneCell'=true)/\news.length=n*2):=⟨hc,h1,hl⟩
 clear hc h1 hl
 go_enter Tryz.func106,Tryz.ntmps106
 go_wp2_with (at_builtin;refine wpList_append_own _ rfl _ _ 38 rfl w.heap.size 121 i0 z0 2 16 Tryz.underlying38 hi hz0 hz1 hz2 hz3 (by decide) _ _ _ rfl (World.ownsRow_made w #[] 0 (lrf _) (Nat.zero_le _) rfl) ad n c news rfl A.out.2.2 ?qc2 A.out.2.1 ?qc4 ?qc5 ?qc6 ?_)
 case qc2 =>
  intro j u hj
  exact Lib.cell?_alloc_some _ (A.out.1 j u hj)
 case qc4=>unfold maxLen;omega
 case qc5=>omega
 case qc6=>simp
 intro v' w1 hown hgrow hnil
 go_wp2
 go_ret
 refine ⟨v',rfl,by simpa using hown,?_⟩
 exact ((Below.refl _ w).alloc (lrf _) _).grown hgrow (by simp) (by intro k hk;simp [Value.ownBlock] at hk;omega)
theorem UT (n c:Nat) (w:World) :
  Calls Tryz.prog 106 #[.slice none n c] w fun e w'=>e=.returned (.slice none 0 0)/\w'=w:=by
 have q:∀ (w:World) (a:Option Addr) (n c n' c':Nat),(binOp .eql 38 (.slice a n c) (.slice none n' c')).run Tryz.prog w=.ok (.bool a.isNone) w:=fun w a n c n' c'=>Lib.run_eql_slice_nil w _ _ a n c n' c' Tryz.underlying38
 go_enter Tryz.func106,Tryz.ntmps106
 go_wp2
 go_ret
 exact ⟨rfl,rfl⟩
theorem XU [GK] {args:List VVal} {H:List Ob} {res:VVal} {H':List Ob} (h:Ca 2 16 args H=some (res,H')):CR Tryz.prog 106 args H res H' :=
 GF (fun ad n c news w=>WT ad n c news w) (fun n c w=>UT n c w) h
set_option maxRecDepth 100000 in
theorem WP (ad:Addr) (n c:Nat) (news:List Value) (w:World) (hl:news.length=n*6) (hbig:n*48<=140737488355328) (hc:∀ j u,news[j]?=some u->w.cell? (ad.add j)=some u) (h1:∀ u∈news,u.oneCell'=true) :
  Calls Tryz.prog 107 #[.slice (some ad) n c] w fun e w'=>∃ v',e=.returned v'/\w'.ownsRow w.heap.size 50 6 v' n news/\Below w.heap.size w w':=by
 obtain ⟨i0,z0,hi,hz0,hz1,hz2,hz3⟩:=GY (P:=Tryz.prog) (e:=50) (sz:=6) (bt:=48) (by kernel_rfl)
 have q:∀ (w:World) (a:Option Addr) (n c n' c':Nat),(binOp .eql 39 (.slice a n c) (.slice none n' c')).run Tryz.prog w=.ok (.bool a.isNone) w:=fun w a n c n' c'=>Lib.run_eql_slice_nil w _ _ a n c n' c' Tryz.underlying39
 have u:∀ w,Sem.run Tryz.prog (underlying 39) w=.ok (TypeDesc.slice 50) w:=run_underlying Tryz.underlying39
 have A:Aside ((∀ j u,news[j]?=some u->w.cell? (ad.add j)=some u)/\(∀ u∈news,u.oneCell'=true)/\news.length=n*6):=⟨hc,h1,hl⟩
 clear hc h1 hl
 go_enter Tryz.func107,Tryz.ntmps107
 go_wp2_with (at_builtin;refine wpList_append_own _ rfl _ _ 39 rfl w.heap.size 50 i0 z0 6 48 Tryz.underlying39 hi hz0 hz1 hz2 hz3 (by decide) _ _ _ rfl (World.ownsRow_made w #[] 0 (lrf _) (Nat.zero_le _) rfl) ad n c news rfl A.out.2.2 ?qc2 A.out.2.1 ?qc4 ?qc5 ?qc6 ?_)
 case qc2 =>
  intro j u hj
  exact Lib.cell?_alloc_some _ (A.out.1 j u hj)
 case qc4=>unfold maxLen;omega
 case qc5=>omega
 case qc6=>simp
 intro v' w1 hown hgrow hnil
 go_wp2
 go_ret
 refine ⟨v',rfl,by simpa using hown,?_⟩
 exact ((Below.refl _ w).alloc (lrf _) _).grown hgrow (by simp) (by intro k hk;simp [Value.ownBlock] at hk;omega)
theorem UP (n c:Nat) (w:World) :
  Calls Tryz.prog 107 #[.slice none n c] w fun e w'=>e=.returned (.slice none 0 0)/\w'=w:=by
 have q:∀ (w:World) (a:Option Addr) (n c n' c':Nat),(binOp .eql 39 (.slice a n c) (.slice none n' c')).run Tryz.prog w=.ok (.bool a.isNone) w:=fun w a n c n' c'=>Lib.run_eql_slice_nil w _ _ a n c n' c' Tryz.underlying39
 go_enter Tryz.func107,Tryz.ntmps107
 go_wp2
 go_ret
 exact ⟨rfl,rfl⟩
theorem XP [GK] {args:List VVal} {H:List Ob} {res:VVal} {H':List Ob} (h:Ca 6 48 args H=some (res,H')):CR Tryz.prog 107 args H res H' :=
 GF (fun ad n c news w=>WP ad n c news w) (fun n c w=>UP n c w) h
set_option maxRecDepth 100000 in
theorem WQ (ad:Addr) (n c:Nat) (news:List Value) (w:World) (hl:news.length=n*7) (hbig:n*56<=140737488355328) (hc:∀ j u,news[j]?=some u->w.cell? (ad.add j)=some u) (h1:∀ u∈news,u.oneCell'=true) :
  Calls Tryz.prog 108 #[.slice (some ad) n c] w fun e w'=>∃ v',e=.returned v'/\w'.ownsRow w.heap.size 65 7 v' n news/\Below w.heap.size w w':=by
 obtain ⟨i0,z0,hi,hz0,hz1,hz2,hz3⟩:=GY (P:=Tryz.prog) (e:=65) (sz:=7) (bt:=56) (by kernel_rfl)
 have q:∀ (w:World) (a:Option Addr) (n c n' c':Nat),(binOp .eql 40 (.slice a n c) (.slice none n' c')).run Tryz.prog w=.ok (.bool a.isNone) w:=fun w a n c n' c'=>Lib.run_eql_slice_nil w _ _ a n c n' c' Tryz.underlying40
 have u:∀ w,Sem.run Tryz.prog (underlying 40) w=.ok (TypeDesc.slice 65) w:=run_underlying Tryz.underlying40
 have A:Aside ((∀ j u,news[j]?=some u->w.cell? (ad.add j)=some u)/\(∀ u∈news,u.oneCell'=true)/\news.length=n*7):=⟨hc,h1,hl⟩
 clear hc h1 hl
 go_enter Tryz.func108,Tryz.ntmps108
 go_wp2_with (at_builtin;refine wpList_append_own _ rfl _ _ 40 rfl w.heap.size 65 i0 z0 7 56 Tryz.underlying40 hi hz0 hz1 hz2 hz3 (by decide) _ _ _ rfl (World.ownsRow_made w #[] 0 (lrf _) (Nat.zero_le _) rfl) ad n c news rfl A.out.2.2 ?qc2 A.out.2.1 ?qc4 ?qc5 ?qc6 ?_)
 case qc2 =>
  intro j u hj
  exact Lib.cell?_alloc_some _ (A.out.1 j u hj)
 case qc4=>unfold maxLen;omega
 case qc5=>omega
 case qc6=>simp
 intro v' w1 hown hgrow hnil
 go_wp2
 go_ret
 refine ⟨v',rfl,by simpa using hown,?_⟩
 exact ((Below.refl _ w).alloc (lrf _) _).grown hgrow (by simp) (by intro k hk;simp [Value.ownBlock] at hk;omega)
theorem UQ (n c:Nat) (w:World) :
  Calls Tryz.prog 108 #[.slice none n c] w fun e w'=>e=.returned (.slice none 0 0)/\w'=w:=by
 have q:∀ (w:World) (a:Option Addr) (n c n' c':Nat),(binOp .eql 40 (.slice a n c) (.slice none n' c')).run Tryz.prog w=.ok (.bool a.isNone) w:=fun w a n c n' c'=>Lib.run_eql_slice_nil w _ _ a n c n' c' Tryz.underlying40
 go_enter Tryz.func108,Tryz.ntmps108
 go_wp2
 go_ret
 exact ⟨rfl,rfl⟩
theorem XQ [GK] {args:List VVal} {H:List Ob} {res:VVal} {H':List Ob} (h:Ca 7 56 args H=some (res,H')):CR Tryz.prog 108 args H res H' :=
 GF (fun ad n c news w=>WQ ad n c news w) (fun n c w=>UQ n c w) h
end Go.V
