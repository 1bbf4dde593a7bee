/- Part 15 of the proof. -/
import Derived.Test.YtekkdllchjmhdaaGreatF14
import Derived.Lib.JoinLaws
import Derived.Lib.AppendZeros
import Derived.Lib.AppendZerosOnto
import Derived.Lib.Overlaps
import Derived.Laws.Externs
import Derived.Laws.IdiomCopy
import Derived.Laws.NewBlocks
import Derived.Shelf.Spec.SlicesInsert
import Derived.Test.YtekkdllchjmhdaaGreatF10
import Derived.Test.YtekkdllchjmhdaaGreatF2
set_option linter.unusedSectionVars false
set_option linter.unusedSimpArgs false
set_option linter.unusedVariables false
set_option maxHeartbeats 32000000
open Nat renaming le_refl → lrf
open List renaming getElem?_eq_getElem → lgg, getElem?_eq_some_iff → lgs, mem_of_getElem? → lmg, map_cons → lpc, mem_map → lmm, length_cons → llc, length_append → lla, getElem?_append_right → lgr, mem_cons → lmk, map_nil → lpn, mem_append → lmp, length_map → llm, eq_nil_of_length_eq_zero → lez, length_take → llt, length_drop → lld
open Option renaming some.injEq → osi
open Array renaming getElem?_eq_some_iff → ags, getElem?_eq_getElem → aggz
open Prod renaming mk.injEq → pmi
namespace Go.V
open Go.RowKit Go.Sort Go.Proofs Go.Shelf Go.Lib
theorem Iu {P:Program} (w:World) (dT sT ty elem:TypeId) (b o dLen dCap:Nat) (a:Addr) (sLen sCap m:Nat) (cs:List Value) {i:TypeInfo} (hu:P.underlying dT=some (.slice elem)) (hinf:P.info? elem=some i) (hm:Nat.min sLen dLen=m) (hl:cs.length=m*i.size)
  (hsrc:∀ j v,cs[j]?=some v->w.cell? (a.add j)=some v) (hc:∀ j,j<cs.length->(w.cell? ⟨b,o+j,none⟩).isSome=true) (hf:∀ j,j<cs.length->w.frozen? ⟨b,o+j,none⟩=false) (h1:∀ v∈cs,v.oneCell'=true) :
  (Builtin.copy_ #[dT,sT] ty #[.slice (some ⟨b,o,none⟩) dLen dCap,.slice (some a) sLen sCap]).run P w=.ok (goInt m) (w.setCells b o cs):=by
 have hfc:=run_firstCells_some (P:=P) w i.size m a sLen sCap cs hl hsrc
 have hst:=run_storeCells_cells (P:=P) b o cs 0 w (by simpa using hc) (by simpa using hf) h1
 simp only [Nat.add_zero] at hst
 simp [Builtin.copy_,run_underlying hu,Builtin.lenOf,sizeOf,typeInfo,hinf,hm,hfc,hst]
set_option maxRecDepth 100000 in
theorem Ns (base:Option Addr) (n c:Nat) (a2:Addr) (vc:Nat) (w w1:World) (r:Value) (hn:n<=c) (hb0:base=none->c=0) (hrun:∀ ty,(Builtin.append_ #[40,40] ty #[.slice base n c,.slice (some a2) 1 vc]).run Tryz.prog w=.ok r w1) :
  Calls Tryz.prog 129 #[.slice base n c,.int .i64 n,.slice (some a2) 1 vc] w fun e w'=>e=.returned r/\w'=w1:=by
 obtain ⟨vb,voff,vsp⟩:=a2
 go_enter Tryz.func129,Tryz.ntmps129
 cases base with
 | none =>
  have hc0:=hb0 rfl
  have hn0:n=0:=by omega
  subst hc0 hn0
  go_wp2_with (at_builtin;refine Lib.wpList_append_run _ rfl _ _ _ _ rfl _ _ rfl rfl _ _ (hrun _) ?_)
  go_ret
  exact ⟨rfl,rfl⟩
 | some a =>
  obtain ⟨ab,ao,asp⟩:=a
  go_wp2_with (at_builtin;refine Lib.wpList_append_run _ rfl _ _ _ _ rfl _ _ rfl rfl _ _ (hrun _) ?_)
  all_goals (go_ret;exact ⟨rfl,rfl⟩)
set_option maxRecDepth 100000 in
theorem Vc (b n c i vb vc:Nat) (cs vs:List Value) (w:World) (hi:i<n) (hroom:n+1<=c) (hn63:n+1<=9223372036854775807) (hvb:vb ≠ b) (hcl:cs.length=n*7) (hvl:vs.length=7)
  (hcs:∀ j v,cs[j]?=some v->w.cell? ⟨b,j,none⟩=some v) (hsp:∀ j,j<(n+1)*7->(w.cell? ⟨b,j,none⟩).isSome=true) (hfz:∀ j,j<(n+1)*7->w.frozen? ⟨b,j,none⟩=false)
  (hvs:∀ j v,vs[j]?=some v->w.cell? ⟨vb,j,none⟩=some v) (h1c:∀ v∈cs,v.oneCell'=true) (h1v:∀ v∈vs,v.oneCell'=true)
  (tA tB:TypeId) (kA kB:Nat) (hsa:w.shape? vb=some (tA,kA)) (hsb:w.shape? b=some (tB,kB)) (hkB:kB ≠ 0) (hfa:w.frozen? ⟨vb,0,none⟩=false) (hfe:w.frozen? ⟨vb,kA,none⟩=false) :
  Calls Tryz.prog 129 #[.slice (some ⟨b,0,none⟩) n c,.int .i64 i,.slice (some ⟨vb,0,none⟩) 1 vc] w fun e w' =>
   e=.returned (.slice (some ⟨b,0,none⟩) (n+1) c)/\w'=(w.drew.setCells b ((i+1)*7) (cs.drop (i*7))).setCells b (i*7) vs:=by
 obtain ⟨i0,z0,hi0,hz0,hz1,hz2,hz3,hz4⟩:=HU (P:=Tryz.prog) (e:=65) (sz:=7) (bt:=56) (by kernel_rfl)
 have hne:¬ ((i:Int)=(n:Int)):=by omega
 have hsz:∀ w,(Go.sizeOf 65).run Tryz.prog w=.ok 7 w:=fun w=>by simp [sizeOf,typeInfo,hi0,hz1]
 have hov:∀ lb cb,(callFunc 189 #[.slice (some ⟨vb,0,none⟩) 1 vc,.slice (some ⟨b,(i+1)*7,none⟩) lb cb]).run Tryz.prog w=.ok (.value (.bool false)) w:=fun lb cb=>by
  rw [run_callFunc_extern Tryz.func189 (by kernel_rfl) (by kernel_rfl) (by kernel_rfl) (e:=Extern.SlicesOverlaps.overlaps #[40,40] #[4]) (by kernel_rfl),
   Lib.run_overlaps_apart w 40 4 65 Tryz.underlying40 7 hsz ⟨vb,0,none⟩ ⟨b,(i+1)*7,none⟩ 1 vc lb cb hvb tA tB kA kB hsa hsb hkB hfa hfe]
  rfl
 have mixed:Tryz.prog.follows Departure.mixedOrders=true:=by kernel_rfl
 have hdl:(cs.drop (i*7)).length=(n - i)*i0.size:=by rw [lld,hcl,hz1];omega
 have hdl7:(cs.drop (i*7)).length=(n - i)*7:=by rw [hdl,hz1]
 have hcp1:∀ ty dc sc,(Builtin.copy_ #[40,40] ty #[.slice (some ⟨b,(i+1)*7,none⟩) (n+1 - (i+1)) dc,.slice (some ⟨b,i*7,none⟩) (n+1 - i) sc]).run Tryz.prog w.drew=.ok (goInt ((n - i:Nat):Int)) (w.drew.setCells b ((i+1)*7) (cs.drop (i*7))):=fun ty dc sc =>
  Iu w.drew _ _ ty 65 b ((i+1)*7) (n+1 - (i+1)) dc ⟨b,i*7,none⟩ (n+1 - i) sc (n - i) (cs.drop (i*7)) Tryz.underlying40 hi0 (by simp only [Nat.min_def];split<;>omega) hdl
   (fun j v hj=>by rw [Addr.add_lit];exact hcs _ v (by rwa [List.getElem?_drop] at hj))
   (fun j hj=>hsp _ (by omega)) (fun j hj=>hfz _ (by omega)) (fun v hv=>h1c v (List.mem_of_mem_drop hv))
 obtain ⟨W1,hW1⟩:∃ W1,W1=w.drew.setCells b ((i+1)*7) (cs.drop (i*7)):=⟨_,rfl⟩
 have hsp1:∀ k,k<(n+1)*7->(W1.cell? ⟨b,k,none⟩).isSome=true:=fun k hk=>by
  rw [hW1]
  exact Proofs.isSome_setCells b _ ((i+1)*7) w.drew (fun j hj=>hsp _ (by omega)) k (hsp k hk)
 have hcp2:∀ (W:World),(∀ x,W.cell? x=W1.cell? x)->(∀ x,W.frozen? x=W1.frozen? x)->∀ ty dc,(Builtin.copy_ #[40,40] ty #[.slice (some ⟨b,i*7,none⟩) (n+1 - i) dc,.slice (some ⟨vb,0,none⟩) 1 vc]).run Tryz.prog W=.ok (goInt 1) (W.setCells b (i*7) vs):=fun W hWc hWf ty dc =>
  Iu W _ _ ty 65 b (i*7) (n+1 - i) dc ⟨vb,0,none⟩ 1 vc 1 vs Tryz.underlying40 hi0 (by simp only [Nat.min_def];split<;>omega) (by rw [hvl,hz1])
   (fun j v hj=>by
    rw [Addr.add_lit,hWc,hW1,World.cell?_setCells_out b _ _ _ _ (fun h _=>absurd h hvb),Nat.zero_add]
    exact hvs j v hj)
   (fun j hj=>by rw [hWc];exact hsp1 _ (by omega)) (fun j hj=>by rw [hWf,hW1,World.frozen?_setCells];exact hfz _ (by omega)) h1v
 rw [<- hW1] at hcp1
 have hw1:IntKind.i64.wrap ((i:Int)+1)=(i:Int)+1:=by rw [IntKind.wrap_i64];omega
 have hb1:(0:Int)<=(i:Int)+1:=by omega
 have hb2:(i:Int)+1<=(n:Int)+1:=by omega
 have hX1:(i:Int)<=(n:Int)+1:=by omega
 have hX2:i+1<=n+1:=by omega
 have hX3:((i:Int)+1).toNat=i+1:=by omega
 have hX4:¬ (c=i+1):=by omega
 have hX5:¬ (c=i):=by omega
 clear hsz hcs hsp hfz hvs h1c h1v hsp1 hdl hdl7
 go_enter Tryz.func129,Tryz.ntmps129
 go_wp2_with (simp only [hov])
 go_region_law_o (refine step_copy_runI rfl _ _ 40 40 rfl (.slice (some ⟨b,(i+1)*7,none⟩) (n+1 - (i+1)) (c - (i+1))) (.slice (some ⟨b,i*7,none⟩) (n+1 - i) (c - i)) (by simp [Act.eval,Act.put]) (by simp [Act.eval,Act.put]) (hcp1 _ _ _) ?_)
 go_wp2_with (at_builtin;refine wpList_copy_runI _ rfl _ _ 40 40 rfl _ _ rfl rfl (hcp2 _ (fun _=>rfl) (fun _=>rfl) _ _) ?_)
 go_ret
 first|exact ⟨rfl,rfl⟩|exact ⟨rfl,by rw [hW1]⟩
set_option maxRecDepth 100000 in
theorem Vs (b n c i vb vc:Nat) (cs vs:List Value) {i0:TypeInfo} {z0:Value} (hi0:Tryz.prog.info? 65=some i0) (hz0:i0.zero=some z0) (hz1:i0.size=7) (hz2:i0.bytes=56) (hz3:z0.cells.size=7)
  (w:World) (hi:i<n) (hnc:n<=c) (hroom:c<n+1) (hbig:(n+1)*56<=140737488355328) (hcl:cs.length=n*7) (hvl:vs.length=7)
  (hcs:∀ j v,cs[j]?=some v->w.cell? ⟨b,j,none⟩=some v) (hvs:∀ j v,vs[j]?=some v->w.cell? ⟨vb,j,none⟩=some v) (h1c:∀ v∈cs,v.oneCell'=true) (h1v:∀ v∈vs,v.oneCell'=true) :
  Calls Tryz.prog 129 #[.slice (some ⟨b,0,none⟩) n c,.int .i64 i,.slice (some ⟨vb,0,none⟩) 1 vc] w fun e w' =>
   e=.returned (.slice (some ⟨w.heap.size,0,none⟩) (n+1) (grownCap w (n+1) c 65)) /\
   w'=(((w.alloc (.cells ((cs.take (i*7)).toArray++Builtin.zeroCells z0.cells (n+1 - i)++Builtin.zeroCells z0.cells (grownCap w (n+1) c 65 - (n+1))) 65)).drew.setCells w.heap.size (i*7) vs).drew).setCells w.heap.size ((i+1)*7) (cs.drop (i*7)):=by
 have u40:=run_underlying (P:=Tryz.prog) Tryz.underlying40
 have mixed:Tryz.prog.follows Departure.mixedOrders=true:=by kernel_rfl
 have hne:¬ ((i:Int)=(n:Int)):=by omega
 have hz3':(c:Int)<(n:Int)+1:=by omega
 have hbw:b<w.heap.size:=block_lt_of_cell (hcs 0 _ (lgg (by omega)))
 have hvw:vb<w.heap.size:=block_lt_of_cell (hvs 0 _ (lgg (by omega)))
 have hkk:(n:Int)+1 - (i:Int)=((n+1 - i:Nat):Int):=by omega
 have hik:i+(n+1 - i)=n+1:=by omega
 have hold:(Builtin.firstCells i0.size i (.slice (some ⟨b,0,none⟩) i c)).run Tryz.prog w.drew=.ok (cs.take (i*7)).toArray w.drew:=by
  rw [hz1]
  exact run_firstCells_some w.drew 7 i ⟨b,0,none⟩ i c (cs.take (i*7)) (by rw [llt];omega) (fun j v hj=>by
   rw [Addr.add_lit,Nat.zero_add]
   rw [List.getElem?_take] at hj
   split at hj
   ·exact hcs j v hj
   ·cases hj)
 have hrz:∀ ty,(Builtin.append_ #[40,3] ty #[.slice (some ⟨b,0,none⟩) i c,.int .i64 ((n:Int)+1 - (i:Int))]).run Tryz.prog w =
   .ok (.slice (some ⟨w.heap.size,0,none⟩) (n+1) (grownCap w (n+1) c 65)) (w.drew.alloc (.cells ((cs.take (i*7)).toArray++Builtin.zeroCells z0.cells (n+1 - i)++Builtin.zeroCells z0.cells (grownCap w (n+1) c 65 - (n+1))) 65)):=fun ty=>by
  have h:=Lib.run_append_grow_zeros w 40 3 ty 65 i0 z0 .i64 .i64 Tryz.underlying40 Tryz.underlying3 hi0 hz0 (some ⟨b,0,none⟩) i c (cs.take (i*7)) hold (n+1 - i) (by omega) (by omega) (by omega) (by omega) (by rw [hz2];omega) (by rw [hz2,hik];exact growslice_fits hroom hbig)
  rw [hik] at h
  rw [hkk]
  exact h
 obtain ⟨G,hG⟩:∃ G,G=grownCap w (n+1) c 65:=⟨_,rfl⟩
 have hGn:n+1<=G:=by rw [hG];exact grownCap_ge w _ _ _
 have hG63:G<=9223372036854775807:=by
  have:=grownCap_le_maxLen w (n+1) c 65 (by unfold maxLen;omega)
  rw [<- hG] at this
  unfold maxLen at this
  omega
 obtain ⟨ROW,hROW⟩:∃ ROW:Array Value,ROW=(cs.take (i*7)).toArray++Builtin.zeroCells z0.cells (n+1 - i)++Builtin.zeroCells z0.cells (G - (n+1)):=⟨_,rfl⟩
 rw [<- hG] at hrz ⊢
 rw [<- hROW] at hrz ⊢
 have hRl:(n+1)*7<=ROW.size:=by
  rw [hROW]
  simp only [Array.size_append,List.size_toArray,llt,size_zeroCells,hz3,hcl]
  omega
 obtain ⟨W1,hW1⟩:∃ W1,W1=w.drew.alloc (.cells ROW 65):=⟨_,rfl⟩
 rw [<- hW1] at hrz
 have hN:∀ j,j<(n+1)*7->(W1.cell? ⟨w.heap.size,j,none⟩).isSome=true:=fun j hj=>by
  rw [hW1,World.cell?_alloc_at (w:=w.drew) ROW _ w.heap.size j rfl,aggz (by omega)];rfl
 have hNf:∀ j,W1.frozen? ⟨w.heap.size,j,none⟩=false:=fun j=>by rw [hW1];exact World.frozen?_alloc_at (w:=w.drew) ROW _ w.heap.size j rfl
 have hOb:∀ j v,w.cell? ⟨b,j,none⟩=some v->W1.cell? ⟨b,j,none⟩=some v:=fun j v h=>by rw [hW1,World.cell?_alloc_past (w:=w.drew) _ b j hbw];exact h
 have hOv:∀ j v,w.cell? ⟨vb,j,none⟩=some v->W1.cell? ⟨vb,j,none⟩=some v:=fun j v h=>by rw [hW1,World.cell?_alloc_past (w:=w.drew) _ vb j hvw];exact h
 have hcpA:∀ (W:World),(∀ x,W.cell? x=W1.cell? x)->(∀ x,W.frozen? x=W1.frozen? x)->∀ ty dc,(Builtin.copy_ #[40,40] ty #[.slice (some ⟨w.heap.size,i*7,none⟩) (n+1 - i) dc,.slice (some ⟨vb,0,none⟩) 1 vc]).run Tryz.prog W=.ok (goInt 1) (W.setCells w.heap.size (i*7) vs):=fun W hWc hWf ty dc =>
  Iu W _ _ ty 65 w.heap.size (i*7) (n+1 - i) dc ⟨vb,0,none⟩ 1 vc 1 vs Tryz.underlying40 hi0 (by simp only [Nat.min_def];split<;>omega) (by rw [hvl,hz1])
   (fun j v hj=>by rw [Addr.add_lit,hWc,Nat.zero_add];exact hOv _ v (hvs j v hj))
   (fun j hj=>by rw [hWc];exact hN _ (by omega)) (fun j hj=>by rw [hWf];exact hNf _) h1v
 have hGi:¬ (G=i):=by omega
 have hGim:¬ (G=i+1):=by omega
 have hci:¬ (c=i):=by omega
 have hbN:b ≠ w.heap.size:=by omega
 have hdl:(cs.drop (i*7)).length=(n - i)*i0.size:=by rw [lld,hcl,hz1];omega
 have hdl7:(cs.drop (i*7)).length=(n - i)*7:=by rw [hdl,hz1]
 have hcpB:∀ (W:World),(∀ x,W.cell? x=(W1.setCells w.heap.size (i*7) vs).cell? x)->(∀ x,W.frozen? x=(W1.setCells w.heap.size (i*7) vs).frozen? x)->∀ ty dc sc,(Builtin.copy_ #[40,40] ty #[.slice (some ⟨w.heap.size,(i+1)*7,none⟩) (n+1 - (i+1)) dc,.slice (some ⟨b,i*7,none⟩) (n - i) sc]).run Tryz.prog W=.ok (goInt ((n - i:Nat):Int)) (W.setCells w.heap.size ((i+1)*7) (cs.drop (i*7))):=fun W hWc hWf ty dc sc =>
  Iu W _ _ ty 65 w.heap.size ((i+1)*7) (n+1 - (i+1)) dc ⟨b,i*7,none⟩ (n - i) sc (n - i) (cs.drop (i*7)) Tryz.underlying40 hi0 (by simp only [Nat.min_def];split<;>omega) hdl
   (fun j v hj=>by
    rw [Addr.add_lit,hWc,World.cell?_setCells_out _ _ _ _ _ (fun h _=>absurd h hbN)]
    exact hOb _ v (hcs _ v (by rwa [List.getElem?_drop] at hj)))
   (fun j hj=>by rw [hWc];exact Proofs.isSome_setCells _ _ _ _ (fun t ht=>hN _ (by omega)) _ (hN _ (by omega)))
   (fun j hj=>by rw [hWf,World.frozen?_setCells];exact hNf _) (fun v hv=>h1c v (List.mem_of_mem_drop hv))
 subst hW1
 have hE1:∀ x,((w.alloc (.cells ROW 65)).drew).cell? x=(w.drew.alloc (.cells ROW 65)).cell? x:=fun x=>rfl
 have hE2:∀ x,((w.alloc (.cells ROW 65)).drew).frozen? x=(w.drew.alloc (.cells ROW 65)).frozen? x:=fun x=>rfl
 have hF1:∀ x,(((w.alloc (.cells ROW 65)).drew.setCells w.heap.size (i*7) vs).drew).cell? x=((w.drew.alloc (.cells ROW 65)).setCells w.heap.size (i*7) vs).cell? x:=fun x=>rfl
 have hF2:∀ x,(((w.alloc (.cells ROW 65)).drew.setCells w.heap.size (i*7) vs).drew).frozen? x=((w.drew.alloc (.cells ROW 65)).setCells w.heap.size (i*7) vs).frozen? x:=fun x=>rfl
 have hw1:IntKind.i64.wrap ((i:Int)+1)=(i:Int)+1:=by rw [IntKind.wrap_i64];omega
 have hb1:(0:Int)<=(i:Int)+1:=by omega
 have hb2:(i:Int)+1<=(n:Int)+1:=by omega
 have hin:i<=n:=by omega
 have htn:((i:Int)+1).toNat=i+1:=by omega
 clear hkk hik hold hROW hG hRl hcs hvs h1c h1v hN hNf hOb hOv hi0 hz0
 go_enter Tryz.func129,Tryz.ntmps129
 go_wp2_with (first
  | (at_builtin;refine Lib.wpList_append_run _ rfl _ _ _ _ rfl _ _ rfl rfl _ _ (hrz _) ?_)
  | (at_builtin;refine wpList_copy_runI _ rfl _ _ 40 40 rfl _ _ rfl rfl (hcpA _ hE1 hE2 _ _) ?_)
  | (at_builtin;refine wpList_copy_runI _ rfl _ _ 40 40 rfl _ _ rfl rfl (hcpB _ (fun _=>rfl) (fun _=>rfl) _ _ _) ?_))
 go_region_law_o (refine step_copy_runI rfl _ _ 40 40 rfl (.slice (some ⟨w.heap.size,(i+1)*7,none⟩) (n+1 - (i+1)) (G - (i+1))) (.slice (some ⟨b,i*7,none⟩) (n - i) (c - i)) (by simp [Act.eval,Act.put]) (by simp [Act.eval,Act.put]) (hcpB _ hF1 hF2 3 (G - (i+1)) (c - i)) ?_)
 go_wp2
 go_ret
 exact ⟨rfl,rfl⟩
end Go.V
namespace Go.V
open Go.RowKit Go.Sort Go.Proofs Go.Shelf Go.Lib
theorem Pp {fz:Nat->Prop} {w:World} {sz i:Nat} {xs:List PV} {x0:PV} {N:Array Value} {cs vs:List Value} (hi:i<=xs.length) (hcl:cs.length=xs.length*sz) (hvl:vs.length=sz) (hcs:∀ x∈xs,x.cells.length=sz) (hx0:x0.cells.length=sz)
  (hcell:∀ (k:Nat) (x:PV) (j:Nat) (c:PV),xs[k]?=some x->x.cells[j]?=some c->∃ v,cs[k*sz+j]?=some v/\v.oneCell'=true/\PRel fz w c v)
  (hx:∀ (j:Nat) (c:PV),x0.cells[j]?=some c->∃ v,vs[j]?=some v/\v.oneCell'=true/\PRel fz w c v)
  (h1:∀ k,k<i*sz->N[k]?=cs[k]?) (h2:∀ k,k<sz->N[i*sz+k]?=vs[k]?) (h3:∀ k,k<(xs.length - i)*sz->N[(i+1)*sz+k]?=cs[i*sz+k]?) :
  ∀ (k:Nat) (x:PV) (j:Nat) (c:PV),(xs.take i++x0::xs.drop i)[k]?=some x->x.cells[j]?=some c->∃ v,N[k*sz+j]?=some v/\v.oneCell'=true/\PRel fz w c v:=by
 intro k x j c hk hj
 have hti:(xs.take i).length=i:=by rw [llt];omega
 by_cases hki:k<i
 ·rw [List.getElem?_append_left (by omega),List.getElem?_take_of_lt hki] at hk
  have hjs:j<sz:=by rw [<- hcs x (lmg hk)];exact (lgs.1 hj).1
  rw [h1 _ (CX hki hjs)]
  exact hcell k x j c hk hj
 ·rw [lgr (by omega),hti] at hk
  by_cases hke:k=i
  ·subst hke
   rw [Nat.sub_self,List.getElem?_cons_zero] at hk
   cases hk
   have hjs:j<sz:=by rw [<- hx0];exact (lgs.1 hj).1
   rw [h2 _ hjs]
   exact hx j c hj
  ·obtain ⟨m,rfl⟩:∃ m,k=i+1+m:=⟨k - (i+1),by omega⟩
   rw [show i+1+m - i=m+1 by omega,List.getElem?_cons_succ,List.getElem?_drop] at hk
   have hjs:j<sz:=by rw [<- hcs x (lmg hk)];exact (lgs.1 hj).1
   have hml:m<xs.length - i:=by have:=(lgs.1 hk).1;omega
   rw [show (i+1+m)*sz+j=(i+1)*sz+(m*sz+j) by rw [Nat.add_mul (i+1) m,Nat.add_assoc],h3 _ (CX hml hjs),show i*sz+(m*sz+j)=(i+m)*sz+j by rw [Nat.add_mul i m,Nat.add_assoc]]
   exact hcell (i+m) x j c hk hj
theorem HV (a b:Ob):As [a,b] (.arg 0 0)=some (0,a):=rfl
theorem Jo (a b:Ob):As [a,b] (.arg 1 0)=some (0,b):=rfl
theorem zaf {k:Nat} {xs xs':List PV} {x:PV} {n:Nat} :
  Ck ((As [.arr k xs,.arr k [x]]).upd (.arg 0 0) (1,.arr k xs')) ([Ob.arr k xs,Ob.arr k [x]]:List Ob).length [.own (.arg 0 0) 1 0 n]=some (.own (.arg 0 0) 1 0 n)/\Bf ((As [.arr k xs,.arr k [x]]).upd (.arg 0 0) (1,.arr k xs')) 0 ([Ob.arr k xs,Ob.arr k [x]]:List Ob).length=some [.box [.undef,.fresh k xs'],.arr k [x]]:=by
 have e:((As [.arr k xs,.arr k [x]]).upd (.arg 0 0) (1,.arr k xs')) (.arg 1 0)=some (0,.arr k [x]):=by rw [DO _ _ (by simp),Jo]
 refine ⟨?_,?_⟩
 .simp [Ck,CS,Ez,De,ET,Df,DZ,EP,capIds1,capIds0,gd,BG,BE,e]
 .simp [Bf,Eo,BE,ob,e]
theorem zcb [GK] {args:List VVal} {H:List Ob} {res:VVal} {H':List Ob} (h:Ka 7 56 args H=some (res,H')):CR Tryz.prog 129 args H res H':=by
 unfold Ka at h
 split at h<;>try (cases h;done)
 rename_i n i k xs k' x
 have q := Ab h
 clear h
 obtain ⟨rfl,h⟩:=q
 have q := Ab h
 clear h
 obtain ⟨rfl,h⟩:=q
 obtain ⟨hn,h⟩:=Ab h
 obtain ⟨hby,h⟩:=Ab h
 obtain ⟨hi0,h⟩:=Ab h
 obtain ⟨hin,h⟩:=Ab h
 simp only [osi,pmi] at h
 obtain ⟨rfl,rfl⟩:=h
 intro G w cargs hinv hgd hlen hargs _
 obtain ⟨c0,c1,c2,rfl⟩:=SZ hlen
 obtain ⟨i,rfl⟩:=Int.eq_ofNat_of_zero_le hi0
 cases LY (hargs 1 _ c1 rfl rfl)
 simp only [Int.toNat_natCast]
 obtain ⟨z,z0,hz,hz0,hz1,hz2,hz3,hz4⟩:=HU (P:=Tryz.prog) (e:=65) (sz:=7) (bt:=56) (by kernel_rfl)
 obtain ⟨hcs,hem,hall⟩:=hinv _ _ _ (HV (.arr 7 xs) (.arr 7 [x]))
 obtain ⟨hcs1,_,hall1⟩:=hinv _ _ _ (Jo (.arr 7 xs) (.arr 7 [x]))
 have hx0:x.cells.length=7:=hcs1 x (by simp)
 obtain ⟨ad,cap2,news,rfl,hrow⟩:=GL hinv (hargs 2 _ c2 rfl rfl) (show A0 (As [.arr 7 xs,.arr 7 [x]]) (.own (.arg 1 0) 0 0 1)=some (7,[x]) by simp [A0,Jo,gd])
 have hnl:news.length=7:=by simpa using hrow.len
 obtain ⟨a2,rfl,ha2⟩:=hrow.at_ (by simp)
 have hv2:=hargs 2 _ _ rfl rfl
 have hv0:=hargs 0 _ c0 rfl rfl
 have hxr:∀ (j:Nat) (c:PV),x.cells[j]?=some c->∃ v,news[j]?=some v/\v.oneCell'=true/\PRel (fun b=>G.kind b=.frozen) w c v:=fun j c hj=>by
  obtain ⟨u,e1,e2⟩:=hrow.rel 0 x j c rfl hj
  rw [Nat.zero_mul,Nat.zero_add] at e1
  exact ⟨u,e1,hrow.one u (lmg e1),e2⟩
 have blk2:G.kind (G.blk (.arg 1 0))=.mine (.arg 1 0)/\a2=⟨G.blk (.arg 1 0),0,none⟩:=by
  cases hv2 with
  | @own _ _ _ _ _ _ _ v o hn' hcap hh hle hoo =>
   rw [Jo] at hh
   simp only [osi,pmi] at hh
   obtain ⟨rfl,rfl⟩:=hh
   obtain ⟨sz2,xs2,e,hlen2,hreal⟩:=hoo rfl
   simp only [Ob.arr.injEq] at e
   obtain ⟨rfl,rfl⟩:=e
   rcases hreal with ⟨h0,_⟩|⟨g1,g2,g3⟩
   ·omega
   ·have := g3 (by omega)
    simp only [Nat.zero_mul,osi] at this
    exact ⟨g1,this⟩
 obtain ⟨k2,rfl⟩:=blk2
 obtain ⟨hxc1,arr1,tt1,hb1,has1,_⟩:=hall1 k2
 have hvs:∀ j v,news[j]?=some v->w.cell? ⟨G.blk (.arg 1 0),j,none⟩=some v:=fun j v hj=>by
  have := ha2 j v hj
  rwa [add_lit,Nat.zero_add] at this
 cases hv0 with
 | @own _ _ _ _ a n' cap v o hn' hcap hh hle hoo =>
  rw [HV] at hh
  simp only [osi,pmi] at hh
  obtain ⟨rfl,rfl⟩:=hh
  subst hn'
  obtain ⟨sz2,xs2,e,hlen2,hreal⟩:=hoo rfl
  simp only [Ob.arr.injEq] at e
  obtain ⟨rfl,rfl⟩:=e
  have hin':i<=xs.length:=by omega
  have hxl:(xs.take i++x::xs.drop i).length=n'+1:=by rw [lla,llc,llt,lld];omega
  have hxs:∀ y∈xs.take i++x::xs.drop i,y.cells.length=7:=fun y hy=>by
   rcases lmp.1 hy with h|h
   ·exact hcs y (List.mem_of_mem_take h)
   ·rcases lmk.1 h with rfl|h
    ·exact hx0
    ·exact hcs y (List.mem_of_mem_drop h)
  obtain ⟨o1,o2⟩:=zaf (k:=7) (xs:=xs) (xs':=xs.take i++x::xs.drop i) (x:=x) (n:=n'+1)
  have inPlace:∀ (w':World) (N:Array Value) (tt:TypeId),G.kind (G.blk (.arg 0 0))=.mine (.arg 0 0)->a=some ⟨G.blk (.arg 0 0),0,none⟩->cap<=G.cap (.arg 0 0)->n'+1<=cap->w.heap.size=w'.heap.size->(∀ b,b ≠ G.blk (.arg 0 0)->w'.heap[b]?=w.heap[b]?)->w'.os=w.os->w'.tape=w.tape->w'.output=w.output ->
    w'.heap[G.blk (.arg 0 0)]?=some (.cells N tt (0,0))->N.size=G.cap (.arg 0 0)*7->(∀ (q:Nat) (y:PV) (s:Nat) (c:PV),(xs.take i++x::xs.drop i)[q]?=some y->y.cells[s]?=some c->∃ v,N[q*7+s]?=some v/\v.oneCell'=true/\PRel (fun b=>G.kind b=.frozen) w c v) ->
    ∃ c G' h' vs,Ending.returned (.slice a (n'+1) cap)=.returned c/\Step G (As [.arr 7 xs,.arr 7 [x]]) w G' h' w'/\HeapInv G' h' w'/\DI G' h' w' vs c/\Ck h' ([Ob.arr 7 xs,Ob.arr 7 [x]]:List Ob).length vs=some (.own (.arg 0 0) 1 0 (n'+1))/\Bf h' 0 ([Ob.arr 7 xs,Ob.arr 7 [x]]:List Ob).length=some [.box [.undef,.fresh 7 (xs.take i++x::xs.drop i)],.arr 7 [x]]:=by
   intro w' N tt g1 ha hcg hroom hsz hblk hos htp hout hb' hN hcell
   have hblk':∀ b,(G.kind b=.mine (.arg 0 0)->b ≠ G.blk (.arg 0 0))->w'.heap[b]?=w.heap[b]?:=fun b hb'=>hblk b (fun e=>hb' (by rw [e];exact g1) e)
   have hst:Step G (As [.arr 7 xs,.arr 7 [x]]) w G ((As [.arr 7 xs,.arr 7 [x]]).upd (.arg 0 0) (0+1,.arr 7 (xs.take i++x::xs.drop i))) w':=Step.bump (.arg 0 0) (HV _ _) hsz hblk' hos htp hout
   refine ⟨_,G,_,[.own (.arg 0 0) 1 0 (n'+1)],rfl,hst,HeapInv.bump hinv (.arg 0 0) hst hblk' ⟨hxs,.inr g1,fun _=>⟨by omega,N,tt,hb',hN,fun q y s c hq hs=>?_⟩⟩,?_,o1,o2⟩
   ·obtain ⟨v,e1,e2,e3⟩:=hcell q y s c hq hs
    exact ⟨v,e1,e2,e3.mono hst.keeps hst.size⟩
   ·exact .own rfl hroom (BE _ _ _) (lrf _) fun _=>⟨7,_,rfl,by omega,.inr ⟨g1,by omega,fun _=>by rw [ha]⟩⟩
  have fresh:∀ (w':World) (N:Array Value) (tt:TypeId) (cp:Nat),w.heap.size<=w'.heap.size->(∀ b,b<w.heap.size->w'.heap[b]?=w.heap[b]?)->w'.os=w.os->w'.tape=w.tape->w'.output=w.output ->
    w'.heap[w.heap.size]?=some (.cells N tt (0,0))->n'+1<=cp->N.size=cp*7->(∀ (q:Nat) (y:PV) (s:Nat) (c:PV),(xs.take i++x::xs.drop i)[q]?=some y->y.cells[s]?=some c->∃ v,N[q*7+s]?=some v/\v.oneCell'=true/\PRel (fun b=>G.kind b=.frozen) w c v) ->
    ∃ c G' h' vs,Ending.returned (.slice (some ⟨w.heap.size,0,none⟩) (n'+1) cp)=.returned c/\Step G (As [.arr 7 xs,.arr 7 [x]]) w G' h' w'/\HeapInv G' h' w'/\DI G' h' w' vs c/\Ck h' ([Ob.arr 7 xs,Ob.arr 7 [x]]:List Ob).length vs=some (.own (.arg 0 0) 1 0 (n'+1))/\Bf h' 0 ([Ob.arr 7 xs,Ob.arr 7 [x]]:List Ob).length=some [.box [.undef,.fresh 7 (xs.take i++x::xs.drop i)],.arr 7 [x]]:=by
   intro w' N tt cp hsz hblk hos htp hout hb' hle' hN hcell
   obtain ⟨G',s1,i1,v1⟩:=H4 (w':=w') hinv (.arg 0 0) 7 (xs.take i++x::xs.drop i) cp hsz hblk hos htp hout hb' hxs (by omega) hN hcell
   rw [Ev (HV _ _)] at s1 i1 v1
   rw [hxl] at v1
   exact ⟨_,G',_,[.own (.arg 0 0) 1 0 (n'+1)],rfl,s1,i1,v1,o1,o2⟩
  obtain ⟨ad0,cap0,olds,hoe,horow⟩:=GL hinv (hargs 0 _ _ rfl rfl) (show A0 (As [.arr 7 xs,.arr 7 [x]]) (.own (.arg 0 0) 0 0 n')=some (7,(xs.drop 0).take n') by simp [A0,HV,gd])
  simp only [List.drop_zero] at hoe horow
  have hoe':a=ad0:=by
   have := hoe
   simp at this
   exact this.1
  have hxt:xs.take n'=xs:=by rw [hn];exact List.take_length
  rw [hxt] at horow
  clear hoe
  have hol:olds.length=xs.length*7:=horow.len
  have hold:∀ (k:Nat) (y:PV) (j:Nat) (c:PV),xs[k]?=some y->y.cells[j]?=some c->∃ v,olds[k*7+j]?=some v/\v.oneCell'=true/\PRel (fun b=>G.kind b=.frozen) w c v:=fun k y j c hk hj=>by
   obtain ⟨u,e1,e2⟩:=horow.rel k y j c hk hj
   exact ⟨u,e1,horow.one u (lmg e1),e2⟩
  by_cases hie:i=n'
  ·
   subst hie
   have htk:xs.take i=xs:=hxt
   have hdr:xs.drop i=[]:=by rw [hn];exact List.drop_length
   by_cases hroom:i+1<=cap
   ·rcases hreal with ⟨h0,_⟩|⟨g1,g2,g3⟩
    ·omega
    ·have hadd:=g3 (by omega)
     simp only [Nat.zero_mul] at hadd
     subst hadd
     obtain ⟨hxc,arr,tt,hb,has,hcell⟩:=hall g1
     have hfit:i*z.size+news.length<=arr.size:=by rw [hz1,hnl,has];omega
     have hrun:=fun ty=>MV (P:=Tryz.prog) w 40 ty 65 tt z Tryz.underlying40 hz (G.blk (.arg 0 0)) i cap arr hb ⟨G.blk (.arg 1 0),0,none⟩ 1 cap2 news (by rw [hnl,hz1]) ha2 hrow.one hroom hfit
     refine (Ns _ i cap ⟨G.blk (.arg 1 0),0,none⟩ cap2 w _ _ hcap (fun h=>by cases h) hrun).mono fun e w' ⟨he,hw⟩=>?_
     subst he
     obtain ⟨N,hN⟩:∃ N,N=(AB arr.toList (i*z.size) news).toArray:=⟨_,rfl⟩
     rw [<- hN] at hw
     obtain ⟨q1,q2⟩:=Ok (fz:=fun b=>G.kind b=.frozen) (w:=w) (N:=N) (cap:=G.cap (.arg 0 0)) (ys:=[x]) (show i<=xs.length by omega) has (by simp;omega) hcs hcell hrow (by rw [hN,hz1])
     refine inPlace w' N tt g1 rfl (by omega) hroom (by rw [hw];simp [World.setRow]) (fun b hb'=>by rw [hw];exact setRow_other w _ _ _ hb') (by rw [hw];rfl) (by rw [hw];rfl) (by rw [hw];rfl) (by rw [hw];exact setRow_heap w _ _ _ _ _ hb) q1 ?_
     rw [hdr]
     exact q2
   ·have hfit2:Builtin.nextslicecap (i+1) cap*z.bytes<=281474976710656:=growslice_fits (by omega) (by rw [hz2];exact hby)
    have hrun:∃ olds':List Value,olds'.length=xs.length*7/\(∀ (k:Nat) (y:PV) (j:Nat) (c:PV),xs[k]?=some y->y.cells[j]?=some c->∃ v,olds'[k*7+j]?=some v/\v.oneCell'=true/\PRel (fun b=>G.kind b=.frozen) w c v) /\
      (a = none->cap = 0)/\∀ ty,(Builtin.append_ #[40,40] ty #[.slice a i cap,.slice (some ⟨G.blk (.arg 1 0),0,none⟩) 1 cap2]).run Tryz.prog w = .ok (.slice (some ⟨w.heap.size,0,none⟩) (i+1) (grownCap w (i+1) cap 65))
       (w.drew.alloc (.cells (olds'.toArray++news.toArray++Builtin.zeroCells z0.cells (grownCap w (i+1) cap 65 - (i+1))) 65)):=by
     cases a with
     | none =>
      have hc0:cap=0:=by
       rcases hreal with ⟨h0,_⟩|⟨_,_,g3⟩
       ·exact h0
       ·rcases Nat.eq_zero_or_pos cap with h0|h0
        ·exact h0
        ·have:=g3 h0;simp at this
      have hi0':i=0:=by omega
      subst hc0 hi0'
      have hx0':xs=[]:=lez hn.symm
      subst hx0'
      refine ⟨[],by simp,fun k y j c hk=>by simp at hk,fun _=>rfl,fun ty=>?_⟩
      have:=run_append_nil (P:=Tryz.prog) w 40 ty 65 z z0 Tryz.underlying40 hz hz0 ⟨G.blk (.arg 1 0),0,none⟩ 1 cap2 news (by rw [hnl,hz1]) ha2 (by omega) (by omega) (by rw [hz2];omega)
      simpa using this
     | some b =>
      refine ⟨olds,hol,hold,(fun h=>by cases h),fun ty=>?_⟩
      have hob:∀ (j:Nat) (u:Value),olds[j]?=some u->w.cell? (b.add j)=some u:=fun j u hu'=>by
       have hpos:0<xs.length:=by
        rcases Nat.eq_zero_or_pos xs.length with h0|h0
        ·rw [h0] at hol
         simp only [Nat.zero_mul] at hol
         rw [lez hol] at hu'
         simp at hu'
        .exact h0
       obtain ⟨b',hb',hcell⟩:=horow.at_ hpos
       rw [<- hoe'] at hb'
       cases hb'
       exact hcell j u hu'
      exact run_append_grow (P:=Tryz.prog) w 40 ty 65 z z0 Tryz.underlying40 hz hz0 b i cap olds (by rw [hol,hz1,hn]) hob ⟨G.blk (.arg 1 0),0,none⟩ 1 cap2 news (by rw [hnl,hz1]) ha2 (by omega) (by omega) hfit2
    obtain ⟨olds',hol',hold',hnone,hrun⟩:=hrun
    refine (Ns a i cap ⟨G.blk (.arg 1 0),0,none⟩ cap2 w _ _ hcap hnone hrun).mono fun e w' ⟨he,hw⟩=>?_
    subst he
    have hge:=grownCap_ge w (i+1) cap 65
    refine fresh w' (olds'.toArray++news.toArray++Builtin.zeroCells z0.cells (grownCap w (i+1) cap 65 - (i+1))) 65 (grownCap w (i+1) cap 65) (by rw [hw];simp) (fun b hb=>by rw [hw];exact Below.heap_alloc w.drew _ b hb) (by rw [hw];rfl) (by rw [hw];rfl) (by rw [hw];rfl) (by rw [hw];exact heap_alloc_new w.drew _) hge ?_ ?_
    ·simp only [Array.size_append,List.size_toArray,hol',hnl,size_zeroCells,hz3,<- hn]
     omega
    ·rw [hdr,htk]
     exact LI hol' hold' hrow
  ·have hilt:i<n':=by omega
   rcases hreal with ⟨h0,_⟩|⟨g1,g2,g3⟩
   ·omega
   ·have hadd:=g3 (by omega)
    simp only [Nat.zero_mul] at hadd
    subst hadd
    obtain ⟨hxc,arr,tt,hb,has,hcell⟩:=hall g1
    have hne:G.blk (.arg 1 0) ≠ G.blk (.arg 0 0):=fun e=>by
     rw [e,g1] at k2
     simp at k2
    have hcells:∀ (j:Nat) (v:Value),olds[j]?=some v->w.cell? ⟨G.blk (.arg 0 0),j,none⟩=some v:=fun j v hj=>by
     obtain ⟨b',hb',hc'⟩:=horow.at_ (by omega)
     rw [<- hoe'] at hb'
     cases hb'
     have:=hc' j v hj
     rwa [add_lit,Nat.zero_add] at this
    have holn:olds.length=n'*7:=by rw [hol,hn]
    have hlook:∀ j,j<n'*7->arr[j]?=olds[j]?:=fun j hj=>by
     have h1:olds[j]?=some olds[j]:=lgg (by omega)
     rw [h1,<- BY hb]
     exact hcells j _ h1
    by_cases hroom:n'+1<=cap
    ·refine (Vc (G.blk (.arg 0 0)) n' cap i (G.blk (.arg 1 0)) cap2 olds news w hilt hroom (by omega) hne holn hnl hcells (fun j hj=>by rw [BY hb,aggz (by rw [has];omega)];rfl) (fun j hj=>by simp [World.frozen?,hb]) hvs horow.one hrow.one tt1 tt arr1.size arr.size
      (by simp [World.shape?,hb1]) (by simp [World.shape?,hb]) (by rw [has];omega) (by simp [World.frozen?,hb1]) (by simp [World.frozen?,hb1])).mono fun e w' ⟨he,hw⟩=>?_
     subst he
     have hdl:(olds.drop (i*7)).length=(n' - i)*7:=by rw [lld,holn];omega
     obtain ⟨N1,hN1⟩:∃ N1,N1=(AB arr.toList ((i+1)*7) (olds.drop (i*7))).toArray:=⟨_,rfl⟩
     have hs1:(i+1)*7+(olds.drop (i*7)).length<=arr.toList.length:=by rw [hdl,Array.length_toList,has];omega
     have z1:N1.size=arr.size:=by rw [hN1,List.size_toArray,CA _ _ _ hs1,Array.length_toList]
     obtain ⟨N2,hN2⟩:∃ N2,N2=(AB N1.toList (i*7) news).toArray:=⟨_,rfl⟩
     have hs2:i*7+news.length<=N1.toList.length:=by rw [hnl,Array.length_toList,z1,has];omega
     have z2:N2.size=arr.size:=by rw [hN2,List.size_toArray,CA _ _ _ hs2,Array.length_toList,z1]
     rw [EG (P:=Tryz.prog) _ _ _ w.drew hb (by simpa using hs1) (fun v hv=>horow.one v (List.mem_of_mem_drop hv)),<- hN1] at hw
     have hb1':(w.drew.setRow (G.blk (.arg 0 0)) N1).heap[G.blk (.arg 0 0)]?=some (.cells N1 tt (0,0)):=setRow_heap w.drew _ _ _ _ _ hb
     rw [EG (P:=Tryz.prog) _ _ _ _ hb1' (by simpa using hs2) hrow.one,<- hN2] at hw
     have gN:∀ k,N2[k]?=if i*7<=k/\k<i*7+7 then news[k - i*7]? else if (i+1)*7<=k/\k<(i+1)*7+(n' - i)*7 then olds[i*7+(k - (i+1)*7)]? else arr[k]?:=fun k=>by
      rw [hN2,List.getElem?_toArray,C7 _ _ _ hs2,hnl,Array.getElem?_toList (xs:=N1),hN1,List.getElem?_toArray,C7 _ _ _ hs1,hdl,List.getElem?_drop,Array.getElem?_toList (xs:=arr)]
     refine inPlace w' N2 tt g1 rfl (by omega) hroom (by rw [hw];show w.drew.heap.size=_;simp [World.setRow]) (fun b hb'=>by rw [hw];exact (setRow_other _ _ _ _ hb').trans (setRow_other w.drew _ _ _ hb')) (by rw [hw];rfl) (by rw [hw];rfl) (by rw [hw];rfl) (by rw [hw];exact setRow_heap _ _ _ _ _ _ hb1') (by rw [z2,has]) ?_
     refine Pp (cs:=olds) (vs:=news) hin' hol hnl hcs hx0 hold hxr (fun k hk=>?_) (fun k hk=>?_) (fun k hk=>?_)
     ·rw [gN,if_neg (by omega),if_neg (by omega),hlook k (by omega)]
     ·rw [gN,if_pos (by omega),Nat.add_sub_cancel_left]
     ·rw [gN,if_neg (by omega),if_pos (by omega),Nat.add_sub_cancel_left]
    ·refine (Vs (G.blk (.arg 0 0)) n' cap i (G.blk (.arg 1 0)) cap2 olds news hz hz0 hz1 hz2 hz3 w hilt hcap (by omega) hby holn hnl hcells hvs horow.one hrow.one).mono fun e w' ⟨he,hw⟩=>?_
     subst he
     have hge:=grownCap_ge w (n'+1) cap 65
     generalize grownCap w (n'+1) cap 65=gc at hge hw ⊢
     obtain ⟨ROW,hROW⟩:∃ ROW:Array Value,ROW=(olds.take (i*7)).toArray++Builtin.zeroCells z0.cells (n'+1 - i)++Builtin.zeroCells z0.cells (gc - (n'+1)):=⟨_,rfl⟩
     rw [<- hROW] at hw
     have hRs:ROW.size=gc*7:=by
      rw [hROW]
      simp only [Array.size_append,List.size_toArray,llt,size_zeroCells,hz3,holn]
      omega
     have hRg:∀ k,k<i*7->ROW[k]?=olds[k]?:=fun k hk=>by
      rw [hROW,Array.append_assoc,Array.getElem?_append_left (by simp;omega),List.getElem?_toArray,List.getElem?_take_of_lt hk]
     have hb0:((w.alloc (.cells ROW 65)).drew).heap[w.heap.size]?=some (.cells ROW 65 (0,0)):=heap_alloc_new w _
     have hdl:(olds.drop (i*7)).length=(n' - i)*7:=by rw [lld,holn];omega
     obtain ⟨N1,hN1⟩:∃ N1,N1=(AB ROW.toList (i*7) news).toArray:=⟨_,rfl⟩
     have hs1:i*7+news.length<=ROW.toList.length:=by rw [hnl,Array.length_toList,hRs];omega
     have z1:N1.size=ROW.size:=by rw [hN1,List.size_toArray,CA _ _ _ hs1,Array.length_toList]
     obtain ⟨N2,hN2⟩:∃ N2,N2=(AB N1.toList ((i+1)*7) (olds.drop (i*7))).toArray:=⟨_,rfl⟩
     have hs2:(i+1)*7+(olds.drop (i*7)).length<=N1.toList.length:=by rw [hdl,Array.length_toList,z1,hRs];omega
     have z2:N2.size=ROW.size:=by rw [hN2,List.size_toArray,CA _ _ _ hs2,Array.length_toList,z1]
     rw [EG (P:=Tryz.prog) _ _ _ _ hb0 (by simpa using hs1) hrow.one,<- hN1] at hw
     have hb1':(((w.alloc (.cells ROW 65)).drew.setRow w.heap.size N1).drew).heap[w.heap.size]?=some (.cells N1 65 (0,0)):=setRow_heap _ _ _ _ _ _ hb0
     rw [EG (P:=Tryz.prog) _ _ _ _ hb1' (by simpa using hs2) (fun v hv=>horow.one v (List.mem_of_mem_drop hv)),<- hN2] at hw
     have gN:∀ k,N2[k]?=if (i+1)*7<=k/\k<(i+1)*7+(n' - i)*7 then olds[i*7+(k - (i+1)*7)]? else if i*7<=k/\k<i*7+7 then news[k - i*7]? else ROW[k]?:=fun k=>by
      rw [hN2,List.getElem?_toArray,C7 _ _ _ hs2,hdl,List.getElem?_drop,Array.getElem?_toList (xs:=N1),hN1,List.getElem?_toArray,C7 _ _ _ hs1,hnl,Array.getElem?_toList (xs:=ROW)]
     refine fresh w' N2 65 gc (by rw [hw];show _<=(((w.alloc (.cells ROW 65)).drew.setRow w.heap.size N1).drew.setRow w.heap.size N2).heap.size;simp [World.setRow]) (fun b hb'=>?_) (by rw [hw];rfl) (by rw [hw];rfl) (by rw [hw];rfl) (by rw [hw];exact setRow_heap _ _ _ _ _ _ hb1') hge (by rw [z2,hRs]) ?_
     ·rw [hw]
      exact (setRow_other _ _ _ _ (by omega)).trans ((setRow_other _ _ _ _ (by omega)).trans (Below.heap_alloc w _ b hb'))
     ·refine Pp (cs:=olds) (vs:=news) hin' hol hnl hcs hx0 hold hxr (fun k hk=>?_) (fun k hk=>?_) (fun k hk=>?_)
      .rw [gN,if_neg (by omega),if_neg (by omega),hRg k hk]
      .rw [gN,if_neg (by omega),if_pos (by omega),Nat.add_sub_cancel_left]
      .rw [gN,if_pos (by omega),Nat.add_sub_cancel_left]
end Go.V
namespace Go.V
open Go.RowKit Go.Sort Go.Proofs Go.Shelf
section
variable [GK]
theorem Ze {x:PV} {l:List Int} (h:Ig x=some l):x=Ct l:=by
 unfold Ig at h
 split at h
 .rw [Jk (g:=PV.int .i64) (fun x y=>Ra) h]
 .cases h
abbrev SubR (ps:List (List Int)):={ p:List Int // p∈ps }
def Dy {ps:List (List Int)} (x:SubR ps):List Value:=x.1.map (Value.int .i64)
def cfR {ps:List (List Int)} (x y:SubR ps):Int:=hdR x.1 - hdR y.1
theorem ltR {ps:List (List Int)} (x y:SubR ps):ltOf cfR x y=decide (hdR x.1<hdR y.1):=by
 unfold ltOf cfR
 rw [decide_eq_decide]
 omega
theorem swoR {ps:List (List Int)}:SWO (ltOf (cfR (ps:=ps))) where
 irrefl x:=by rw [ltR];simp
 trans x y z h1 h2:=by rw [ltR] at *;simp at *;omega
 ntrans x y z h1 h2:=by rw [ltR] at *;simp at *;omega
theorem Re:∀ {ps:List (List Int)},(ps.map hdR).Nodup->∀ x∈ps,∀ y∈ps,hdR x=hdR y->x=y
 | [],_,x,hx,_,_,_=>by simp at hx
 | p::ps,h,x,hx,y,hy,e=>by
  rw [lpc,List.nodup_cons] at h
  rcases lmk.1 hx with hx|hx<;>rcases lmk.1 hy with hy|hy
  .rw [hx,hy]
  .exact absurd (lmm.2 ⟨y,hy,by rw [<- e,hx]⟩) h.1
  .exact absurd (lmm.2 ⟨x,hx,by rw [e,hy]⟩) h.1
  .exact Re h.2 x hx y hy e
theorem totR {ps:List (List Int)} (h:(ps.map hdR).Nodup) (x y:SubR ps) (h1:ltOf cfR x y=false) (h2:ltOf cfR y x=false):x=y:=by
 rw [ltR] at h1 h2
 simp at h1 h2
 exact Subtype.ext (Re h x.1 x.2 y.1 y.2 (by omega))
theorem X5 {ps:List (List Int)}:(ps.attach.mergeSort fun x y=>!(ltOf cfR) y x).map Subtype.val=ps.mergeSort fun x y=>decide (hdR x<=hdR y):=by
 rw [List.map_mergeSort (s:=fun x y=>decide (hdR x<=hdR y)),List.attach_map_subtype_val]
 intro a _ b _
 rw [ltR,Bool.eq_iff_iff]
 simp
theorem Mk {P:Program} {ρ:Ren} (L:SlLaysF0.n6 P ρ) {K:Nat} (hK:0<K) (aE:∀ w,(isAgg (ρ.t 24)).run P w=.ok true w) (zE:∀ w,(Go.sizeOf (ρ.t 24)).run P w=.ok K w) {g:FuncId} (eg:∀ args w,(callFunc g args).run P w=.ok (.enter g args) w)
  (hcl:∀ (x y:List Int) (W:World),x.length=K->y.length=K->0<=hdR x->hdR x<4611686018427387904->0<=hdR y->hdR y<4611686018427387904->Calls P g #[.agg (x.map (Value.int .i64)).toArray,.agg (y.map (Value.int .i64)).toArray] W fun e w'=>e=.returned (.int .i64 (hdR x - hdR y))/\∃ q os',w'=grow (W.drewN q) os')
  {args:List VVal} {H:List Ob} {res:VVal} {H':List Ob} (h:XK K g args H=some (res,H')):CR P (ρ.f 6) args H res H':=by
 unfold XK at h
 split at h<;>try (cases h;done)
 rename_i n g' k xs
 obtain ⟨hg,h⟩:=Ab h
 obtain ⟨hkK,h⟩:=Ab h
 obtain ⟨hn,h⟩:=Ab h
 obtain ⟨hbig,h⟩:=Ab h
 obtain ⟨ps,hps,h⟩:=Aa h
 obtain ⟨hbd,h⟩:=Ab h
 obtain ⟨hnd,h⟩:=Ab h
 simp only [osi,pmi] at h
 obtain ⟨rfl,rfl⟩:=h
 subst hg hkK
 have hxs:=Jk (g:=Ct) (fun x y=>Ze) hps
 have hpl:ps.length=n:=by rw [hn,hxs,llm]
 intro G w cargs hinv hgd hlen hargs _
 have hsize:cargs.size=2:=by simpa using hlen.symm
 obtain ⟨c,f,hc⟩:∃ c f,cargs=#[c,f]:=by
  match hcl:cargs.toList with
  | [c,f]=>exact ⟨c,f,by rw [<- Array.toList_inj,hcl]⟩
  | []=>simp [<- Array.length_toList,hcl] at hsize
  | [_]=>simp [<- Array.length_toList,hcl] at hsize
  | _::_::_::_=>simp [<- Array.length_toList,hcl] at hsize
 subst hc
 have hf:f=.func (.func g') #[] #[]:=by
  have:=hargs 1 _ f rfl rfl
  cases this with
  | p hp _=>cases hp;rfl
 subst hf
 obtain ⟨a,cap,rfl,harg⟩:=PU hinv (hargs 0 _ c rfl rfl) hn
 by_cases h0:n=0
 ·subst h0
  have hz:ps=[]:=lez hpl
  subst hz
  simp only [lpn] at hxs
  subst hxs
  refine (AnyF.slices_SortFunc_none L a cap _ w).mono fun e w' ⟨he,hw⟩=>?_
  subst he
  subst hw
  exact ⟨.tuple #[],G,_,[],rfl,Step.refl _ _ _,hinv,⟨#[],rfl,rfl,fun i v c h=>by simp at h⟩,by simp [Ck,CS,Ez,Df,As,DZ,EP,capIds1,capIds0,gd,Ad,ob],by simp [Bf,Eo,As,ob]⟩
 ·rcases harg with h1|⟨rfl,hm,arr,t,hb,hcap,hcells⟩
  ·exact absurd h1 h0
  ·obtain ⟨p0,hp0⟩:∃ p,p∈ps:=List.exists_mem_of_length_pos (by omega)
   haveI:Inhabited (SubR ps):=⟨⟨p0,hp0⟩⟩
   have hlt:=(ags.1 hb).1
   have hlK:∀ z:SubR ps,z.1.length=k:=fun z=>(hbd z.1 z.2).1
   have hge:∀ (z:SubR ps) (j:Nat) (hj:j<k),(Dy z)[j]! = .int .i64 (z.1[j]'(by rw [hlK z];exact hj)):=fun z j hj=>by
    rw [getElem!_pos (Dy z) j (by unfold Dy;rw [llm,hlK z];exact hj)]
    simp [Dy]
   have hdiv:∀ i j,j<k->(i*k+j) / k=i/\(i*k+j) % k=j:=fun i j hj=>by
    rw [Nat.mul_comm]
    exact ⟨by rw [Nat.mul_add_div hK,Nat.div_eq_of_lt hj,Nat.add_zero],by rw [Nat.mul_add_mod,Nat.mod_eq_of_lt hj]⟩
   have hlin:∀ i j m,i<m->j<k->i*k+j<m*k:=fun i j m hi hj=>by
    have:=Nat.mul_le_mul_right k (show i+1<=m from hi)
    rw [Nat.succ_mul] at this
    omega
   have hget:∀ (l:List (SubR ps)) (i j:Nat),i<l.length->j<k->(flatK Dy k l.toArray)[i*k+j]! = (Dy l[i]!)[j]!:=fun l i j hi hj=>by
    rw [get_flatK _ _ _ _ (by simpa using hlin i j _ hi hj),(hdiv i j hj).1,(hdiv i j hj).2]
    simp
   have hat:∀ i (hi:i<n),(ps.attach[i]!).1=ps[i]'(by omega):=fun i hi=>by
    rw [getElem!_pos ps.attach i (by simp;omega)]
    simp
   have hcell:∀ i j,i<n->j<k->arr[i*k+j]?=some ((Dy (ps.attach[i]!))[j]!):=fun i j hi hj=>by
    have hx:xs[i]?=some (Ct (ps.attach[i]!).1):=by
     rw [hxs,List.getElem?_map,lgg (by omega),hat i hi]
     rfl
    rw [hge _ j hj]
    obtain ⟨v,e1,e2⟩:=hcells i _ j _ hx (show (List.map (PV.int .i64) (ps.attach[i]!).1)[j]?=some (.int .i64 ((ps.attach[i]!).1[j]'(by rw [hlK];exact hj))) by rw [List.getElem?_map,lgg (by rw [hlK];exact hj)];rfl)
    cases e2
    exact e1
   have hH:HoldsK (Dy (ps:=ps)) k w (G.blk (.arg 0 0)) 0 ps.attach.toArray:=fun m hm'=>by
    have hk':m<n*k:=by simpa [hpl] using hm'
    have e:m=(m / k)*k+m % k:=by rw [Nat.mul_comm];exact (Nat.div_add_mod m k).symm
    have hr:m % k<k:=Nat.mod_lt _ hK
    have hq:m / k<n:=Nat.div_lt_of_lt_mul (by rw [Nat.mul_comm];exact hk')
    have:=hcell (m / k) (m % k) hq hr
    rw [<- e] at this
    constructor
    ·rw [Nat.zero_add,BY hb,this]
     have:=hget ps.attach (m / k) (m % k) (by simp;omega) hr
     rw [<- e] at this
     rw [id,this]
    .simp [World.frozen?,hb]
   have hcmp:CmpLays P g' #[] (Dy (ps:=ps)) k cfR (G.blk (.arg 0 0)) 0 ps.attach.toArray.size w:=fun m os dk _ x y=>by
    have hx:=hbd x.1 x.2
    have hy:=hbd y.1 y.2
    exact hcl x.1 y.1 _ hx.1 hy.1 hx.2.1 hx.2.2 hy.2.1 hy.2.2
   have hcon:=AnyQ.slices_SortFunc_total L k aE zE Dy (fun x=>by unfold Dy;rw [llm,hlK]) (fun x v hv=>by unfold Dy at hv;obtain ⟨n,_,rfl⟩:=lmm.1 hv;rfl) cfR swoR g' #[] (G.blk (.arg 0 0)) 0 cap ps.attach.toArray w eg hcmp hH hlt (by simp;omega) (totR hnd)
   simp only [List.size_toArray,List.length_attach,hpl] at hcon
   refine hcon.mono fun e w' ⟨he,q,os,hw⟩=>?_
   subst he
   obtain ⟨a1,a2,a3,a4,a5,a6⟩:=Of id hb hw
   have hml:(ps.attach.mergeSort fun x y=>!(ltOf cfR) y x).length=n:=by rw [List.length_mergeSort,List.length_attach,hpl]
   have hsz:arr.size=G.cap (.arg 0 0)*k:=hcap.2
   refine PT hinv hm hb hcap (by simp [hn,hxs]) (by intro x hx;simp only [lmm] at hx;obtain ⟨p,hp,rfl⟩:=hx;show (List.map _ p).length=k;rw [llm];exact (hbd p (List.mem_mergeSort.1 hp)).1) a1 (MU ..) a2 a3 a4 a5 a6 fun i x j c hx hj=>?_
   rw [<- X5] at hx
   generalize hS:(ps.attach.mergeSort fun x y=>!(ltOf cfR) y x)=S at hx hml
   rw [List.map_map,List.getElem?_map,Option.map_eq_some_iff] at hx
   obtain ⟨z,hz,rfl⟩:=hx
   have hi:i<S.length:=(lgs.1 hz).1
   have hzi:S[i]! = z:=by rw [getElem!_pos S i hi];exact (lgs.1 hz).2
   have hj:(List.map (PV.int .i64) z.1)[j]?=some c:=hj
   rw [List.getElem?_map,Option.map_eq_some_iff] at hj
   obtain ⟨m,hm1,rfl⟩:=hj
   obtain ⟨hj1,hj2⟩:=lgs.1 hm1
   rw [hlK z] at hj1
   have hcap2:n*k<=arr.size:=by
    rw [hsz]
    exact Nat.mul_le_mul_right k (by rw [hn];exact hcap.1)
   have hlt2:=hlin i j n (by omega) hj1
   have hg1:=Nh id 0 (flatK Dy k S.toArray) arr (k:=i*k+j) (by simpa [hml] using hlt2) (by omega)
   rw [Nat.zero_add,hget S i j hi hj1,hzi,hge z j hj1,hj2] at hg1
   exact ⟨_,hg1,rfl,fun _ _=>.int _ _⟩
end
end Go.V
