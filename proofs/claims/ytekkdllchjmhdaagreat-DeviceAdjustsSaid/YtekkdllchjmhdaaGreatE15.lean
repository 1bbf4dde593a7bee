/- Part 15 of the proof. -/
import Derived.Test.YtekkdllchjmhdaaGreatE14
import Derived.Lib.JoinLaws
import Derived.Lib.AppendZeros
import Derived.Lib.AppendZerosOnto
import Derived.Lib.Overlaps
import Derived.Laws.Externs
import Derived.Laws.IdiomCopy
import Derived.Laws.NewBlocks
import Derived.Shelf.Spec.SlicesInsert
set_option linter.unusedSectionVars false
set_option linter.unusedSimpArgs false
set_option linter.unusedVariables false
set_option maxHeartbeats 32000000
open Nat renaming le_refl → lrf
open List renaming getElem?_eq_getElem → lgg, getElem?_eq_some_iff → lgs, mem_of_getElem? → lmg, length_cons → llc, length_append → lla, getElem?_append_right → lgr, mem_cons → lmk, mem_append → lmp, eq_nil_of_length_eq_zero → lez, length_take → llt, length_drop → lld
open Option renaming some.injEq → osi
open Array renaming getElem?_eq_getElem → agg
open Prod renaming mk.injEq → pmi
namespace Go.V
open Go.RowKit Go.Sort Go.Proofs Go.Shelf Go.Lib
theorem If {P:Program} (w:World) (dT sT ty elem:TypeId) (b o dLen dCap:Nat) (a:Addr) (sLen sCap m:Nat) (cs:List Value) {i:TypeInfo} (hu:P.underlying dT=some (.slice elem)) (hinf:P.info? elem=some i) (hm:Nat.min sLen dLen=m) (hl:cs.length=m*i.size)
  (hsrc:∀ j v,cs[j]?=some v->w.cell? (a.add j)=some v) (hc:∀ j,j<cs.length->(w.cell? ⟨b,o+j,none⟩).isSome=true) (hf:∀ j,j<cs.length->w.frozen? ⟨b,o+j,none⟩=false) (h1:∀ v∈cs,v.oneCell'=true) :
  (Builtin.copy_ #[dT,sT] ty #[.slice (some ⟨b,o,none⟩) dLen dCap,.slice (some a) sLen sCap]).run P w=.ok (goInt m) (w.setCells b o cs):=by
 have hfc:=run_firstCells_some (P:=P) w i.size m a sLen sCap cs hl hsrc
 have hst:=run_storeCells_cells (P:=P) b o cs 0 w (by simpa using hc) (by simpa using hf) h1
 simp only [Nat.add_zero] at hst
 simp [Builtin.copy_,run_underlying hu,Builtin.lenOf,sizeOf,typeInfo,hinf,hm,hfc,hst]
set_option maxRecDepth 100000 in
theorem Ns (base:Option Addr) (n c:Nat) (a2:Addr) (vc:Nat) (w w1:World) (r:Value) (hn:n<=c) (hb0:base=none->c=0) (hrun:∀ ty,(Builtin.append_ #[40,40] ty #[.slice base n c,.slice (some a2) 1 vc]).run Tryz.prog w=.ok r w1) :
  Calls Tryz.prog 129 #[.slice base n c,.int .i64 n,.slice (some a2) 1 vc] w fun e w'=>e=.returned r/\w'=w1:=by
 obtain ⟨vb,voff,vsp⟩:=a2
 go_enter Tryz.func129,Tryz.ntmps129
 cases base with
 | none =>
  have hc0:=hb0 rfl
  have hn0:n=0:=by omega
  subst hc0 hn0
  go_wp2_with (at_builtin;refine Lib.wpList_append_run _ rfl _ _ _ _ rfl _ _ rfl rfl _ _ (hrun _) ?_)
  go_ret
  exact ⟨rfl,rfl⟩
 | some a =>
  obtain ⟨ab,ao,asp⟩:=a
  go_wp2_with (at_builtin;refine Lib.wpList_append_run _ rfl _ _ _ _ rfl _ _ rfl rfl _ _ (hrun _) ?_)
  all_goals (go_ret;exact ⟨rfl,rfl⟩)
set_option maxRecDepth 100000 in
theorem T8 (b n c i vb vc:Nat) (cs vs:List Value) (w:World) (hi:i<n) (hroom:n+1<=c) (hn63:n+1<=9223372036854775807) (hvb:vb ≠ b) (hcl:cs.length=n*7) (hvl:vs.length=7)
  (hcs:∀ j v,cs[j]?=some v->w.cell? ⟨b,j,none⟩=some v) (hsp:∀ j,j<(n+1)*7->(w.cell? ⟨b,j,none⟩).isSome=true) (hfz:∀ j,j<(n+1)*7->w.frozen? ⟨b,j,none⟩=false)
  (hvs:∀ j v,vs[j]?=some v->w.cell? ⟨vb,j,none⟩=some v) (h1c:∀ v∈cs,v.oneCell'=true) (h1v:∀ v∈vs,v.oneCell'=true)
  (tA tB:TypeId) (kA kB:Nat) (hsa:w.shape? vb=some (tA,kA)) (hsb:w.shape? b=some (tB,kB)) (hkB:kB ≠ 0) (hfa:w.frozen? ⟨vb,0,none⟩=false) (hfe:w.frozen? ⟨vb,kA,none⟩=false) :
  Calls Tryz.prog 129 #[.slice (some ⟨b,0,none⟩) n c,.int .i64 i,.slice (some ⟨vb,0,none⟩) 1 vc] w fun e w' =>
   e=.returned (.slice (some ⟨b,0,none⟩) (n+1) c)/\w'=(w.drew.setCells b ((i+1)*7) (cs.drop (i*7))).setCells b (i*7) vs:=by
 obtain ⟨i0,z0,hi0,hz0,hz1,hz2,hz3,hz4⟩:=IY (P:=Tryz.prog) (e:=65) (sz:=7) (bt:=56) (by kernel_rfl)
 have hne:¬ ((i:Int)=(n:Int)):=by omega
 have hsz:∀ w,(Go.sizeOf 65).run Tryz.prog w=.ok 7 w:=fun w=>by simp [sizeOf,typeInfo,hi0,hz1]
 have hov:∀ lb cb,(callFunc 189 #[.slice (some ⟨vb,0,none⟩) 1 vc,.slice (some ⟨b,(i+1)*7,none⟩) lb cb]).run Tryz.prog w=.ok (.value (.bool false)) w:=fun lb cb=>by
  rw [run_callFunc_extern Tryz.func189 (by kernel_rfl) (by kernel_rfl) (by kernel_rfl) (e:=Extern.SlicesOverlaps.overlaps #[40,40] #[4]) (by kernel_rfl),
   Lib.run_overlaps_apart w 40 4 65 Tryz.underlying40 7 hsz ⟨vb,0,none⟩ ⟨b,(i+1)*7,none⟩ 1 vc lb cb hvb tA tB kA kB hsa hsb hkB hfa hfe]
  rfl
 have mixed:Tryz.prog.follows Departure.mixedOrders=true:=by kernel_rfl
 have hdl:(cs.drop (i*7)).length=(n - i)*i0.size:=by rw [lld,hcl,hz1];omega
 have hdl7:(cs.drop (i*7)).length=(n - i)*7:=by rw [hdl,hz1]
 have hcp1:∀ ty dc sc,(Builtin.copy_ #[40,40] ty #[.slice (some ⟨b,(i+1)*7,none⟩) (n+1 - (i+1)) dc,.slice (some ⟨b,i*7,none⟩) (n+1 - i) sc]).run Tryz.prog w.drew=.ok (goInt ((n - i:Nat):Int)) (w.drew.setCells b ((i+1)*7) (cs.drop (i*7))):=fun ty dc sc =>
  If w.drew _ _ ty 65 b ((i+1)*7) (n+1 - (i+1)) dc ⟨b,i*7,none⟩ (n+1 - i) sc (n - i) (cs.drop (i*7)) Tryz.underlying40 hi0 (by simp only [Nat.min_def];split<;>omega) hdl
   (fun j v hj=>by rw [Addr.add_lit];exact hcs _ v (by rwa [List.getElem?_drop] at hj))
   (fun j hj=>hsp _ (by omega)) (fun j hj=>hfz _ (by omega)) (fun v hv=>h1c v (List.mem_of_mem_drop hv))
 obtain ⟨W1,hW1⟩:∃ W1,W1=w.drew.setCells b ((i+1)*7) (cs.drop (i*7)):=⟨_,rfl⟩
 have hsp1:∀ k,k<(n+1)*7->(W1.cell? ⟨b,k,none⟩).isSome=true:=fun k hk=>by
  rw [hW1]
  exact Proofs.isSome_setCells b _ ((i+1)*7) w.drew (fun j hj=>hsp _ (by omega)) k (hsp k hk)
 have hcp2:∀ (W:World),(∀ x,W.cell? x=W1.cell? x)->(∀ x,W.frozen? x=W1.frozen? x)->∀ ty dc,(Builtin.copy_ #[40,40] ty #[.slice (some ⟨b,i*7,none⟩) (n+1 - i) dc,.slice (some ⟨vb,0,none⟩) 1 vc]).run Tryz.prog W=.ok (goInt 1) (W.setCells b (i*7) vs):=fun W hWc hWf ty dc =>
  If W _ _ ty 65 b (i*7) (n+1 - i) dc ⟨vb,0,none⟩ 1 vc 1 vs Tryz.underlying40 hi0 (by simp only [Nat.min_def];split<;>omega) (by rw [hvl,hz1])
   (fun j v hj=>by
    rw [Addr.add_lit,hWc,hW1,World.cell?_setCells_out b _ _ _ _ (fun h _=>absurd h hvb),Nat.zero_add]
    exact hvs j v hj)
   (fun j hj=>by rw [hWc];exact hsp1 _ (by omega)) (fun j hj=>by rw [hWf,hW1,World.frozen?_setCells];exact hfz _ (by omega)) h1v
 rw [<- hW1] at hcp1
 have hw1:IntKind.i64.wrap ((i:Int)+1)=(i:Int)+1:=by rw [IntKind.wrap_i64];omega
 have hb1:(0:Int)<=(i:Int)+1:=by omega
 have hb2:(i:Int)+1<=(n:Int)+1:=by omega
 have hX1:(i:Int)<=(n:Int)+1:=by omega
 have hX2:i+1<=n+1:=by omega
 have hX3:((i:Int)+1).toNat=i+1:=by omega
 have hX4:¬ (c=i+1):=by omega
 have hX5:¬ (c=i):=by omega
 clear hsz hcs hsp hfz hvs h1c h1v hsp1 hdl hdl7
 go_enter Tryz.func129,Tryz.ntmps129
 go_wp2_with (simp only [hov])
 go_region_law_o (refine step_copy_runI rfl _ _ 40 40 rfl (.slice (some ⟨b,(i+1)*7,none⟩) (n+1 - (i+1)) (c - (i+1))) (.slice (some ⟨b,i*7,none⟩) (n+1 - i) (c - i)) (by simp [Act.eval,Act.put]) (by simp [Act.eval,Act.put]) (hcp1 _ _ _) ?_)
 go_wp2_with (at_builtin;refine wpList_copy_runI _ rfl _ _ 40 40 rfl _ _ rfl rfl (hcp2 _ (fun _=>rfl) (fun _=>rfl) _ _) ?_)
 go_ret
 first|exact ⟨rfl,rfl⟩|exact ⟨rfl,by rw [hW1]⟩
set_option maxRecDepth 100000 in
theorem Up (b n c i vb vc:Nat) (cs vs:List Value) {i0:TypeInfo} {z0:Value} (hi0:Tryz.prog.info? 65=some i0) (hz0:i0.zero=some z0) (hz1:i0.size=7) (hz2:i0.bytes=56) (hz3:z0.cells.size=7)
  (w:World) (hi:i<n) (hnc:n<=c) (hroom:c<n+1) (hbig:(n+1)*56<=140737488355328) (hcl:cs.length=n*7) (hvl:vs.length=7)
  (hcs:∀ j v,cs[j]?=some v->w.cell? ⟨b,j,none⟩=some v) (hvs:∀ j v,vs[j]?=some v->w.cell? ⟨vb,j,none⟩=some v) (h1c:∀ v∈cs,v.oneCell'=true) (h1v:∀ v∈vs,v.oneCell'=true) :
  Calls Tryz.prog 129 #[.slice (some ⟨b,0,none⟩) n c,.int .i64 i,.slice (some ⟨vb,0,none⟩) 1 vc] w fun e w' =>
   e=.returned (.slice (some ⟨w.heap.size,0,none⟩) (n+1) (grownCap w (n+1) c 65)) /\
   w'=(((w.alloc (.cells ((cs.take (i*7)).toArray++Builtin.zeroCells z0.cells (n+1 - i)++Builtin.zeroCells z0.cells (grownCap w (n+1) c 65 - (n+1))) 65)).drew.setCells w.heap.size (i*7) vs).drew).setCells w.heap.size ((i+1)*7) (cs.drop (i*7)):=by
 have u40:=run_underlying (P:=Tryz.prog) Tryz.underlying40
 have mixed:Tryz.prog.follows Departure.mixedOrders=true:=by kernel_rfl
 have hne:¬ ((i:Int)=(n:Int)):=by omega
 have hz3':(c:Int)<(n:Int)+1:=by omega
 have hbw:b<w.heap.size:=block_lt_of_cell (hcs 0 _ (lgg (by omega)))
 have hvw:vb<w.heap.size:=block_lt_of_cell (hvs 0 _ (lgg (by omega)))
 have hkk:(n:Int)+1 - (i:Int)=((n+1 - i:Nat):Int):=by omega
 have hik:i+(n+1 - i)=n+1:=by omega
 have hold:(Builtin.firstCells i0.size i (.slice (some ⟨b,0,none⟩) i c)).run Tryz.prog w.drew=.ok (cs.take (i*7)).toArray w.drew:=by
  rw [hz1]
  exact run_firstCells_some w.drew 7 i ⟨b,0,none⟩ i c (cs.take (i*7)) (by rw [llt];omega) (fun j v hj=>by
   rw [Addr.add_lit,Nat.zero_add]
   rw [List.getElem?_take] at hj
   split at hj
   ·exact hcs j v hj
   ·cases hj)
 have hrz:∀ ty,(Builtin.append_ #[40,3] ty #[.slice (some ⟨b,0,none⟩) i c,.int .i64 ((n:Int)+1 - (i:Int))]).run Tryz.prog w =
   .ok (.slice (some ⟨w.heap.size,0,none⟩) (n+1) (grownCap w (n+1) c 65)) (w.drew.alloc (.cells ((cs.take (i*7)).toArray++Builtin.zeroCells z0.cells (n+1 - i)++Builtin.zeroCells z0.cells (grownCap w (n+1) c 65 - (n+1))) 65)):=fun ty=>by
  have h:=Lib.run_append_grow_zeros w 40 3 ty 65 i0 z0 .i64 .i64 Tryz.underlying40 Tryz.underlying3 hi0 hz0 (some ⟨b,0,none⟩) i c (cs.take (i*7)) hold (n+1 - i) (by omega) (by omega) (by omega) (by omega) (by rw [hz2];omega) (by rw [hz2,hik];exact growslice_fits hroom hbig)
  rw [hik] at h
  rw [hkk]
  exact h
 obtain ⟨G,hG⟩:∃ G,G=grownCap w (n+1) c 65:=⟨_,rfl⟩
 have hGn:n+1<=G:=by rw [hG];exact grownCap_ge w _ _ _
 have hG63:G<=9223372036854775807:=by
  have:=grownCap_le_maxLen w (n+1) c 65 (by unfold maxLen;omega)
  rw [<- hG] at this
  unfold maxLen at this
  omega
 obtain ⟨ROW,hROW⟩:∃ ROW:Array Value,ROW=(cs.take (i*7)).toArray++Builtin.zeroCells z0.cells (n+1 - i)++Builtin.zeroCells z0.cells (G - (n+1)):=⟨_,rfl⟩
 rw [<- hG] at hrz ⊢
 rw [<- hROW] at hrz ⊢
 have hRl:(n+1)*7<=ROW.size:=by
  rw [hROW]
  simp only [Array.size_append,List.size_toArray,llt,size_zeroCells,hz3,hcl]
  omega
 obtain ⟨W1,hW1⟩:∃ W1,W1=w.drew.alloc (.cells ROW 65):=⟨_,rfl⟩
 rw [<- hW1] at hrz
 have hN:∀ j,j<(n+1)*7->(W1.cell? ⟨w.heap.size,j,none⟩).isSome=true:=fun j hj=>by
  rw [hW1,World.cell?_alloc_at (w:=w.drew) ROW _ w.heap.size j rfl,agg (by omega)];rfl
 have hNf:∀ j,W1.frozen? ⟨w.heap.size,j,none⟩=false:=fun j=>by rw [hW1];exact World.frozen?_alloc_at (w:=w.drew) ROW _ w.heap.size j rfl
 have hOb:∀ j v,w.cell? ⟨b,j,none⟩=some v->W1.cell? ⟨b,j,none⟩=some v:=fun j v h=>by rw [hW1,World.cell?_alloc_past (w:=w.drew) _ b j hbw];exact h
 have hOv:∀ j v,w.cell? ⟨vb,j,none⟩=some v->W1.cell? ⟨vb,j,none⟩=some v:=fun j v h=>by rw [hW1,World.cell?_alloc_past (w:=w.drew) _ vb j hvw];exact h
 have hcpA:∀ (W:World),(∀ x,W.cell? x=W1.cell? x)->(∀ x,W.frozen? x=W1.frozen? x)->∀ ty dc,(Builtin.copy_ #[40,40] ty #[.slice (some ⟨w.heap.size,i*7,none⟩) (n+1 - i) dc,.slice (some ⟨vb,0,none⟩) 1 vc]).run Tryz.prog W=.ok (goInt 1) (W.setCells w.heap.size (i*7) vs):=fun W hWc hWf ty dc =>
  If W _ _ ty 65 w.heap.size (i*7) (n+1 - i) dc ⟨vb,0,none⟩ 1 vc 1 vs Tryz.underlying40 hi0 (by simp only [Nat.min_def];split<;>omega) (by rw [hvl,hz1])
   (fun j v hj=>by rw [Addr.add_lit,hWc,Nat.zero_add];exact hOv _ v (hvs j v hj))
   (fun j hj=>by rw [hWc];exact hN _ (by omega)) (fun j hj=>by rw [hWf];exact hNf _) h1v
 have hGi:¬ (G=i):=by omega
 have hGim:¬ (G=i+1):=by omega
 have hci:¬ (c=i):=by omega
 have hbN:b ≠ w.heap.size:=by omega
 have hdl:(cs.drop (i*7)).length=(n - i)*i0.size:=by rw [lld,hcl,hz1];omega
 have hdl7:(cs.drop (i*7)).length=(n - i)*7:=by rw [hdl,hz1]
 have hcpB:∀ (W:World),(∀ x,W.cell? x=(W1.setCells w.heap.size (i*7) vs).cell? x)->(∀ x,W.frozen? x=(W1.setCells w.heap.size (i*7) vs).frozen? x)->∀ ty dc sc,(Builtin.copy_ #[40,40] ty #[.slice (some ⟨w.heap.size,(i+1)*7,none⟩) (n+1 - (i+1)) dc,.slice (some ⟨b,i*7,none⟩) (n - i) sc]).run Tryz.prog W=.ok (goInt ((n - i:Nat):Int)) (W.setCells w.heap.size ((i+1)*7) (cs.drop (i*7))):=fun W hWc hWf ty dc sc =>
  If W _ _ ty 65 w.heap.size ((i+1)*7) (n+1 - (i+1)) dc ⟨b,i*7,none⟩ (n - i) sc (n - i) (cs.drop (i*7)) Tryz.underlying40 hi0 (by simp only [Nat.min_def];split<;>omega) hdl
   (fun j v hj=>by
    rw [Addr.add_lit,hWc,World.cell?_setCells_out _ _ _ _ _ (fun h _=>absurd h hbN)]
    exact hOb _ v (hcs _ v (by rwa [List.getElem?_drop] at hj)))
   (fun j hj=>by rw [hWc];exact Proofs.isSome_setCells _ _ _ _ (fun t ht=>hN _ (by omega)) _ (hN _ (by omega)))
   (fun j hj=>by rw [hWf,World.frozen?_setCells];exact hNf _) (fun v hv=>h1c v (List.mem_of_mem_drop hv))
 subst hW1
 have hE1:∀ x,((w.alloc (.cells ROW 65)).drew).cell? x=(w.drew.alloc (.cells ROW 65)).cell? x:=fun x=>rfl
 have hE2:∀ x,((w.alloc (.cells ROW 65)).drew).frozen? x=(w.drew.alloc (.cells ROW 65)).frozen? x:=fun x=>rfl
 have hF1:∀ x,(((w.alloc (.cells ROW 65)).drew.setCells w.heap.size (i*7) vs).drew).cell? x=((w.drew.alloc (.cells ROW 65)).setCells w.heap.size (i*7) vs).cell? x:=fun x=>rfl
 have hF2:∀ x,(((w.alloc (.cells ROW 65)).drew.setCells w.heap.size (i*7) vs).drew).frozen? x=((w.drew.alloc (.cells ROW 65)).setCells w.heap.size (i*7) vs).frozen? x:=fun x=>rfl
 have hw1:IntKind.i64.wrap ((i:Int)+1)=(i:Int)+1:=by rw [IntKind.wrap_i64];omega
 have hb1:(0:Int)<=(i:Int)+1:=by omega
 have hb2:(i:Int)+1<=(n:Int)+1:=by omega
 have hin:i<=n:=by omega
 have htn:((i:Int)+1).toNat=i+1:=by omega
 clear hkk hik hold hROW hG hRl hcs hvs h1c h1v hN hNf hOb hOv hi0 hz0
 go_enter Tryz.func129,Tryz.ntmps129
 go_wp2_with (first
  | (at_builtin;refine Lib.wpList_append_run _ rfl _ _ _ _ rfl _ _ rfl rfl _ _ (hrz _) ?_)
  | (at_builtin;refine wpList_copy_runI _ rfl _ _ 40 40 rfl _ _ rfl rfl (hcpA _ hE1 hE2 _ _) ?_)
  | (at_builtin;refine wpList_copy_runI _ rfl _ _ 40 40 rfl _ _ rfl rfl (hcpB _ (fun _=>rfl) (fun _=>rfl) _ _ _) ?_))
 go_region_law_o (refine step_copy_runI rfl _ _ 40 40 rfl (.slice (some ⟨w.heap.size,(i+1)*7,none⟩) (n+1 - (i+1)) (G - (i+1))) (.slice (some ⟨b,i*7,none⟩) (n - i) (c - i)) (by simp [Act.eval,Act.put]) (by simp [Act.eval,Act.put]) (hcpB _ hF1 hF2 3 (G - (i+1)) (c - i)) ?_)
 go_wp2
 go_ret
 exact ⟨rfl,rfl⟩
end Go.V
namespace Go.V
open Go.RowKit Go.Sort Go.Proofs Go.Shelf Go.Lib
theorem Ph {fz:Nat->Prop} {w:World} {sz i:Nat} {xs:List PV} {x0:PV} {N:Array Value} {cs vs:List Value} (hi:i<=xs.length) (hcl:cs.length=xs.length*sz) (hvl:vs.length=sz) (hcs:∀ x∈xs,x.cells.length=sz) (hx0:x0.cells.length=sz)
  (hcell:∀ (k:Nat) (x:PV) (j:Nat) (c:PV),xs[k]?=some x->x.cells[j]?=some c->∃ v,cs[k*sz+j]?=some v/\v.oneCell'=true/\PRel fz w c v)
  (hx:∀ (j:Nat) (c:PV),x0.cells[j]?=some c->∃ v,vs[j]?=some v/\v.oneCell'=true/\PRel fz w c v)
  (h1:∀ k,k<i*sz->N[k]?=cs[k]?) (h2:∀ k,k<sz->N[i*sz+k]?=vs[k]?) (h3:∀ k,k<(xs.length - i)*sz->N[(i+1)*sz+k]?=cs[i*sz+k]?) :
  ∀ (k:Nat) (x:PV) (j:Nat) (c:PV),(xs.take i++x0::xs.drop i)[k]?=some x->x.cells[j]?=some c->∃ v,N[k*sz+j]?=some v/\v.oneCell'=true/\PRel fz w c v:=by
 intro k x j c hk hj
 have hti:(xs.take i).length=i:=by rw [llt];omega
 by_cases hki:k<i
 ·rw [List.getElem?_append_left (by omega),List.getElem?_take_of_lt hki] at hk
  have hjs:j<sz:=by rw [<- hcs x (lmg hk)];exact (lgs.1 hj).1
  rw [h1 _ (CQ hki hjs)]
  exact hcell k x j c hk hj
 ·rw [lgr (by omega),hti] at hk
  by_cases hke:k=i
  ·subst hke
   rw [Nat.sub_self,List.getElem?_cons_zero] at hk
   cases hk
   have hjs:j<sz:=by rw [<- hx0];exact (lgs.1 hj).1
   rw [h2 _ hjs]
   exact hx j c hj
  ·obtain ⟨m,rfl⟩:∃ m,k=i+1+m:=⟨k - (i+1),by omega⟩
   rw [show i+1+m - i=m+1 by omega,List.getElem?_cons_succ,List.getElem?_drop] at hk
   have hjs:j<sz:=by rw [<- hcs x (lmg hk)];exact (lgs.1 hj).1
   have hml:m<xs.length - i:=by have:=(lgs.1 hk).1;omega
   rw [show (i+1+m)*sz+j=(i+1)*sz+(m*sz+j) by rw [Nat.add_mul (i+1) m,Nat.add_assoc],h3 _ (CQ hml hjs),show i*sz+(m*sz+j)=(i+m)*sz+j by rw [Nat.add_mul i m,Nat.add_assoc]]
   exact hcell (i+m) x j c hk hj
theorem HE (a b:Ob):At [a,b] (.arg 0 0)=some (0,a):=rfl
theorem I2 (a b:Ob):At [a,b] (.arg 1 0)=some (0,b):=rfl
theorem Y4 {k:Nat} {xs xs':List PV} {x:PV} {n:Nat} :
  Cr ((At [.arr k xs,.arr k [x]]).upd (.arg 0 0) (1,.arr k xs')) ([Ob.arr k xs,Ob.arr k [x]]:List Ob).length [.own (.arg 0 0) 1 0 n]=some (.own (.arg 0 0) 1 0 n)/\Bf ((At [.arr k xs,.arr k [x]]).upd (.arg 0 0) (1,.arr k xs')) 0 ([Ob.arr k xs,Ob.arr k [x]]:List Ob).length=some [.box [.undef,.fresh k xs'],.arr k [x]]:=by
 have e:((At [.arr k xs,.arr k [x]]).upd (.arg 0 0) (1,.arr k xs')) (.arg 1 0)=some (0,.arr k [x]):=by rw [DK _ _ (by simp),I2]
 refine ⟨?_,?_⟩
 .simp [Cr,CX,ET,C7,EJ,Di,Ei,E4,capIds1,capIds0,gd,BD,Bz,e]
 .simp [Bf,EP,Bz,ob,e]
theorem zaY [GK] {args:List VVal} {H:List Ob} {res:VVal} {H':List Ob} (h:JX 7 56 args H=some (res,H')):Da Tryz.prog 129 args H res H':=by
 unfold JX at h
 split at h<;>try (cases h;done)
 rename_i n i k xs k' x
 have q := Ac h
 clear h
 obtain ⟨rfl,h⟩:=q
 have q := Ac h
 clear h
 obtain ⟨rfl,h⟩:=q
 obtain ⟨hn,h⟩:=Ac h
 obtain ⟨hby,h⟩:=Ac h
 obtain ⟨hi0,h⟩:=Ac h
 obtain ⟨hin,h⟩:=Ac h
 simp only [osi,pmi] at h
 obtain ⟨rfl,rfl⟩:=h
 intro G w cargs hinv hgd hlen hargs _
 obtain ⟨c0,c1,c2,rfl⟩:=R5 hlen
 obtain ⟨i,rfl⟩:=Int.eq_ofNat_of_zero_le hi0
 cases LN (hargs 1 _ c1 rfl rfl)
 simp only [Int.toNat_natCast]
 obtain ⟨z,z0,hz,hz0,hz1,hz2,hz3,hz4⟩:=IY (P:=Tryz.prog) (e:=65) (sz:=7) (bt:=56) (by kernel_rfl)
 obtain ⟨hcs,hem,hall⟩:=hinv _ _ _ (HE (.arr 7 xs) (.arr 7 [x]))
 obtain ⟨hcs1,_,hall1⟩:=hinv _ _ _ (I2 (.arr 7 xs) (.arr 7 [x]))
 have hx0:x.cells.length=7:=hcs1 x (by simp)
 obtain ⟨ad,cap2,news,rfl,hrow⟩:=Gw hinv (hargs 2 _ c2 rfl rfl) (show A0 (At [.arr 7 xs,.arr 7 [x]]) (.own (.arg 1 0) 0 0 1)=some (7,[x]) by simp [A0,I2,gd])
 have hnl:news.length=7:=by simpa using hrow.len
 obtain ⟨a2,rfl,ha2⟩:=hrow.at_ (by simp)
 have hv2:=hargs 2 _ _ rfl rfl
 have hv0:=hargs 0 _ c0 rfl rfl
 have hxr:∀ (j:Nat) (c:PV),x.cells[j]?=some c->∃ v,news[j]?=some v/\v.oneCell'=true/\PRel (fun b=>G.kind b=.frozen) w c v:=fun j c hj=>by
  obtain ⟨u,e1,e2⟩:=hrow.rel 0 x j c rfl hj
  rw [Nat.zero_mul,Nat.zero_add] at e1
  exact ⟨u,e1,hrow.one u (lmg e1),e2⟩
 have blk2:G.kind (G.blk (.arg 1 0))=.mine (.arg 1 0)/\a2=⟨G.blk (.arg 1 0),0,none⟩:=by
  cases hv2 with
  | @own _ _ _ _ _ _ _ v o hn' hcap hh hle hoo =>
   rw [I2] at hh
   simp only [osi,pmi] at hh
   obtain ⟨rfl,rfl⟩:=hh
   obtain ⟨sz2,xs2,e,hlen2,hreal⟩:=hoo rfl
   simp only [Ob.arr.injEq] at e
   obtain ⟨rfl,rfl⟩:=e
   rcases hreal with ⟨h0,_⟩|⟨g1,g2,g3⟩
   ·omega
   ·have := g3 (by omega)
    simp only [Nat.zero_mul,osi] at this
    exact ⟨g1,this⟩
 obtain ⟨k2,rfl⟩:=blk2
 obtain ⟨hxc1,arr1,tt1,hb1,has1,_⟩:=hall1 k2
 have hvs:∀ j v,news[j]?=some v->w.cell? ⟨G.blk (.arg 1 0),j,none⟩=some v:=fun j v hj=>by
  have := ha2 j v hj
  rwa [add_lit,Nat.zero_add] at this
 cases hv0 with
 | @own _ _ _ _ a n' cap v o hn' hcap hh hle hoo =>
  rw [HE] at hh
  simp only [osi,pmi] at hh
  obtain ⟨rfl,rfl⟩:=hh
  subst hn'
  obtain ⟨sz2,xs2,e,hlen2,hreal⟩:=hoo rfl
  simp only [Ob.arr.injEq] at e
  obtain ⟨rfl,rfl⟩:=e
  have hin':i<=xs.length:=by omega
  have hxl:(xs.take i++x::xs.drop i).length=n'+1:=by rw [lla,llc,llt,lld];omega
  have hxs:∀ y∈xs.take i++x::xs.drop i,y.cells.length=7:=fun y hy=>by
   rcases lmp.1 hy with h|h
   ·exact hcs y (List.mem_of_mem_take h)
   ·rcases lmk.1 h with rfl|h
    ·exact hx0
    ·exact hcs y (List.mem_of_mem_drop h)
  obtain ⟨o1,o2⟩:=Y4 (k:=7) (xs:=xs) (xs':=xs.take i++x::xs.drop i) (x:=x) (n:=n'+1)
  have inPlace:∀ (w':World) (N:Array Value) (tt:TypeId),G.kind (G.blk (.arg 0 0))=.mine (.arg 0 0)->a=some ⟨G.blk (.arg 0 0),0,none⟩->cap<=G.cap (.arg 0 0)->n'+1<=cap->w.heap.size=w'.heap.size->(∀ b,b ≠ G.blk (.arg 0 0)->w'.heap[b]?=w.heap[b]?)->w'.os=w.os->w'.tape=w.tape->w'.output=w.output ->
    w'.heap[G.blk (.arg 0 0)]?=some (.cells N tt (0,0))->N.size=G.cap (.arg 0 0)*7->(∀ (q:Nat) (y:PV) (s:Nat) (c:PV),(xs.take i++x::xs.drop i)[q]?=some y->y.cells[s]?=some c->∃ v,N[q*7+s]?=some v/\v.oneCell'=true/\PRel (fun b=>G.kind b=.frozen) w c v) ->
    ∃ c G' h' vs,Ending.returned (.slice a (n'+1) cap)=.returned c/\Step G (At [.arr 7 xs,.arr 7 [x]]) w G' h' w'/\HeapInv G' h' w'/\DD G' h' w' vs c/\Cr h' ([Ob.arr 7 xs,Ob.arr 7 [x]]:List Ob).length vs=some (.own (.arg 0 0) 1 0 (n'+1))/\Bf h' 0 ([Ob.arr 7 xs,Ob.arr 7 [x]]:List Ob).length=some [.box [.undef,.fresh 7 (xs.take i++x::xs.drop i)],.arr 7 [x]]:=by
   intro w' N tt g1 ha hcg hroom hsz hblk hos htp hout hb' hN hcell
   have hblk':∀ b,(G.kind b=.mine (.arg 0 0)->b ≠ G.blk (.arg 0 0))->w'.heap[b]?=w.heap[b]?:=fun b hb'=>hblk b (fun e=>hb' (by rw [e];exact g1) e)
   have hst:Step G (At [.arr 7 xs,.arr 7 [x]]) w G ((At [.arr 7 xs,.arr 7 [x]]).upd (.arg 0 0) (0+1,.arr 7 (xs.take i++x::xs.drop i))) w':=Step.bump (.arg 0 0) (HE _ _) hsz hblk' hos htp hout
   refine ⟨_,G,_,[.own (.arg 0 0) 1 0 (n'+1)],rfl,hst,HeapInv.bump hinv (.arg 0 0) hst hblk' ⟨hxs,.inr g1,fun _=>⟨by omega,N,tt,hb',hN,fun q y s c hq hs=>?_⟩⟩,?_,o1,o2⟩
   ·obtain ⟨v,e1,e2,e3⟩:=hcell q y s c hq hs
    exact ⟨v,e1,e2,e3.mono hst.keeps hst.size⟩
   ·exact .own rfl hroom (Bz _ _ _) (lrf _) fun _=>⟨7,_,rfl,by omega,.inr ⟨g1,by omega,fun _=>by rw [ha]⟩⟩
  have fresh:∀ (w':World) (N:Array Value) (tt:TypeId) (cp:Nat),w.heap.size<=w'.heap.size->(∀ b,b<w.heap.size->w'.heap[b]?=w.heap[b]?)->w'.os=w.os->w'.tape=w.tape->w'.output=w.output ->
    w'.heap[w.heap.size]?=some (.cells N tt (0,0))->n'+1<=cp->N.size=cp*7->(∀ (q:Nat) (y:PV) (s:Nat) (c:PV),(xs.take i++x::xs.drop i)[q]?=some y->y.cells[s]?=some c->∃ v,N[q*7+s]?=some v/\v.oneCell'=true/\PRel (fun b=>G.kind b=.frozen) w c v) ->
    ∃ c G' h' vs,Ending.returned (.slice (some ⟨w.heap.size,0,none⟩) (n'+1) cp)=.returned c/\Step G (At [.arr 7 xs,.arr 7 [x]]) w G' h' w'/\HeapInv G' h' w'/\DD G' h' w' vs c/\Cr h' ([Ob.arr 7 xs,Ob.arr 7 [x]]:List Ob).length vs=some (.own (.arg 0 0) 1 0 (n'+1))/\Bf h' 0 ([Ob.arr 7 xs,Ob.arr 7 [x]]:List Ob).length=some [.box [.undef,.fresh 7 (xs.take i++x::xs.drop i)],.arr 7 [x]]:=by
   intro w' N tt cp hsz hblk hos htp hout hb' hle' hN hcell
   obtain ⟨G',s1,i1,v1⟩:=HM (w':=w') hinv (.arg 0 0) 7 (xs.take i++x::xs.drop i) cp hsz hblk hos htp hout hb' hxs (by omega) hN hcell
   rw [Ep (HE _ _)] at s1 i1 v1
   rw [hxl] at v1
   exact ⟨_,G',_,[.own (.arg 0 0) 1 0 (n'+1)],rfl,s1,i1,v1,o1,o2⟩
  obtain ⟨ad0,cap0,olds,hoe,horow⟩:=Gw hinv (hargs 0 _ _ rfl rfl) (show A0 (At [.arr 7 xs,.arr 7 [x]]) (.own (.arg 0 0) 0 0 n')=some (7,(xs.drop 0).take n') by simp [A0,HE,gd])
  simp only [List.drop_zero] at hoe horow
  have hoe':a=ad0:=by
   have := hoe
   simp at this
   exact this.1
  have hxt:xs.take n'=xs:=by rw [hn];exact List.take_length
  rw [hxt] at horow
  clear hoe
  have hol:olds.length=xs.length*7:=horow.len
  have hold:∀ (k:Nat) (y:PV) (j:Nat) (c:PV),xs[k]?=some y->y.cells[j]?=some c->∃ v,olds[k*7+j]?=some v/\v.oneCell'=true/\PRel (fun b=>G.kind b=.frozen) w c v:=fun k y j c hk hj=>by
   obtain ⟨u,e1,e2⟩:=horow.rel k y j c hk hj
   exact ⟨u,e1,horow.one u (lmg e1),e2⟩
  by_cases hie:i=n'
  ·
   subst hie
   have htk:xs.take i=xs:=hxt
   have hdr:xs.drop i=[]:=by rw [hn];exact List.drop_length
   by_cases hroom:i+1<=cap
   ·rcases hreal with ⟨h0,_⟩|⟨g1,g2,g3⟩
    ·omega
    ·have hadd:=g3 (by omega)
     simp only [Nat.zero_mul] at hadd
     subst hadd
     obtain ⟨hxc,arr,tt,hb,has,hcell⟩:=hall g1
     have hfit:i*z.size+news.length<=arr.size:=by rw [hz1,hnl,has];omega
     have hrun:=fun ty=>MW (P:=Tryz.prog) w 40 ty 65 tt z Tryz.underlying40 hz (G.blk (.arg 0 0)) i cap arr hb ⟨G.blk (.arg 1 0),0,none⟩ 1 cap2 news (by rw [hnl,hz1]) ha2 hrow.one hroom hfit
     refine (Ns _ i cap ⟨G.blk (.arg 1 0),0,none⟩ cap2 w _ _ hcap (fun h=>by cases h) hrun).mono fun e w' ⟨he,hw⟩=>?_
     subst he
     obtain ⟨N,hN⟩:∃ N,N=(AE arr.toList (i*z.size) news).toArray:=⟨_,rfl⟩
     rw [<- hN] at hw
     obtain ⟨q1,q2⟩:=Oh (fz:=fun b=>G.kind b=.frozen) (w:=w) (N:=N) (cap:=G.cap (.arg 0 0)) (ys:=[x]) (show i<=xs.length by omega) has (by simp;omega) hcs hcell hrow (by rw [hN,hz1])
     refine inPlace w' N tt g1 rfl (by omega) hroom (by rw [hw];simp [World.setRow]) (fun b hb'=>by rw [hw];exact setRow_other w _ _ _ hb') (by rw [hw];rfl) (by rw [hw];rfl) (by rw [hw];rfl) (by rw [hw];exact setRow_heap w _ _ _ _ _ hb) q1 ?_
     rw [hdr]
     exact q2
   ·have hfit2:Builtin.nextslicecap (i+1) cap*z.bytes<=281474976710656:=growslice_fits (by omega) (by rw [hz2];exact hby)
    have hrun:∃ olds':List Value,olds'.length=xs.length*7/\(∀ (k:Nat) (y:PV) (j:Nat) (c:PV),xs[k]?=some y->y.cells[j]?=some c->∃ v,olds'[k*7+j]?=some v/\v.oneCell'=true/\PRel (fun b=>G.kind b=.frozen) w c v) /\
      (a = none->cap = 0)/\∀ ty,(Builtin.append_ #[40,40] ty #[.slice a i cap,.slice (some ⟨G.blk (.arg 1 0),0,none⟩) 1 cap2]).run Tryz.prog w = .ok (.slice (some ⟨w.heap.size,0,none⟩) (i+1) (grownCap w (i+1) cap 65))
       (w.drew.alloc (.cells (olds'.toArray++news.toArray++Builtin.zeroCells z0.cells (grownCap w (i+1) cap 65 - (i+1))) 65)):=by
     cases a with
     | none =>
      have hc0:cap=0:=by
       rcases hreal with ⟨h0,_⟩|⟨_,_,g3⟩
       ·exact h0
       ·rcases Nat.eq_zero_or_pos cap with h0|h0
        ·exact h0
        ·have:=g3 h0;simp at this
      have hi0':i=0:=by omega
      subst hc0 hi0'
      have hx0':xs=[]:=lez hn.symm
      subst hx0'
      refine ⟨[],by simp,fun k y j c hk=>by simp at hk,fun _=>rfl,fun ty=>?_⟩
      have:=run_append_nil (P:=Tryz.prog) w 40 ty 65 z z0 Tryz.underlying40 hz hz0 ⟨G.blk (.arg 1 0),0,none⟩ 1 cap2 news (by rw [hnl,hz1]) ha2 (by omega) (by omega) (by rw [hz2];omega)
      simpa using this
     | some b =>
      refine ⟨olds,hol,hold,(fun h=>by cases h),fun ty=>?_⟩
      have hob:∀ (j:Nat) (u:Value),olds[j]?=some u->w.cell? (b.add j)=some u:=fun j u hu'=>by
       have hpos:0<xs.length:=by
        rcases Nat.eq_zero_or_pos xs.length with h0|h0
        ·rw [h0] at hol
         simp only [Nat.zero_mul] at hol
         rw [lez hol] at hu'
         simp at hu'
        .exact h0
       obtain ⟨b',hb',hcell⟩:=horow.at_ hpos
       rw [<- hoe'] at hb'
       cases hb'
       exact hcell j u hu'
      exact run_append_grow (P:=Tryz.prog) w 40 ty 65 z z0 Tryz.underlying40 hz hz0 b i cap olds (by rw [hol,hz1,hn]) hob ⟨G.blk (.arg 1 0),0,none⟩ 1 cap2 news (by rw [hnl,hz1]) ha2 (by omega) (by omega) hfit2
    obtain ⟨olds',hol',hold',hnone,hrun⟩:=hrun
    refine (Ns a i cap ⟨G.blk (.arg 1 0),0,none⟩ cap2 w _ _ hcap hnone hrun).mono fun e w' ⟨he,hw⟩=>?_
    subst he
    have hge:=grownCap_ge w (i+1) cap 65
    refine fresh w' (olds'.toArray++news.toArray++Builtin.zeroCells z0.cells (grownCap w (i+1) cap 65 - (i+1))) 65 (grownCap w (i+1) cap 65) (by rw [hw];simp) (fun b hb=>by rw [hw];exact Below.heap_alloc w.drew _ b hb) (by rw [hw];rfl) (by rw [hw];rfl) (by rw [hw];rfl) (by rw [hw];exact heap_alloc_new w.drew _) hge ?_ ?_
    ·simp only [Array.size_append,List.size_toArray,hol',hnl,size_zeroCells,hz3,<- hn]
     omega
    ·rw [hdr,htk]
     exact Lx hol' hold' hrow
  ·have hilt:i<n':=by omega
   rcases hreal with ⟨h0,_⟩|⟨g1,g2,g3⟩
   ·omega
   ·have hadd:=g3 (by omega)
    simp only [Nat.zero_mul] at hadd
    subst hadd
    obtain ⟨hxc,arr,tt,hb,has,hcell⟩:=hall g1
    have hne:G.blk (.arg 1 0) ≠ G.blk (.arg 0 0):=fun e=>by
     rw [e,g1] at k2
     simp at k2
    have hcells:∀ (j:Nat) (v:Value),olds[j]?=some v->w.cell? ⟨G.blk (.arg 0 0),j,none⟩=some v:=fun j v hj=>by
     obtain ⟨b',hb',hc'⟩:=horow.at_ (by omega)
     rw [<- hoe'] at hb'
     cases hb'
     have:=hc' j v hj
     rwa [add_lit,Nat.zero_add] at this
    have holn:olds.length=n'*7:=by rw [hol,hn]
    have hlook:∀ j,j<n'*7->arr[j]?=olds[j]?:=fun j hj=>by
     have h1:olds[j]?=some olds[j]:=lgg (by omega)
     rw [h1,<- Cv hb]
     exact hcells j _ h1
    by_cases hroom:n'+1<=cap
    ·refine (T8 (G.blk (.arg 0 0)) n' cap i (G.blk (.arg 1 0)) cap2 olds news w hilt hroom (by omega) hne holn hnl hcells (fun j hj=>by rw [Cv hb,agg (by rw [has];omega)];rfl) (fun j hj=>by simp [World.frozen?,hb]) hvs horow.one hrow.one tt1 tt arr1.size arr.size
      (by simp [World.shape?,hb1]) (by simp [World.shape?,hb]) (by rw [has];omega) (by simp [World.frozen?,hb1]) (by simp [World.frozen?,hb1])).mono fun e w' ⟨he,hw⟩=>?_
     subst he
     have hdl:(olds.drop (i*7)).length=(n' - i)*7:=by rw [lld,holn];omega
     obtain ⟨N1,hN1⟩:∃ N1,N1=(AE arr.toList ((i+1)*7) (olds.drop (i*7))).toArray:=⟨_,rfl⟩
     have hs1:(i+1)*7+(olds.drop (i*7)).length<=arr.toList.length:=by rw [hdl,Array.length_toList,has];omega
     have z1:N1.size=arr.size:=by rw [hN1,List.size_toArray,CF _ _ _ hs1,Array.length_toList]
     obtain ⟨N2,hN2⟩:∃ N2,N2=(AE N1.toList (i*7) news).toArray:=⟨_,rfl⟩
     have hs2:i*7+news.length<=N1.toList.length:=by rw [hnl,Array.length_toList,z1,has];omega
     have z2:N2.size=arr.size:=by rw [hN2,List.size_toArray,CF _ _ _ hs2,Array.length_toList,z1]
     rw [EX (P:=Tryz.prog) _ _ _ w.drew hb (by simpa using hs1) (fun v hv=>horow.one v (List.mem_of_mem_drop hv)),<- hN1] at hw
     have hb1':(w.drew.setRow (G.blk (.arg 0 0)) N1).heap[G.blk (.arg 0 0)]?=some (.cells N1 tt (0,0)):=setRow_heap w.drew _ _ _ _ _ hb
     rw [EX (P:=Tryz.prog) _ _ _ _ hb1' (by simpa using hs2) hrow.one,<- hN2] at hw
     have gN:∀ k,N2[k]?=if i*7<=k/\k<i*7+7 then news[k - i*7]? else if (i+1)*7<=k/\k<(i+1)*7+(n' - i)*7 then olds[i*7+(k - (i+1)*7)]? else arr[k]?:=fun k=>by
      rw [hN2,List.getElem?_toArray,C1 _ _ _ hs2,hnl,Array.getElem?_toList (xs:=N1),hN1,List.getElem?_toArray,C1 _ _ _ hs1,hdl,List.getElem?_drop,Array.getElem?_toList (xs:=arr)]
     refine inPlace w' N2 tt g1 rfl (by omega) hroom (by rw [hw];show w.drew.heap.size=_;simp [World.setRow]) (fun b hb'=>by rw [hw];exact (setRow_other _ _ _ _ hb').trans (setRow_other w.drew _ _ _ hb')) (by rw [hw];rfl) (by rw [hw];rfl) (by rw [hw];rfl) (by rw [hw];exact setRow_heap _ _ _ _ _ _ hb1') (by rw [z2,has]) ?_
     refine Ph (cs:=olds) (vs:=news) hin' hol hnl hcs hx0 hold hxr (fun k hk=>?_) (fun k hk=>?_) (fun k hk=>?_)
     ·rw [gN,if_neg (by omega),if_neg (by omega),hlook k (by omega)]
     ·rw [gN,if_pos (by omega),Nat.add_sub_cancel_left]
     ·rw [gN,if_neg (by omega),if_pos (by omega),Nat.add_sub_cancel_left]
    ·refine (Up (G.blk (.arg 0 0)) n' cap i (G.blk (.arg 1 0)) cap2 olds news hz hz0 hz1 hz2 hz3 w hilt hcap (by omega) hby holn hnl hcells hvs horow.one hrow.one).mono fun e w' ⟨he,hw⟩=>?_
     subst he
     have hge:=grownCap_ge w (n'+1) cap 65
     generalize grownCap w (n'+1) cap 65=gc at hge hw ⊢
     obtain ⟨ROW,hROW⟩:∃ ROW:Array Value,ROW=(olds.take (i*7)).toArray++Builtin.zeroCells z0.cells (n'+1 - i)++Builtin.zeroCells z0.cells (gc - (n'+1)):=⟨_,rfl⟩
     rw [<- hROW] at hw
     have hRs:ROW.size=gc*7:=by
      rw [hROW]
      simp only [Array.size_append,List.size_toArray,llt,size_zeroCells,hz3,holn]
      omega
     have hRg:∀ k,k<i*7->ROW[k]?=olds[k]?:=fun k hk=>by
      rw [hROW,Array.append_assoc,Array.getElem?_append_left (by simp;omega),List.getElem?_toArray,List.getElem?_take_of_lt hk]
     have hb0:((w.alloc (.cells ROW 65)).drew).heap[w.heap.size]?=some (.cells ROW 65 (0,0)):=heap_alloc_new w _
     have hdl:(olds.drop (i*7)).length=(n' - i)*7:=by rw [lld,holn];omega
     obtain ⟨N1,hN1⟩:∃ N1,N1=(AE ROW.toList (i*7) news).toArray:=⟨_,rfl⟩
     have hs1:i*7+news.length<=ROW.toList.length:=by rw [hnl,Array.length_toList,hRs];omega
     have z1:N1.size=ROW.size:=by rw [hN1,List.size_toArray,CF _ _ _ hs1,Array.length_toList]
     obtain ⟨N2,hN2⟩:∃ N2,N2=(AE N1.toList ((i+1)*7) (olds.drop (i*7))).toArray:=⟨_,rfl⟩
     have hs2:(i+1)*7+(olds.drop (i*7)).length<=N1.toList.length:=by rw [hdl,Array.length_toList,z1,hRs];omega
     have z2:N2.size=ROW.size:=by rw [hN2,List.size_toArray,CF _ _ _ hs2,Array.length_toList,z1]
     rw [EX (P:=Tryz.prog) _ _ _ _ hb0 (by simpa using hs1) hrow.one,<- hN1] at hw
     have hb1':(((w.alloc (.cells ROW 65)).drew.setRow w.heap.size N1).drew).heap[w.heap.size]?=some (.cells N1 65 (0,0)):=setRow_heap _ _ _ _ _ _ hb0
     rw [EX (P:=Tryz.prog) _ _ _ _ hb1' (by simpa using hs2) (fun v hv=>horow.one v (List.mem_of_mem_drop hv)),<- hN2] at hw
     have gN:∀ k,N2[k]?=if (i+1)*7<=k/\k<(i+1)*7+(n' - i)*7 then olds[i*7+(k - (i+1)*7)]? else if i*7<=k/\k<i*7+7 then news[k - i*7]? else ROW[k]?:=fun k=>by
      rw [hN2,List.getElem?_toArray,C1 _ _ _ hs2,hdl,List.getElem?_drop,Array.getElem?_toList (xs:=N1),hN1,List.getElem?_toArray,C1 _ _ _ hs1,hnl,Array.getElem?_toList (xs:=ROW)]
     refine fresh w' N2 65 gc (by rw [hw];show _<=(((w.alloc (.cells ROW 65)).drew.setRow w.heap.size N1).drew.setRow w.heap.size N2).heap.size;simp [World.setRow]) (fun b hb'=>?_) (by rw [hw];rfl) (by rw [hw];rfl) (by rw [hw];rfl) (by rw [hw];exact setRow_heap _ _ _ _ _ _ hb1') hge (by rw [z2,hRs]) ?_
     ·rw [hw]
      exact (setRow_other _ _ _ _ (by omega)).trans ((setRow_other _ _ _ _ (by omega)).trans (Below.heap_alloc w _ b hb'))
     ·refine Ph (cs:=olds) (vs:=news) hin' hol hnl hcs hx0 hold hxr (fun k hk=>?_) (fun k hk=>?_) (fun k hk=>?_)
      .rw [gN,if_neg (by omega),if_neg (by omega),hRg k hk]
      .rw [gN,if_neg (by omega),if_pos (by omega),Nat.add_sub_cancel_left]
      .rw [gN,if_pos (by omega),Nat.add_sub_cancel_left]
end Go.V
