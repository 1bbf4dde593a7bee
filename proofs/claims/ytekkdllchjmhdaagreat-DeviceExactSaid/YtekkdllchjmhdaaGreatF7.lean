/- Part 7 of the proof. -/
import Derived.Test.YtekkdllchjmhdaaGreatF1
import Derived.Maps.AppendAt
import Derived.Below
import Derived.Deep.Draws
import Derived.Test.YtekkdllchjmhdaaGreatF5
import Derived.Test.YtekkdllchjmhdaaGreatF2
import Derived.Laws.Strings
import Derived.Laws.Small
import Derived.WideShapes
import Derived.Laws.StructEq
import Derived.Laws.Tables
import Derived.MapKept
set_option linter.unusedSectionVars false
set_option linter.unusedSimpArgs false
set_option linter.unusedVariables false
set_option maxHeartbeats 32000000
open Nat renaming reduceAdd → rA, le_refl → lrf
open List renaming getElem?_eq_getElem → lgg, getElem?_eq_some_iff → lgs, mem_of_getElem? → lmg, map_cons → lpc, nil_append → lna, append_assoc → laa, append_nil → lan, mem_map → lmm, length_cons → llc, length_append → lla, getElem?_append_right → lgr, length_nil → lln, mem_append → lmp, length_map → llm, eq_nil_of_length_eq_zero → lez, getElem_mem → lgk, length_take → llt
open Option renaming some.injEq → osi
open Bool renaming and_eq_true → bat, false_eq_true → bft, and_true → bau
open Array renaming getElem?_eq_some_iff → ags, getElem?_eq_getElem → aggz
open Prod renaming mk.injEq → pmi
namespace Go.V
open Go.RowKit
inductive Kind where
 | frozen
 | mine (id:Id)
 | other
structure Gh where
 kind:Nat->Kind
 blk:Id->Nat
 cap:Id->Nat
theorem DQ (a:Addr) (n:Nat):(a.add n).block=a.block:=by unfold Addr.add;split<;>rfl
theorem F1 (a:Addr) (i j:Nat):(a.add i).add j=a.add (i+j):=by
 unfold Addr.add
 by_cases hi:i=0<;>by_cases hj:j=0<;>simp [hi,hj,Nat.add_assoc]
theorem add_lit (b o n:Nat):(⟨b,o,none⟩:Addr).add n=⟨b,o+n,none⟩:=by
 unfold Addr.add;split
 .simp [*]
 .rfl
def MKey.val:KT->MKey->Option Value
 | .int k,.int n=>some (.int k n)
 | .str,.str s=>some (.string s)
 | .bool,.bool b=>some (.bool b)
 | _,_=>none
inductive PRel (fz:Nat->Prop) (w:World):PV->Value->Prop where
 | int (k:IntKind) (n:Int):PRel fz w (.int k n) (.int k n)
 | bool (b:Bool):PRel fz w (.bool b) (.bool b)
 | str (s:ByteArray):PRel fz w (.str s) (.string s)
 | slice {sz:Nat} {xs:List PV} {a:Option Addr} {n cap:Nat} (ad:Addr) (val:Nat->Nat->Value) (hn:n=xs.length) (hcap:n<=cap)
   (ha:0<n->a=some ad/\fz ad.block/\ad.block<w.heap.size) (hsz:∀ x∈xs,x.cells.length=sz)
   (h1:∀ (i:Nat) (x:PV) (j:Nat) (c:PV),xs[i]?=some x->x.cells[j]?=some c->(val i j).oneCell'=true)
   (hc:∀ (i:Nat) (x:PV) (j:Nat) (c:PV),xs[i]?=some x->x.cells[j]?=some c->w.cell? (ad.add (i*sz+j))=some (val i j))
   (hr:∀ (i:Nat) (x:PV) (j:Nat) (c:PV),xs[i]?=some x->x.cells[j]?=some c->PRel fz w c (val i j)):PRel fz w (.slice sz xs) (.slice a n cap)
 | agg {ds:List PV} {arr:Array Value} (hl:ds.length=arr.size) (h1:∀ (i:Nat) (c:Value),arr[i]?=some c->c.oneCell'=true)
   (hr:∀ (i:Nat) (d:PV) (c:Value),ds[i]?=some d->arr[i]?=some c->PRel fz w d c):PRel fz w (.agg ds) (.agg arr)
 | mapNil (kt:KT):PRel fz w (.map kt [] []) (.map none)
 | map {kt:KT} {ks:List MKey} {vs:List PV} {r:Nat} {es:Array MapEntry} {clock:Nat} (hfz:fz r) (hw:w.heap[r]?=some (.map es clock)) (hk:ks.length=es.size) (hv:vs.length=es.size)
   (hkey:∀ (i:Nat) (k:MKey) (e:MapEntry),ks[i]?=some k->es[i]?=some e->MKey.val kt k=some e.key)
   (hr:∀ (i:Nat) (v:PV) (e:MapEntry),vs[i]?=some v->es[i]?=some e->PRel fz w v e.val):PRel fz w (.map kt ks vs) (.map (some r))
 | fn (f:FuncId):PRel fz w (.fn f) (.func (.func f) #[] #[])
 | nilp:PRel fz w .nilp (.pointer none)
 | nilFn:PRel fz w .nilp .nilFunc
 | nils:PRel fz w .nils (.slice none 0 0)
 | lit {sz:Nat} {xs:List PV} {a:Option Addr} {n:Nat} (h:PRel fz w (.slice sz xs) (.slice a n n)):PRel fz w (.lit sz xs) (.slice a n n)
 | clo {f:FuncId} {caps:List PV} {arr:Array Value} (ad:Nat->Addr) (val:Nat->Nat->Value) (hl:caps.length=arr.size) (hp:∀ (i:Nat) (c:PV),caps[i]?=some c->arr[i]?=some (.pointer (some (ad i)))/\fz (ad i).block/\(ad i).block<w.heap.size)
   (h1:∀ (i:Nat) (c:PV) (j:Nat) (x:PV),caps[i]?=some c->c.cells[j]?=some x->(val i j).oneCell'=true)
   (hc:∀ (i:Nat) (c:PV) (j:Nat) (x:PV),caps[i]?=some c->c.cells[j]?=some x->w.cell? ((ad i).add j)=some (val i j))
   (hr:∀ (i:Nat) (c:PV) (j:Nat) (x:PV),caps[i]?=some c->c.cells[j]?=some x->PRel fz w x (val i j)):PRel fz w (.clo f caps) (.func (.func f) #[] arr)
def JW (fz fz':Nat->Prop) (w w':World):Prop:=∀ b,fz b->b<w.heap.size->fz' b/\w'.heap[b]?=w.heap[b]?
theorem PRel.mono {fz fz':Nat->Prop} {w w':World} (hk:JW fz fz' w w') (hs:w.heap.size<=w'.heap.size) {d:PV} {c:Value} (h:PRel fz w d c):PRel fz' w' d c:=by
 induction h with
 | int k n=>exact .int k n
 | bool b=>exact .bool b
 | str s=>exact .str s
 | slice ad val hn hcap ha hsz h1 hc hr ih =>
  refine .slice ad val hn hcap (fun h0=>?_) hsz h1 (fun i x j c hx hj=>?_) ih
  ·obtain ⟨e,hf,hb⟩:=ha h0
   exact ⟨e,(hk _ hf hb).1,by omega⟩
  ·obtain ⟨e,hf,hb⟩:=ha (by rw [hn];exact Nat.lt_of_le_of_lt (Nat.zero_le _) (lgs.1 hx).1)
   rw [<- hc i x j c hx hj]
   exact World.cell?_of_block (by rw [DQ];exact (hk _ hf hb).2)
 | agg hl h1 _ ih=>exact .agg hl h1 ih
 | mapNil kt=>exact .mapNil kt
 | map hfz hw hkl hv hkey _ ih =>
  have hb:=hk _ hfz (ags.1 hw).1
  exact .map hb.1 (hb.2.trans hw) hkl hv hkey ih
 | fn f=>exact .fn f
 | nilp=>exact .nilp
 | nilFn=>exact .nilFn
 | nils=>exact .nils
 | lit _ ih=>exact .lit ih
 | clo ad val hl hp h1 hc hr ih =>
  refine .clo ad val hl (fun i c hi=>?_) h1 (fun i c j x hi hj=>?_) ih
  ·obtain ⟨e,hf,hb⟩:=hp i c hi
   exact ⟨e,(hk _ hf hb).1,by omega⟩
  ·obtain ⟨_,hf,hb⟩:=hp i c hi
   rw [<- hc i c j x hi hj]
   exact World.cell?_of_block (by rw [DQ];exact (hk _ hf hb).2)
theorem PRel.flat0 {fz fz':Nat->Prop} {w w':World} {d:PV} {c:Value} (h:PRel fz w d c) (hf:d.flat0=true):PRel fz' w' d c:=by
 cases h<;>simp [PV.flat0] at hf
 .exact .int _ _
 .exact .bool _
 .exact .str _
 .exact .fn _
 .exact .nilp
 .exact .nilFn
theorem PRel.flat {fz fz':Nat->Prop} {w w':World} {d:PV} {c:Value} (h:PRel fz w d c) (hf:d.flat=true):PRel fz' w' d c:=by
 by_cases ha:∃ ds,d=.agg ds
 ·obtain ⟨ds,rfl⟩:=ha
  cases h with
  | agg hl h1 hr =>
   simp only [PV.flat,List.all_eq_true] at hf
   exact .agg hl h1 fun i d c hd hc=>(hr i d c hd hc).flat0 (hf d (lmg hd))
 ·refine h.flat0 ?_
  cases d<;>simp_all [PV.flat]
theorem PRel.one {fz:Nat->Prop} {w:World} {d:PV} {c:Value} (h:PRel fz w d c) (hd:∀ ds,d ≠ .agg ds):c.oneCell'=true:=by
 cases h<;>first|rfl|exact absurd rfl (hd _)
inductive VRel (G:Gh) (h:VHeap) (w:World):VVal->Value->Prop where
 | p {d:PV} {c:Value} (hp:PRel (fun b=>G.kind b=.frozen) w d c) (h1:c.oneCell'=true):VRel G h w (.p d) c
 | own {id:Id} {ver off len:Nat} {a:Option Addr} {n cap:Nat} {v:Nat} {o:Ob} (hn:n=len) (hcap:len<=cap) (hh:h id=some (v,o)) (hv:ver<=v)
   (ho:ver=v->∃ sz xs,o=.arr sz xs/\off+len<=xs.length/\((cap=0/\off=0) \/ (G.kind (G.blk id)=.mine id/\off+cap<=G.cap id/\(0<cap->a=some ⟨G.blk id,off*sz,none⟩)))) :
   VRel G h w (.own id ver off len) (.slice a n cap)
 | ptr {id:Id} {ver off:Nat} {a:Addr} {v:Nat} {o:Ob} (hh:h id=some (v,o)) (hv:ver<=v) (ho:ver=v->a=⟨G.blk id,off,none⟩):VRel G h w (.ptr id ver off) (.pointer (some a))
 | vptr {cs:List PV} {off:Nat} {a:Addr} (ad:Addr) (val:Nat->Value) (ha:a=ad.add off) (hf:G.kind ad.block=.frozen) (hb:ad.block<w.heap.size)
   (h1:∀ (j:Nat) (c:PV),cs[j]?=some c->(val j).oneCell'=true)
   (hc:∀ (j:Nat) (c:PV),cs[j]?=some c->w.cell? (ad.add j)=some (val j)) (hr:∀ (j:Nat) (c:PV),cs[j]?=some c->PRel (fun b=>G.kind b=.frozen) w c (val j)) :
   VRel G h w (.vptr cs off) (.pointer (some a))
 | eptr {id:Id} {ver i off:Nat} {a:Addr} {v:Nat} {o:Ob} (hh:h id=some (v,o)) (hv:ver<=v)
   (ho:ver=v->∃ sz xs,o=.arr sz xs/\i<xs.length/\a=⟨G.blk id,i*sz+off,none⟩):VRel G h w (.eptr id ver i off) (.pointer (some a))
 | mref {id:Id} {ver r:Nat} {v:Nat} {o:Ob} (hh:h id=some (v,o)) (hv:ver<=v) (ho:ver=v->r=G.blk id):VRel G h w (.mref id ver) (.map (some r))
 | fn {f:FuncId} {caps:List VVal} {arr:Array Value} (hl:caps.length=arr.size) (hr:∀ (i:Nat) (v:VVal) (c:Value),caps[i]?=some v->arr[i]?=some c->VRel G h w v c) :
   VRel G h w (.fn f caps) (.func (.func f) #[] arr)
 | agg {cs:List VVal} {arr:Array Value} (hl:cs.length=arr.size) (h1:∀ (i:Nat) (c:Value),arr[i]?=some c->c.oneCell'=true)
   (hr:∀ (i:Nat) (v:VVal) (c:Value),cs[i]?=some v->arr[i]?=some c->VRel G h w v c):VRel G h w (.agg cs) (.agg arr)
 | tup {vs:List VVal} {arr:Array Value} (hl:vs.length=arr.size) (hr:∀ (i:Nat) (v:VVal) (c:Value),vs[i]?=some v->arr[i]?=some c->VRel G h w v c):VRel G h w (.tup vs) (.tuple arr)
 | plist {ps:List VVal} {a:Option Addr} {n cap:Nat} (ad:Addr) (val:Nat->Value) (hn:n=ps.length) (hcap:n<=cap) (ha:0<n->a=some ad/\G.kind ad.block=.frozen/\ad.block<w.heap.size)
   (h1:∀ (i:Nat) (p:VVal),ps[i]?=some p->(val i).oneCell'=true) (hc:∀ (i:Nat) (p:VVal),ps[i]?=some p->w.cell? (ad.add i)=some (val i))
   (hr:∀ (i:Nat) (p:VVal),ps[i]?=some p->VRel G h w p (val i)):VRel G h w (.plist ps) (.slice a n cap)
 | pcell {p:VVal} {a:Addr} {c:Value} (hf:G.kind a.block=.frozen) (hb:a.block<w.heap.size) (h1:c.oneCell'=true) (hc:w.cell? a=some c) (hr:VRel G h w p c):VRel G h w (.pcell p) (.pointer (some a))
 | undef:VRel G h w .undef Go.undef
 | dead (c:Value):VRel G h w .dead c
theorem Rg {G:Gh} {h:VHeap} {w:World} {f:FuncId} {cs:List PV} {c:Value} (hp:PRel (fun b=>G.kind b=.frozen) w (.clo f cs) c):VRel G h w (.fn f (Em cs)) c:=by
 cases hp with
 | clo ad val hl hp h1 hc hr =>
  refine .fn (by rw [Em,llm];exact hl) fun i v c hv hcc=>?_
  rw [Em,List.getElem?_map] at hv
  cases hx:cs[i]? with
  | none=>rw [hx] at hv;cases hv
  | some x =>
   rw [hx] at hv
   simp only [Option.map_some,osi] at hv
   subst hv
   obtain ⟨e,hf,hb⟩:=hp i x hx
   rw [e] at hcc
   simp only [osi] at hcc
   subst hcc
   exact .vptr (ad i) (val i) (by unfold Addr.add;simp) hf hb (fun j y hy=>h1 i x j y hx hy) (fun j y hy=>hc i x j y hx hy) fun j y hy=>hr i x j y hx hy
def OBRel (G:Gh) (h:VHeap) (w:World) (id:Id):Ob->Prop
 | .box cs=>G.kind (G.blk id)=.mine id/\∃ arr t,w.heap[G.blk id]?=some (.cells arr t (0,0))/\cs.length=arr.size /\
   (∀ (i:Nat) (c:Value),arr[i]?=some c->c.oneCell'=true)/\∀ (i:Nat) (v:VVal) (c:Value),cs[i]?=some v->arr[i]?=some c->VRel G h w v c
 | .arr sz xs=>(∀ x∈xs,x.cells.length=sz)/\(xs=[] \/ G.kind (G.blk id)=.mine id)/\(G.kind (G.blk id)=.mine id->xs.length<=G.cap id/\∃ arr t,w.heap[G.blk id]?=some (.cells arr t (0,0))/\arr.size=G.cap id*sz /\
   ∀ (i:Nat) (x:PV) (j:Nat) (c:PV),xs[i]?=some x->x.cells[j]?=some c->∃ v,arr[i*sz+j]?=some v/\v.oneCell'=true/\PRel (fun b=>G.kind b=.frozen) w c v)
 | .map kt ks vs=>G.kind (G.blk id)=.mine id/\∃ es clock,w.heap[G.blk id]?=some (.map es clock)/\(ks.length=es.size/\clock=es.size/\∀ (i:Nat) (e:MapEntry),es[i]?=some e->e.born=i)/\vs.length=es.size /\
   (∀ (i:Nat) (k:MKey) (e:MapEntry),ks[i]?=some k->es[i]?=some e->MKey.val kt k=some e.key)/\∀ (i:Nat) (v:PV) (e:MapEntry),vs[i]?=some v->es[i]?=some e->PRel (fun b=>G.kind b=.frozen) w v e.val
 | .gone=>True
 | .iter s pos=>G.kind (G.blk id)=.mine id/\w.heap[G.blk id]?=some (.stringIter s pos)
def HeapInv (G:Gh) (h:VHeap) (w:World):Prop:=∀ id v o,h id=some (v,o)->OBRel G h w id o
def SameOb:Ob->Ob->Prop
 | .arr sz xs,.arr sz' xs'=>sz=sz'/\xs'.length=xs.length
 | .arr _ _,_=>False
 | _,_=>True
structure Step (G:Gh) (h:VHeap) (w:World) (G':Gh) (h':VHeap) (w':World):Prop where
 frozen:∀ b,G.kind b=.frozen->b<w.heap.size->G'.kind b=.frozen/\w'.heap[b]?=w.heap[b]?
 other:∀ b,G.kind b=.other->b<w.heap.size->G'.kind b=.other/\w'.heap[b]?=w.heap[b]?
 mine:∀ b id,b<w.heap.size->G'.kind b=.mine id->G.kind b=.mine id \/ ((∃ s j,id=.slot s j)/\∃ s j,G.kind b=.mine (.slot s j))
 frz:∀ b,b<w.heap.size->G'.kind b=.frozen->G.kind b=.frozen \/ ∃ s j,G.kind b=.mine (.slot s j)
 size:w.heap.size<=w'.heap.size
 os:w'.os=w.os
 tape:w'.tape=w.tape
 output:w'.output=w.output
 vers:∀ id v o,h id=some (v,o)->∃ v' o',h' id=some (v',o')/\v<=v'/\(v'=v->G'.blk id=G.blk id/\G'.cap id=G.cap id/\SameOb o o'/\(∀ sz xs,o=.arr sz xs->G.kind (G.blk id)=.mine id->G'.kind (G.blk id)=.mine id))
theorem Step.refl (G:Gh) (h:VHeap) (w:World):Step G h w G h w where
 frozen:=fun _ hb _=>⟨hb,rfl⟩
 other:=fun _ hb _=>⟨hb,rfl⟩
 mine:=fun _ _ _ h=>.inl h
 frz:=fun _ _ h=>.inl h
 size:=lrf _
 os:=rfl
 tape:=rfl
 output:=rfl
 vers:=fun _ v o h=>⟨v,o,h,lrf _,fun _=>⟨rfl,rfl,by cases o<;>simp [SameOb],fun _ _ _ h=>h⟩⟩
theorem SameOb.trans {a b c:Ob} (h:SameOb a b) (h':SameOb b c):SameOb a c:=by
 cases a<;>cases b<;>cases c<;>simp_all [SameOb]
theorem Step.trans {G G' G'':Gh} {h h' h'':VHeap} {w w' w'':World} (s:Step G h w G' h' w') (t:Step G' h' w' G'' h'' w''):Step G h w G'' h'' w'' where
 frozen:=fun b hb hl=>by
  obtain ⟨h1,h2⟩:=s.frozen b hb hl
  obtain ⟨h3,h4⟩:=t.frozen b h1 (Nat.lt_of_lt_of_le hl s.size)
  exact ⟨h3,h4.trans h2⟩
 other:=fun b hb hl=>by
  obtain ⟨h1,h2⟩:=s.other b hb hl
  obtain ⟨h3,h4⟩:=t.other b h1 (Nat.lt_of_lt_of_le hl s.size)
  exact ⟨h3,h4.trans h2⟩
 mine:=fun b id hl hm=>by
  rcases t.mine b id (Nat.lt_of_lt_of_le hl s.size) hm with h1|⟨hs,i,j,h1⟩
  ·exact s.mine b id hl h1
  ·rcases s.mine b _ hl h1 with h2|⟨_,h2⟩
   .exact .inr ⟨hs,i,j,h2⟩
   .exact .inr ⟨hs,h2⟩
 frz:=fun b hl hf=>by
  rcases t.frz b (Nat.lt_of_lt_of_le hl s.size) hf with h1|⟨i,j,h1⟩
  ·exact s.frz b hl h1
  ·rcases s.mine b _ hl h1 with h2|⟨_,h2⟩
   .exact .inr ⟨i,j,h2⟩
   .exact .inr h2
 size:=Nat.le_trans s.size t.size
 os:=t.os.trans s.os
 tape:=t.tape.trans s.tape
 output:=t.output.trans s.output
 vers:=fun id v o hh=>by
  obtain ⟨v',o',h1,h2,h3⟩:=s.vers id v o hh
  obtain ⟨v'',o'',h4,h5,h6⟩:=t.vers id v' o' h1
  refine ⟨v'',o'',h4,by omega,fun e=>?_⟩
  obtain ⟨a1,a2,a3,a4⟩:=h3 (by omega)
  obtain ⟨b1,b2,b3,b4⟩:=h6 (by omega)
  refine ⟨b1.trans a1,b2.trans a2,a3.trans b3,fun sz xs ho hm=>?_⟩
  have hex:∃ sz' xs',o'=.arr sz' xs':=by
   subst ho
   cases o'<;>simp [SameOb] at a3
   exact ⟨_,_,rfl⟩
  obtain ⟨sz',xs',ho'⟩:=hex
  have:=b4 sz' xs' ho' (by rw [a1];exact a4 sz xs ho hm)
  rw [a1] at this
  exact this
theorem Step.keeps {G G':Gh} {h h':VHeap} {w w':World} (s:Step G h w G' h' w'):JW (fun b=>G.kind b=.frozen) (fun b=>G'.kind b=.frozen) w w':=s.frozen
theorem VRel.mono {G G':Gh} {h h':VHeap} {w w':World} (s:Step G h w G' h' w') {v:VVal} {c:Value} (hv:VRel G h w v c):VRel G' h' w' v c:=by
 induction hv with
 | p hp h1=>exact .p (hp.mono s.keeps s.size) h1
 | own hn hcap hh hv ho =>
  obtain ⟨v',o',h1,h2,h3⟩:=s.vers _ _ _ hh
  refine .own hn hcap h1 (by omega) fun e=>?_
  obtain ⟨b1,b2,b3,b4⟩:=h3 (by omega)
  obtain ⟨sz,xs,rfl,h5,h6⟩:=ho (by omega)
  cases o'<;>simp [SameOb] at b3
  rename_i sz' xs'
  refine ⟨sz',xs',rfl,by omega,?_⟩
  rw [b1,b2,<- b3.1]
  rcases h6 with h6|⟨h6,h7,h8⟩
  ·exact .inl h6
  ·exact .inr ⟨b4 _ _ rfl h6,h7,h8⟩
 | ptr hh hv ho =>
  obtain ⟨v',o',h1,h2,h3⟩:=s.vers _ _ _ hh
  exact .ptr h1 (by omega) fun e=>by rw [(h3 (by omega)).1];exact ho (by omega)
 | vptr ad val ha hf hb h1 hc hr =>
  have hk:=s.frozen _ hf hb
  exact .vptr ad val ha hk.1 (Nat.lt_of_lt_of_le hb s.size) h1 (fun j c hj=>by
   rw [<- hc j c hj];exact World.cell?_of_block (by rw [DQ];exact hk.2)) (fun j c hj=>(hr j c hj).mono s.keeps s.size)
 | eptr hh hv ho =>
  obtain ⟨v',o',h1,h2,h3⟩:=s.vers _ _ _ hh
  refine .eptr h1 (by omega) fun e=>?_
  obtain ⟨b1,b2,b3,b4⟩:=h3 (by omega)
  obtain ⟨sz,xs,rfl,h5,h6⟩:=ho (by omega)
  cases o'<;>simp [SameOb] at b3
  rename_i sz' xs'
  exact ⟨sz',xs',rfl,by omega,by rw [b1,<- b3.1];exact h6⟩
 | mref hh hv ho =>
  obtain ⟨v',o',h1,h2,h3⟩:=s.vers _ _ _ hh
  exact .mref h1 (by omega) fun e=>by rw [(h3 (by omega)).1];exact ho (by omega)
 | fn hl _ ih=>exact .fn hl ih
 | agg hl h1 _ ih=>exact .agg hl h1 ih
 | tup hl _ ih=>exact .tup hl ih
 | plist ad val hn hcap ha h1 hc hr ih =>
  refine .plist ad val hn hcap (fun h0=>?_) h1 (fun i p hp=>?_) ih
  ·obtain ⟨e,hf,hb⟩:=ha h0
   exact ⟨e,(s.frozen _ hf hb).1,Nat.lt_of_lt_of_le hb s.size⟩
  ·obtain ⟨_,hf,hb⟩:=ha (by rw [hn];exact Nat.lt_of_le_of_lt (Nat.zero_le _) (lgs.1 hp).1)
   rw [<- hc i p hp]
   exact World.cell?_of_block (by rw [DQ];exact (s.frozen _ hf hb).2)
 | pcell hf hb h1 hc hr ih =>
  have hk:=s.frozen _ hf hb
  refine .pcell hk.1 (Nat.lt_of_lt_of_le hb s.size) h1 ?_ ih
  rw [<- hc]
  exact World.cell?_of_block hk.2
 | undef=>exact .undef
 | dead c=>exact .dead c
theorem Step.drew {G:Gh} {h:VHeap} {w:World}:Step G h w G h { w with drawn:=w.drawn+1 } :=
  { Step.refl G h w with frozen:=fun _ hb _=>⟨hb,rfl⟩,other:=fun _ hb _=>⟨hb,rfl⟩ }
class GK where
 K:Nat->Option Obj
instance (priority:=low) noGK:GK:=⟨fun _=>none⟩
def Good [g:GK] (G:Gh) (w:World):Prop:=∀ b B,g.K b=some B->(G.kind b=.other \/ G.kind b=.frozen)/\b<w.heap.size/\w.heap[b]?=some B
theorem Good.step [GK] {G G':Gh} {h h':VHeap} {w w':World} (hg:Good G w) (s:Step G h w G' h' w'):Good G' w':=fun b B hb=>by
 obtain ⟨h1,h2,h3⟩:=hg b B hb
 rcases h1 with h1|h1
 ·obtain ⟨e1,e2⟩:=s.other b h1 h2
  exact ⟨.inl e1,Nat.lt_of_lt_of_le h2 s.size,e2.trans h3⟩
 ·obtain ⟨e1,e2⟩:=s.frozen b h1 h2
  exact ⟨.inr e1,Nat.lt_of_lt_of_le h2 s.size,e2.trans h3⟩
theorem zbr {G:Gh} {h:VHeap} {w:World} {v:VVal} {c:Value} (hv:VRel G h w v c) (hp:Hk v=true):∃ a,c=.pointer (some a):=by
 cases hv<;>first|(exact ⟨_,rfl⟩)|(simp [Hk] at hp)
end Go.V
namespace Go.V
open Go.RowKit
section
variable [GK]
structure RRel [GK] (vs:List Nat) (n:Nat) (G:Gh) (r:RS) (a:Act) (w:World):Prop where
 pe:∀ s,s∈vs->VRel G r.h w (r.pe s) (a.tmps.getD s Go.undef)
 te:∀ s v,r.te s=some v->s ∉ vs/\VRel G r.h w v (a.tmps.getD s Go.undef)
 defers:a.defers=[]
 size:n<=a.tmps.size
 good:Good G w
theorem Aa {α β:Type} {x:Option α} {f:α->Option β} {u:Tok f} {b:β} (h:ob x f u=some b):∃ a,x=some a/\f a=some b:=by
 cases x with
 | none=>cases h
 | some a=>exact ⟨a,rfl,h⟩
theorem Ab {α:Type} {c:Prop} [Decidable c] {x:Option α} {u:Tok x} {b:α} (h:gd c x u=some b):c/\x=some b:=by
 unfold gd at h
 split at h
 .exact ⟨by assumption,h⟩
 .cases h
theorem XL {a b:ByteArray} (h:LT a b=true):a=b:=by
 unfold LT at h
 have h':a.data.toList=b.data.toList:=by simpa using h
 cases a;cases b
 congr 1
 exact Array.toList_inj.1 h'
theorem P9 (fz:Nat->Prop) (w:World) (sz:Nat):PRel fz w (.slice sz []) (.slice none 0 0) :=
 .slice ⟨0,0,none⟩ (fun _ _=>Go.undef) rfl (lrf _) (fun h=>absurd h (by omega)) (fun _ h=>by cases h) (fun i x j c h=>by simp at h) (fun i x j c h=>by simp at h) (fun i x j c h=>by simp at h)
theorem Hw {fz:Nat->Prop} {w:World} {v:Value} {d:PV} (h:FW v d=true):PRel fz w d v/\v.oneCell'=true/\CU d=.p d:=by
 unfold FW at h
 split at h
 .simp at h;obtain ⟨rfl,rfl⟩:=h;exact ⟨.int _ _,rfl,rfl⟩
 .simp at h;subst h;exact ⟨.bool _,rfl,rfl⟩
 .have:=XL h;subst this;exact ⟨.str _,rfl,rfl⟩
 .exact ⟨P9 _ _ _,rfl,rfl⟩
 .exact ⟨.mapNil _,rfl,rfl⟩
 .exact ⟨.nilp,rfl,rfl⟩
 .exact ⟨.nilFn,rfl,rfl⟩
 .exact ⟨.nils,rfl,rfl⟩
 .cases h
theorem Av {vs:List Nat} {n:Nat} {G:Gh} {r:RS} {a:Act} {w:World} (hr:RRel vs n G r a w) {x:Operand} {y:VArg} (h:Al vs x y=true) {v:VVal} (hl:r.look y=some v) :
  VRel G r.h w v (a.eval x):=by
 unfold Al at h
 split at h
 ·simp at h
  obtain ⟨rfl,h2⟩:=h
  simp [RS.look] at hl
  subst hl
  exact hr.pe _ h2
 ·simp at h
  obtain ⟨rfl,h2⟩:=h
  exact (hr.te _ _ hl).2
 ·obtain ⟨h1,h2,h3⟩:=Hw (fz:=fun b=>G.kind b=.frozen) (w:=w) h
  simp [RS.look,h3] at hl
  subst hl
  exact .p h1 h2
 ·simp at h
  subst h
  simp [RS.look,CU] at hl
  subst hl
  exact .p (.fn _) rfl
 .cases h
theorem EM {vs:List Nat} {n:Nat} {G:Gh} {r:RS} {a:Act} {w:World} (hr:RRel vs n G r a w):∀ {xs:List Operand} {ys:List VArg} (_:A9 vs xs ys=true) {us:List VVal} (_:Ad r.look ys=some us),
  us.length=xs.length/\∀ (i:Nat) (u:VVal) (c:Value),us[i]?=some u->(xs.map a.eval)[i]?=some c->VRel G r.h w u c
 | [],[],_,us,hl=>by
  simp [Ad] at hl
  subst hl
  exact ⟨rfl,fun i u c h=>by simp at h⟩
 | x::xs,y::ys,h,us,hl=>by
  simp [A9] at h
  obtain ⟨u,hu,hl⟩:=Aa hl
  obtain ⟨us',hus,hl⟩:=Aa hl
  simp at hl
  subst hl
  obtain ⟨h1,h2⟩:=EM hr h.2 hus
  refine ⟨by simp [h1],fun i u' c hi hc=>?_⟩
  cases i with
  | zero=>simp at hi hc;subst hi;subst hc;exact Av hr h.1 hu
  | succ i=>simp at hi hc;exact h2 i u' c hi (by simpa using hc)
 | [],_::_,h,_,_=>by simp [A9] at h
 | _::_,[],h,_,_=>by simp [A9] at h
def Az (P:Program) (G:Gh) (h:VHeap) (w:World) (a:Act) (o:Oper) (val:VVal) (us:List (Id × Nat × Ob)):Prop :=
 ∀ (K:Act->World->Prop) (Q:Exit->Act->World->Prop),(∀ c w' G',Step G h w G' (h.upds us) w'->HeapInv G' (h.upds us) w'->VRel G' (h.upds us) w' val c->K (a.put o.dst c) w')->o.wp P a w K Q
theorem CB {P:Program} {G G':Gh} {h:VHeap} {w w':World} {a:Act} {o:Oper} {val:VVal} {us:List (Id × Nat × Ob)} {c:Value}
  (hrun:(execOp a.eval o).run P w=.ok (.value c) w') (hs:Step G h w G' (h.upds us) w') (hi:HeapInv G' (h.upds us) w') (hv:VRel G' (h.upds us) w' val c):Az P G h w a o val us:=by
 intro K Q hK
 unfold Oper.wp
 rw [hrun]
 exact hK c w' G' hs hi hv
theorem K4 {P:Program} {G G':Gh} {h:VHeap} {w w':World} {a:Act} {o:Oper} {us:List (Id × Nat × Ob)}
  (hrun:(execOp a.eval o).run P w=.ok .skip w') (hs:Step G h w G' (h.upds us) w') (hi:HeapInv G' (h.upds us) w'):Az P G h w a o .undef us:=by
 intro K Q hK
 unfold Oper.wp
 rw [hrun]
 exact hK Go.undef w' G' hs hi .undef
theorem AW {P:Program} {G:Gh} {h:VHeap} {w:World} {a:Act} {o:Oper} {val:VVal} {c:Value}
  (hrun:(execOp a.eval o).run P w=.ok (.value c) w) (hi:HeapInv G h w) (hv:VRel G h w val c):Az P G h w a o val [] :=
 CB (G':=G) hrun (Step.refl _ _ _) hi hv
theorem EL {P:Program} {t:TypeId} {b:Bool} (h:EY P t=some b) (w:World):(isAgg t).run P w=.ok b w:=by
 unfold EY at h
 cases hu:P.underlying t with
 | none=>simp [hu] at h
 | some d=>cases d<;>simp [hu] at h<;>subst h<;>simp [isAgg,run_underlying hu]
theorem Dk {P:Program} {t:TypeId} {n:Nat} (h:Bi P t n=true) (w:World):(sizeOf t).run P w=.ok n w:=by
 unfold Bi at h
 cases hi:P.info? t with
 | none=>simp [hi] at h
 | some i=>simp [hi] at h;subst h;simp [sizeOf,typeInfo,hi]
def Ri (G:Gh) (h:VHeap) (w:World) (cs:List VVal) (ad:Addr):Prop :=
 ∀ (j:Nat) (v:VVal),cs[j]?=some v->∃ c,w.cell? (ad.add j)=some c/\c.oneCell'=true/\VRel G h w v c
theorem BY {w:World} {b o:Nat} {arr:Array Value} {t:TypeId} {fr:Nat × Nat} (h:w.heap[b]?=some (.cells arr t fr)):w.cell? ⟨b,o,none⟩=arr[o]?:=by
 simp [World.cell?,h]
theorem N0 {G:Gh} {h:VHeap} {w:World} (hi:HeapInv G h w) {p:VVal} {cp:Value} (hp:VRel G h w p cp) {cs:List VVal} {off:Nat} (hr:FA h p=some (cs,off)) :
  ∃ ad:Addr,cp=.pointer (some (ad.add off))/\Ri G h w cs ad:=by
 cases hp<;>simp only [FA] at hr<;>try (cases hr;done)
 case ptr id ver off' a v o hh hv ho =>
  rw [hh] at hr
  cases o<;>simp only at hr<;>try (cases hr;done)
  rename_i cs'
  obtain ⟨rfl,hr⟩:=Ab hr
  simp at hr
  obtain ⟨rfl,rfl⟩:=hr
  obtain ⟨_,arr,t,hb,hl,h1,hc⟩:=hi _ _ _ hh
  refine ⟨⟨G.blk id,0,none⟩,by rw [ho rfl,add_lit,Nat.zero_add],fun j v' hj=>?_⟩
  have hj':j<arr.size:=by rw [<- hl];exact (lgs.1 hj).1
  have hg:arr[j]?=some arr[j]:=aggz hj'
  exact ⟨arr[j],by rw [add_lit,Nat.zero_add,BY hb,hg],h1 j _ hg,hc j v' _ hj hg⟩
 case vptr cs' off' a ad val ha hf hb h1 hc hr' =>
  simp at hr
  obtain ⟨rfl,rfl⟩:=hr
  refine ⟨ad,by rw [ha],fun j v' hj=>?_⟩
  simp only [List.getElem?_map,Option.map_eq_some_iff] at hj
  obtain ⟨c,hc',rfl⟩:=hj
  exact ⟨val j,hc j c hc',h1 j c hc',.p (hr' j c hc') (h1 j c hc')⟩
 case pcell p a c hf hb h1 hc hr' =>
  simp only [osi,pmi] at hr
  obtain ⟨rfl,rfl⟩:=hr
  refine ⟨a,by unfold Addr.add;simp,fun j v' hj=>?_⟩
  match j,hj with
  | 0,hj =>
   simp only [List.getElem?_cons_zero,osi] at hj
   subst hj
   exact ⟨c,by unfold Addr.add;simpa using hc,h1,hr'⟩
  | k+1,hj=>simp at hj
 case eptr id ver i off' a v o hh hv ho =>
  rw [hh] at hr
  cases o<;>simp only at hr<;>try (cases hr;done)
  rename_i sz xs
  obtain ⟨rfl,hr2⟩:=Ab hr
  obtain ⟨x,hx,hr3⟩:=Aa hr2
  simp at hr3
  obtain ⟨rfl,rfl⟩:=hr3
  obtain ⟨sz',xs',he,hlt,rfl⟩:=ho rfl
  simp at he
  obtain ⟨rfl,rfl⟩:=he
  obtain ⟨_,hm,hall⟩:=hi _ _ _ hh
  have hmine:G.kind (G.blk id)=.mine id:=by
   rcases hm with h0|h0
   .rw [h0] at hlt;simp at hlt
   .exact h0
  obtain ⟨_,arr,t,hb,_,hc⟩:=hall hmine
  refine ⟨⟨G.blk id,i*sz,none⟩,by rw [add_lit],fun j v' hj=>?_⟩
  simp only [List.getElem?_map,Option.map_eq_some_iff] at hj
  obtain ⟨c,hc',rfl⟩:=hj
  obtain ⟨cv,hg,h1,hp⟩:=hc i x j c hx hc'
  exact ⟨cv,by rw [add_lit,BY hb,hg],h1,.p hp h1⟩
theorem MX {P:Program} {G:Gh} {h:VHeap} {w:World} {cs:List VVal} {ad:Addr} (hrow:Ri G h w cs ad) {agg:Option Nat} {off:Nat} {v:VVal} (hv:CZ agg cs off=some v)
  {t : TypeId} (ht : Di P t agg=true) : ∃ c,(loadVar t (ad.add off)).run P w=.ok c w/\VRel G h w v c:=by
 cases agg with
 | none =>
  simp only [CZ] at hv
  simp only [Di,beq_iff_eq] at ht
  obtain ⟨c,hc,h1,hr⟩:=hrow off v hv
  exact ⟨c,by simp [loadVar,EL ht,hc],hr⟩
 | some n =>
  simp only [CZ] at hv
  obtain ⟨hle,hv⟩:=Ab hv
  simp at hv
  subst hv
  simp only [Di,bat,beq_iff_eq] at ht
  have hex:∀ k,k<=n->∃ l:List Value,l.length=k/\∀ j c,l[j]?=some c->w.cell? (ad.add (off+j))=some c/\c.oneCell'=true/\∀ v,cs[off+j]?=some v->VRel G h w v c:=by
   intro k hk
   induction k with
   | zero=>exact ⟨[],rfl,fun j c hj=>by simp at hj⟩
   | succ k ih =>
    obtain ⟨l,hl,hlj⟩:=ih (by omega)
    have hlt:off+k<cs.length:=by omega
    obtain ⟨c,hc,h1,hr⟩:=hrow (off+k) cs[off+k] (lgg hlt)
    refine ⟨l++[c],by simp [hl],fun j c' hj=>?_⟩
    by_cases hjk:j<k
    ·rw [List.getElem?_append_left (by omega)] at hj
     exact hlj j c' hj
    ·have hjk':j=k:=by
      have:=(lgs.1 hj).1
      simp at this
      omega
     subst hjk'
     rw [lgr (by omega),hl] at hj
     simp at hj
     subst hj
     refine ⟨hc,h1,fun v hv=>?_⟩
     rw [lgg hlt] at hv
     simp at hv
     subst hv
     exact hr
  obtain ⟨l,hl,hlj⟩:=hex n (lrf _)
  refine ⟨.agg l.toArray,?_,.agg (by simp;omega) (fun i c hc=>(hlj i c (by simpa using hc)).2.1) (fun i v c hv hc=>?_)⟩
  ·have hlc:=run_loadCells_list (P:=P) w (ad.add off) l (fun j v hj=>by rw [F1];exact (hlj j v hj).1)
   rw [hl] at hlc
   simp [loadVar,EL ht.1,Dk ht.2,hlc]
  ·refine (hlj i c (by simpa using hc)).2.2 v ?_
   rw [List.getElem?_take] at hv
   split at hv
   .simpa using hv
   .cases hv
theorem zbu {P:Program} {vs:List Nat} {n:Nat} {G:Gh} {r:RS} {a:Act} {w:World} (hr:RRel vs n G r a w) (hi:HeapInv G r.h w) {o:Oper} {t:TypeId} {x:Operand} (ho:o.op=.load t x) {agg:Option Nat} {y:VArg}
  (hx:Al vs x y=true) (ht:Di P t agg=true) {p v:VVal} (hl:r.look y=some p) (hv:F9 r.h agg p=some v):Az P G r.h w a o v []:=by
 obtain ⟨⟨cs,off⟩,hrow,hof⟩:=Aa hv
 obtain ⟨ad,hcp,hrr⟩:=N0 hi (Av hr hx hl) hrow
 obtain ⟨c,hrun,hvc⟩:=MX hrr hof ht
 refine AW (c:=c) ?_ hi hvc
 simp [execOp,ho,Instr.loadAt,Instr.sureAddr,hcp,hrun]
end
end Go.V
namespace Go.V
open Go.RowKit
section
variable [GK]
section
variable {G:Gh} {h:VHeap} {w:World}
theorem DS {k:IntKind} {n:Int} {c:Value} (hv:VRel G h w (.p (.int k n)) c):c=.int k n:=by
 cases hv with|p hp _=>cases hp;rfl
theorem E9 {b:Bool} {c:Value} (hv:VRel G h w (.p (.bool b)) c):c=.bool b:=by
 cases hv with|p hp _=>cases hp;rfl
theorem FN {s:ByteArray} {c:Value} (hv:VRel G h w (.p (.str s)) c):c=.string s:=by
 cases hv with|p hp _=>cases hp;rfl
theorem E7 (k:IntKind) (n:Int):VRel G h w (.p (.int k n)) (.int k n):=.p (.int k n) rfl
theorem FI (b:Bool):VRel G h w (.p (.bool b)) (.bool b):=.p (.bool b) rfl
theorem N3 (s:ByteArray):VRel G h w (.p (.str s)) (.string s):=.p (.str s) rfl
theorem PN {v:VVal} {c:Value} (hv:VRel G h w v c) (hs:Et v=true):c.oneCell'=true:=by
 cases hv<;>simp [Et] at hs<;>first|assumption|rfl
theorem N4 {v:VVal} {c:Value} (hv:VRel G h w v c) (hs:(AF v).all Et=true):(AF v).length=c.cells.size /\
  (∀ (i:Nat) (x:Value),c.cells[i]?=some x->x.oneCell'=true)/\∀ (i:Nat) (u:VVal) (x:Value),(AF v)[i]?=some u->c.cells[i]?=some x->VRel G h w u x:=by
 by_cases ha:∃ cs,v=.agg cs
 ·obtain ⟨cs,rfl⟩:=ha
  cases hv with
  | agg hl h1 hr=>exact ⟨by simpa [AF,Value.cells] using hl,by simpa [Value.cells] using h1,by simpa [AF,Value.cells] using hr⟩
 ·have hvc:AF v=[v]:=by cases v<;>simp_all [AF]
  rw [hvc] at hs ⊢
  have h1:=PN hv (by simpa using hs)
  have hcc:c.cells=#[c]:=by cases c<;>simp_all [Value.cells,Value.oneCell']
  rw [hcc]
  refine ⟨rfl,fun i x hx=>?_,fun i u x hu hx=>?_⟩
  .cases i<;>simp at hx;subst hx;exact h1
  .cases i<;>simp at hx hu;subst hx;subst hu;exact hv
end
section
variable {P:Program} {vs:List Nat} {n:Nat} {G:Gh} {r:RS} {a:Act} {w:World} (hr:RRel vs n G r a w) (hi:HeapInv G r.h w) {o:Oper}
include hr hi
theorem QQ {x:Operand} (ho:o.op=.move x \/ o.op=.assign x) {y:VArg} (hx:Al vs x y=true) {v:VVal} (hl:r.look y=some v):Az P G r.h w a o v []:=by
 refine AW (c:=a.eval x) ?_ hi (Av hr hx hl)
 rcases ho with ho|ho<;>simp [execOp,ho]
theorem QP {c x y:Operand} (ho:o.op=.pick c x y) {c' x' y':VArg} (hc:Al vs c c'=true) (hx:Al vs x x'=true) (hy:Al vs y y'=true) {b:Bool} {v:VVal}
  (hlc:r.look c'=some (.p (.bool b))) (hlv:(if b then r.look x' else r.look y')=some v):Az P G r.h w a o v []:=by
 have h1:=E9 (Av hr hc hlc)
 cases b with
 | true =>
  refine AW (c:=a.eval x) ?_ hi (Av hr hx (by simpa using hlv))
  simp [execOp,ho,h1,asBool]
 | false =>
  refine AW (c:=a.eval y) ?_ hi (Av hr hy (by simpa using hlv))
  simp [execOp,ho,h1,asBool]
theorem VE {t:TypeId} {x:Operand} {f:Nat} (ho:o.op=.fieldAddr t x f) {y:VArg} (hx:Al vs x y=true) {fs:Array Field} {fl:Field} {inf:TypeInfo} (hu:P.underlying t=some (.struct fs)) (hf:fs[f]?=some fl)
  (hinf:P.info? fl.type=some inf) (hsz:inf.size ≠ 0) {p v:VVal} (hl:r.look y=some p)
  (hv:(match p with
   | .ptr id ver o=>some (.ptr id ver (o+fl.offset),([]:List (Id × Nat × Ob)))
   | .vptr cs o=>some (.vptr cs (o+fl.offset),[])
   | .eptr id ver i o=>some (.eptr id ver i (o+fl.offset),[])
   | _=>none)=some (v,[])):Az P G r.h w a o v []:=by
 have h1:=Av hr hx hl
 have key:∀ ad,a.eval x=.pointer (some ad)->(execOp a.eval o).run P w=.ok (.value (.pointer (some (ad.add fl.offset)))) w:=by
  intro ad had
  simp [execOp,ho,Instr.fieldAt,run_underlying hu,hf,Instr.sureAddr,had,fieldPlace,sizeOf,typeInfo,hinf,hsz]
 generalize hcp:a.eval x=cp at h1 key
 cases h1<;>simp at hv
 case ptr id ver off ad v' o' hh hle hoo =>
  subst hv
  refine AW (c:=.pointer (some (ad.add fl.offset))) (key _ rfl) hi (.ptr hh hle fun e=>?_)
  rw [hoo e,add_lit]
 case vptr cs off ad0 ad val ha hfz hb h1' hc hr' =>
  subst hv
  refine AW (c:=.pointer (some (ad0.add fl.offset))) (key _ rfl) hi (.vptr ad val ?_ hfz hb h1' hc hr')
  rw [ha,F1]
 case eptr id ver i off ad v' o' hh hle hoo =>
  subst hv
  refine AW (c:=.pointer (some (ad.add fl.offset))) (key _ rfl) hi (.eptr hh hle fun e=>?_)
  obtain ⟨sz,xs,h1,h2,h3⟩:=hoo e
  refine ⟨sz,xs,h1,h2,?_⟩
  rw [h3,add_lit,Nat.add_assoc]
theorem Xj {t e:TypeId} {x:Operand} {k:IntKind} {m:Int} (ho:o.op=.indexAddr t x (.const (.int k m))) {y:VArg} (hx:Al vs x y=true) {len:Nat} {inf:TypeInfo} (hu:P.underlying t=some (.array len e))
  (h0:0<=m) (hm:m<(len:Int)) (hinf:P.info? e=some inf) {p v:VVal} (hl:r.look y=some p)
  (hv:(match p with
   | .ptr id ver o=>some (.ptr id ver (o+m.toNat*inf.size),([]:List (Id × Nat × Ob)))
   | .vptr cs o=>some (.vptr cs (o+m.toNat*inf.size),[])
   | .eptr id ver i o=>some (.eptr id ver i (o+m.toNat*inf.size),[])
   | _=>none)=some (v,[])):Az P G r.h w a o v []:=by
 have h1:=Av hr hx hl
 have key:∀ ad,a.eval x=.pointer (some ad)->(execOp a.eval o).run P w=.ok (.value (.pointer (some (ad.add (m.toNat*inf.size))))) w:=by
  intro ad had
  have hev:a.eval (.const (.int k m))=.int k m:=rfl
  simp [execOp,ho,Instr.indexAt,run_underlying hu,Instr.sureAddr,had,hev,asIntOf,h0,hm,sizeOf,typeInfo,hinf]
 generalize hcp:a.eval x=cp at h1 key
 cases h1<;>simp at hv
 case ptr id ver off ad v' o' hh hle hoo =>
  subst hv
  refine AW (c:=.pointer (some (ad.add (m.toNat*inf.size)))) (key _ rfl) hi (.ptr hh hle fun e=>?_)
  rw [hoo e,add_lit]
 case vptr cs off ad0 ad val ha hfz hb h1' hc hr' =>
  subst hv
  refine AW (c:=.pointer (some (ad0.add (m.toNat*inf.size)))) (key _ rfl) hi (.vptr ad val ?_ hfz hb h1' hc hr')
  rw [ha,F1]
 case eptr id ver i off ad v' o' hh hle hoo =>
  subst hv
  refine AW (c:=.pointer (some (ad.add (m.toNat*inf.size)))) (key _ rfl) hi (.eptr hh hle fun e=>?_)
  obtain ⟨sz,xs,h1,h2,h3⟩:=hoo e
  refine ⟨sz,xs,h1,h2,?_⟩
  rw [h3,add_lit,Nat.add_assoc]
theorem ZU {t:TypeId} {x:Operand} {f:Nat} (ho:o.op=.field t x f) {y:VArg} (hx:Al vs x y=true) {fs:Array Field} {fl:Field} (hu:P.underlying t=some (.struct fs)) (hf:fs[f]?=some fl)
  {agg:Option Nat} (hagg:Di P fl.type agg=true) {cs:List VVal} {v:VVal} (hl:r.look y=some (.agg cs)) (hv:CZ agg cs fl.offset=some v):Az P G r.h w a o v []:=by
 have h1:=Av hr hx hl
 generalize hcp:a.eval x=cp at h1
 cases h1 with
 | @agg _ arr hlen hone hrel =>
  cases agg with
  | none =>
   simp only [CZ] at hv
   simp only [Di,beq_iff_eq] at hagg
   have hlt:fl.offset<arr.size:=by rw [<- hlen];exact (lgs.1 hv).1
   have hg:arr[fl.offset]?=some arr[fl.offset]:=aggz hlt
   refine AW (c:=arr[fl.offset]) ?_ hi (hrel _ _ _ hv hg)
   simp [execOp,ho,Instr.field,run_underlying hu,hf,hcp,asAgg,Go.part,EL hagg,hg]
  | some m =>
   simp only [CZ] at hv
   obtain ⟨hle,hv⟩:=Ab hv
   simp at hv
   subst hv
   simp only [Di,bat,beq_iff_eq] at hagg
   refine AW (c:=.agg (arr.extract fl.offset (fl.offset+m))) ?_ hi (.agg ?_ ?_ ?_)
   ·simp [execOp,ho,Instr.field,run_underlying hu,hf,hcp,asAgg,Go.part,EL hagg.1,Dk hagg.2]
   ·simp;omega
   ·intro i c hc
    rw [Array.getElem?_extract] at hc
    split at hc
    ·exact hone _ _ hc
    ·cases hc
   ·intro i u c hu' hc
    rw [Array.getElem?_extract] at hc
    rw [List.getElem?_take] at hu'
    split at hc
    ·split at hu'
     ·rw [List.getElem?_drop] at hu'
      exact hrel _ _ _ hu' hc
     .cases hu'
    .cases hc
theorem zch {t:TypeId} {x:Operand} (ho:o.op=.unOp .not t x) {y:VArg} (hx:Al vs x y=true) {b:Bool} (hl:r.look y=some (.p (.bool b))):Az P G r.h w a o (.p (.bool (!b))) []:=by
 have h1:=E9 (Av hr hx hl)
 refine AW (c:=.bool (!b)) ?_ hi (FI _)
 simp [execOp,ho,h1,Op.unary]
theorem Xf {x:Operand} {i:Nat} (ho:o.op=.extract x i) {y:VArg} (hx:Al vs x y=true) {us:List VVal} {v:VVal} (hl:r.look y=some (.tup us)) (hv:us[i]?=some v):Az P G r.h w a o v []:=by
 have h1:=Av hr hx hl
 generalize hcp:a.eval x=cp at h1
 cases h1 with
 | @tup _ arr hlen hrel =>
  have hlt:i<arr.size:=by rw [<- hlen];exact (lgs.1 hv).1
  have hg:arr[i]?=some arr[i]:=aggz hlt
  refine AW (c:=arr[i]) ?_ hi (hrel _ _ _ hv hg)
  simp [execOp,ho,Instr.extract,hcp,hg]
end
theorem N5 {G:Gh} {h:VHeap} {w:World} {v:VVal} {c:Value} {m:Nat} (h1:VRel G h w v c) (hm:D5 v=some m):∃ ad cap,c=.slice ad m cap/\m<=cap:=by
 cases h1<;>simp [D5] at hm
 case p d hp h1' =>
  cases hp<;>simp at hm
  rename_i hn hcap _ _ _ _ _
  subst hm
  exact ⟨_,_,by rw [hn],by omega⟩
 case own hn hcap _ _ _ =>
  subst hm
  exact ⟨_,_,by rw [hn],by omega⟩
 case plist ad val hn hcap _ _ _ _ =>
  subst hm
  exact ⟨_,_,by rw [hn],by omega⟩
section
variable {P:Program} {vs:List Nat} {n:Nat} {G:Gh} {r:RS} {a:Act} {w:World} (hr:RRel vs n G r a w) (hi:HeapInv G r.h w) {o:Oper}
include hr hi
theorem zci {xs:Array Operand} {ts:Array TypeId} (ho:o.op=.call { callee:=.builtin .len,args:=xs,argTypes:=ts }) {x:Operand} {t e:TypeId} (hxs:xs.toList=[x]) (hts:ts.toList=[t]) {y:VArg} (hx:Al vs x y=true)
  (hu:P.underlying t=some (.slice e)) {v:VVal} {m:Nat} (hl:r.look y=some v) (hm:D5 v=some m):Az P G r.h w a o (.p (.int .i64 m)) []:=by
 have h1:=Av hr hx hl
 obtain rfl:xs=#[x]:=by rw [<- Array.toList_inj];simpa using hxs
 obtain rfl:ts=#[t]:=by rw [<- Array.toList_inj];simpa using hts
 refine AW (c:=.int .i64 m) ?_ hi (E7 _ _)
 obtain ⟨ad,cap,hcp,_⟩:=N5 h1 hm
 simp [execOp,ho,resolve,invoke,builtin,Builtin.len_,hcp,run_underlying hu,goInt]
theorem Yo {xs:Array Operand} {ts:Array TypeId} (ho:o.op=.call { callee:=.builtin .len,args:=xs,argTypes:=ts }) {x:Operand} {t:TypeId} (hxs:xs.toList=[x]) (hts:ts.toList=[t]) {y:VArg} (hx:Al vs x y=true)
  (hu:P.underlying t=some .string) {s:ByteArray} (hl:r.look y=some (.p (.str s))):Az P G r.h w a o (.p (.int .i64 s.size)) []:=by
 have h1:=FN (Av hr hx hl)
 obtain rfl:xs=#[x]:=by rw [<- Array.toList_inj];simpa using hxs
 obtain rfl:ts=#[t]:=by rw [<- Array.toList_inj];simpa using hts
 refine AW (c:=.int .i64 s.size) ?_ hi (E7 _ _)
 simp [execOp,ho,resolve,invoke,builtin,Builtin.len_,h1,run_underlying hu,goInt]
theorem Wp {t:TypeId} {x i:Operand} (ho:o.op=.index t x i) {y z:VArg} (hx:Al vs x y=true) (hz:Al vs i z=true) (hu:P.underlying t=some .string) {s:ByteArray} {k:IntKind} {m:Int} {b:UInt8}
  (hl:r.look y=some (.p (.str s))) (hl':r.look z=some (.p (.int k m))) (h0:0<=m) (hb:s[m.toNat]?=some b):Az P G r.h w a o (.p (.int .u8 b.toNat)) []:=by
 have h1:=FN (Av hr hx hl)
 have h2:=DS (Av hr hz hl')
 refine AW (c:=.int .u8 b.toNat) ?_ hi (E7 _ _)
 simp [execOp,ho,Instr.index,h1,h2,asIntOf,run_underlying hu,h0,hb]
theorem Wn {x:Operand} (ho:o.op=.nilCheck x) {y:VArg} (hx:Al vs x y=true) {v:VVal} (hl:r.look y=some v)
  (hv:(match v with|.ptr _ _ _=>true|.vptr _ _=>true|.eptr _ _ _ _=>true|.fn _ _=>true|_=>false)=true):Az P G r.h w a o v []:=by
 have h1:=Av hr hx hl
 refine AW (c:=a.eval x) ?_ hi h1
 generalize hcp:a.eval x=cp at h1
 cases h1<;>simp at hv<;>simp [execOp,ho,hcp]
theorem Wo {f:FuncId} {first caps:Array Operand} (ho:o.op=.makeFunc (.func f) first caps) (hf:first=#[]) {ys:List VArg} (hx:A9 vs caps.toList ys=true) {us:List VVal} (hl:Ad r.look ys=some us):Az P G r.h w a o (.fn f us) []:=by
 obtain ⟨h1,h2⟩:=EM hr hx hl
 subst hf
 refine AW (c:=.func (.func f) #[] (caps.map a.eval)) ?_ hi (.fn (by simp [h1]) fun i u c hu hc=>h2 i u c hu ?_)
 ·simp [execOp,ho,Instr.makeFunc]
 ·rw [<- hc]
  simp
theorem Xi {op:BinOp} {t t':TypeId} {x y:Operand} (ho:o.op=.binOp op t x y t') (hb:bop op=true) {x' y':VArg} (hx:Al vs x x'=true) (hy:Al vs y y'=true) {k:IntKind} {m m':Int} {v:VVal}
  (hl:r.look x'=some (.p (.int k m))) (hl':r.look y'=some (.p (.int k m'))) (hv:J8 k m m' op=some v):Az P G r.h w a o v []:=by
 have h1:=DS (Av hr hx hl)
 have h2:=DS (Av hr hy hl')
 have key:∃ c,VRel G r.h w v c/\(binOp op t (.int k m) (.int k m')).run P w=.ok c w:=by
  cases op<;>simp only [J8] at hv <;>
   first
   | (cases hv;done)
   | (obtain ⟨h0,hv⟩:=Ab hv;simp at hv;subst hv;exact ⟨_,E7 _ _,by simp [binOp,Op.intDiv,h0]⟩)
   | (simp at hv;subst hv;exact ⟨_,E7 _ _,by simp [binOp,Op.intArith,Op.intBits,T5,orI,S0,ME]⟩)
   | (simp at hv;subst hv;exact ⟨_,FI _,by simp [binOp,Op.intCmp]⟩)
 obtain ⟨c,hc,hrun⟩:=key
 refine AW (c:=c) ?_ hi hc
 simp [execOp,ho,h1,h2,eqGuard,hrun]
theorem ZT {op:BinOp} {t t':TypeId} {x y:Operand} (ho:o.op=.binOp op t x y t') {x' y':VArg} (hx:Al vs x x'=true) (hy:Al vs y y'=true) {k k':IntKind} {m m':Int} {v:VVal}
  (hl:r.look x'=some (.p (.int k m))) (hl':r.look y'=some (.p (.int k' m'))) (hv:JC k m m' op=some v):Az P G r.h w a o v []:=by
 have h1:=DS (Av hr hx hl)
 have h2:=DS (Av hr hy hl')
 have key:∃ c,VRel G r.h w v c/\(binOp op t (.int k m) (.int k' m')).run P w=.ok c w:=by
  cases op<;>simp only [JC] at hv<;>try (cases hv;done)
  ·obtain ⟨h0,hv⟩:=Ab hv
   simp at hv;subst hv
   exact ⟨_,E7 _ _,by simp [binOp,Op.shift,Int.not_lt.2 h0,Mt,Ms]⟩
  ·obtain ⟨h0,hv⟩:=Ab hv
   simp at hv;subst hv
   exact ⟨_,E7 _ _,by simp [binOp,Op.shift,Int.not_lt.2 h0,Mt,Ms]⟩
 obtain ⟨c,hc,hrun⟩:=key
 refine AW (c:=c) ?_ hi hc
 simp [execOp,ho,h1,h2,eqGuard,hrun]
theorem Xh {op:BinOp} {t t':TypeId} {x y:Operand} (ho:o.op=.binOp op t x y t') {x' y':VArg} (hx:Al vs x x'=true) (hy:Al vs y y'=true) {m m':ByteArray} {v:VVal}
  (hl:r.look x'=some (.p (.str m))) (hl':r.look y'=some (.p (.str m'))) (hv:J6 m m' op=some v):Az P G r.h w a o v []:=by
 have h1:=FN (Av hr hx hl)
 have h2:=FN (Av hr hy hl')
 have heq:(m.toList == m'.toList)=decide (m=m'):=by
  rw [Bool.eq_iff_iff]
  simp only [beq_iff_eq,decide_eq_true_eq]
  rw [ByteArray.toList_eq,ByteArray.toList_eq]
  exact ⟨fun h=>WideShapes.bytes_inj h,fun h=>by rw [h]⟩
 have key:∃ c,VRel G r.h w v c/\(binOp op t (.string m) (.string m')).run P w=.ok c w:=by
  cases op<;>simp only [J6] at hv<;>try (cases hv;done)
  ·obtain ⟨h0,hv⟩:=Ab hv
   simp at hv
   subst hv
   refine ⟨_,N3 _,?_⟩
   have h3:¬ ((m.size+m'.size:Nat):Int) > IntKind.i64.max:=by
    have:IntKind.i64.max=9223372036854775807:=by decide
    rw [this]
    omega
   simp only [binOp,Op.stringOp,h3,if_false,Sem.run_pure]
  .simp at hv;subst hv;exact ⟨_,FI _,by simp only [binOp,Op.stringOp,heq,Sem.run_pure]⟩
  .simp at hv;subst hv;exact ⟨_,FI _,by simp only [binOp,Op.stringOp,heq,Sem.run_pure]⟩
 obtain ⟨c,hc,hrun⟩:=key
 refine AW (c:=c) ?_ hi hc
 simp [execOp,ho,h1,h2,eqGuard,hrun]
theorem zcj {op:BinOp} {t t':TypeId} {x y:Operand} (ho:o.op=.binOp op t x y t') {neg:Bool} (hop:op=.eql/\neg=false \/ op=.neq/\neg=true) (hu:P.underlying t=some .bool) {x' y':VArg} (hx:Al vs x x'=true) (hy:Al vs y y'=true) {m m':Bool}
  (hl:r.look x'=some (.p (.bool m))) (hl':r.look y'=some (.p (.bool m'))):Az P G r.h w a o (.p (.bool (if neg then !(m == m') else m == m'))) []:=by
 have h1:=E9 (Av hr hx hl)
 have h2:=E9 (Av hr hy hl')
 refine AW (c:=.bool (if neg then !(m == m') else m == m')) ?_ hi (FI _)
 rcases hop with ⟨rfl,rfl⟩|⟨rfl,rfl⟩<;>simp [execOp,ho,h1,h2,eqGuard,binOp,run_equal_bool w t m m' hu]
theorem Pf {isMax:Bool} {xs:Array Operand} {ts:Array TypeId} (ho:o.op=.call { callee:=.builtin (if isMax then .max else .min),args:=xs,argTypes:=ts }) {ys:List VArg} (hx:A9 vs xs.toList ys=true) {us:List VVal} {v:VVal}
  (hl : Ad r.look ys=some us) (hv : H5 isMax us=some v) : Az P G r.h w a o v []:=by
 obtain ⟨h1,h2⟩:=EM hr hx hl
 have key:∀ (us:List VVal) (cs:List Value) (u:VVal) (c:Value),VRel G r.h w u c->us.length=cs.length->(∀ (i:Nat) (u:VVal) (c:Value),us[i]?=some u->cs[i]?=some c->VRel G r.h w u c)->∀ v,mmL isMax u us=some v ->
   ∃ c',VRel G r.h w v c'/\(cs.foldlM (if isMax then Builtin.max2 else Builtin.min2) c).run P w=.ok c' w:=by
  intro us
  induction us with
  | nil =>
   intro cs u c hu hlen _ v hv
   have:cs=[]:=lez (by simpa using hlen.symm)
   subst this
   simp [mmL] at hv
   subst hv
   exact ⟨c,hu,by simp⟩
  | cons u1 us ih =>
   intro cs u c hu hlen hall v hv
   cases cs with
   | nil=>simp at hlen
   | cons c1 cs =>
    simp only [mmL] at hv
    obtain ⟨u2,hm,hv⟩:=Aa hv
    have hu1:=hall 0 u1 c1 rfl rfl
    unfold mm2 at hm
    split at hm
    ·rename_i k m k' m'
     obtain ⟨rfl,hm2⟩:=Ab hm
     simp at hm2
     subst hm2
     have e1:=DS hu
     have e2:=DS hu1
     subst e1
     subst e2
     obtain ⟨c',hc',hrun⟩:=ih cs _ _ (E7 k (if isMax then max m m' else min m m')) (by simpa using hlen) (fun i u c hi hc=>hall (i+1) u c (by simpa using hi) (by simpa using hc)) v hv
     refine ⟨c',hc',?_⟩
     cases isMax with
     | true =>
      simp only [if_true] at hrun ⊢
      have:(if m' > m then m' else m)=max m m':=by rw [Int.max_def];split<;>split<;>omega
      simp [List.foldlM_cons,Builtin.max2,this,hrun]
     | false =>
      simp only [bft,if_false] at hrun ⊢
      have:(if m'<m then m' else m)=min m m':=by rw [Int.min_def];split<;>split<;>omega
      simp [List.foldlM_cons,Builtin.min2,this,hrun]
    .cases hm
 cases us with
 | nil=>simp [H5] at hv
 | cons u us =>
  have hxs:∃ x xs',xs.toList=x::xs':=by
   cases hxl:xs.toList with
   | nil=>rw [hxl] at h1;simp at h1
   | cons x xs'=>exact ⟨x,xs',rfl⟩
  obtain ⟨x,xs',hxl⟩:=hxs
  rw [hxl] at h1 h2
  obtain ⟨c',hc',hrun⟩:=key us (xs'.map a.eval) u (a.eval x) (h2 0 u _ rfl (by simp)) (by simpa using h1) (fun i u c hi hc=>h2 (i+1) u c (by simpa using hi) (by simpa using hc)) v hv
  refine AW (c:=c') ?_ hi hc'
  have hml:(xs.map a.eval).toList=a.eval x::xs'.map a.eval:=by simp [hxl]
  cases isMax with
  | true =>
   simp only [if_true] at ho hrun
   simp [execOp,ho,resolve,invoke,builtin,Builtin.max_,hxl,hrun]
  | false =>
   simp only [bft,if_false] at ho hrun
   simp [execOp,ho,resolve,invoke,builtin,Builtin.min_,hxl,hrun]
end
end
end Go.V
namespace Go.V
open Go.RowKit
section
variable [GK]
theorem Gk {P:Program} {t:TypeId} {k:KT} (h:C6 P t k=true):(∀ i,k=.int i->P.underlying t=some (.int i))/\(k=.str->P.underlying t=some .string)/\(k=.bool->P.underlying t=some .bool):=by
 cases k with
 | int i =>
  refine ⟨fun j hj=>?_,fun h=>by simp at h,fun h=>by simp at h⟩
  simp at hj
  subst hj
  simp only [C6] at h
  cases hu:P.underlying t with
  | none=>simp [hu] at h
  | some d=>cases d<;>simp [hu] at h;subst h;rfl
 | str =>
  refine ⟨fun j hj=>by simp at hj,fun _=>?_,fun h=>by simp at h⟩
  simp only [C6] at h
  cases hu:P.underlying t with
  | none=>simp [hu] at h
  | some d=>cases d<;>simp [hu] at h;rfl
 | bool =>
  refine ⟨fun j hj=>by simp at hj,fun h=>by simp at h,fun _=>?_⟩
  simp only [C6] at h
  cases hu:P.underlying t with
  | none=>simp [hu] at h
  | some d=>cases d<;>simp [hu] at h;rfl
theorem Po {P:Program} {t:TypeId} {k:KT} (h:C6 P t k=true):EY P t=some false:=by
 obtain ⟨h1,h2,h3⟩:=Gk h
 cases k with
 | int i=>simp [EY,h1 i rfl]
 | str=>simp [EY,h2 rfl]
 | bool=>simp [EY,h3 rfl]
theorem zcU (m m':ByteArray):(m.toList == m'.toList)=decide (m=m'):=by
 rw [Bool.eq_iff_iff]
 simp only [beq_iff_eq,decide_eq_true_eq]
 rw [ByteArray.toList_eq,ByteArray.toList_eq]
 exact ⟨fun h=>WideShapes.bytes_inj h,fun h=>by rw [h]⟩
theorem YQ {P:Program} {w:World} {fz:Nat->Prop} {t:TypeId} {k:KT} (h:C6 P t k=true) {x y:PV} {b:Bool} (hb:eq0 k x y=some b) {c c':Value} (hx:PRel fz w x c) (hy:PRel fz w y c') (d:Nat) :
  (Op.equalIn (d+1) t c c').run P w=.ok b w:=by
 obtain ⟨h1,h2,h3⟩:=Gk h
 unfold eq0 at hb
 split at hb
 ·obtain ⟨rfl,hb2⟩:=Ab hb
  obtain ⟨rfl,hb3⟩:=Ab hb2
  simp at hb3
  subst hb3
  cases hx
  cases hy
  exact run_equalIn_int w d t _ _ _ _ (h1 _ rfl)
 ·simp at hb
  subst hb
  cases hx
  cases hy
  exact run_equalIn_bool w d t _ _ (h3 rfl)
 ·simp at hb
  subst hb
  cases hx
  cases hy
  rw [run_equalIn_string w d t _ _ (h2 rfl),zcU]
 .cases hb
theorem HZ {G:Gh} {h:VHeap} {w:World} {v:VVal} {c:Value} (hv:VRel G h w v c) {d:PV} (hd:unP v=some d):PRel (fun b=>G.kind b=.frozen) w d c/\c.oneCell'=true:=by
 unfold unP at hd
 split at hd
 ·simp at hd;subst hd;cases hv with|p hp h1=>exact ⟨hp,h1⟩
 ·simp at hd
  subst hd
  cases hv with
  | @fn _ _ arr hl hr =>
   have:arr=#[]:=Array.eq_empty_of_size_eq_zero (by simpa using hl.symm)
   subst this
   exact ⟨.fn _,rfl⟩
 .cases hd
theorem A3 {α β:Type} {f:α->Option β}:∀ {l:List α} {ys:List β},Ad f l=some ys->ys.length=l.length/\∀ (i:Nat) (y:β),ys[i]?=some y->∃ x,l[i]?=some x/\f x=some y
 | [],ys,h=>by
  simp [Ad] at h
  subst h
  exact ⟨rfl,fun i y h=>by simp at h⟩
 | x::xs,ys,h=>by
  obtain ⟨y,hy,h⟩:=Aa h
  obtain ⟨ys',hys,h⟩:=Aa h
  simp at h
  subst h
  obtain ⟨h1,h2⟩:=A3 hys
  refine ⟨by simp [h1],fun i y' hi=>?_⟩
  cases i with
  | zero=>simp at hi;subst hi;exact ⟨x,rfl,hy⟩
  | succ i=>simp at hi;simpa using h2 i y' hi
theorem Pk {α β:Type} {f:α->Option β} {l:List α} {ys:List β} (h:Ad f l=some ys) (i:Nat) (x:α) (hx:l[i]?=some x):∃ y,ys[i]?=some y/\f x=some y:=by
 obtain ⟨h1,h2⟩:=A3 h
 have hlt:i<ys.length:=by rw [h1];exact (lgs.1 hx).1
 obtain ⟨x',hx',hf⟩:=h2 i ys[i] (lgg hlt)
 rw [hx] at hx'
 simp at hx'
 subst hx'
 exact ⟨ys[i],lgg hlt,hf⟩
theorem GC {P:Program}:∀ (n i:Nat) (fs:List Field) (ks ks':List KT),Ep P n i fs ks=some ks'->ks'.length<=ks.length
 | 0,_,_,_,_,h=>by cases h
 | n+1,i,[],ks,ks',h=>by
  simp only [Ep,osi] at h
  subst h
  exact lrf _
 | n+1,i,f::fs,ks,ks',h=>by
  unfold Ep at h
  obtain ⟨_,h⟩:=Ab h
  obtain ⟨_,h⟩:=Ab h
  split at h
  ·obtain ⟨k1,h1,h⟩:=Aa h
   obtain ⟨_,h⟩:=Ab h
   have:=GC n _ _ _ _ h1
   have:=GC n _ _ _ _ h
   omega
  ·cases ks with
   | nil=>cases h
   | cons k ks =>
    obtain ⟨_,h⟩:=Ab h
    have:=GC n _ _ _ _ h
    rw [llc]
    omega
theorem Ir {P:Program} {w:World} {fz:Nat->Prop}:∀ (n d:Nat) (arr arr':Array Value) (fs:List Field) (ks ks':List KT) (i:Nat) (xs ys:List PV) (b:Bool),Ep P n i fs ks=some ks'->Dt ks xs ys=some b ->
  (∀ (j:Nat) (x:PV),j<ks.length - ks'.length->xs[j]?=some x->∃ c,arr[i+j]?=some c/\PRel fz w x c)->(∀ (j:Nat) (x:PV),j<ks.length - ks'.length->ys[j]?=some x->∃ c,arr'[i+j]?=some c/\PRel fz w x c) ->
  ks'.length<=ks.length/\∃ b1 b2,Dt ks' (xs.drop (ks.length - ks'.length)) (ys.drop (ks.length - ks'.length))=some b2/\b=(b1 && b2)/\(Op.eqFields (d+n) arr arr' fs).run P w=.ok b1 w
 | 0, _, _, _, _, _, _, _, _, _, _, h, _, _, _=>by cases h
 | n + 1,d,arr,arr',[],ks,ks',i,xs,ys,b,h,hb,_,_=>by
  simp only [Ep,osi] at h
  subst h
  exact ⟨lrf _,true,b,by simpa using hb,by simp,by simp [Op.eqFields]⟩
 | n + 1,d,arr,arr',f::fs,ks,ks',i,xs,ys,b,hok,hb,hx,hy=>by
  unfold Ep at hok
  obtain ⟨h2,hok⟩:=Ab hok
  obtain ⟨h3',hok⟩:=Ab hok
  have h3 : f.name ≠ "_" := by simpa using h3'
  rw [show d+(n+1)=d+n+1 by omega]
  split at hok
  ·rename_i gs hu
   obtain ⟨k1,hk1,hok⟩:=Aa hok
   obtain ⟨hs,hok⟩:=Ab hok
   simp only [bat,Bool.not_eq_true',beq_iff_eq] at hs
   obtain ⟨⟨s1,s2⟩,s3⟩:=hs
   have hl2:ks'.length<=k1.length:=GC n _ _ _ _ hok
   have hl1:k1.length<=ks.length:=GC n _ _ _ _ hk1
   have sub:∀ {arr:Array Value} {xs:List PV},(∀ (j:Nat) (x:PV),j<ks.length - ks'.length->xs[j]?=some x->∃ c,arr[i+j]?=some c/\PRel fz w x c) ->
     (∀ (j:Nat) (x:PV),j<ks.length - k1.length->xs[j]?=some x->∃ c,(arr.extract i (i+(ks.length - k1.length)))[0+j]?=some c/\PRel fz w x c)/\(∀ (j:Nat) (x:PV),j<k1.length - ks'.length->(xs.drop (ks.length - k1.length))[j]?=some x->∃ c,arr[i+(ks.length - k1.length)+j]?=some c/\PRel fz w x c):=by
    intro arr xs hx
    refine ⟨fun j x hj hxj=>?_,fun j x hj hxj=>?_⟩
    ·obtain ⟨c,hc,hp⟩:=hx j x (by omega) hxj
     refine ⟨c,?_,hp⟩
     have hlt:i+j<arr.size:=(ags.1 hc).1
     rw [Array.getElem?_extract,Nat.zero_add,if_pos (by omega)]
     exact hc
    ·rw [List.getElem?_drop] at hxj
     obtain ⟨c,hc,hp⟩:=hx _ x (by omega) hxj
     exact ⟨c,by rw [<- hc];congr 1;omega,hp⟩
   obtain ⟨_,b1,bm,e1,e2,e3⟩:=Ir n d _ _ gs.toList ks k1 0 xs ys b hk1 hb (sub hx).1 (sub hy).1
   obtain ⟨_,b2,b3,f1,f2,f3⟩:=Ir n (d+1) arr arr' fs k1 ks' _ _ _ bm hok e1 (sub hx).2 (sub hy).2
   have hfo:P.fieldsOf f.type=gs:=by simp [Program.fieldsOf,hu]
   have hpt:∀ (arr:Array Value),(Go.part f.type arr f.offset).run P w=.ok (.agg (arr.extract i (i+(ks.length - k1.length)))) w:=by
    intro arr
    unfold Bi at s2
    cases hi:P.info? f.type with
    | none=>rw [hi] at s2;cases s2
    | some inf =>
     rw [hi] at s2
     have hz:inf.size=ks.length - k1.length:=by simpa using s2
     simp [Go.part,EL s3,h2,sizeOf,typeInfo,hi,hz]
   have heq:(Op.equalIn (d+n+1) f.type (.agg (arr.extract i (i+(ks.length - k1.length)))) (.agg (arr'.extract i (i+(ks.length - k1.length))))).run P w=.ok b1 w:=by
    rw [run_equalIn_struct w (d+n) f.type _ _ (by rw [hfo];exact hu) s1,hfo]
    exact e3
   refine ⟨by omega,b1 && b2,b3,?_,?_,?_⟩
   ·rw [List.drop_drop,List.drop_drop,show ks.length - k1.length+(k1.length - ks'.length)=ks.length - ks'.length by omega] at f1
    exact f1
   ·rw [e2,f2,Bool.and_assoc]
   ·simp only [Op.eqFields,h3,ne_eq,not_false_eq_true,if_true,Sem.run_bind,hpt,Result.andThen_ok,heq]
    cases b1 with
    | true=>simpa [show d+1+n=d+n+1 by omega] using f3
    | false=>simp
  ·cases ks with
   | nil=>cases hok
   | cons k ks =>
    obtain ⟨h1,h4⟩:=Ab hok
    have hl2:ks'.length<=ks.length:=GC n _ _ _ _ h4
    cases xs with
    | nil=>simp [Dt] at hb
    | cons x xs =>
     cases ys with
     | nil=>simp [Dt] at hb
     | cons y ys =>
      simp only [Dt] at hb
      obtain ⟨b1,hb1,hb⟩:=Aa hb
      obtain ⟨bm,hb2,hb⟩:=Aa hb
      simp only [osi] at hb
      have hls:(k::ks).length - ks'.length=ks.length - ks'.length+1:=by rw [llc];omega
      rw [hls] at hx hy ⊢
      obtain ⟨c,hc,hpc⟩:=hx 0 x (by omega) rfl
      obtain ⟨c',hc',hpc'⟩:=hy 0 y (by omega) rfl
      simp only [Nat.add_zero] at hc hc'
      have e1:=YQ h1 hb1 hpc hpc' (d+n)
      obtain ⟨_,b2,b3,f1,f2,f3⟩:=Ir n (d+1) arr arr' fs ks ks' (i+1) xs ys bm h4 hb2 (fun j x hj hxj=>by
       obtain ⟨c,hc,hp⟩:=hx (j+1) x (by omega) (by simpa using hxj)
       exact ⟨c,by rw [<- hc];congr 1;omega,hp⟩) (fun j x hj hxj=>by
       obtain ⟨c,hc,hp⟩:=hy (j+1) x (by omega) (by simpa using hxj)
       exact ⟨c,by rw [<- hc];congr 1;omega,hp⟩)
      have hp1:(Go.part f.type arr f.offset).run P w=.ok c w:=by simp [Go.part,EL (Po h1),h2,hc]
      have hp2:(Go.part f.type arr' f.offset).run P w=.ok c' w:=by simp [Go.part,EL (Po h1),h2,hc']
      refine ⟨by rw [llc];omega,b1 && b2,b3,by simpa using f1,?_,?_⟩
      ·rw [<- hb,f2,Bool.and_assoc]
      ·simp only [Op.eqFields,h3,ne_eq,not_false_eq_true,if_true,Sem.run_bind,hp1,hp2,Result.andThen_ok,e1]
       cases b1 with
       | true=>simpa [show d+1+n=d+n+1 by omega] using f3
       | false=>simp
section
variable {P:Program} {vs:List Nat} {n:Nat} {G:Gh} {r:RS} {a:Act} {w:World} (hr:RRel vs n G r a w) (hi:HeapInv G r.h w) {o:Oper}
include hr hi
theorem ZV {op:BinOp} {t t':TypeId} {x y:Operand} (ho:o.op=.binOp op t x y t') {neg:Bool} (hop:op=.eql/\neg=false \/ op=.neq/\neg=true) {kts:List KT} (hok:Mx P t kts=true) {x' y':VArg} (hx:Al vs x x'=true) (hy:Al vs y y'=true)
  {cs cs':List VVal} {xs ys:List PV} {b:Bool} (hl:r.look x'=some (.agg cs)) (hl':r.look y'=some (.agg cs')) (h1:Ad unP cs=some xs) (h2:Ad unP cs'=some ys) (hb:Dt kts xs ys=some b):Az P G r.h w a o (.p (.bool (if neg then !b else b))) []:=by
 have e1:=Av hr hx hl
 have e2:=Av hr hy hl'
 generalize hc1:a.eval x=c1 at e1
 generalize hc2:a.eval y=c2 at e2
 cases e1 with
 | @agg _ arr hlen hone hrel =>
  cases e2 with
  | @agg _ arr' hlen' hone' hrel' =>
   refine AW (c:=.bool (if neg then !b else b)) ?_ hi (FI _)
   unfold Mx at hok
   cases hu:P.underlying t with
   | none=>simp [hu] at hok
   | some dsc =>
    cases dsc<;>simp [hu] at hok
    rename_i fs
    obtain ⟨⟨g1,g2⟩,g3⟩:=hok
    have hfo:P.fieldsOf t=fs:=by simp [Program.fieldsOf,hu]
    have cellsOf:∀ {cs:List VVal} {xs:List PV} {arr:Array Value},Ad unP cs=some xs->cs.length=arr.size->(∀ (i:Nat) (v:VVal) (c:Value),cs[i]?=some v->arr[i]?=some c->VRel G r.h w v c) ->
      ∀ (j:Nat) (x:PV),xs[j]?=some x->∃ c,arr[0+j]?=some c/\PRel (fun b=>G.kind b=.frozen) w x c:=by
     intro cs xs arr hm hl hrel j x hj
     obtain ⟨v,hv,hu⟩:=(A3 hm).2 j x hj
     have hlt:j<arr.size:=by rw [<- hl];exact (lgs.1 hv).1
     refine ⟨arr[j],by rw [Nat.zero_add];exact aggz hlt,(HZ (hrel j v _ hv (aggz hlt)) hu).1⟩
    obtain ⟨_,b1,b2,q1,q2,key⟩:=Ir (P:=P) (w:=w) 60 9939 arr arr' fs.toList kts [] 0 xs ys b g3 hb (fun j x _=>cellsOf h1 hlen hrel j x) (fun j x _=>cellsOf h2 hlen' hrel' j x)
    have q3:b2=true:=by
     generalize xs.drop (kts.length - ([]:List KT).length)=xr at q1
     generalize ys.drop (kts.length - ([]:List KT).length)=yr at q1
     cases xr<;>cases yr<;>simp [Dt] at q1
     first|exact q1|exact q1.symm
    rw [q3,bau] at q2
    subst q2
    have hrun:(Op.equalIn 10000 t (.agg arr) (.agg arr')).run P w=.ok b w:=by
     rw [run_equalIn_struct w 9999 t arr arr' (by rw [hfo];exact hu) g1,hfo]
     exact key
    rcases hop with ⟨rfl,rfl⟩|⟨rfl,rfl⟩
    .simp [execOp,ho,hc1,hc2,run_eqGuard_agg w .eql t x y arr arr' g2,run_eql_struct,hrun]
    .simp [execOp,ho,hc1,hc2,run_eqGuard_agg w .neq t x y arr arr' g2,run_neq_struct,hrun]
theorem VD {t e:TypeId} {x i:Operand} (ho:o.op=.indexAddr t x i) {y z:VArg} (hx:Al vs x y=true) (hz:Al vs i z=true) (hu:P.underlying t=some (.slice e)) {sz:Nat} (hsz:Bi P e sz=true) {s v:VVal} {k:IntKind} {m:Int}
  (hl:r.look y=some s) (hl':r.look z=some (.p (.int k m))) (hv:Ib r.h sz s m=some v):Az P G r.h w a o v []:=by
 have h1:=Av hr hx hl
 have h2:=DS (Av hr hz hl')
 obtain ⟨h0,hv⟩:=Ab hv
 generalize hcp:a.eval x=cp at h1
 have key:∀ ad len cap,cp=.slice (some ad) len cap->m<len->(execOp a.eval o).run P w=.ok (.value (.pointer (some (ad.add (m.toNat*sz))))) w:=by
  intro ad len cap hc hlt
  subst hc
  simp [execOp,ho,Instr.indexAt,hcp,h2,asIntOf,run_underlying hu,h0,hlt,Dk hsz]
 cases h1 with
 | @p d c hp hone =>
  cases hp with
  | @slice sz' xs ad n' cap ad' val hn hcap ha hszs h1' hc hrel =>
  simp only [Ef] at hv
  obtain ⟨rfl,hv2⟩:=Ab hv
  obtain ⟨x0,hx0,hv3⟩:=Aa hv2
  simp at hv3
  subst hv3
  have hlt:m.toNat<xs.length:=(lgs.1 hx0).1
  obtain ⟨e1,e2,e3⟩:=ha (by omega)
  refine AW (c:=.pointer (some (ad'.add (m.toNat*sz')))) (key ad' n' cap (by rw [e1]) (by omega)) hi (.vptr (ad'.add (m.toNat*sz')) (fun j=>val m.toNat j) ?_ (by rw [DQ];exact e2) (by rw [DQ];exact e3) (fun j c hj=>h1' _ _ j c hx0 hj) (fun j c hj=>by rw [F1];exact hc _ _ j c hx0 hj) (fun j c hj=>hrel _ _ j c hx0 hj))
  rw [F1,Nat.add_zero]
  | _=>simp [Ef] at hv
 | @plist ps ad n' cap ad' val hn hcap ha h1' hc hr' =>
  simp only [Ef] at hv
  obtain ⟨rfl,hv2⟩:=Ab hv
  obtain ⟨p0,hp0,hv3⟩:=Aa hv2
  simp at hv3
  subst hv3
  have hlt:m.toNat<ps.length:=(lgs.1 hp0).1
  obtain ⟨e1,e2,e3⟩:=ha (by omega)
  refine AW (c:=.pointer (some (ad'.add (m.toNat*1)))) (key ad' n' cap (by rw [e1]) (by omega)) hi (.pcell (by rw [DQ];exact e2) (by rw [DQ];exact e3) (h1' _ _ hp0) ?_ (hr' _ _ hp0))
  rw [Nat.mul_one]
  exact hc _ _ hp0
 | @own id ver off len ad n' cap v' o' hn hcap hh hle hoo =>
  simp only [Ef] at hv
  rw [hh] at hv
  cases o'<;>simp only at hv<;>try (cases hv;done)
  rename_i sz' xs'
  obtain ⟨rfl,hv2⟩:=Ab hv
  obtain ⟨rfl,hv3⟩:=Ab hv2
  obtain ⟨hlt,hv4⟩:=Ab hv3
  simp at hv4
  subst hv4
  obtain ⟨sz2,xs,he,h3,h4⟩:=hoo rfl
  simp at he
  obtain ⟨rfl,rfl⟩:=he
  rcases h4 with ⟨h4,_⟩|⟨_,_,h4⟩
  ·omega
  ·have h5:=h4 (by omega)
   subst h5
   clear hoo
   have hmn:m<(n':Int):=by omega
   refine AW (c:=.pointer (some ((⟨G.blk id,off*sz',none⟩:Addr).add (m.toNat*sz')))) (key _ n' cap rfl hmn) hi (.eptr hh hle fun _=>⟨sz',xs',rfl,by omega,?_⟩)
   rw [add_lit,Nat.add_mul,Nat.add_zero]
 | _=>simp [Ef] at hv
end
end
end Go.V
namespace Go.V
open Go.RowKit
def Gh.set (G:Gh) (id:Id) (b:Nat) (k:Kind) (cap:Nat):Gh :=
  { kind:=fun x=>if x=b then k else G.kind x,blk:=fun i=>if i=id then b else G.blk i,cap:=fun i=>if i=id then cap else G.cap i }
theorem BE (h:VHeap) (id:Id) (o:Nat × Ob):h.upd id o id=some o:=by simp [VHeap.upd]
theorem DO (h:VHeap) {id i:Id} (o:Nat × Ob) (hne:i ≠ id):h.upd id o i=h i:=by simp [VHeap.upd,hne]
theorem Ev {h:VHeap} {id:Id} {v:Nat} {o:Ob} (hh:h id=some (v,o)):nv (h id)=v+1:=by simp [nv,hh]
theorem DN (h:VHeap) (us vs:List (Id × Nat × Ob)):h.upds (us++vs)=(h.upds us).upds vs:=by
 induction us generalizing h with
 | nil=>rfl
 | cons u us ih=>obtain ⟨id,o⟩:=u;exact ih _
theorem D0 {G:Gh} {h:VHeap} {w:World} (hi:HeapInv G h w) {id:Id} {v:Nat} {o:Ob} (hh:h id=some (v,o)) (hm:G.kind (G.blk id)=.mine id) (hg:o ≠ .gone):G.blk id<w.heap.size:=by
 have:=hi id v o hh
 cases o with
 | box cs=>obtain ⟨_,arr,t,hb,_⟩:=this;exact (ags.1 hb).1
 | arr sz xs=>obtain ⟨_,_,h3⟩:=this;obtain ⟨_,arr,t,hb,_⟩:=h3 hm;exact (ags.1 hb).1
 | map kt ks vs=>obtain ⟨_,es,c,hb,_⟩:=this;exact (ags.1 hb).1
 | gone=>exact absurd rfl hg
 | iter s pos=>obtain ⟨_,hb⟩:=this;exact (ags.1 hb).1
theorem OBRel.keep {G G':Gh} {h h':VHeap} {w w':World} (s:Step G h w G' h' w') {id:Id} {o:Ob} (ho:OBRel G h w id o) (hb:G'.blk id=G.blk id) (hc:G'.cap id=G.cap id)
  (hk:G.kind (G.blk id)=.mine id->G'.kind (G.blk id)=.mine id/\w'.heap[G.blk id]?=w.heap[G.blk id]?) (hk':G'.kind (G.blk id)=.mine id->G.kind (G.blk id)=.mine id):OBRel G' h' w' id o:=by
 cases o with
 | box cs =>
  obtain ⟨h1,arr,t,h2,h3,h4,h5⟩:=ho
  have:=hk h1
  exact ⟨by rw [hb];exact this.1,arr,t,by rw [hb];exact this.2.trans h2,h3,h4,fun i v c hv hc=>(h5 i v c hv hc).mono s⟩
 | arr sz xs =>
  obtain ⟨h1,h2,h3⟩:=ho
  refine ⟨h1,?_,fun hm=>?_⟩
  ·rcases h2 with h2|h2
   .exact .inl h2
   .exact .inr (by rw [hb];exact (hk h2).1)
  ·rw [hb] at hm
   have hm':=hk' hm
   obtain ⟨a1,arr,t,a2,a3,a4⟩:=h3 hm'
   rw [hb,hc]
   refine ⟨a1,arr,t,(hk hm').2.trans a2,a3,fun i x j c hx hj=>?_⟩
   obtain ⟨v,b1,b2,b3⟩:=a4 i x j c hx hj
   exact ⟨v,b1,b2,b3.mono s.keeps s.size⟩
 | map kt ks vs =>
  obtain ⟨h1,es,c,h2,h3,h4,h5,h6⟩:=ho
  have:=hk h1
  exact ⟨by rw [hb];exact this.1,es,c,by rw [hb];exact this.2.trans h2,h3,h4,h5,fun i v e hv he=>(h6 i v e hv he).mono s.keeps s.size⟩
 | gone=>trivial
 | iter s pos =>
  obtain ⟨h1,h2⟩:=ho
  have:=hk h1
  exact ⟨by rw [hb];exact this.1,by rw [hb];exact this.2.trans h2⟩
theorem Step.newOb {G:Gh} {h:VHeap} {w w':World} (hinv:HeapInv G h w) (id:Id) (k:Kind) (cap:Nat) (o:Ob) (hsz:w.heap.size<=w'.heap.size) (hblk:∀ b,b<w.heap.size->w'.heap[b]?=w.heap[b]?)
  (hos:w'.os=w.os) (htp:w'.tape=w.tape) (hout:w'.output=w.output):Step G h w (G.set id w.heap.size k cap) (h.upd id (nv (h id),o)) w' where
 frozen:=fun b hb hl=>⟨by simp [Gh.set,Nat.ne_of_lt hl,hb],hblk b hl⟩
 other:=fun b hb hl=>⟨by simp [Gh.set,Nat.ne_of_lt hl,hb],hblk b hl⟩
 mine:=fun b i hl hm=>.inl (by simpa [Gh.set,Nat.ne_of_lt hl] using hm)
 frz:=fun b hl hm=>.inl (by simpa [Gh.set,Nat.ne_of_lt hl] using hm)
 size:=hsz
 os:=hos
 tape:=htp
 output:=hout
 vers:=fun i v o' hi=>by
  by_cases he:i=id
  ·subst he
   exact ⟨nv (h i),o,BE _ _ _,by rw [Ev hi];omega,fun e=>by rw [Ev hi] at e;omega⟩
  ·refine ⟨v,o',by rw [DO _ _ he];exact hi,lrf _,fun _=>⟨by simp [Gh.set,he],by simp [Gh.set,he],by cases o'<;>simp [SameOb],fun sz xs ho' hm=>?_⟩⟩
   have hlt:=D0 hinv hi hm (by rw [ho'];simp)
   simp [Gh.set,Nat.ne_of_lt hlt,hm]
theorem HeapInv.newOb {G:Gh} {h:VHeap} {w w':World} (hinv:HeapInv G h w) (id:Id) (k:Kind) (cap:Nat) (o:Ob) (hsz:w.heap.size<=w'.heap.size) (hblk:∀ b,b<w.heap.size->w'.heap[b]?=w.heap[b]?)
  (hos:w'.os=w.os) (htp:w'.tape=w.tape) (hout:w'.output=w.output) (hk:k=.other \/ k=.mine id) (hnew:OBRel (G.set id w.heap.size k cap) (h.upd id (nv (h id),o)) w' id o) :
  HeapInv (G.set id w.heap.size k cap) (h.upd id (nv (h id),o)) w':=by
 intro i v o' hi
 by_cases he:i=id
 ·subst he
  rw [BE] at hi
  simp at hi
  obtain ⟨_,rfl⟩:=hi
  exact hnew
 ·rw [DO _ _ he] at hi
  have hst:=Step.newOb (G:=G) hinv id k cap o hsz hblk hos htp hout
  by_cases hg:o'=.gone
  ·subst hg;trivial
  ·refine OBRel.keep hst (hinv i v o' hi) (by simp [Gh.set,he]) (by simp [Gh.set,he]) (fun hm=>?_) (fun hm=>?_)
   ·have hlt:=D0 hinv hi hm hg
    exact ⟨by simp [Gh.set,Nat.ne_of_lt hlt,hm],hblk _ hlt⟩
   ·simp only [Gh.set] at hm
    split at hm
    ·rcases hk with rfl|rfl
     .simp at hm
     .simp at hm;exact absurd hm.symm he
    .exact hm
theorem QT {G:Gh} {h:VHeap} {w:World} (hinv:HeapInv G h w) (id:Id) {cs:List VVal} {arr:Array Value} (t:TypeId) (hl:cs.length=arr.size) (h1:∀ (i:Nat) (c:Value),arr[i]?=some c->c.oneCell'=true)
  (hr:∀ (i:Nat) (v:VVal) (c:Value),cs[i]?=some v->arr[i]?=some c->VRel G h w v c) :
  Step G h w (G.set id w.heap.size (.mine id) 0) (h.upd id (nv (h id),.box cs)) (w.alloc (.cells arr t))/\HeapInv (G.set id w.heap.size (.mine id) 0) (h.upd id (nv (h id),.box cs)) (w.alloc (.cells arr t)) /\
  VRel (G.set id w.heap.size (.mine id) 0) (h.upd id (nv (h id),.box cs)) (w.alloc (.cells arr t)) (.ptr id (nv (h id)) 0) (.pointer (some ⟨w.heap.size,0,none⟩)):=by
 have hblk:∀ b,b<w.heap.size->(w.alloc (.cells arr t)).heap[b]?=w.heap[b]?:=fun b hb=>Below.heap_alloc w _ b hb
 have hst:=Step.newOb (G:=G) hinv id (.mine id) 0 (.box cs) (by simp) hblk rfl rfl rfl
 refine ⟨hst,HeapInv.newOb hinv id (.mine id) 0 (.box cs) (by simp) hblk rfl rfl rfl (.inr rfl) ⟨by simp [Gh.set],arr,t,?_,hl,h1,fun i v c hv hc=>(hr i v c hv hc).mono hst⟩,.ptr (BE _ _ _) (lrf _) fun _=>by simp [Gh.set]⟩
 simp only [Gh.set,if_true]
 exact heap_alloc_new w _
theorem H3 {G:Gh} {h:VHeap} {w:World} (hinv:HeapInv G h w) (id:Id) (sz:Nat) (a:Option Addr) :
  ∃ G',Step G h w G' (h.upd id (nv (h id),.arr sz [])) w/\HeapInv G' (h.upd id (nv (h id),.arr sz [])) w/\VRel G' (h.upd id (nv (h id),.arr sz [])) w (.own id (nv (h id)) 0 0) (.slice a 0 0):=by
 refine ⟨G.set id w.heap.size .other 0,Step.newOb hinv id .other 0 _ (lrf _) (fun _ _=>rfl) rfl rfl rfl,HeapInv.newOb hinv id .other 0 _ (lrf _) (fun _ _=>rfl) rfl rfl rfl (.inl rfl) ⟨by simp,.inl rfl,fun hm=>?_⟩,.own rfl (lrf _) (BE _ _ _) (lrf _) fun _=>⟨sz,[],rfl,by simp,.inl ⟨rfl,rfl⟩⟩⟩
 simp [Gh.set] at hm
theorem H4 {G:Gh} {h:VHeap} {w w':World} (hinv:HeapInv G h w) (id:Id) (sz:Nat) (xs:List PV) (cap:Nat) {arr:Array Value} {t:TypeId} (hsz:w.heap.size<=w'.heap.size) (hblk:∀ b,b<w.heap.size->w'.heap[b]?=w.heap[b]?)
  (hos:w'.os=w.os) (htp:w'.tape=w.tape) (hout:w'.output=w.output) (hb:w'.heap[w.heap.size]?=some (.cells arr t (0,0))) (hcs:∀ x∈xs,x.cells.length=sz) (hle:xs.length<=cap) (has:arr.size=cap*sz)
  (hc:∀ (i:Nat) (x:PV) (j:Nat) (c:PV),xs[i]?=some x->x.cells[j]?=some c->∃ v,arr[i*sz+j]?=some v/\v.oneCell'=true/\PRel (fun b=>G.kind b=.frozen) w c v) :
  ∃ G',Step G h w G' (h.upd id (nv (h id),.arr sz xs)) w'/\HeapInv G' (h.upd id (nv (h id),.arr sz xs)) w'/\VRel G' (h.upd id (nv (h id),.arr sz xs)) w' (.own id (nv (h id)) 0 xs.length) (.slice (some ⟨w.heap.size,0,none⟩) xs.length cap):=by
 have hst:=Step.newOb (G:=G) hinv id (.mine id) cap (.arr sz xs) hsz hblk hos htp hout
 refine ⟨G.set id w.heap.size (.mine id) cap,hst,HeapInv.newOb hinv id (.mine id) cap _ hsz hblk hos htp hout (.inr rfl) ⟨hcs,.inr (by simp [Gh.set]),fun _=>⟨by simpa [Gh.set] using hle,arr,t,by simpa [Gh.set] using hb,by simpa [Gh.set] using has,fun i x j c hx hj=>?_⟩⟩,.own rfl hle (BE _ _ _) (lrf _) fun _=>⟨sz,xs,rfl,by simp,.inr ⟨by simp [Gh.set],by simp [Gh.set],fun _=>by simp [Gh.set]⟩⟩⟩
 obtain ⟨v,h1,h2,h3⟩:=hc i x j c hx hj
 exact ⟨v,h1,h2,h3.mono hst.keeps hst.size⟩
theorem Step.write {G:Gh} {h:VHeap} {w w':World} (id:Id) {v:Nat} {o o':Ob} (hh:h id=some (v,o)) (hm:G.kind (G.blk id)=.mine id) (hs:SameOb o o') (hsz:w.heap.size=w'.heap.size) (hblk:∀ b,b ≠ G.blk id->w'.heap[b]?=w.heap[b]?)
  (hos:w'.os=w.os) (htp:w'.tape=w.tape) (hout:w'.output=w.output):Step G h w G (h.upd id (v,o')) w' where
 frozen:=fun b hb _=>⟨hb,hblk b (fun e=>by rw [e,hm] at hb;cases hb)⟩
 other:=fun b hb _=>⟨hb,hblk b (fun e=>by rw [e,hm] at hb;cases hb)⟩
 mine:=fun _ _ _ h=>.inl h
 frz:=fun _ _ h=>.inl h
 size:=by omega
 os:=hos
 tape:=htp
 output:=hout
 vers:=fun i v' o2 hi=>by
  by_cases he:i=id
  ·subst he
   rw [hh] at hi
   simp at hi
   obtain ⟨rfl,rfl⟩:=hi
   exact ⟨v,o',BE _ _ _,lrf _,fun _=>⟨rfl,rfl,hs,fun _ _ _ h=>h⟩⟩
  .exact ⟨v',o2,by rw [DO _ _ he];exact hi,lrf _,fun _=>⟨rfl,rfl,by cases o2<;>simp [SameOb],fun _ _ _ h=>h⟩⟩
theorem HeapInv.write {G:Gh} {h:VHeap} {w w':World} (hinv:HeapInv G h w) (id:Id) {v:Nat} {o':Ob} (hst:Step G h w G (h.upd id (v,o')) w') (hm:G.kind (G.blk id)=.mine id) (hblk:∀ b,b ≠ G.blk id->w'.heap[b]?=w.heap[b]?)
  (hnew:OBRel G (h.upd id (v,o')) w' id o'):HeapInv G (h.upd id (v,o')) w':=by
 intro i v' o2 hi
 by_cases he:i=id
 ·subst he
  rw [BE] at hi
  simp at hi
  obtain ⟨_,rfl⟩:=hi
  exact hnew
 ·rw [DO _ _ he] at hi
  refine OBRel.keep hst (hinv i v' o2 hi) rfl rfl (fun hm'=>⟨hm',hblk _ (fun e=>?_)⟩) (fun h=>h)
  rw [e,hm] at hm'
  simp at hm'
  exact he hm'.symm
end Go.V
namespace Go.V
open Go.RowKit
section
variable [GK]
theorem Nq {G:Gh} {h:VHeap} {w:World} (hinv:HeapInv G h w) (d j:Nat) {z:ZC} {v:Value} (hz:FC v z=true) :
  ∃ G',Step G h w G' (h.upds (zcell d h j z).2) w/\HeapInv G' (h.upds (zcell d h j z).2) w/\VRel G' (h.upds (zcell d h j z).2) w (zcell d h j z).1 v/\v.oneCell'=true:=by
 cases z with
 | c x =>
  have hc:FW v x=true:=by
   unfold FC at hz
   split at hz<;>simp_all
  obtain ⟨h1,h2,h3⟩:=Hw (fz:=fun b=>G.kind b=.frozen) (w:=w) hc
  exact ⟨G,Step.refl _ _ _,hinv,.p h1 h2,h2⟩
 | nil sz =>
  have hv:v=.slice none 0 0:=by
   unfold FC at hz
   split at hz<;>simp_all
  subst hv
  obtain ⟨G',h1,h2,h3⟩:=H3 hinv (.slot d (j+1)) sz none
  exact ⟨G',h1,h2,h3,rfl⟩
theorem M3 (d:Nat) {w:World}:∀ (zs:List ZC) (vs:List Value) (G:Gh) (h:VHeap) (j:Nat),HeapInv G h w->F4 vs zs=true ->
  ∃ G',Step G h w G' (h.upds (zcells d h j zs).2) w/\HeapInv G' (h.upds (zcells d h j zs).2) w/\(zcells d h j zs).1.length=vs.length/\(∀ v∈vs,v.oneCell'=true) /\
   ∀ (i:Nat) (u:VVal) (c:Value),(zcells d h j zs).1[i]?=some u->vs[i]?=some c->VRel G' (h.upds (zcells d h j zs).2) w u c
 | [],[],G,h,j,hinv,_=>⟨G,Step.refl _ _ _,hinv,rfl,by simp,fun i u c hu=>by simp [zcells] at hu⟩
 | z::zs,v::vs,G,h,j,hinv,hz=>by
  simp only [F4,bat] at hz
  obtain ⟨hz1,hz2⟩:=hz
  obtain ⟨G1,s1,i1,r1,o1⟩:=Nq hinv d j hz1
  obtain ⟨G2,s2,i2,l2,o2,r2⟩:=M3 d zs vs G1 (h.upds (zcell d h j z).2) (j+1) i1 hz2
  have hup:h.upds (zcells d h j (z::zs)).2=(h.upds (zcell d h j z).2).upds (zcells d (h.upds (zcell d h j z).2) (j+1) zs).2:=by
   simp only [zcells,DN]
  rw [hup]
  refine ⟨G2,s1.trans s2,i2,by simp [zcells,l2],?_,fun i u c hu hc=>?_⟩
  ·intro v' hv'
   simp at hv'
   rcases hv' with rfl|hv'
   .exact o1
   .exact o2 v' hv'
  ·cases i with
   | zero=>simp [zcells] at hu hc;subst hu;subst hc;exact r1.mono s2
   | succ i=>simp [zcells] at hu hc;exact r2 i u c hu hc
 | [],_::_,_,_,_,_,hz=>by simp [F4] at hz
 | _::_,[],_,_,_,_,hz=>by simp [F4] at hz
theorem CA {α:Type} (l:List α) (off:Nat) (ys:List α) (h:off+ys.length<=l.length):(AB l off ys).length=l.length:=by
 simp [AB];omega
theorem C7 {α:Type} (l:List α) (off:Nat) (ys:List α) (h:off+ys.length<=l.length) (k:Nat) :
  (AB l off ys)[k]?=if off<=k/\k<off+ys.length then ys[k - off]? else l[k]?:=by
 unfold AB
 have hto:(l.take off).length=off:=by simp;omega
 by_cases h1:k<off
 ·rw [laa,List.getElem?_append_left (by omega),List.getElem?_take_of_lt h1,if_neg (by omega)]
 ·by_cases h2:k<off+ys.length
  ·rw [laa,lgr (by omega),List.getElem?_append_left (by omega),hto,if_pos ⟨by omega,h2⟩]
  ·rw [lgr (by simp;omega)]
   simp only [lla,hto,List.getElem?_drop]
   rw [if_neg (by omega)]
   congr 1
   omega
theorem zaK {i i' sz off m j:Nat} (hne:i' ≠ i) (hj:j<sz) (hm:off+m<=sz):¬ (i*sz+off<=i'*sz+j/\i'*sz+j<i*sz+off+m):=by
 rcases Nat.lt_or_gt_of_ne hne with h|h
 ·have:=Nat.mul_le_mul_right sz (show i'+1<=i from h)
  rw [Nat.add_mul] at this
  omega
 ·have:=Nat.mul_le_mul_right sz (show i+1<=i' from h)
  rw [Nat.add_mul] at this
  omega
theorem UV {x:PV} {off:Nat} {ds:List PV} (h:off+ds.length<=x.cells.length) (hd:∀ d∈ds,d.cells=[d]):(setCells x off ds).cells=AB x.cells off ds:=by
 cases x<;>simp only [PV.cells,setCells,llc,lln] at h ⊢<;>try rfl
 all_goals
  cases ds with
  | nil=>simp [AB,PV.cells]
  | cons d ds =>
   have:ds=[]:=lez (by simp at h;omega)
   subst this
   have:off=0:=by simp at h;omega
   subst this
   have:=hd d (by simp)
   simp only [AB,List.headD,List.take_zero,lna,llc,lln,List.drop_succ_cons,List.drop_nil,lan,Nat.zero_add]
   exact this
section
variable {P:Program} {vs:List Nat} {n:Nat} {G:Gh} {r:RS} {a:Act} {w:World} (hr:RRel vs n G r a w) (hi:HeapInv G r.h w) {o:Oper} (d:Nat)
include hi
theorem Pe (ho:o.op=.move (.const (.slice none 0 0)) \/ o.op=.assign (.const (.slice none 0 0))) (sz:Nat) :
  Az P G r.h w a o (.own (.slot d 0) (nv (r.h (.slot d 0))) 0 0) [(.slot d 0,nv (r.h (.slot d 0)),.arr sz [])]:=by
 obtain ⟨G',h1,h2,h3⟩:=H3 hi (.slot d 0) sz none
 refine CB (G':=G') (c:=.slice none 0 0) ?_ h1 h2 h3
 rcases ho with ho|ho<;>simp [execOp,ho,Act.eval]
theorem ZY {t:TypeId} (ho:o.op=.alloc t) {i:TypeInfo} {z:Value} (hinf:P.info? t=some i) (hz:i.zero=some z) {zs:List ZC} (hok:F4 z.cells.toList zs=true) :
  Az P G r.h w a o (.ptr (.slot d 0) (nv (r.h.upds (zcells d r.h 0 zs).2 (.slot d 0))) 0) ((zcells d r.h 0 zs).2++[(.slot d 0,nv (r.h.upds (zcells d r.h 0 zs).2 (.slot d 0)),.box (zcells d r.h 0 zs).1)]):=by
 obtain ⟨G1,s1,i1,l1,o1,r1⟩:=M3 d zs z.cells.toList G r.h 0 hi hok
 obtain ⟨h1,h2,h3⟩:=QT (arr:=z.cells) i1 (.slot d 0) (cs:=(zcells d r.h 0 zs).1) t (by simpa using l1) (fun k c hc=>o1 c (by rw [Array.mem_toList_iff];exact Array.mem_of_getElem? hc)) (fun k u c hu hc=>r1 k u c hu (by simpa using hc))
 refine CB (c:=.pointer (some ⟨w.heap.size,0,none⟩)) (w':=w.alloc (.cells z.cells t)) (G':=_) ?_ (by rw [DN];exact s1.trans h1) (by rw [DN];exact h2) (by rw [DN];exact h3)
 simp [execOp,ho,Instr.alloc,zeroValue,typeInfo,hinf,hz,newVar,newRow]
include hr
theorem zck {t:TypeId} {x:Operand} (ho:o.op=.box t x) {y:VArg} (hx:Al vs x y=true) {v:VVal} (hl:r.look y=some v) (hs:(AF v).all Et=true) :
  Az P G r.h w a o (.ptr (.slot d 0) (nv (r.h (.slot d 0))) 0) [(.slot d 0,nv (r.h (.slot d 0)),.box (AF v))]:=by
 obtain ⟨h1,h2,h3⟩:=N4 (Av hr hx hl) hs
 obtain ⟨g1,g2,g3⟩:=QT (arr:=(a.eval x).cells) hi (.slot d 0) (cs:=AF v) t h1 h2 h3
 refine CB (c:=.pointer (some ⟨w.heap.size,0,none⟩)) (w':=w.alloc (.cells (a.eval x).cells t)) ?_ g1 g2 g3
 simp [execOp,ho,Instr.box,newVar,newRow]
theorem Pd {t:TypeId} {x y:Operand} (ho:o.op=.store t x y) {x':VArg} (hx:Al vs x x'=true) {m:Nat} (hsz:Bi P t m=true) {p v:VVal} {us:List (Id × Nat × Ob)}
  (hl : r.look x'=some p) (hyv : VRel G r.h w v (a.eval y)) (hv : DX r.h m p v=some us) : Az P G r.h w a o .undef us:=by
 obtain ⟨hlen,hva⟩:=Ab hv
 obtain ⟨hsol,hvb⟩:=Ab hva
 clear hv hva
 have hp:=Av hr hx hl
 obtain ⟨c1,c2,c3⟩:=N4 hyv hsol
 generalize hcp:a.eval x=cp at hp
 generalize hys:(a.eval y).cells.toList=ys
 have hym:ys.length=m:=by rw [<- hys];simp;omega
 have hy1:∀ u∈ys,u.oneCell'=true:=fun u hu=>by
  obtain ⟨k,hk,rfl⟩:=List.getElem_of_mem hu
  exact c2 k _ (by rw [<- Array.getElem?_toList,hys];exact lgg hk)
 have hyr:∀ (k:Nat) (u:VVal) (c:Value),(AF v)[k]?=some u->ys[k]?=some c->VRel G r.h w u c:=fun k u c hu hc=>c3 k u c hu (by rw [<- Array.getElem?_toList,hys];exact hc)
 have key:∀ (b off:Nat) (arr:Array Value) (tt:TypeId),cp=.pointer (some ⟨b,off,none⟩)->w.heap[b]?=some (.cells arr tt (0,0))->off+m<=arr.size ->
   (execOp a.eval o).run P w=.ok .skip (w.setRow b (AB arr.toList off ys).toArray):=by
  intro b off arr tt hc hb hle
  subst hc
  have hst:=run_storeCells_at P b off tt ys 0 arr w hb (by omega) hy1
  simp only [Nat.add_zero] at hst
  have hm:(a.eval y).cells.size=m:=by rw [<- c1];exact hlen
  simp [execOp,ho,Instr.storeAt,Instr.sureAddr,hcp,storeVar,Dk hsz,hm,hys,hst,AB]
 have hsz':∀ b cs',w.heap.size=(w.setRow b cs').heap.size:=fun b cs'=>by simp [World.setRow]
 have hblk:∀ b0 cs' b,b ≠ b0->(w.setRow b0 cs').heap[b]?=w.heap[b]?:=fun b0 cs' b hne=>setRow_other w _ _ _ hne
 cases hp with
 | @ptr id ver off ad v' o' hh hle hoo =>
  simp only [DR,hh] at hvb
  cases o' with
  | box cs =>
   simp only at hvb
   obtain ⟨rfl,hv2⟩:=Ab hvb
   obtain ⟨hof,hv3⟩:=Ab hv2
   simp at hv3
   subst hv3
   obtain ⟨hm,arr,tt,hb,hl2,h1,hrel⟩:=hi id _ _ hh
   have hrun:=key (G.blk id) off arr tt (by rw [hoo rfl]) hb (by omega)
   generalize hN:(AB arr.toList off ys).toArray=N at hrun
   have hNg:∀ k:Nat,N[k]?=if off<=k/\k<off+m then ys[k - off]? else arr[k]?:=fun k=>by
    rw [<- hN,List.getElem?_toArray,C7 _ _ _ (by simp;omega),hym,Array.getElem?_toList (xs:=arr)]
   have hNs:N.size=arr.size:=by rw [<- hN,List.size_toArray,CA arr.toList off ys (by simp;omega),Array.length_toList]
   have hst:=Step.write (G:=G) (h:=r.h) (w':=w.setRow (G.blk id) N) id (o':=.box (AB cs off (AF v))) hh hm (by simp [SameOb]) (hsz' _ _) (hblk _ _) rfl rfl rfl
   refine K4 (G':=G) hrun hst (HeapInv.write hi id hst hm (hblk _ _) ⟨hm,N,tt,setRow_heap w _ _ _ _ _ hb,?_,?_,?_⟩)
   ·rw [CA _ _ _ (by omega),hl2,hNs]
   ·intro k c hk
    rw [hNg] at hk
    split at hk
    ·exact hy1 c (lmg hk)
    ·exact h1 k c hk
   ·intro k u c hu hc
    rw [hNg] at hc
    rw [C7 _ _ _ (by omega),hlen] at hu
    refine VRel.mono hst ?_
    by_cases hk:off<=k/\k<off+m
    ·rw [if_pos hk] at hu hc
     exact hyr _ u c hu hc
    ·rw [if_neg hk] at hu hc
     exact hrel k u c hu hc
  | _ => simp at hvb
 | @eptr id ver i off ad v' o' hh hle hoo =>
  simp only [DR,hh] at hvb
  cases o' with
  | arr sz xs =>
   simp only at hvb
   obtain ⟨rfl,hv2⟩:=Ab hvb
   obtain ⟨x0,hx0,hv3⟩:=Aa hv2
   obtain ⟨ds,hds,hv4⟩:=Aa hv3
   obtain ⟨hof,hv5⟩:=Ab hv4
   simp at hv5
   subst hv5
   obtain ⟨sz2,xs2,he,hlt,had⟩:=hoo rfl
   simp at he
   obtain ⟨rfl,rfl⟩:=he
   obtain ⟨hcs,hmm,hall⟩:=hi id _ _ hh
   have hm:G.kind (G.blk id)=.mine id:=by
    rcases hmm with h0|h0
    ·rw [h0] at hlt;simp at hlt
    ·exact h0
   obtain ⟨hcap,arr,tt,hb,has,hc⟩:=hall hm
   have hx0s:x0.cells.length=sz:=hcs x0 (lmg hx0)
   have hfit:i*sz+off+m<=arr.size:=by
    rw [has]
    have:=Nat.mul_le_mul_right sz (show i+1<=G.cap id by omega)
    rw [Nat.add_mul] at this
    omega
   have hrun:=key (G.blk id) (i*sz+off) arr tt (by rw [had]) hb hfit
   generalize hN:(AB arr.toList (i*sz+off) ys).toArray=N at hrun
   have hNg:∀ k:Nat,N[k]?=if i*sz+off<=k/\k<i*sz+off+m then ys[k - (i*sz+off)]? else arr[k]?:=fun k=>by
    rw [<- hN,List.getElem?_toArray,C7 _ _ _ (by simp;omega),hym,Array.getElem?_toList (xs:=arr)]
   have hNs:N.size=arr.size:=by rw [<- hN,List.size_toArray,CA arr.toList (i*sz+off) ys (by simp;omega),Array.length_toList]
   have hdl:ds.length=m:=by rw [(A3 hds).1];exact hlen
   have hdr:∀ (k:Nat) (dd:PV),ds[k]?=some dd->∃ c,ys[k]?=some c/\c.oneCell'=true/\PRel (fun b=>G.kind b=.frozen) w dd c:=fun k dd hk=>by
    obtain ⟨u,hu,hun⟩:=(A3 hds).2 k dd hk
    have hklt:k<ys.length:=by rw [hym,<- hlen];exact (lgs.1 hu).1
    have:=HZ (hyr k u ys[k] hu (lgg hklt)) hun
    exact ⟨ys[k],lgg hklt,this.2,this.1⟩
   have hd1:∀ dd∈ds,dd.cells=[dd]:=fun dd hdd=>by
    obtain ⟨k,hk,rfl⟩:=List.getElem_of_mem hdd
    obtain ⟨c,_,h1,h2⟩:=hdr k _ (lgg hk)
    cases hdk:ds[k]<;>simp only [PV.cells]
    rw [hdk] at h2
    cases h2
    simp [Value.oneCell'] at h1
   have hsc:=UV (x:=x0) (off:=off) (ds:=ds) (by omega) hd1
   have hst:=Step.write (G:=G) (h:=r.h) (w':=w.setRow (G.blk id) N) id (o':=.arr sz (xs.set i (setCells x0 off ds))) hh hm (by simp [SameOb]) (hsz' _ _) (hblk _ _) rfl rfl rfl
   refine K4 (G':=G) hrun hst (HeapInv.write hi id hst hm (hblk _ _) ⟨?_,.inr hm,fun _=>⟨by simpa using hcap,N,tt,setRow_heap w _ _ _ _ _ hb,by rw [hNs,has],?_⟩⟩)
   ·intro z hz
    rcases List.mem_or_eq_of_mem_set hz with hz|rfl
    ·exact hcs z hz
    ·rw [hsc,CA _ _ _ (by omega),hx0s]
   ·intro i' x' j c hx' hj
    rw [List.getElem?_set] at hx'
    by_cases hii:i'=i
    ·subst hii
     simp only [if_true,hlt] at hx'
     simp at hx'
     subst hx'
     rw [hsc,C7 _ _ _ (by omega),hdl] at hj
     by_cases hjj:off<=j/\j<off+m
     ·rw [if_pos hjj] at hj
      obtain ⟨cv,q1,q2,q3⟩:=hdr (j - off) c hj
      refine ⟨cv,?_,q2,q3.mono hst.keeps hst.size⟩
      rw [hNg,if_pos (by omega),<- q1]
      congr 1
      omega
     ·rw [if_neg hjj] at hj
      obtain ⟨cv,q1,q2,q3⟩:=hc i' x0 j c hx0 hj
      refine ⟨cv,?_,q2,q3.mono hst.keeps hst.size⟩
      rw [hNg,if_neg (by omega),q1]
    ·rw [if_neg (fun e=>hii e.symm)] at hx'
     obtain ⟨cv,q1,q2,q3⟩:=hc i' x' j c hx' hj
     refine ⟨cv,?_,q2,q3.mono hst.keeps hst.size⟩
     have hjs:j<sz:=by rw [<- hcs x' (lmg hx')];exact (lgs.1 hj).1
     rw [hNg,if_neg (zaK hii hjs (by omega)),q1]
  | _=>simp at hvb
 | _=>simp [DR] at hvb
theorem ZR {t:TypeId} {x y:Operand} (ho:o.op=.store t x y) {x' y':VArg} (hx:Al vs x x'=true) (hy:Al vs y y'=true) {m:Nat} (hsz:Bi P t m=true) {p v:VVal} {us:List (Id × Nat × Ob)}
  (hl:r.look x'=some p) (hl':r.look y'=some v) (hv:DX r.h m p v=some us):Az P G r.h w a o .undef us :=
 Pd hr hi ho hx hsz hl (Av hr hy hl') hv
theorem Wm {t:TypeId} {x:Operand} (ho:o.op=.store t x (.const (.slice none 0 0))) {x':VArg} (hx:Al vs x x'=true) (hsz:Bi P t 1=true) {p:VVal} {us:List (Id × Nat × Ob)} {sz i k v:Nat}
  (hl:r.look x'=some p) (hh:r.h (.slot i k)=some (v,.arr sz [])) (hv:DX r.h 1 p (.own (.slot i k) v 0 0)=some us):Az P G r.h w a o .undef us :=
 Pd hr hi ho hx hsz hl (.own rfl (lrf _) hh (lrf _) fun _=>⟨sz,[],rfl,lrf _,.inl ⟨rfl,rfl⟩⟩) hv
end
end
end Go.V
namespace Go.V
open Go.RowKit
section
variable [GK]
theorem XW {G:Gh} {h:VHeap} {w:World} {v:VVal} {c:Value} (hv:VRel G h w v c) {j:Nat} {u:VVal} (hu:(AF v)[j]?=some u) (hs:Et u=true) :
  (AF v).length=c.cells.size/\∃ x,c.cells[j]?=some x/\VRel G h w u x/\x.oneCell'=true:=by
 by_cases ha:∃ cs,v=.agg cs
 ·obtain ⟨cs,rfl⟩:=ha
  cases hv with
  | @agg _ arr hl h1 hr =>
   simp only [AF,Value.cells] at hu ⊢
   have hlt:j<arr.size:=by rw [<- hl];exact (lgs.1 hu).1
   exact ⟨hl,arr[j],aggz hlt,hr j u _ hu (aggz hlt),h1 j _ (aggz hlt)⟩
 ·have hvc:AF v=[v]:=by cases v<;>simp_all [AF]
  rw [hvc] at hu ⊢
  cases j with
  | succ j=>simp at hu
  | zero =>
   simp at hu
   subst hu
   have h1:=PN hv hs
   have hcc:c.cells=#[c]:=by cases c<;>simp_all [Value.cells,Value.oneCell']
   rw [hcc]
   exact ⟨rfl,c,by simp,hv,h1⟩
theorem ON (off:Nat):∀ (vs:List Value) (k0:Nat) (cells:Array Value),
  ((vs.zipIdx k0).foldl (fun cs (p:Value × Nat)=>cs.setIfInBounds (off+p.2) p.1) cells).size=cells.size /\
  ∀ k,off+k0+vs.length<=cells.size->((vs.zipIdx k0).foldl (fun cs (p:Value × Nat)=>cs.setIfInBounds (off+p.2) p.1) cells)[k]?=if off+k0<=k/\k<off+k0+vs.length then vs[k - (off+k0)]? else cells[k]?
 | [],k0,cells=>⟨rfl,fun k _=>by simp;omega⟩
 | v::vs,k0,cells=>by
  simp only [List.zipIdx_cons,List.foldl_cons]
  obtain ⟨h1,h2⟩:=ON off vs (k0+1) (cells.setIfInBounds (off+k0) v)
  refine ⟨by rw [h1];simp,fun k hk=>?_⟩
  simp only [llc] at hk
  rw [h2 k (by simp;omega)]
  by_cases hk0:k=off+k0
  ·subst hk0
   rw [if_neg (by omega),if_pos (by simp)]
   simp [show off+k0<cells.size by omega]
  ·by_cases hr:off+k0<=k/\k<off+k0+(vs.length+1)
   ·rw [if_pos (by omega),if_pos (by simpa using hr)]
    have:k - (off+k0)=(k - (off+(k0+1)))+1:=by omega
    rw [this]
    simp
   ·rw [if_neg (by omega),if_neg (by simpa using hr)]
    rw [Array.getElem?_setIfInBounds_ne (by omega)]
theorem PB (off:Nat) (v:Value) (cells:Array Value) (h:off+v.cells.size<=cells.size) :
  (v.cells.zipIdx.foldl (fun cs (c,j)=>cs.setIfInBounds (off+j) c) cells).size=cells.size /\
  ∀ k,(v.cells.zipIdx.foldl (fun cs (c,j)=>cs.setIfInBounds (off+j) c) cells)[k]?=if off<=k/\k<off+v.cells.size then v.cells[k - off]? else cells[k]?:=by
 have key:=ON off v.cells.toList 0 cells
 have he:v.cells.zipIdx.foldl (fun cs (c,j)=>cs.setIfInBounds (off+j) c) cells=(v.cells.toList.zipIdx 0).foldl (fun cs (p:Value × Nat)=>cs.setIfInBounds (off+p.2) p.1) cells:=by
  rw [<- Array.foldl_toList,Array.toList_zipIdx]
 rw [he]
 refine ⟨key.1,fun k=>?_⟩
 have:=key.2 k (by simpa using h)
 simpa using this
def Ge (a:Act):Value ⊕ (Operand × Nat)->Option Value
 | .inl v=>some v
 | .inr (x,j)=>(a.eval x).cells[j]?
theorem Oq {P:Program}:∀ {fs:List Field} {places:List (Nat × Nat)},fs.mapM (fun f=>(P.info? f.type).map fun i=>(f.offset,i.size))=some places ->
  ∀ i:Nat,places[i]?=(fs[i]?).bind fun (f:Field)=>(P.info? f.type).map fun inf=>(f.offset,inf.size)
 | [],places,h,i=>by simp at h;subst h;simp
 | f::fs,places,h,i=>by
  simp only [List.mapM_cons,Option.bind_eq_bind,Option.pure_def] at h
  cases hi:P.info? f.type with
  | none=>simp [hi] at h
  | some inf =>
   cases hr:fs.mapM (fun f=>(P.info? f.type).map fun i=>(f.offset,i.size)) with
   | none=>simp [hi,hr] at h
   | some rest =>
    simp [hi,hr] at h
    subst h
    cases i with
    | zero=>simp [hi]
    | succ i=>simpa using Oq hr i
theorem OM {P:Program} {vs:List Nat} {fs:Array Field} {a:Act} {places:List (Nat × Nat)} (hpl:fs.toList.mapM (fun f=>(P.info? f.type).map fun i=>(f.offset,i.size))=some places) :
  ∀ (ps : List (Nat × Operand)) (cs cs' : List (Value ⊕ (Operand × Nat))) (cells : Array Value),GU P vs fs cs ps=some cs'->cells.size=cs.length ->
   (∀ (k:Nat) (s:Value ⊕ (Operand × Nat)),cs[k]?=some s->∃ v,cells[k]?=some v/\Ge a s=some v)->(∀ (i:Nat) (x:Operand),(i,x)∈ps->∀ (f:Field) (inf:TypeInfo),fs[i]?=some f->P.info? f.type=some inf->(a.eval x).cells.size=inf.size) ->
   ∃ cells',Instr.fill (places.toArray[·]?) cells (ps.map fun (i,x)=>(i,a.eval x))=some cells'/\cells'.size=cs'.length/\∀ (k:Nat) (s:Value ⊕ (Operand × Nat)),cs'[k]?=some s->∃ v,cells'[k]?=some v/\Ge a s=some v
 | [], cs, cs', cells, ho, hsz, hc, _=>by
  simp [GU] at ho
  subst ho
  exact ⟨cells,by simp [Instr.fill],hsz,hc⟩
 | (i, x)::ps, cs, cs', cells, ho, hsz, hc, hs=>by
  simp only [GU] at ho
  cases hf:fs[i]? with
  | none=>simp [hf] at ho
  | some f =>
   cases hinf:P.info? f.type with
   | none=>simp [hf,hinf] at ho
   | some inf =>
    simp only [hf,hinf] at ho
    split at ho
    ·rename_i hle
     have hx:=hs i x (by simp) f inf hf hinf
     obtain ⟨q1,q2⟩:=PB f.offset (a.eval x) cells (by omega)
     obtain ⟨cells',r1,r2,r3⟩:=OM hpl ps _ cs' _ ho (by rw [q1];simp;omega) (fun k s hk=>by
      rw [q2 k]
      have hto:(cs.take f.offset).length=f.offset:=by simp;omega
      by_cases hk1:k<f.offset
      ·rw [laa,List.getElem?_append_left (by omega),List.getElem?_take_of_lt hk1] at hk
       rw [if_neg (by omega)]
       exact hc k s hk
      ·by_cases hk2:k<f.offset+inf.size
       ·rw [laa,lgr (by omega),List.getElem?_append_left (by simp;omega),hto] at hk
        rw [if_pos (by omega)]
        simp only [List.getElem?_map,List.getElem?_range (show k - f.offset<inf.size by omega),Option.map_some,osi] at hk
        subst hk
        have hlt:k - f.offset<(a.eval x).cells.size:=by omega
        exact ⟨(a.eval x).cells[k - f.offset],aggz hlt,by simp [Ge,aggz hlt]⟩
       ·rw [lgr (by simp;omega)] at hk
        simp only [lla,hto,llm,List.length_range,List.getElem?_drop] at hk
        have he:f.offset+inf.size+(k - (f.offset+inf.size))=k:=by omega
        rw [he] at hk
        rw [if_neg (by omega)]
        exact hc k s hk) (fun i' x' hm=>hs i' x' (by simp [hm]))
     refine ⟨cells',?_,r2,r3⟩
     have hplace:places[i]?=some (f.offset,inf.size):=by
      rw [Oq hpl i]
      simp [hf,hinf]
     simp only [lpc,Instr.fill,List.getElem?_toArray,hplace]
     rw [if_neg (by simp;omega)]
     simpa using r1
    .cases ho
theorem Kp {vs:List Nat} {n:Nat} {G:Gh} {r:RS} {a:Act} {w:World} (hr:RRel vs n G r a w) (d:Nat):∀ (bs:List BC) (cs:List (Value ⊕ (Operand × Nat))) (G1:Gh) (h1:VHeap) (j:Nat) (us:List VVal) (ups:List (Id × Nat × Ob)),
  Step G r.h w G1 h1 w->HeapInv G1 h1 w->Gg vs cs bs=true->BV r.look d h1 j bs=some (us,ups) ->
  ∃ G',Step G1 h1 w G' (h1.upds ups) w/\HeapInv G' (h1.upds ups) w/\us.length=cs.length /\
   (∀ (k:Nat) (s:Value ⊕ (Operand × Nat)) (u:VVal),cs[k]?=some s->us[k]?=some u->∃ v,Ge a s=some v/\VRel G' (h1.upds ups) w u v/\v.oneCell'=true) /\
   ∀ (y:VArg) (i m:Nat),BC.a y i m∈bs->∀ x,Al vs x y=true->(a.eval x).cells.size=m
 | [], [], G1, h1, j, us, ups, _, hi, _, hb=>by
  simp [BV] at hb
  obtain ⟨rfl,rfl⟩:=hb
  exact ⟨G1,Step.refl _ _ _,hi,rfl,fun k s u hs=>by simp at hs,fun y i m h=>by simp at h⟩
 | b :: bs,c :: cs,G1,h1,j,us,ups,s0,hi,hok,hb=>by
  simp only [Gg,bat] at hok
  cases b with
  | z z =>
   simp only [BV] at hb
   obtain ⟨⟨us',ups'⟩,hb',hb2⟩:=Aa hb
   simp at hb2
   obtain ⟨rfl,rfl⟩:=hb2
   have hzv:∃ v,Ge a c=some v/\FC v z=true:=by
    have h1:=hok.1
    unfold My at h1
    split at h1
    ·rename_i v z' h2;cases h2;exact ⟨v,rfl,h1⟩
    ·rename_i v z' h2
     cases h2
     refine ⟨v,?_,h1⟩
     have ho:v.oneCell'=true:=by
      unfold FC at h1
      split at h1
      .rfl
      .exact (Hw (fz:=fun _=>True) (w:=w) h1).2.1
      .cases h1
     have:v.cells=#[v]:=by cases v<;>simp_all [Value.cells,Value.oneCell']
     simp [Ge,Act.eval,this]
    ·rename_i h2;cases h2
    ·cases h1
   obtain ⟨v,hsv,hz⟩:=hzv
   obtain ⟨G2,s1,i1,r1,o1⟩:=Nq hi d j hz
   obtain ⟨G3,s2,i2,l2,r2,q2⟩:=Kp hr d bs cs G2 _ (j+1) us' ups' (s0.trans s1) i1 hok.2 hb'
   rw [DN]
   refine ⟨G3,s1.trans s2,i2,by simp [l2],fun k s u hs hu=>?_,fun y i m hm=>?_⟩
   ·cases k with
    | zero=>simp at hs hu;subst hs;subst hu;exact ⟨v,hsv,r1.mono s2,o1⟩
    | succ k=>simp at hs hu;exact r2 k s u hs hu
   ·simp at hm
    exact q2 y i m hm
  | a y i m =>
   simp only [BV] at hb
   obtain ⟨v,hv,hb2⟩:=Aa hb
   obtain ⟨hlen,hb3⟩:=Ab hb2
   obtain ⟨u,hu,hb4⟩:=Aa hb3
   obtain ⟨hsol,hb5⟩:=Ab hb4
   obtain ⟨⟨us',ups'⟩,hb',hb6⟩:=Aa hb5
   simp at hb6
   obtain ⟨rfl,rfl⟩:=hb6
   obtain ⟨G3,s2,i2,l2,r2,q2⟩:=Kp hr d bs cs G1 h1 (j+1) us' ups' s0 hi hok.2 hb'
   have hcx:∃ x,c=.inr (x,i)/\Al vs x y=true:=by
    have h1:=hok.1
    unfold My at h1
    split at h1
    ·rename_i h2;cases h2
    ·rename_i h2;cases h2
    ·rename_i x j' a' i' n' h2
     cases h2
     simp at h1
     obtain ⟨h3,rfl⟩:=h1
     exact ⟨x,rfl,h3⟩
    ·cases h1
   obtain ⟨x,rfl,hx⟩:=hcx
   have hall:∀ x,Al vs x y=true->(a.eval x).cells.size=m/\∃ cv,(a.eval x).cells[i]?=some cv/\VRel G r.h w u cv/\cv.oneCell'=true:=by
    intro x hx
    obtain ⟨e1,cv,e2,e3,e4⟩:=XW (Av hr hx hv) hu hsol
    exact ⟨by omega,cv,e2,e3,e4⟩
   refine ⟨G3,s2,i2,by simp [l2],fun k s u' hs hu'=>?_,fun y' i' m' hm x' hx'=>?_⟩
   ·cases k with
    | zero =>
     simp at hs hu'
     subst hs
     subst hu'
     obtain ⟨_,cv,e2,e3,e4⟩:=hall x hx
     exact ⟨cv,by simpa [Ge] using e2,(e3.mono s0).mono s2,e4⟩
    | succ k=>simp at hs hu';exact r2 k s u' hs hu'
   ·simp at hm
    rcases hm with ⟨rfl,rfl,rfl⟩|hm
    .exact (hall x' hx').1
    .exact q2 y' i' m' hm x' hx'
 | [],_::_,_,_,_,_,_,_,_,h,_=>by simp [Gg] at h
 | _::_,[],_,_,_,_,_,_,_,h,_=>by simp [Gg] at h
theorem ZX {P:Program} {vs:List Nat} {n:Nat} {G:Gh} {r:RS} {a:Act} {w:World} (hr:RRel vs n G r a w) (hi:HeapInv G r.h w) {o:Oper} (d:Nat) {t:TypeId} {ps:Array (Nat × Operand)} (ho:o.op=.build t ps) {fs:Array Field} {i:TypeInfo} {z:Value} {bs:List BC}
  {cs : List (Value ⊕ (Operand × Nat))} (hu : P.underlying t=some (.struct fs)) (hinf : P.info? t=some i) (hz : i.zero=some z) (hsz : Hv P vs fs bs ps.toList=true)
  (hpl:(fs.toList.mapM (fun f=>(P.info? f.type).map fun i=>(f.offset,i.size))).isSome=true) (hov:GU P vs fs (z.cells.toList.map Sum.inl) ps.toList=some cs) (hok:Gg vs cs bs=true)
  {us : List VVal} {ups : List (Id × Nat × Ob)} (hb : BV r.look d r.h 0 bs=some (us,ups)) : Az P G r.h w a o (.agg us) ups:=by
 obtain ⟨places,hpl⟩:=Option.isSome_iff_exists.1 hpl
 obtain ⟨G',s1,i1,l1,r1,q1⟩:=Kp hr d bs cs G r.h 0 us ups (Step.refl _ _ _) hi hok hb
 have hparts:∀ (l:List (Nat × Operand)),Hv P vs fs bs l=true->∀ (i:Nat) (x:Operand),(i,x)∈l->∀ (f:Field) (inf:TypeInfo),fs[i]?=some f->P.info? f.type=some inf->(a.eval x).cells.size=inf.size:=by
  intro l
  induction l with
  | nil=>intro _ i x hm;simp at hm
  | cons p l ih =>
   obtain ⟨i0,x0⟩:=p
   intro hl i x hm f inf hf hin
   simp only [Hv,bat] at hl
   simp at hm
   rcases hm with ⟨rfl,rfl⟩|hm
   ·have h1:=hl.1
    rw [hf] at h1
    simp only at h1
    split at h1
    ·rename_i v
     simp only [bat,Bi,hin,beq_iff_eq] at h1
     rw [h1.1]
     cases v<;>simp_all [Act.eval,Value.cells]
    ·simp only [List.any_eq_true] at h1
     obtain ⟨b,hb1,hb2⟩:=h1
     split at hb2
     ·rename_i y j m
      simp only [bat,Bi,hin,beq_iff_eq] at hb2
      rw [hb2.2]
      exact q1 y j m hb1 _ hb2.1
     .cases hb2
   .exact ih hl.2 i x hm f inf hf hin
 obtain ⟨cells',f1,f2,f3⟩:=OM (a:=a) hpl ps.toList (z.cells.toList.map Sum.inl) cs z.cells hov (by simp) (fun k s hk=>by
  simp only [List.getElem?_map,Option.map_eq_some_iff] at hk
  obtain ⟨v,hv,rfl⟩:=hk
  exact ⟨v,by simpa using hv,rfl⟩) (hparts _ hsz)
 have hbuilt:P.built t (ps.map fun (i,x)=>(i,a.eval x)).toList=some cells':=by
  simp only [Program.built,hinf,hu,hz,hpl,Array.toList_map]
  exact f1
 refine CB (G':=G') (c:=.agg cells') (w':=w) ?_ s1 i1 (.agg (by omega) (fun k c hc=>?_) (fun k u c hu' hc=>?_))
 ·simp only [execOp,ho,Sem.run_bind,run_build w t _ cells' hbuilt,Result.andThen_ok,Sem.run_pure]
 ·have hlt:k<cs.length:=by rw [<- f2];exact (ags.1 hc).1
  obtain ⟨v,e1,e2⟩:=f3 k cs[k] (lgg hlt)
  obtain ⟨v',e3,_,e5⟩:=r1 k cs[k] (us[k]'(by omega)) (lgg hlt) (lgg (by omega))
  rw [e2] at e3
  rw [e1] at hc
  simp at e3 hc
  subst e3
  subst hc
  exact e5
 ·have hlt:k<cs.length:=by rw [<- f2];exact (ags.1 hc).1
  obtain ⟨v,e1,e2⟩:=f3 k cs[k] (lgg hlt)
  obtain ⟨v',e3,e4,_⟩:=r1 k cs[k] u (lgg hlt) hu'
  rw [e2] at e3
  rw [e1] at hc
  simp at e3 hc
  subst e3
  subst hc
  exact e4
end
end Go.V
namespace Go.V
open Go.RowKit
section
variable [GK]
theorem FJ {G:Gh} {h:VHeap} {w:World} {v:VVal} {c:Value} (hv:VRel G h w v c) {x:PV} (hx:BF v=some x) :
  x.cells.length=c.cells.size/\(∀ (j:Nat) (y:PV),x.cells[j]?=some y->∃ u,c.cells[j]?=some u/\u.oneCell'=true/\PRel (fun b=>G.kind b=.frozen) w y u)/\PRel (fun b=>G.kind b=.frozen) w x c:=by
 by_cases ha:∃ cs,v=.agg cs
 ·obtain ⟨cs,rfl⟩:=ha
  simp only [BF] at hx
  obtain ⟨ds,hds,hx2⟩:=Aa hx
  simp at hx2
  subst hx2
  cases hv with
  | @agg _ arr hl h1 hr =>
   obtain ⟨e1,e2⟩:=A3 hds
   have key:∀ (j:Nat) (y:PV) (hlt:j<arr.size),ds[j]?=some y->PRel (fun b=>G.kind b=.frozen) w y arr[j]:=fun j y hlt hj=>by
    obtain ⟨u,hu,hun⟩:=e2 j y hj
    exact (HZ (hr j u _ hu (aggz hlt)) hun).1
   have hsz:ds.length=arr.size:=by omega
   refine ⟨by simpa [PV.cells,Value.cells] using hsz,fun j y hj=>?_,.agg hsz h1 fun j y u hj hu=>?_⟩
   ·simp only [PV.cells] at hj
    have hlt:j<arr.size:=by rw [<- hsz];exact (lgs.1 hj).1
    exact ⟨arr[j],by simp [Value.cells,aggz hlt],h1 j _ (aggz hlt),key j y hlt hj⟩
   ·have hlt:j<arr.size:=(ags.1 hu).1
    rw [aggz hlt] at hu
    simp at hu
    subst hu
    exact key j y hlt hj
 ·have hun:unP v=some x:=by
   cases v<;>first|exact absurd ⟨_,rfl⟩ ha|exact hx
  obtain ⟨e1,e2⟩:=HZ hv hun
  have hxc:x.cells=[x]:=by
   cases x<;>simp only [PV.cells]
   cases e1
   simp [Value.oneCell'] at e2
  have hcc:c.cells=#[c]:=by cases c<;>simp_all [Value.cells,Value.oneCell']
  rw [hxc,hcc]
  refine ⟨rfl,fun j y hj=>?_,e1⟩
  cases j with
  | zero=>simp at hj;subst hj;exact ⟨c,by simp,e2,e1⟩
  | succ j=>simp at hj
theorem Hy {a:Act} {vs:List Nat} {sz len:Nat}:∀ (ps:List (Nat × Operand)) (as_:List VArg) (i:Nat) (cells:Array Value),CD vs i ps as_=true->(∀ p∈ps,(a.eval p.2).cells.size=sz)->i+ps.length<=len->cells.size=len*sz ->
  ∃ cells',Instr.fill (fun k=>some (k*sz,sz)) cells (ps.map fun (i,x)=>(i,a.eval x))=some cells'/\cells'.size=cells.size/\(∀ k,k<i*sz->cells'[k]?=cells[k]?) /\
   ∀ (q:Nat) (p:Nat × Operand) (j:Nat),ps[q]?=some p->j<sz->cells'[(i+q)*sz+j]?=(a.eval p.2).cells[j]?
 | [],[],i,cells,_,_,_,_=>⟨cells,by simp [Instr.fill],rfl,fun _ _=>rfl,fun q p j h=>by simp at h⟩
 | (i',x)::ps,y::as_,i,cells,hok,hs,hle,hsz=>by
  simp only [CD,bat,beq_iff_eq] at hok
  obtain ⟨⟨hii,hx⟩,hok⟩:=hok
  subst hii
  have hxs:(a.eval x).cells.size=sz:=hs (i,x) (by simp)
  have hle':i+(ps.length+1)<=len:=hle
  have hfit:i*sz+sz<=cells.size:=by
   rw [hsz]
   have:=Nat.mul_le_mul_right sz (show i+1<=len by omega)
   rw [Nat.add_mul] at this
   omega
  obtain ⟨q1,q2⟩:=PB (i*sz) (a.eval x) cells (by omega)
  obtain ⟨cells',r1,r2,r3,r4⟩:=Hy (a:=a) (vs:=vs) (sz:=sz) (len:=len) ps as_ (i+1) _ hok (fun p hp=>hs p (by simp [hp])) (by omega) (by rw [q1];exact hsz)
  have hmul:(i+1)*sz=i*sz+sz:=by rw [Nat.add_mul,Nat.one_mul]
  refine ⟨cells',?_,by rw [r2,q1],fun k hk=>?_,fun q p j hq hj=>?_⟩
  ·simp only [lpc,Instr.fill]
   rw [if_neg (by simp;omega)]
   exact r1
  ·rw [r3 k (by omega),q2 k,if_neg (by omega)]
  ·cases q with
   | zero =>
    simp at hq
    subst hq
    simp only [Nat.add_zero]
    rw [r3 _ (by omega),q2,if_pos (by omega)]
    congr 1
    omega
   | succ q =>
    simp at hq
    have:=r4 q p j hq hj
    rw [<- this]
    have he:i+(q+1)=i+1+q:=by omega
    rw [he]
 | [],_::_,_,_,h,_,_,_=>by simp [CD] at h
 | _::_,[],_,_,h,_,_,_=>by simp [CD] at h
theorem Hu {vs:List Nat}:∀ {ps:List (Nat × Operand)} {as_:List VArg} {i:Nat},CD vs i ps as_=true->as_.length=ps.length/\∀ (q:Nat) (p:Nat × Operand) (y:VArg),ps[q]?=some p->as_[q]?=some y->Al vs p.2 y=true
 | [],[],_,_=>⟨rfl,fun q p y h=>by simp at h⟩
 | (j,x)::ps,y::as_,i,h=>by
  simp only [CD,bat] at h
  obtain ⟨h1,h2⟩:=Hu h.2
  refine ⟨by simp [h1],fun q p y' hq hy=>?_⟩
  cases q with
  | zero=>simp at hq hy;subst hq;subst hy;exact h.1.2
  | succ q=>simp at hq hy;exact h2 q p y' hq hy
 | [],_::_,_,h=>by simp [CD] at h
 | _::_,[],_,h=>by simp [CD] at h
section
variable {P:Program} {vs:List Nat} {n:Nat} {G:Gh} {r:RS} {a:Act} {w:World} (hr:RRel vs n G r a w) (hi:HeapInv G r.h w) {o:Oper} (d:Nat)
include hr hi
theorem Vg {t e:TypeId} {len:Nat} {ps:Array (Nat × Operand)} (ho:o.op=.buildSlice t len ps) {sz:Nat} {as_:List VArg} (hal:as_.length=len) (hbig:len*sz<=16777216) (hok:CD vs 0 ps.toList as_=true)
  (hu:P.underlying t=some (.slice e)) {i:TypeInfo} {z:Value} (hinf:P.info? e=some i) (his:i.size=sz) (hz:i.zero=some z) {xs:List PV}
  (hx:Ad (fun x=>ob (r.look x) fun v=>BF v) as_=some xs) (hall:xs.all (fun x=>decide (x.cells.length=sz))=true) :
  Az P G r.h w a o (.own (.slot d 0) (nv (r.h (.slot d 0))) 0 as_.length) [(.slot d 0,nv (r.h (.slot d 0)),.arr sz xs)]:=by
 obtain ⟨hl1,hp1⟩:=Hu hok
 obtain ⟨hxl,hxg⟩:=A3 hx
 have hcs:∀ x∈xs,x.cells.length=sz:=fun x hx=>by simpa using List.all_eq_true.1 hall x hx
 have hel:∀ (q:Nat) (p:Nat × Operand),ps.toList[q]?=some p->∃ x v,xs[q]?=some x/\VRel G r.h w v (a.eval p.2)/\BF v=some x:=fun q p hq=>by
  have hqlt:q<ps.toList.length:=(lgs.1 hq).1
  obtain ⟨y,hy,hf⟩:=hxg q (xs[q]'(by omega)) (lgg (by omega))
  obtain ⟨v,hv,hf2⟩:=Aa hf
  exact ⟨_,v,lgg (by omega),Av hr (hp1 q p y hq hy) hv,hf2⟩
 have hsizes:∀ p∈ps.toList,(a.eval p.2).cells.size=sz:=fun p hp=>by
  obtain ⟨q,hq,rfl⟩:=List.getElem_of_mem hp
  obtain ⟨x,v,h1,h2,h3⟩:=hel q _ (lgg hq)
  rw [<- (FJ h2 h3).1]
  exact hcs x (lmg h1)
 have hrunAll:∃ zc:Array Value,∀ cells',Instr.fill (fun i=>some (i*sz,sz)) ((Array.range (len*sz)).map (zc[· % zc.size]!)) (ps.map fun (i,x)=>(i,a.eval x)).toList=some cells' ->
   (execOp a.eval o).run P w=.ok (.value (.slice (some ⟨w.heap.size,0,none⟩) len len)) (w.alloc (.cells cells' e)):=by
  have h24:¬ (2 ^ 24<len*sz):=by omega
  have hszr:=Dk (P:=P) (show Bi P e sz=true by simp [Bi,hinf,his]) w
  by_cases hl0:len*sz=0
  ·refine ⟨#[],fun cells' hf=>?_⟩
   simp only [hl0] at hf
   simp [execOp,ho,Instr.buildSlice,run_underlying hu,hszr,hl0]
   simp at hf
   simp [hf,newRow]
  ·refine ⟨z.cells,fun cells' hf=>?_⟩
   simp at hf
   simp [execOp,ho,Instr.buildSlice,run_underlying hu,hszr,h24,hl0,zeroValue,typeInfo,hinf,hz,hf,newRow]
 obtain ⟨zc,hrunAll⟩:=hrunAll
 obtain ⟨cells',f1,f2,f3,f4⟩:=Hy (a:=a) (len:=len) (sz:=sz) ps.toList as_ 0 ((Array.range (len*sz)).map (zc[· % zc.size]!)) hok hsizes (by omega) (by simp)
 have hrun:=hrunAll cells' (by rw [Array.toList_map];exact f1)
 obtain ⟨G',s1,i1,v1⟩:=H4 (w':=w.alloc (.cells cells' e)) hi (.slot d 0) sz xs len (arr:=cells') (t:=e) (by simp) (fun b hb=>Below.heap_alloc w _ b hb) rfl rfl rfl (heap_alloc_new w _) hcs (by omega) (by rw [f2];simp) (fun k x j c hk hj=>by
  have hklt:k<ps.toList.length:=by
   have:=(lgs.1 hk).1
   omega
  obtain ⟨x',v,h1,h2,h3⟩:=hel k _ (lgg hklt)
  rw [hk] at h1
  simp at h1
  subst h1
  obtain ⟨u,e1,e2,e3⟩:=(FJ h2 h3).2.1 j c hj
  have hjlt:j<sz:=by rw [<- hcs x (lmg hk)];exact (lgs.1 hj).1
  have:=f4 k _ j (lgg hklt) hjlt
  rw [Nat.zero_add] at this
  exact ⟨u,by rw [this,e1],e2,e3⟩)
 have hxs:xs.length=len:=by omega
 rw [hxs] at v1
 rw [hal]
 exact CB (G':=G') hrun s1 i1 v1
end
end
end Go.V
namespace Go.V
open Go.RowKit
section
variable [GK]
structure RowOf (fz:Nat->Prop) (w:World) (sz:Nat) (ys:List PV) (ad:Option Addr) (news:List Value):Prop where
 len:news.length=ys.length*sz
 cs:∀ y∈ys,y.cells.length=sz
 at_:0<ys.length->∃ a,ad=some a/\∀ (j:Nat) (u:Value),news[j]?=some u->w.cell? (a.add j)=some u
 one:∀ u∈news,u.oneCell'=true
 rel:∀ (i:Nat) (y:PV) (j:Nat) (c:PV),ys[i]?=some y->y.cells[j]?=some c->∃ u,news[i*sz+j]?=some u/\PRel fz w c u
theorem GE {k n sz:Nat} (h:k<n*sz):k / sz<n/\k % sz<sz:=by
 have hp:0<sz:=by
  rcases Nat.eq_zero_or_pos sz with h0|h0
  .subst h0;simp at h
  .exact h0
 exact ⟨Nat.div_lt_of_lt_mul (by rw [Nat.mul_comm];exact h),Nat.mod_lt _ hp⟩
theorem Nc {i j sz:Nat} (h:j<sz):(i*sz+j) / sz=i/\(i*sz+j) % sz=j:=by
 have hp:0<sz:=by omega
 refine ⟨?_,?_⟩
 .rw [Nat.mul_comm,Nat.mul_add_div hp,Nat.div_eq_of_lt h,Nat.add_zero]
 .rw [Nat.mul_comm,Nat.mul_add_mod,Nat.mod_eq_of_lt h]
theorem CX {i j n sz:Nat} (hi:i<n) (hj:j<sz):i*sz+j<n*sz:=by
 have:=Nat.mul_le_mul_right sz (show i+1<=n from hi)
 rw [Nat.add_mul] at this
 omega
theorem GL {G:Gh} {h:VHeap} {w:World} (hi:HeapInv G h w) {x:VVal} {c:Value} (hx:VRel G h w x c) {sz:Nat} {ys:List PV} (hv:A0 h x=some (sz,ys)) :
  ∃ ad cap news,c=.slice ad ys.length cap/\RowOf (fun b=>G.kind b=.frozen) w sz ys ad news:=by
 cases hx with
 | @p d c hp h1 =>
  cases hp with
  | @slice sz' xs a n cap ad val hn hcap ha hsz h1' hc hrel =>
   simp only [A0] at hv
   simp at hv
   obtain ⟨rfl,rfl⟩:=hv
   subst hn
   refine ⟨a,cap,(List.range (xs.length*sz')).map fun k=>val (k / sz') (k % sz'),rfl,by simp,hsz,fun h0=>?_,fun u hu=>?_,fun i y j cc hy hj=>?_⟩
   ·obtain ⟨e1,e2,e3⟩:=ha h0
    refine ⟨ad,e1,fun k u hu=>?_⟩
    simp only [List.getElem?_map,Option.map_eq_some_iff] at hu
    obtain ⟨k',hk',rfl⟩:=hu
    have hklt:k<xs.length*sz':=by have:=(lgs.1 hk').1;simpa using this
    rw [List.getElem?_range hklt] at hk'
    simp at hk'
    subst hk'
    obtain ⟨h2,h3⟩:=GE hklt
    have hy:xs[k / sz']?=some xs[k / sz']:=lgg h2
    have hlen:=hsz _ (lgk h2)
    have hcc:(xs[k / sz']).cells[k % sz']?=some ((xs[k / sz']).cells[k % sz']'(by omega)):=lgg (by omega)
    have:=hc _ _ _ _ hy hcc
    rw [<- this]
    congr 2
    rw [Nat.mul_comm]
    exact (Nat.div_add_mod k sz').symm
   ·simp only [lmm,List.mem_range] at hu
    obtain ⟨k,hk,rfl⟩:=hu
    obtain ⟨h2,h3⟩:=GE hk
    have hlen:=hsz _ (lgk h2)
    exact h1' _ _ _ _ (lgg h2) (lgg (by omega))
   ·have hjlt:j<sz':=by rw [<- hsz y (lmg hy)];exact (lgs.1 hj).1
    have hilt:i<xs.length:=(lgs.1 hy).1
    refine ⟨val i j,?_,hrel i y j cc hy hj⟩
    obtain ⟨e1,e2⟩:=Nc (i:=i) hjlt
    rw [List.getElem?_map,List.getElem?_range (CX hilt hjlt)]
    simp [e1,e2]
  | _ => simp [A0] at hv
 | @own id ver off len a n cap v o hn hcap hh hle hoo =>
  simp only [A0,hh] at hv
  cases o with
  | arr sz' xs =>
   simp only at hv
   obtain ⟨rfl,hv2⟩:=Ab hv
   simp at hv2
   obtain ⟨rfl,rfl⟩:=hv2
   obtain ⟨sz2,xs2,he,hlen,hreal⟩:=hoo rfl
   simp at he
   obtain ⟨rfl,rfl⟩:=he
   obtain ⟨hcs,_,hall⟩:=hi _ _ _ hh
   have hyl:((xs.drop off).take len).length=len:=by simp;omega
   subst hn
   by_cases h0:n=0
   ·subst h0
    exact ⟨a,cap,[],by simp,by simp,by simp,fun h=>by simp at h,by simp,fun i y j cc hy=>by simp at hy⟩
   ·rcases hreal with ⟨hc0,_⟩|⟨hm,hce,ha⟩
    ·omega
    ·obtain ⟨hxc,arr,t,hb,has,hcell⟩:=hall hm
     have hln:∀ k,k<n*sz'->off*sz'+k<arr.size:=fun k hk=>by
      rw [has]
      have:(off+n)*sz'<=G.cap id*sz':=Nat.mul_le_mul_right _ (by omega)
      rw [Nat.add_mul] at this
      omega
     have hgk:∀ (i:Nat) (y:PV) (j:Nat) (cc:PV),((xs.drop off).take n)[i]?=some y->y.cells[j]?=some cc->xs[off+i]?=some y/\i<n:=fun i y j cc hy _=>by
      rw [List.getElem?_take] at hy
      split at hy
      ·rw [List.getElem?_drop] at hy;exact ⟨hy,by assumption⟩
      ·cases hy
     refine ⟨a,cap,(List.range (n*sz')).map fun k=>arr.getD (off*sz'+k) Go.undef,by rw [hyl],by simp [hyl],fun y hy=>hcs y (List.mem_of_mem_drop (List.mem_of_mem_take hy)),fun _=>⟨⟨G.blk id,off*sz',none⟩,ha (by omega),fun k u hu=>?_⟩,fun u hu=>?_,fun i y j cc hy hj=>?_⟩
     ·simp only [List.getElem?_map,Option.map_eq_some_iff] at hu
      obtain ⟨k',hk',rfl⟩:=hu
      have hklt:k<n*sz':=by have:=(lgs.1 hk').1;simpa using this
      rw [List.getElem?_range hklt] at hk'
      simp at hk'
      subst hk'
      have:=hln k hklt
      rw [add_lit,BY hb,aggz this]
      simp [Array.getD,this]
     ·simp only [lmm,List.mem_range] at hu
      obtain ⟨k,hk,rfl⟩:=hu
      obtain ⟨h2,h3⟩:=GE hk
      have hxlt:off+k / sz'<xs.length:=by omega
      have hlen':=hcs _ (lgk hxlt)
      obtain ⟨u,e1,e2,_⟩:=hcell (off+k / sz') _ (k % sz') _ (lgg hxlt) (lgg (by omega))
      have he:(off+k / sz')*sz'+k % sz'=off*sz'+k:=by
       rw [Nat.add_mul,Nat.add_assoc,Nat.mul_comm (k / sz') sz',Nat.div_add_mod]
      rw [he] at e1
      have hlt:=hln k hk
      rw [aggz hlt] at e1
      simp at e1
      simp [Array.getD,hlt,e1,e2]
     ·obtain ⟨hy',hin⟩:=hgk i y j cc hy hj
      have hjlt:j<sz':=by rw [<- hcs y (lmg hy')];exact (lgs.1 hj).1
      obtain ⟨u,e1,e2,e3⟩:=hcell (off+i) y j cc hy' hj
      have he:(off+i)*sz'+j=off*sz'+(i*sz'+j):=by rw [Nat.add_mul,Nat.add_assoc]
      rw [he] at e1
      refine ⟨u,?_,e3⟩
      have hlt:=hln _ (CX hin hjlt)
      rw [aggz hlt] at e1
      simp at e1
      rw [List.getElem?_map,List.getElem?_range (CX hin hjlt)]
      simp [Array.getD,hlt,e1]
  | _=>simp at hv
 | _=>simp [A0] at hv
section
variable {P:Program} (w:World)
theorem MK (t ty e:TypeId) (i:TypeInfo) (ht:P.underlying t=some (.slice e)) (hi:P.info? e=some i) (b:Option Addr) (n cap:Nat) (hle:n<=cap) (ad:Option Addr) (c:Nat) :
  (Builtin.append_ #[t,t] ty #[.slice b n cap,.slice ad 0 c]).run P w=.ok (.slice b n cap) w:=by
 cases ad<;>cases b<;>simp [Builtin.append_,run_underlying ht,sizeOf,typeInfo,hi,Builtin.lenOf,Builtin.firstCells,hle,storeCells,loadCells,loadCellsFrom]
theorem MV (t ty e te:TypeId) (i:TypeInfo) (ht:P.underlying t=some (.slice e)) (hi:P.info? e=some i)
  (g sLen sCap:Nat) (cur:Array Value) (hg:w.heap[g]?=some (.cells cur te (0,0)))
  (a:Addr) (m c:Nat) (news:List Value) (hl:news.length=m*i.size) (hnews:∀ j u,news[j]?=some u->w.cell? (a.add j)=some u) (h1:∀ u∈news,u.oneCell'=true)
  (hroom:sLen+m<=sCap) (hfit:sLen*i.size+news.length<=cur.size) :
  (Builtin.append_ #[t,t] ty #[.slice (some ⟨g,0,none⟩) sLen sCap,.slice (some a) m c]).run P w =
   .ok (.slice (some ⟨g,0,none⟩) (sLen+m) sCap) (w.setRow g (AB cur.toList (sLen*i.size) news).toArray):=by
 have hf:=run_firstCells_some (P:=P) w i.size m a m c news hl hnews
 have hst:=run_storeCells_at P g (sLen*i.size) te news 0 cur w hg (by simpa using hfit) h1
 simp only [Nat.add_zero] at hst
 simp [Builtin.append_,run_underlying ht,sizeOf,typeInfo,hi,Builtin.lenOf,hroom,hf,Addr.add_lit,hst,AB]
end
theorem Step.bump {G:Gh} {h:VHeap} {w w':World} (id:Id) {v:Nat} {o o':Ob} (hh:h id=some (v,o)) (hsz:w.heap.size=w'.heap.size) (hblk:∀ b,(G.kind b=.mine id->b ≠ G.blk id)->w'.heap[b]?=w.heap[b]?)
  (hos:w'.os=w.os) (htp:w'.tape=w.tape) (hout:w'.output=w.output):Step G h w G (h.upd id (v+1,o')) w' where
 frozen:=fun b hb _=>⟨hb,hblk b (fun e=>by rw [e] at hb;cases hb)⟩
 other:=fun b hb _=>⟨hb,hblk b (fun e=>by rw [e] at hb;cases hb)⟩
 mine:=fun _ _ _ h=>.inl h
 frz:=fun _ _ h=>.inl h
 size:=by omega
 os:=hos
 tape:=htp
 output:=hout
 vers:=fun i v' o2 hi=>by
  by_cases he:i=id
  ·subst he
   rw [hh] at hi
   simp at hi
   obtain ⟨rfl,rfl⟩:=hi
   exact ⟨v+1,o',BE _ _ _,by omega,fun e=>by omega⟩
  .exact ⟨v',o2,by rw [DO _ _ he];exact hi,lrf _,fun _=>⟨rfl,rfl,by cases o2<;>simp [SameOb],fun _ _ _ h=>h⟩⟩
theorem HeapInv.bump {G:Gh} {h:VHeap} {w w':World} (hinv:HeapInv G h w) (id:Id) {v:Nat} {o':Ob} (hst:Step G h w G (h.upd id (v+1,o')) w') (hblk:∀ b,(G.kind b=.mine id->b ≠ G.blk id)->w'.heap[b]?=w.heap[b]?)
  (hnew:OBRel G (h.upd id (v+1,o')) w' id o'):HeapInv G (h.upd id (v+1,o')) w':=by
 intro i v' o2 hi
 by_cases he:i=id
 ·subst he
  rw [BE] at hi
  simp at hi
  obtain ⟨_,rfl⟩:=hi
  exact hnew
 ·rw [DO _ _ he] at hi
  refine OBRel.keep hst (hinv i v' o2 hi) rfl rfl (fun hm'=>⟨hm',hblk _ (fun e=>?_)⟩) (fun h=>h)
  rw [hm'] at e
  simp at e
  exact absurd e he
theorem Ok {fz:Nat->Prop} {w:World} {sz cap len:Nat} {xs ys:List PV} {arr N:Array Value} {news:List Value} (hlen:len<=xs.length) (has:arr.size=cap*sz) (hfit:len+ys.length<=cap)
  (hcs:∀ x∈xs,x.cells.length=sz) (hcell:∀ (i:Nat) (x:PV) (j:Nat) (c:PV),xs[i]?=some x->x.cells[j]?=some c->∃ v,arr[i*sz+j]?=some v/\v.oneCell'=true/\PRel fz w c v)
  {ad:Option Addr} (hrow:RowOf fz w sz ys ad news) (hN:N=(AB arr.toList (len*sz) news).toArray) :
  N.size=cap*sz/\∀ (i:Nat) (x:PV) (j:Nat) (c:PV),(xs.take len++ys)[i]?=some x->x.cells[j]?=some c->∃ v,N[i*sz+j]?=some v/\v.oneCell'=true/\PRel fz w c v:=by
 have hsp:len*sz+news.length<=arr.toList.length:=by
  have hal:arr.toList.length=arr.size:=by simp
  rw [hal,hrow.len,<- Nat.add_mul,has]
  exact Nat.mul_le_mul_right _ hfit
 have hNg:∀ k:Nat,N[k]?=if len*sz<=k/\k<len*sz+news.length then news[k - len*sz]? else arr[k]?:=fun k=>by
  rw [hN,List.getElem?_toArray,C7 _ _ _ hsp,Array.getElem?_toList (xs:=arr)]
 refine ⟨by rw [hN,List.size_toArray,CA _ _ _ hsp,Array.length_toList,has],fun i x j c hx hj=>?_⟩
 have htl:(xs.take len).length=len:=by simp;omega
 by_cases hil:i<len
 ·rw [List.getElem?_append_left (by omega),List.getElem?_take_of_lt hil] at hx
  obtain ⟨v,e1,e2,e3⟩:=hcell i x j c hx hj
  have hjlt:j<sz:=by rw [<- hcs x (lmg hx)];exact (lgs.1 hj).1
  have:=CX (n:=len) hil hjlt
  exact ⟨v,by rw [hNg,if_neg (by omega)];exact e1,e2,e3⟩
 ·rw [lgr (by omega),htl] at hx
  obtain ⟨u,e1,e2⟩:=hrow.rel (i - len) x j c hx hj
  have hjlt:j<sz:=by rw [<- hrow.cs x (lmg hx)];exact (lgs.1 hj).1
  have hilt:i - len<ys.length:=(lgs.1 hx).1
  have h3:=CX hilt hjlt
  have he:i*sz+j=len*sz+((i - len)*sz+j):=by
   rw [<- Nat.add_assoc,<- Nat.add_mul]
   congr 2
   omega
  have hnl:=hrow.len
  refine ⟨u,?_,hrow.one u (lmg e1),e2⟩
  rw [he,hNg,if_pos (by omega),<- e1]
  congr 1
  omega
theorem LI {fz:Nat->Prop} {w:World} {sz:Nat} {xs ys:List PV} {olds news:List Value} {zs:Array Value} (hol:olds.length=xs.length*sz)
  (hold:∀ (i:Nat) (x:PV) (j:Nat) (c:PV),xs[i]?=some x->x.cells[j]?=some c->∃ v,olds[i*sz+j]?=some v/\v.oneCell'=true/\PRel fz w c v) {ad:Option Addr} (hrow:RowOf fz w sz ys ad news) :
  ∀ (i:Nat) (x:PV) (j:Nat) (c:PV),(xs++ys)[i]?=some x->x.cells[j]?=some c->∃ v,(olds.toArray++news.toArray++zs)[i*sz+j]?=some v/\v.oneCell'=true/\PRel fz w c v:=by
 intro i x j c hx hj
 have hnl:=hrow.len
 by_cases hil:i<xs.length
 ·rw [List.getElem?_append_left hil] at hx
  obtain ⟨v,e1,e2,e3⟩:=hold i x j c hx hj
  have hlt:i*sz+j<olds.length:=(lgs.1 e1).1
  refine ⟨v,?_,e2,e3⟩
  rw [Array.append_assoc,Array.getElem?_append_left (by simpa using hlt)]
  simpa using e1
 ·rw [lgr (by omega)] at hx
  obtain ⟨u,e1,e2⟩:=hrow.rel (i - xs.length) x j c hx hj
  have hjlt:j<sz:=by rw [<- hrow.cs x (lmg hx)];exact (lgs.1 hj).1
  have hilt:i - xs.length<ys.length:=(lgs.1 hx).1
  have h3:=CX hilt hjlt
  have he:i*sz+j=xs.length*sz+((i - xs.length)*sz+j):=by
   rw [<- Nat.add_assoc,<- Nat.add_mul]
   congr 2
   omega
  refine ⟨u,?_,hrow.one u (lmg e1),e2⟩
  rw [he,Array.append_assoc,Array.getElem?_append_right (by simp;omega),Array.getElem?_append_left (by simp;omega)]
  simp only [List.size_toArray,hol,Nat.add_sub_cancel_left,List.getElem?_toArray]
  exact e1
section
variable {P:Program} {vs:List Nat} {n:Nat} {G:Gh} {r:RS} {a:Act} {w:World} (hr:RRel vs n G r a w) (hi:HeapInv G r.h w) {o:Oper}
include hr hi
theorem Yp {xs:Array Operand} {ts:Array TypeId} (ho:o.op=.call { callee:=.builtin .append,args:=xs,argTypes:=ts }) {x y:Operand} {t e:TypeId} (hxs:xs.toList=[x,y]) (hts:ts.toList=[t,t]) {x' y':VArg} (hx:Al vs x x'=true) (hy:Al vs y y'=true)
  (hu : P.underlying t=some (.slice e)) {i : TypeInfo} {z : Value} (hinf : P.info? e=some i) (hz : i.zero=some z) (hzs : z.cells.size=i.size) {s v val : VVal} {us : List (Id × Nat × Ob)} (hl : r.look x'=some s) (hl' : r.look y'=some v) (hv : Ej r.h i.size i.bytes s v=some (val,us)) :
  Az P G r.h w a o val us:=by
 obtain rfl:xs=#[x,y]:=by rw [<- Array.toList_inj];simpa using hxs
 obtain rfl:ts=#[t,t]:=by rw [<- Array.toList_inj];simpa using hts
 have h1 := Av hr hx hl
 have h2 := Av hr hy hl'
 have hexec:∀ c w',(Builtin.append_ #[t,t] o.type #[a.eval x,a.eval y]).run P w=.ok c w'->(execOp a.eval o).run P w=.ok (.value c) w':=fun c w' h=>by
  simp [execOp,ho,resolve,invoke,builtin,h]
 generalize hcx:a.eval x=cx at h1 hexec
 generalize hcy:a.eval y=cy at h2 hexec
 cases s with
 | own id ver off len =>
  cases off with
  | succ off=>simp [Ej] at hv
  | zero =>
   simp only [Ej] at hv
   cases h1 with
   | @own _ _ _ _ ad n' cap v' o' hn hcap hh hle hoo =>
    rw [hh] at hv
    cases o' with
    | arr sz xs =>
     simp only at hv
     obtain ⟨rfl,hv2⟩:=Ab hv
     obtain ⟨rfl,hv3⟩:=Ab hv2
     obtain ⟨hlx,hv4⟩:=Ab hv3
     obtain ⟨⟨sz2,ys⟩,hel,hv5⟩:=Aa hv4
     obtain ⟨hszy,hv6⟩:=Ab hv5
     obtain ⟨hby,hv7⟩:=Ab hv6
     obtain ⟨h63,hv8⟩:=Ab hv7
     simp only at hszy hby h63 hv8
     simp at hv8
     obtain ⟨rfl,rfl⟩:=hv8
     clear hv hv2 hv3 hv4 hv5 hv6 hv7
     subst hn
     obtain ⟨sz3,xs3,he,_,hreal⟩:=hoo rfl
     simp at he
     obtain ⟨rfl,rfl⟩:=he
     obtain ⟨ady,capy,news,rfl,hrow0⟩:=GL hi h2 hel
     have hrow:RowOf (fun b=>G.kind b=.frozen) w i.size ys ady news:=by
      rcases hszy with rfl|hys
      ·exact hrow0
      ·subst hys
       have:news=[]:=lez (by simpa using hrow0.len)
       subst this
       exact ⟨by simp,by simp,fun h=>by simp at h,by simp,fun i y j c h=>by simp at h⟩
     obtain ⟨hcs,hxm,hall⟩:=hi _ _ _ hh
     have hcs':∀ x∈xs.take n'++ys,x.cells.length=i.size:=fun q hq=>by
      rcases lmp.1 hq with hq|hq
      ·exact hcs q (List.mem_of_mem_take hq)
      ·exact hrow.cs q hq
     by_cases hroom:n'+ys.length<=cap
     ·
      have hstay:∀ w',w.heap.size=w'.heap.size->(∀ b,(G.kind b=.mine id->b ≠ G.blk id)->w'.heap[b]?=w.heap[b]?)->w'.os=w.os->w'.tape=w.tape->w'.output=w.output ->
        (Builtin.append_ #[t,t] o.type #[.slice ad n' cap,.slice ady ys.length capy]).run P w=.ok (.slice ad (n'+ys.length) cap) w' ->
        (G.kind (G.blk id)=.mine id->∃ N tt,w'.heap[G.blk id]?=some (.cells N tt (0,0))/\N.size=G.cap id*i.size/\∀ (k:Nat) (x:PV) (j:Nat) (c:PV),(xs.take n'++ys)[k]?=some x->x.cells[j]?=some c->∃ v,N[k*i.size+j]?=some v/\v.oneCell'=true/\PRel (fun b=>G.kind b=.frozen) w c v) ->
        (xs.take n'++ys=[] \/ G.kind (G.blk id)=.mine id)->(G.kind (G.blk id)=.mine id->n'+ys.length<=G.cap id) ->
        Az P G r.h w a o (.own id (v'+1) 0 (n'+ys.length)) [(id,v'+1,.arr i.size (xs.take n'++ys))]:=by
       intro w' hsz hblk hos htp hout hrun hN hem hfit
       have hst:=Step.bump (G:=G) (w':=w') (o':=.arr i.size (xs.take n'++ys)) id hh hsz hblk hos htp hout
       have htl:(xs.take n'++ys).length=n'+ys.length:=by simp;omega
       refine CB (G':=G) (hexec _ _ hrun) hst (HeapInv.bump hi id hst hblk ⟨hcs',hem,fun hm=>⟨by rw [htl];exact hfit hm,?_⟩⟩) (.own rfl hroom (BE _ _ _) (lrf _) fun _=>⟨i.size,_,rfl,by omega,?_⟩)
       ·obtain ⟨N,tt,e1,e2,e3⟩:=hN hm
        refine ⟨N,tt,e1,e2,fun k x j c hk hj=>?_⟩
        obtain ⟨v,f1,f2,f3⟩:=e3 k x j c hk hj
        exact ⟨v,f1,f2,f3.mono hst.keeps hst.size⟩
       ·rcases hreal with h|⟨g1,g2,g3⟩
        ·exact .inl h
        ·exact .inr ⟨g1,g2,g3⟩
      by_cases hm0:ys.length=0
      ·have hys:ys=[]:=lez hm0
       subst hys
       have hnn:news=[]:=lez (by simpa using hrow.len)
       refine hstay w rfl (fun _ _=>rfl) rfl rfl rfl (by simpa using MK w t o.type e i hu hinf ad n' cap hcap ady capy) (fun hm=>?_) ?_ (fun hm=>?_)
       ·obtain ⟨_,arr,tt,hb,has,hcell⟩:=hall hm
        refine ⟨arr,tt,hb,has,fun k x j c hk hj=>?_⟩
        simp only [lan] at hk
        rw [List.getElem?_take] at hk
        split at hk
        ·exact hcell k x j c hk hj
        ·cases hk
       ·rcases hxm with h|h
        ·exact .inl (by simp [h])
        ·exact .inr h
       ·have:=(hall hm).1
        simp
        omega
      ·have hcap0:0<cap:=by omega
       rcases hreal with ⟨h0,_⟩|⟨g1,g2,g3⟩
       ·omega
       ·have hadd:=g3 hcap0
        simp only [Nat.zero_mul] at hadd
        subst hadd
        obtain ⟨hxc,arr,tt,hb,has,hcell⟩:=hall g1
        obtain ⟨ay,rfl,hay⟩:=hrow.at_ (by omega)
        have hrun:=MV (P:=P) w t o.type e tt i hu hinf (G.blk id) n' cap arr hb ay ys.length capy news hrow.len hay hrow.one hroom (by rw [hrow.len,<- Nat.add_mul,has];exact Nat.mul_le_mul_right _ (by omega))
        generalize hN:(AB arr.toList (n'*i.size) news).toArray=N at hrun
        obtain ⟨q1,q2⟩:=Ok (N:=N) (cap:=G.cap id) hlx has (by omega) hcs hcell hrow hN.symm
        refine hstay (w.setRow (G.blk id) N) (by simp [World.setRow]) (fun b hb'=>setRow_other w _ _ _ (fun e=>hb' (by rw [e];exact g1) e)) rfl rfl rfl hrun (fun _=>⟨N,tt,setRow_heap w _ _ _ _ _ hb,q1,q2⟩) (.inr g1) (fun _=>by omega)
     ·
      have hm0:0<ys.length:=by omega
      obtain ⟨ay,rfl,hay⟩:=hrow.at_ hm0
      have htl:(xs.take n'++ys).length=n'+ys.length:=by simp;omega
      have holds:∃ olds:List Value,olds.length=(xs.take n').length*i.size/\(∀ (k:Nat) (x:PV) (j:Nat) (c:PV),(xs.take n')[k]?=some x->x.cells[j]?=some c->∃ v,olds[k*i.size+j]?=some v/\v.oneCell'=true/\PRel (fun b=>G.kind b=.frozen) w c v) /\
        (Builtin.append_ #[t,t] o.type #[.slice ad n' cap,.slice (some ay) ys.length capy]).run P w=.ok (.slice (some ⟨w.heap.size,0,none⟩) (n'+ys.length) (grownCap w (n'+ys.length) cap e))
         (w.drew.alloc (.cells (olds.toArray++news.toArray++Builtin.zeroCells z.cells (grownCap w (n'+ys.length) cap e - (n'+ys.length))) e)):=by
       obtain ⟨ad0,cap0,olds,hoe,horow⟩:=GL hi (Av hr hx hl) (show A0 r.h (.own id v' 0 n')=some (i.size,(xs.drop 0).take n') by simp [A0,hh,gd])
       simp only [List.drop_zero] at horow
       have hfit2:Builtin.nextslicecap (n'+ys.length) cap*i.bytes<=281474976710656:=growslice_fits (by omega) hby
       cases ad with
       | none =>
        have hn0:n'=0:=by
         rcases hreal with ⟨h0,_⟩|⟨_,_,g3⟩
         ·omega
         ·rcases Nat.eq_zero_or_pos cap with h0|h0
          ·omega
          ·have:=g3 h0;simp at this
        have hc0:cap=0:=by
         rcases hreal with ⟨h0,_⟩|⟨_,_,g3⟩
         ·omega
         ·rcases Nat.eq_zero_or_pos cap with h0|h0
          ·exact h0
          ·have:=g3 h0;simp at this
        subst hn0
        subst hc0
        refine ⟨[],by simp,fun k x j c hk=>by simp at hk,?_⟩
        have:=run_append_nil (P:=P) w t o.type e i z hu hinf hz ay ys.length capy news hrow.len hay hm0 (by omega) (by rw [Nat.zero_add] at hby;omega)
        simpa using this
       | some b =>
        have hob:∀ (j:Nat) (u:Value),olds[j]?=some u->w.cell? (b.add j)=some u:=fun j u hu'=>by
         have hpos:0<(xs.take n').length:=by
          rcases Nat.eq_zero_or_pos (xs.take n').length with h0|h0
          ·have:=horow.len
           rw [h0] at this
           simp at this
           subst this
           simp at hu'
          .exact h0
         obtain ⟨b',hb',hcell⟩:=horow.at_ hpos
         rw [hcx] at hoe
         simp at hoe
         rw [<- hoe.1] at hb'
         simp at hb'
         subst hb'
         exact hcell j u hu'
        have hol:olds.length=n'*i.size:=by rw [horow.len,llt,Nat.min_eq_left hlx]
        refine ⟨olds,horow.len,fun k x j c hk hj=>?_,?_⟩
        ·obtain ⟨u,e1,e2⟩:=horow.rel k x j c hk hj
         exact ⟨u,e1,horow.one u (lmg e1),e2⟩
        .exact run_append_grow (P:=P) w t o.type e i z hu hinf hz b n' cap olds hol hob ay ys.length capy news hrow.len hay (by omega) (by omega) hfit2
      obtain ⟨olds,hol,hold,hrun⟩:=holds
      have hge:=grownCap_ge w (n'+ys.length) cap e
      have hnv:nv (r.h id)=v'+1:=Ev hh
      obtain ⟨G',s1,i1,v1⟩:=H4 (w':=w.drew.alloc (.cells (olds.toArray++news.toArray++Builtin.zeroCells z.cells (grownCap w (n'+ys.length) cap e - (n'+ys.length))) e)) hi id i.size (xs.take n'++ys) (grownCap w (n'+ys.length) cap e) (arr:=olds.toArray++news.toArray++Builtin.zeroCells z.cells (grownCap w (n'+ys.length) cap e - (n'+ys.length))) (t:=e)
       (by simp) (fun b hb=>Below.heap_alloc w.drew _ b hb) rfl rfl rfl (heap_alloc_new w.drew _) hcs' (by omega) (by
        have hnl:=hrow.len
        simp only [Array.size_append,List.size_toArray,hol,hnl,size_zeroCells,hzs,<- Nat.add_mul]
        congr 1
        simp
        omega) (LI hol hold hrow)
      rw [hnv,htl] at v1
      rw [hnv] at s1 i1
      exact CB (G':=G') (hexec _ _ hrun) s1 i1 v1
    | _=>simp at hv
 | _=>simp [Ej] at hv
end
end
end Go.V
namespace Go.V
open Go.RowKit Go.MapKept
section
variable [GK]
section
variable {P:Program} {vs:List Nat} {n:Nat} {G:Gh} {r:RS} {a:Act} {w:World} (hr:RRel vs n G r a w) (hi:HeapInv G r.h w) {o:Oper} (d:Nat)
include hr hi
theorem VG {xs:Array Operand} {ts:Array TypeId} (ho:o.op=.call { callee:=.builtin .append,args:=xs,argTypes:=ts }) {y:Operand} {t e:TypeId} (hxs:xs.toList=[.const (.slice none 0 0),y]) (hts:ts.toList=[t,t]) {y':VArg} (hy:Al vs y y'=true)
  (hu:P.underlying t=some (.slice e)) {i:TypeInfo} {z:Value} (hinf:P.info? e=some i) (hz:i.zero=some z) (hzs:z.cells.size=i.size) {v val:VVal} {us:List (Id × Nat × Ob)} (hl':r.look y'=some v) (hv:Gy d r.h i.size i.bytes v=some (val,us)) :
  Az P G r.h w a o val us:=by
 obtain rfl:xs=#[.const (.slice none 0 0),y]:=by rw [<- Array.toList_inj];simpa using hxs
 obtain rfl:ts=#[t,t]:=by rw [<- Array.toList_inj];simpa using hts
 have h2:=Av hr hy hl'
 have hexec:∀ c w',(Builtin.append_ #[t,t] o.type #[.slice none 0 0,a.eval y]).run P w=.ok c w'->(execOp a.eval o).run P w=.ok (.value c) w':=fun c w' h=>by
  simp [execOp,ho,resolve,invoke,builtin,Act.eval] at h ⊢
  rw [h]
  simp
 obtain ⟨⟨sz2,ys⟩,hel,hv5⟩:=Aa hv
 obtain ⟨hszy,hv6⟩:=Ab hv5
 obtain ⟨hby,hv7⟩:=Ab hv6
 obtain ⟨h63,hv8⟩:=Ab hv7
 simp only at hszy hby h63 hv8
 simp at hv8
 obtain ⟨rfl,rfl⟩:=hv8
 obtain ⟨ady,capy,news,hcy,hrow0⟩:=GL hi h2 hel
 have hrow:RowOf (fun b=>G.kind b=.frozen) w i.size ys ady news:=by
  rcases hszy with rfl|hys
  ·exact hrow0
  ·subst hys
   have:news=[]:=lez (by simpa using hrow0.len)
   subst this
   exact ⟨by simp,by simp,fun h=>by simp at h,by simp,fun i y j c h=>by simp at h⟩
 rw [hcy] at hexec
 by_cases hm0:ys.length=0
 ·have hys:ys=[]:=lez hm0
  subst hys
  obtain ⟨G',s1,i1,v1⟩:=H3 hi (.slot d 0) i.size none
  exact CB (G':=G') (hexec _ _ (MK w t o.type e i hu hinf none 0 0 (lrf _) ady capy)) s1 i1 v1
 ·obtain ⟨ay,rfl,hay⟩:=hrow.at_ (by omega)
  have hrun:=run_append_nil (P:=P) w t o.type e i z hu hinf hz ay ys.length capy news hrow.len hay (by omega) (by omega) (by omega)
  have hge:=grownCap_ge w ys.length 0 e
  obtain ⟨G',s1,i1,v1⟩:=H4 (w':=w.drew.alloc (.cells (news.toArray++Builtin.zeroCells z.cells (grownCap w ys.length 0 e - ys.length)) e)) hi (.slot d 0) i.size ys (grownCap w ys.length 0 e) (arr:=news.toArray++Builtin.zeroCells z.cells (grownCap w ys.length 0 e - ys.length)) (t:=e)
   (by simp) (fun b hb=>Below.heap_alloc w.drew _ b hb) rfl rfl rfl (heap_alloc_new w.drew _) hrow.cs (by omega) (by
    have hnl:=hrow.len
    simp only [Array.size_append,List.size_toArray,hnl,size_zeroCells,hzs,<- Nat.add_mul]
    congr 1
    omega) (by
    have:=LI (xs:=[]) (olds:=[]) (zs:=Builtin.zeroCells z.cells (grownCap w ys.length 0 e - ys.length)) (fz:=fun b=>G.kind b=.frozen) (w:=w) (sz:=i.size) (by simp) (fun i x j c h=>by simp at h) hrow
    simpa using this)
  exact CB (G':=G') (hexec _ _ hrun) s1 i1 v1
omit hr in
theorem Xe {t:TypeId} (ho:o.op=.makeMap t none) (kt:KT):Az P G r.h w a o (.mref (.slot d 0) (nv (r.h (.slot d 0)))) [(.slot d 0,nv (r.h (.slot d 0)),.map kt [] [])]:=by
 have hblk:∀ b,b<w.heap.size->(w.alloc (.map #[] 0)).heap[b]?=w.heap[b]?:=fun b hb=>Below.heap_alloc w _ b hb
 have hst:=Step.newOb (G:=G) hi (.slot d 0) (.mine (.slot d 0)) 0 (.map kt [] []) (w':=w.alloc (.map #[] 0)) (by simp) hblk rfl rfl rfl
 refine CB (c:=.map (some w.heap.size)) (w':=w.alloc (.map #[] 0)) ?_ hst (HeapInv.newOb hi (.slot d 0) (.mine (.slot d 0)) 0 (.map kt [] []) (by simp) hblk rfl rfl rfl (.inr rfl) ⟨by simp [Gh.set],#[],0,?_,⟨rfl,rfl,by simp⟩,rfl,by simp,by simp⟩) (.mref (BE _ _ _) (lrf _) fun _=>by simp [Gh.set])
 ·simp [execOp,ho,Instr.makeMap]
 ·simp only [Gh.set,if_true]
  exact heap_alloc_new w _
omit hr in
theorem Vm {v:VVal} {c:Value} (hv:VRel G r.h w v c) {kt:KT} {ks:List MKey} {us:List PV} (he:CC r.h v=some (kt,ks,us)) :
  (c=.map none/\ks=[]/\us=[]) \/ ∃ b es clock,c=.map (some b)/\w.heap[b]?=some (.map es clock)/\ks.length=es.size/\us.length=es.size /\
   (∀ (i:Nat) (k:MKey) (e:MapEntry),ks[i]?=some k->es[i]?=some e->MKey.val kt k=some e.key)/\∀ (i:Nat) (v:PV) (e:MapEntry),us[i]?=some v->es[i]?=some e->PRel (fun b=>G.kind b=.frozen) w v e.val:=by
 cases hv with
 | @p dd c hp h1 =>
  cases hp with
  | mapNil kt'=>simp [CC] at he;obtain ⟨rfl,rfl,rfl⟩:=he;exact .inl ⟨rfl,rfl,rfl⟩
  | @map kt' ks' vs' rr es clock hfz hw hk hv hkey hr' =>
   simp [CC] at he
   obtain ⟨rfl,rfl,rfl⟩:=he
   exact .inr ⟨rr,es,clock,rfl,hw,hk,hv,hkey,hr'⟩
  | _=>simp [CC] at he
 | @mref id ver rr v' o' hh hle hoo =>
  simp only [CC,hh] at he
  cases o' with
  | map kt' ks' vs' =>
   simp only at he
   obtain ⟨rfl,he2⟩:=Ab he
   simp at he2
   obtain ⟨rfl,rfl,rfl⟩:=he2
   obtain ⟨_,es,clock,e1,⟨e2,_⟩,e3,e4,e5⟩:=hi _ _ _ hh
   have:=hoo rfl
   subst this
   exact .inr ⟨_,es,clock,rfl,e1,e2,e3,e4,e5⟩
  | _=>simp at he
 | _=>simp [CC] at he
end
theorem I2 {P:Program} {t:TypeId} {kt:KT} (h:C6 P t kt=true) {k:MKey} {c:Value} (hc:MKey.val kt k=some c):∃ dsc,P.underlying t=some dsc/\IsKey dsc c:=by
 obtain ⟨h1,h2,h3⟩:=Gk h
 cases kt<;>cases k<;>simp [MKey.val] at hc<;>subst hc
 .exact ⟨_,h1 _ rfl,by simp [IsKey]⟩
 .exact ⟨_,h2 rfl,by simp [IsKey]⟩
 .exact ⟨_,h3 rfl,by simp [IsKey]⟩
theorem za0 {kt:KT} {k k':MKey} {c:Value} (h:MKey.val kt k=some c) (h':MKey.val kt k'=some c):k=k':=by
 cases kt<;>cases k<;>cases k'<;>simp_all [MKey.val]<;>(subst h;simp_all)
theorem Qe {G:Gh} {h:VHeap} {w:World} {kt:KT} {v:VVal} {k:MKey} {c:Value} (hk:EB kt v=some k) (hv:VRel G h w v c):MKey.val kt k=some c:=by
 unfold EB at hk
 split at hk
 ·obtain ⟨rfl,hk2⟩:=Ab hk
  simp at hk2
  subst hk2
  rw [DS hv]
  rfl
 .simp at hk;subst hk;rw [FN hv];rfl
 .simp at hk;subst hk;rw [E9 hv];rfl
 .cases hk
theorem KL {P:Program} {w:World} {fz:Nat->Prop} {t:TypeId} {kt:KT} (hkt:C6 P t kt=true) {k:MKey} {c:Value} (hc:MKey.val kt k=some c) {dsc:TypeDesc} (hd:P.underlying t=some dsc) :
  ∀ (es:List MapEntry) (ks:List MKey) (us:List PV) (i0:Nat),ks.length=es.length->us.length=es.length->(∀ (i:Nat) (k:MKey) (e:MapEntry),ks[i]?=some k->es[i]?=some e->MKey.val kt k=some e.key) ->
   (∀ (i:Nat) (v:PV) (e:MapEntry),us[i]?=some v->es[i]?=some e->PRel fz w v e.val) ->
   (A2 ks us k=none/\Instr.findNow dsc c es i0=some none/\Au ks us k=(fun v=>(ks++[k],us++[v]))) \/
   ∃ (j:Nat) (e:MapEntry) (v:PV),A2 ks us k=some v/\Instr.findNow dsc c es i0=some (some (i0+j,e.val))/\es[j]?=some e/\e.key=c/\PRel fz w v e.val/\Au ks us k=(fun v'=>(ks,us.set j v'))
 | [], ks, us, i0, h1, h2, _, _=>by
  have e1:ks=[]:=lez (by simpa using h1)
  have e2:us=[]:=lez (by simpa using h2)
  subst e1
  subst e2
  exact .inl ⟨rfl,rfl,rfl⟩
 | e :: es,ks,us,i0,h1,h2,h3,h4=>by
  cases ks with
  | nil=>simp at h1
  | cons k0 ks =>
   cases us with
   | nil=>simp at h2
   | cons u0 us =>
    have hk0:=h3 0 k0 e rfl rfl
    obtain ⟨dsc',hd',hkey⟩:=I2 hkt hc
    obtain ⟨dsc2,hd2,hkey0⟩:=I2 hkt hk0
    rw [hd] at hd' hd2
    simp at hd' hd2
    subst hd'
    subst hd2
    obtain ⟨rr,hsame,hiff⟩:=sameNow_of_keys hkey hkey0
    by_cases hkk:k=k0
    ·subst hkk
     rw [hc] at hk0
     simp at hk0
     have hrt:rr=true:=hiff.2 hk0
     subst hrt
     refine .inr ⟨0,e,u0,by simp [A2],by simp [Instr.findNow,hsame],rfl,hk0.symm,h4 0 u0 e rfl rfl,?_⟩
     funext v'
     simp [Au]
    ·have hrf:rr=false:=by
      cases rr with
      | false=>rfl
      | true =>
       have:=hiff.1 rfl
       rw [<- this] at hk0
       exact absurd (za0 hc hk0) hkk
     subst hrf
     rcases KL hkt hc hd es ks us (i0+1) (by simpa using h1) (by simpa using h2) (fun i k e hk he=>h3 (i+1) k e (by simpa using hk) (by simpa using he)) (fun i v e hv he=>h4 (i+1) v e (by simpa using hv) (by simpa using he)) with ⟨a1,a2,a3⟩|⟨j,e',v,a1,a2,a3,a4,a5,a6⟩
     ·refine .inl ⟨by simp [A2,hkk,a1],by simp [Instr.findNow,hsame,a2],?_⟩
      funext v'
      simp [Au,hkk,a3]
     ·refine .inr ⟨j+1,e',v,by simp [A2,hkk,a1],by simp [Instr.findNow,hsame,a2];omega,by simpa using a3,a4,a5,?_⟩
      funext v'
      simp [Au,hkk,a6]
theorem PQ {G:Gh} {h:VHeap} {w:World} {x:PV} {c:Value} (hp:PRel (fun b=>G.kind b=.frozen) w x c):VRel G h w (CU x) c:=by
 by_cases ha:∃ ds,x=.agg ds
 ·obtain ⟨ds,rfl⟩:=ha
  cases hp with
  | @agg _ arr hl h1 hr =>
   refine .agg (by simpa using hl) h1 fun i v c hv hc=>?_
   simp only [List.getElem?_map,Option.map_eq_some_iff] at hv
   obtain ⟨dd,hd,rfl⟩:=hv
   exact .p (hr i dd c hd hc) (h1 i c hc)
 ·have hne:∀ ds,x ≠ .agg ds:=fun ds e=>ha ⟨ds,e⟩
  have:CU x=.p x:=by cases x<;>first|rfl|exact absurd rfl (hne _)
  rw [this]
  exact .p hp (hp.one hne)
theorem Kn {fz:Nat->Prop} {w:World} {v:Value} {x:PV} (h:okZeroPV v x=true):PRel fz w x v:=by
 unfold okZeroPV at h
 split at h
 ·rename_i cs ds
  have key:∀ (l:List Value) (ds:List PV),okZeroPV.okL l ds=true->ds.length=l.length/\(∀ (i:Nat) (c:Value),l[i]?=some c->c.oneCell'=true)/\∀ (i:Nat) (d:PV) (c:Value),ds[i]?=some d->l[i]?=some c->PRel fz w d c:=by
   intro l
   induction l with
   | nil =>
    intro ds h
    cases ds<;>simp [okZeroPV.okL] at h
    exact ⟨rfl,fun i c h=>by simp at h,fun i d c h=>by simp at h⟩
   | cons v l ih =>
    intro ds h
    cases ds with
    | nil=>simp [okZeroPV.okL] at h
    | cons d ds =>
     simp only [okZeroPV.okL,bat] at h
     obtain ⟨h1,h2,h3⟩:=ih ds h.2
     obtain ⟨g1,g2,_⟩:=Hw (fz:=fz) (w:=w) h.1
     refine ⟨by simp [h1],fun i c hc=>?_,fun i d' c hd hc=>?_⟩
     ·cases i with
      | zero=>simp at hc;subst hc;exact g2
      | succ i=>simp at hc;exact h2 i c hc
     ·cases i with
      | zero=>simp at hd hc;subst hd;subst hc;exact g1
      | succ i=>simp at hd hc;exact h3 i d' c hd hc
  obtain ⟨h1,h2,h3⟩:=key _ _ h
  exact .agg (by simpa using h1) (fun i c hc=>h2 i c (by simpa using hc)) (fun i d c hd hc=>h3 i d c hd (by simpa using hc))
 .exact (Hw h).1
section
variable {P:Program} {vs:List Nat} {n:Nat} {G:Gh} {r:RS} {a:Act} {w:World} (hr:RRel vs n G r a w) (hi:HeapInv G r.h w) {o:Oper} (d:Nat)
include hr hi
theorem Yn {t key e:TypeId} {m k:Operand} {ok:Bool} (ho:o.op=.lookup t m k ok) {m' k':VArg} (hm:Al vs m m'=true) (hk:Al vs k k'=true) (hu:P.underlying t=some (.map key e)) {kt:KT} (hkt:C6 P key kt=true) {i:TypeInfo} {z:Value} (hinf:P.info? e=some i) (hz:i.zero=some z)
  {zero:PV} (hz0:okZeroPV z zero=true) {mv kv:VVal} {kt':KT} {ks:List MKey} {us:List PV} {kk:MKey} (hlm:r.look m'=some mv) (hlk:r.look k'=some kv) (he:CC r.h mv=some (kt',ks,us)) (hkk:kt'=kt \/ ks=[]) (hmk:EB kt kv=some kk):Az P G r.h w a o (Ei ok zero ks us kk) []:=by
 have hkc:=Qe hmk (Av hr hk hlk)
 obtain ⟨dsc,hd,hkey⟩:=I2 hkt hkc
 have hck:=fun (em:Bool)=>run_checkKey (P:=P) (w:=w) hd hkey em 9999
 have hzr:(zeroValue e).run P w=.ok z w:=by simp [zeroValue,typeInfo,hinf,hz]
 have hfin:∀ (v:PV) (c:Value) (b:Bool),PRel (fun b=>G.kind b=.frozen) w v c->VRel G r.h w (if ok then .tup [CU v,.p (.bool b)] else CU v) (if ok then .tuple #[c,.bool b] else c):=by
  intro v c b hp
  cases ok with
  | false=>exact PQ hp
  | true =>
   refine .tup rfl fun i u x hu hx=>?_
   match i with
   | 0=>simp at hu hx;subst hu;subst hx;exact PQ hp
   | 1=>simp at hu hx;subst hu;subst hx;exact FI _
   | i+2=>simp at hu
 have hempty:ks=[]->us=[]->Ei ok zero ks us kk=(if ok then .tup [CU zero,.p (.bool false)] else CU zero):=by
  rintro rfl rfl
  simp [Ei,A2]
 rcases Vm hi (Av hr hm hlm) he with ⟨hc,rfl,rfl⟩|⟨b,es,clock,hc,hw,hk1,hk2,hk3,hk4⟩
 ·rw [hempty rfl rfl]
  refine AW (c:=if ok then .tuple #[z,.bool false] else z) ?_ hi (hfin zero z false (Kn hz0))
  have hff:=run_findKey (P:=P) (w:=w) (kt:=key) (k:=a.eval k) (l:=[]) hd (a:=none) rfl
  have hce:=hck true
  simp only [rA] at hce
  simp [execOp,ho,Instr.lookup,run_underlying hu,hc,hce,hff,hzr]
 ·have hkt':∀ (i:Nat) (k:MKey) (e:MapEntry),ks[i]?=some k->es.toList[i]?=some e->MKey.val kt k=some e.key:=by
   intro i k e h1 h2
   rcases hkk with rfl|rfl
   .exact hk3 i k e h1 (by simpa using h2)
   .simp at h1
  have hce:=hck es.isEmpty
  simp only [rA] at hce
  rcases KL (fz:=fun b=>G.kind b=.frozen) (w:=w) hkt hkc hd es.toList ks us 0 (by simpa using hk1) (by simpa using hk2) hkt' (fun i v e hv he=>hk4 i v e hv (by simpa using he)) with ⟨a1,a2,_⟩|⟨j,e',v,a1,a2,a3,a4,a5,_⟩
  ·have hff:=run_findKey (P:=P) (w:=w) hd a2
   have hvl:Ei ok zero ks us kk=(if ok then .tup [CU zero,.p (.bool false)] else CU zero):=by simp [Ei,a1]
   rw [hvl]
   refine AW (c:=if ok then .tuple #[z,.bool false] else z) ?_ hi (hfin zero z false (Kn hz0))
   simp [execOp,ho,Instr.lookup,run_underlying hu,hc,Go.MapKept.run_getObj_map (P:=P) hw,hce,hff,hzr]
  ·have hff:=run_findKey (P:=P) (w:=w) hd a2
   have hvl:Ei ok zero ks us kk=(if ok then .tup [CU v,.p (.bool true)] else CU v):=by simp [Ei,a1]
   rw [hvl]
   refine AW (c:=if ok then .tuple #[e'.val,.bool true] else e'.val) ?_ hi (hfin v e'.val true a5)
   simp [execOp,ho,Instr.lookup,run_underlying hu,hc,Go.MapKept.run_getObj_map (P:=P) hw,hce,hff]
theorem VC {t key e:TypeId} {m k x:Operand} (ho:o.op=.mapUpdate t m k x) {m' k' x':VArg} (hm:Al vs m m'=true) (hk:Al vs k k'=true) (hx:Al vs x x'=true) (hu:P.underlying t=some (.map key e)) {kt:KT} (hkt:C6 P key kt=true)
  {id:Id} {ver:Nat} {kv xv:VVal} {ks:List MKey} {us:List PV} {kk:MKey} {xx:PV} (hlm:r.look m'=some (.mref id ver)) (hlk:r.look k'=some kv) (hlx:r.look x'=some xv) (hh:r.h id=some (ver,.map kt ks us)) (hmk:EB kt kv=some kk) (hfx:BF xv=some xx) :
  Az P G r.h w a o .undef [(id,ver,.map kt (Au ks us kk xx).1 (Au ks us kk xx).2)]:=by
 have hkc:=Qe hmk (Av hr hk hlk)
 obtain ⟨dsc,hd,hkey⟩:=I2 hkt hkc
 have hce:=run_checkKey (P:=P) (w:=w) hd hkey false 9999
 simp only [rA] at hce
 obtain ⟨hmine,es,clock,hb,⟨hk1,hkc1,hkb⟩,hk2,hk3,hk4⟩:=hi _ _ _ hh
 have hmv:=Av hr hm hlm
 have hc:a.eval m=.map (some (G.blk id)):=by
  generalize hcm:a.eval m=cm at hmv
  cases hmv with
  | mref hh' hle hoo =>
   rw [hh] at hh'
   simp at hh'
   rw [hoo hh'.1]
 have hxp:=(FJ (Av hr hx hlx) hfx).2.2
 have hget:=Go.MapKept.run_getObj_map (P:=P) hb
 have hlt:G.blk id<w.heap.size:=(ags.1 hb).1
 have hset:∀ ob,(setObj (G.blk id) ob).run P w=.ok () { w with heap:=w.heap.setIfInBounds (G.blk id) ob }:=fun ob=>Go.MapKept.run_setObj_map (P:=P) ob hb
 have hfin:∀ (es':Array MapEntry) (clock':Nat) (ks':List MKey) (us':List PV),(execOp a.eval o).run P w=.ok .skip { w with heap:=w.heap.setIfInBounds (G.blk id) (.map es' clock') }->(ks'.length=es'.size/\clock'=es'.size/\∀ (i:Nat) (e:MapEntry),es'[i]?=some e->e.born=i)->us'.length=es'.size ->
   (∀ (i:Nat) (k:MKey) (e:MapEntry),ks'[i]?=some k->es'[i]?=some e->MKey.val kt k=some e.key)->(∀ (i:Nat) (v:PV) (e:MapEntry),us'[i]?=some v->es'[i]?=some e->PRel (fun b=>G.kind b=.frozen) w v e.val) ->
   Az P G r.h w a o .undef [(id,ver,.map kt ks' us')]:=by
  intro es' clock' ks' us' hrun h1 h2 h3 h4
  have hblk:∀ b,b ≠ G.blk id->({ w with heap:=w.heap.setIfInBounds (G.blk id) (.map es' clock') }:World).heap[b]?=w.heap[b]?:=fun b hne=>by
   simp only [Array.getElem?_setIfInBounds]
   rw [if_neg (fun e=>hne e.symm)]
  have hst:=Step.write (G:=G) (h:=r.h) (w':={ w with heap:=w.heap.setIfInBounds (G.blk id) (.map es' clock') }) id (o':=.map kt ks' us') hh hmine (by simp [SameOb]) (by simp) hblk rfl rfl rfl
  refine K4 (G':=G) hrun hst (HeapInv.write hi id hst hmine hblk ⟨hmine,es',clock',?_,h1,h2,h3,fun i v e hv he=>(h4 i v e hv he).mono hst.keeps hst.size⟩)
  simp [hlt]
 rcases KL (fz:=fun b=>G.kind b=.frozen) (w:=w) hkt hkc hd es.toList ks us 0 (by simpa using hk1) (by simpa using hk2) (fun i k e h1 h2=>hk3 i k e h1 (by simpa using h2)) (fun i v e hv he=>hk4 i v e hv (by simpa using he)) with ⟨a1,a2,a3⟩|⟨j,e',v,a1,a2,a3,a4,a5,a6⟩
 ·have hff:=run_findKey (P:=P) (w:=w) hd a2
  rw [a3]
  refine hfin (es.push { key:=a.eval k,val:=a.eval x,born:=clock }) (clock+1) _ _ ?_ ⟨by simp [hk1],by simp [hkc1],fun i e0 h2=>by
   rw [Array.getElem?_push] at h2
   by_cases hie:i=es.size
   ·rw [if_pos hie] at h2
    simp at h2
    subst h2
    show clock=i
    omega
   ·rw [if_neg hie] at h2
    exact hkb i e0 h2⟩ (by simp [hk2]) (fun i k0 e0 h1 h2=>?_) (fun i v0 e0 h1 h2=>?_)
  ·simp [execOp,ho,Instr.mapUpdate,run_underlying hu,hc,hget,hce,hff,hset]
  ·rw [Array.getElem?_push] at h2
   by_cases hie:i=es.size
   ·rw [if_pos hie] at h2
    simp at h2
    subst h2
    rw [lgr (by omega)] at h1
    have:i - ks.length=0:=by omega
    rw [this] at h1
    simp at h1
    subst h1
    exact hkc
   ·rw [if_neg hie] at h2
    have:=(ags.1 h2).1
    rw [List.getElem?_append_left (by omega)] at h1
    exact hk3 i k0 e0 h1 h2
  ·rw [Array.getElem?_push] at h2
   by_cases hie:i=es.size
   ·rw [if_pos hie] at h2
    simp at h2
    subst h2
    rw [lgr (by omega)] at h1
    have:i - us.length=0:=by omega
    rw [this] at h1
    simp at h1
    subst h1
    exact hxp
   ·rw [if_neg hie] at h2
    have:=(ags.1 h2).1
    rw [List.getElem?_append_left (by omega)] at h1
    exact hk4 i v0 e0 h1 h2
 ·have hff:=run_findKey (P:=P) (w:=w) hd a2
  rw [a6]
  simp only [Nat.zero_add] at hff
  have hje:es[j]?=some e':=by simpa using a3
  have hstay:(Instr.keyThatStays (((es[j]?).map (·.key)).getD (a.eval k)) (a.eval k)).run P w=.ok (a.eval k) w:=by
   rw [hje]
   simp only [Option.map_some,Option.getD_some,a4,Instr.keyThatStays]
   have hsb:Instr.sameBits 10000 (a.eval k) (a.eval k)=true:=by
    obtain ⟨_,_,_⟩:=Gk hkt
    revert hkc
    cases kt<;>cases kk<;>simp [MKey.val]<;>(intro h;rw [<- h];simp [Instr.sameBits,beq_toListBytes])
   simp [hsb]
  refine hfin (es.modify j fun e=>{ e with key:=a.eval k,val:=a.eval x }) clock _ _ ?_ ⟨by simp [hk1],by simp [hkc1],fun i e0 h2=>by
   rw [Array.getElem?_modify] at h2
   by_cases hij:j=i
   ·subst hij
    rw [if_pos rfl,hje] at h2
    simp at h2
    subst h2
    exact hkb j e' hje
   ·rw [if_neg hij] at h2
    exact hkb i e0 h2⟩ (by simp [hk2]) (fun i k0 e0 h1 h2=>?_) (fun i v0 e0 h1 h2=>?_)
  ·rw [hje] at hstay
   simp only [Option.map_some,Option.getD_some] at hstay
   simp [execOp,ho,Instr.mapUpdate,run_underlying hu,hc,hget,hce,hff,hje,hstay,hset]
  ·rw [Array.getElem?_modify] at h2
   by_cases hij:j=i
   ·subst hij
    rw [if_pos rfl,hje] at h2
    simp at h2
    subst h2
    have:=hk3 j k0 e' h1 hje
    rw [a4] at this
    exact this
   ·rw [if_neg hij] at h2
    exact hk3 i k0 e0 h1 h2
  ·rw [Array.getElem?_modify] at h2
   rw [List.getElem?_set] at h1
   by_cases hij:j=i
   ·subst hij
    rw [if_pos rfl,hje] at h2
    simp at h2
    subst h2
    rw [if_pos rfl] at h1
    split at h1
    .simp at h1;subst h1;exact hxp
    .cases h1
   ·rw [if_neg hij] at h1 h2
    exact hk4 i v0 e0 h1 h2
end
end
end Go.V
