/- Part 4 of the proof. -/
import Derived.Test.YtddgomjodbmohaaGreatDoorA3
set_option linter.unusedSectionVars false
set_option linter.unusedSimpArgs false
set_option linter.unusedVariables false
open Nat renaming reduceAdd → rA, reduceSub → rS, reduceEqDiff → rE, reduceLeDiff → rL, le_refl → lrf
open List renaming getElem?_eq_getElem → lgg, getElem?_eq_some_iff → lgs, mem_of_getElem? → lmg, drop_eq_getElem_cons → ldg, mem_cons_of_mem → lmc, map_cons → lpc, drop_of_length_le → ldl, nil_append → lna, append_nil → lan, mem_map → lmm, mem_cons_self → lms, map_append → lma, take_of_length_le → ltl, getElem?_of_mem → lgm, length_cons → llc, length_append → lla, mem_cons → lmk, map_nil → lpn, length_nil → lln, mem_append → lmp, length_map → llm, getElem_mem → lgk, length_take → llt, pairwise_cons → lpw, cons_append → lca
open Bool renaming and_eq_true → bat, false_eq_true → bft, or_eq_true → bot
namespace Go.V
theorem runT_some {h : Hy} : ∀ {l : List Tk} {last r : Int},runT h last l = some r -> l.Pairwise (fun a b=>a.id < b.id) /\ ∀ x ∈ l,last < x.id /\ x.id <= r /\ fineT h x = true
 | [],_,_,_=>⟨List.Pairwise.nil,fun _ h=>by cases h⟩
 | x :: l,last,r,e=>by
  unfold runT at e
  split at e
  ·cases e
  ·split at e
   ·rename_i h1 h2
    obtain ⟨hp,ha⟩:=runT_some e
    have hle:=runT_le h e
    refine ⟨lpw.2 ⟨fun y hy=>(ha y hy).1,hp⟩,fun y hy=>?_⟩
    rcases lmk.1 hy with rfl | hy
    ·exact ⟨by omega,hle,h2⟩
    ·have:=ha y hy
     exact ⟨by omega,this.2.1,this.2.2⟩
   .cases e
theorem runT_of {h : Hy} : ∀ {l : List Tk} {last n : Int},l.Pairwise (fun a b=>a.id < b.id) -> (∀ x ∈ l,last < x.id /\ x.id < n /\ fineT h x = true) -> last < n -> ∃ r,runT h last l = some r /\ r < n
 | [],last,n,_,_,h0=>⟨last,rfl,h0⟩
 | x :: l,last,n,hp,ha,h0=>by
  obtain ⟨h1,h2⟩:=lpw.1 hp
  have hx:=ha x (lms ..)
  obtain ⟨r,e,hr⟩:=runT_of h2 (n:=n) (last:=x.id) (fun y hy=>⟨h1 y hy,(ha y (lmc _ hy)).2⟩) hx.2.1
  refine ⟨r,?_,hr⟩
  unfold runT
  rw [if_neg (by omega),if_pos hx.2.2]
  exact e
structure FineP (h : Hy) (x : Tk) : Prop where
 u0 : 0 <= x.user
 u1 : x.user <= 1048576
 lead : ∃ l,findK h.ts x.process = some l /\ l.process = l.id /\ l.user = x.user
 grp : 0 <= idxOf h.t.nodes x.group
theorem fineT_iff (h : Hy) (x : Tk) : fineT h x = true ↔ FineP h x:=by
 unfold fineT leadOk
 constructor
 ·intro e
  cases hf : findK h.ts x.process with
  | none=>rw [hf] at e; simp at e
  | some l =>
   rw [hf] at e
   simp only [bat,decide_eq_true_eq] at e
   exact ⟨e.1.1.1,e.1.1.2,⟨l,hf,e.1.2.1,e.1.2.2⟩,e.2⟩
 ·rintro ⟨h1,h2,⟨l,hf,h3,h4⟩,h5⟩
  rw [hf]
  simp only [bat,decide_eq_true_eq]
  exact ⟨⟨⟨h1,h2⟩,h3,h4⟩,h5⟩
structure MemP (h : Hy) : Prop where
 len : h.ts.length <= 128
 next1 : 1 <= h.next
 next : h.next <= 2147483648
 tree : treeOk h.t = true
 inc : h.ts.Pairwise fun a b=>a.id < b.id
 ids : ∀ x ∈ h.ts,0 < x.id /\ x.id < h.next
 fine : ∀ x ∈ h.ts,FineP h x
theorem memOk_iff (h : Hy) : memOk h = true ↔ MemP h:=by
 unfold memOk
 simp only [bat,decide_eq_true_eq]
 constructor
 ·rintro ⟨⟨⟨h1,h2⟩,h3⟩,h4⟩
  cases hr : runT h 0 h.ts with
  | none=>rw [hr] at h4; cases h4
  | some r =>
   rw [hr] at h4
   have h4 : r < h.next:=by simpa [ltO] using h4
   obtain ⟨hp,ha⟩:=runT_some hr
   have:=runT_le h hr
   exact ⟨h1,by omega,h2,h3,hp,fun x hx=>⟨(ha x hx).1,by have:=(ha x hx).2.1; omega⟩,fun x hx=>(fineT_iff h x).1 (ha x hx).2.2⟩
 ·intro m
  refine ⟨⟨⟨m.len,m.next⟩,m.tree⟩,?_⟩
  obtain ⟨r,e,hr⟩:=runT_of (h:=h) m.inc (last:=0) (n:=h.next) (fun x hx=>⟨(m.ids x hx).1,(m.ids x hx).2,(fineT_iff h x).2 (m.fine x hx)⟩) (by have:=m.next1; omega)
  rw [e]
  simpa [ltO] using hr
def NodeP (h : Hy) (n : Nd) : Prop:=antI .i64 n.control (availR h.t n.id) = 0 /\ (n.id = 1 \/ andI .i64 n.control 6 = 0 \/ ∀ x ∈ h.ts,x.group ≠ n.id)
theorem soundR_iff (h : Hy) : soundR h = true ↔ MemP h /\ ∀ n ∈ h.t.nodes,NodeP h n:=by
 unfold soundR nodeR NodeP
 simp only [bat,List.all_eq_true,bot,decide_eq_true_eq,memOk_iff,or_assoc]
def GroupOk (h : Hy) (g : Int) : Prop:=∀ n ∈ h.t.nodes,n.id = g -> n.id = 1 \/ andI .i64 n.control 6 = 0
theorem groupOk_of_mem {h : Hy} (hs : soundR h = true) {x : Tk} (hx : x ∈ h.ts) : GroupOk h x.group:=fun n hn e=>by
 rcases (((soundR_iff h).1 hs).2 n hn).2 with h1 | h1 | h1
 .exact .inl h1
 .exact .inr h1
 .exact absurd e.symm (h1 x hx)
theorem findT_N {t : Tr} {g : Int} {x : Nd} (h : findT t g = some x) : treeOk t = true /\ findN t.nodes g = some x:=by
 unfold findT at h
 split at h
 .exact ⟨by assumption,h⟩
 .cases h
theorem groupOk_of_adm {h : Hy} {g : Int} (ha : AdmB h g) : GroupOk h g:=fun n hn e=>by
 obtain ⟨_,x,hx,h1⟩:=ha
 obtain ⟨ht,hf⟩:=findT_N hx
 have h2:=findN_self ((treeOk_iff _).1 ht).inc hn
 rw [e,hf] at h2
 cases h2
 rcases h1 with h1 | h1
 .exact .inl (e.trans h1)
 .exact .inr h1
theorem has_idx {ns : List Nd} {g : Int} {x : Nd} (hf : findN ns g = some x) : 0 <= idxOf ns g:=by
 rcases idxOf_lt ns g with ⟨_,e⟩ | ⟨k,_,e,_⟩
 .rw [e] at hf; cases hf
 .omega
theorem has_of_adm {h : Hy} {g : Int} (ha : AdmB h g) : 0 <= idxOf h.t.nodes g:=by
 obtain ⟨_,x,hx,_⟩:=ha
 exact has_idx (findT_N hx).2
theorem sound_tasks {h : Hy} (hs : soundR h = true) {ts : List Tk} {next : Int} (hm : MemP ⟨h.t,ts,next⟩) (hg : ∀ y ∈ ts,GroupOk h y.group) : soundR ⟨h.t,ts,next⟩ = true:=by
 refine (soundR_iff _).2 ⟨hm,fun n hn=>⟨(((soundR_iff h).1 hs).2 n hn).1,?_⟩⟩
 by_cases h1 : n.id = 1
 .exact .inl h1
 by_cases h2 : andI .i64 n.control 6 = 0
 .exact .inr (.inl h2)
 refine .inr (.inr fun x hx e=>?_)
 rcases hg x hx n hn e.symm with h3 | h3
 .exact h1 h3
 .exact h2 h3
theorem findK_append : ∀ {ts : List Tk} {p : Int} {l : Tk} (r : List Tk),findK ts p = some l -> findK (ts ++ r) p = some l
 | [],_,_,_,h=>by cases h
 | x :: ts,p,l,r,h=>by
  rw [lca]
  unfold findK at h ⊢
  split
  ·rename_i e
   rw [if_pos e] at h
   exact h
  ·rename_i e
   rw [if_neg e] at h
   exact findK_append r h
theorem findK_last : ∀ {ts : List Tk} (x : Tk),(∀ y ∈ ts,y.id ≠ x.id) -> findK (ts ++ [x]) x.id = some x
 | [],x,_=>by simp [findK]
 | y :: ts,x,h=>by
  rw [lca,findK,if_neg (h y (lms ..))]
  exact findK_last x fun z hz=>h z (lmc _ hz)
theorem findK_mem : ∀ {ts : List Tk} {p : Int} {x : Tk},findK ts p = some x -> x ∈ ts
 | [],_,_,h=>by cases h
 | y :: ts,p,x,h=>by
  unfold findK at h
  split at h
  .cases h; exact lms ..
  .exact lmc _ (findK_mem h)
theorem findK_map {f : Tk -> Tk} (hf : ∀ x,(f x).id = x.id) : ∀ (ts : List Tk) (p : Int),findK (ts.map f) p = (findK ts p).map f
 | [],_=>rfl
 | x :: ts,p=>by
  rw [lpc,findK,findK,hf x,findK_map hf ts p]
  split <;> rfl
theorem findK_filter {q : Tk -> Bool} : ∀ {ts : List Tk} {p : Int} {x : Tk},findK ts p = some x -> q x = true -> findK (ts.filter q) p = some x
 | [],_,_,h,_=>by cases h
 | y :: ts,p,x,h,hq=>by
  unfold findK at h
  split at h
  ·rename_i e
   cases h
   rw [List.filter_cons_of_pos hq,findK,if_pos e]
  ·rename_i e
   have ih:=findK_filter h hq
   cases hy : q y
   ·rw [List.filter_cons_of_neg (by simp [hy])]
    exact ih
   ·rw [List.filter_cons_of_pos hy,findK,if_neg e]
    exact ih
theorem addH_mem {h : Hy} (m : MemP h) (hf : ¬ fullH h) {x : Tk} (hu0 : 0 <= x.user) (hu1 : x.user <= 1048576) (hg : 0 <= idxOf h.t.nodes x.group)
  (hp : x.process = 0 \/ ∃ l,findK h.ts x.process = some l /\ l.process = l.id /\ l.user = x.user) : MemP (addH h x):=by
 have f1 : ¬ 128 <= h.ts.length:=fun e=>hf (.inl e)
 have f2 : ¬ 2147483647 < h.next:=fun e=>hf (.inr e)
 have n1:=m.next1
 refine ⟨by simp only [lla,llc,lln]; omega,by show 1 <= h.next + 1; omega,by show h.next + 1 <= _; omega,m.tree,?_,fun y hy=>?_,fun y hy=>?_⟩
 ·show (h.ts ++ [newK h x]).Pairwise _
  refine List.pairwise_append.2 ⟨m.inc,by simp,fun a ha b hb=>?_⟩
  rw [List.mem_singleton] at hb
  subst hb
  exact (m.ids a ha).2
 ·show 0 < y.id /\ y.id < h.next + 1
  rcases lmp.1 hy with hy | hy
  ·have:=m.ids y hy
   omega
  ·rw [List.mem_singleton] at hy
   subst hy
   show 0 < h.next /\ h.next < h.next + 1
   omega
 ·rcases lmp.1 hy with hy | hy
  ·obtain ⟨a1,a2,⟨l,a3,a4⟩,a5⟩:=m.fine y hy
   exact ⟨a1,a2,⟨l,findK_append _ a3,a4⟩,a5⟩
  ·rw [List.mem_singleton] at hy
   subst hy
   refine ⟨hu0,hu1,?_,hg⟩
   by_cases h0 : x.process = 0
   ·have hk : newK h x = ⟨h.next,h.next,x.group,x.user⟩:=by unfold newK; rw [if_pos h0]
    refine ⟨newK h x,?_,by rw [hk],rfl⟩
    have:=findK_last (ts:=h.ts) (newK h x) fun z hz=>by
     have:=(m.ids z hz).2
     show z.id ≠ h.next
     omega
    rw [hk] at this ⊢
    show findK (h.ts ++ [newK h x]) h.next = _
    rw [hk]
    exact this
   ·have hk : newK h x = ⟨h.next,x.process,x.group,x.user⟩:=by unfold newK; rw [if_neg h0]
    rcases hp with hp | ⟨l,a3,a4⟩
    ·exact absurd hp h0
    ·refine ⟨l,?_,by rw [hk]; exact a4⟩
     rw [hk]
     exact findK_append _ a3
theorem sound_mem {h : Hy} (hs : soundR h = true) : MemP h:=((soundR_iff h).1 hs).1
theorem addH_sound {h : Hy} (hs : soundR h = true) (hf : ¬ fullH h) {x : Tk} (hu0 : 0 <= x.user) (hu1 : x.user <= 1048576) (hg : 0 <= idxOf h.t.nodes x.group)
  (hp : x.process = 0 \/ ∃ l,findK h.ts x.process = some l /\ l.process = l.id /\ l.user = x.user) (hgo : GroupOk h x.group) : soundR (addH h x) = true:=by
 refine sound_tasks hs (addH_mem (sound_mem hs) hf hu0 hu1 hg hp) fun y hy=>?_
 rcases lmp.1 hy with hy | hy
 ·exact groupOk_of_mem hs hy
 ·rw [List.mem_singleton] at hy
  subst hy
  exact hgo
theorem spawn_sound {h : Hy} {g u : Int} (ha : AdmB h g) (hf : ¬ fullH h) (hu0 : 0 <= u) (hu1 : u <= 1048576) : soundR (addH h ⟨0,0,g,u⟩) = true :=
 addH_sound ha.1 hf hu0 hu1 (has_of_adm ha) (.inl rfl) (groupOk_of_adm ha)
theorem clone_sound {h : Hy} (hs : soundR h = true) {id : Int} {x : Tk} (hx : findK h.ts id = some x) (hf : ¬ fullH h) : soundR (addH h x) = true:=by
 have hm:=findK_mem hx
 have f:=(sound_mem hs).fine x hm
 exact addH_sound hs hf f.u0 f.u1 f.grp (.inr f.lead) (groupOk_of_mem hs hm)
theorem moveK_same (id g : Int) (x : Tk) : (moveK id g x).id = x.id /\ (moveK id g x).process = x.process /\ (moveK id g x).user = x.user /\ ((moveK id g x).group = x.group \/ (moveK id g x).group = g):=by
 unfold moveK
 split <;> simp
theorem move_sound {h : Hy} {id g : Int} (ha : AdmB h g) : soundR ⟨h.t,moveL id g h.ts,h.next⟩ = true:=by
 have m:=sound_mem ha.1
 have hid : ∀ x,(moveK id g x).id = x.id:=fun x=>(moveK_same id g x).1
 refine sound_tasks ha.1 ⟨by simpa [moveL] using m.len,m.next1,m.next,m.tree,?_,fun y hy=>?_,fun y hy=>?_⟩ fun y hy=>?_
 ·show (h.ts.map (moveK id g)).Pairwise _
  rw [List.pairwise_map]
  exact m.inc.imp fun {a b} hab=>by rw [hid,hid]; exact hab
 ·obtain ⟨x,hx,rfl⟩:=lmm.1 hy
  rw [hid]
  exact m.ids x hx
 ·obtain ⟨x,hx,rfl⟩:=lmm.1 hy
  obtain ⟨a1,a2,⟨l,a3,a4,a5⟩,a6⟩:=m.fine x hx
  obtain ⟨_,s2,s3,s4⟩:=moveK_same id g x
  refine ⟨by rw [s3]; exact a1,by rw [s3]; exact a2,⟨moveK id g l,?_,?_,?_⟩,?_⟩
  ·rw [s2]
   show findK (h.ts.map (moveK id g)) x.process = _
   rw [findK_map hid,a3]
   rfl
  ·rw [(moveK_same id g l).2.1,hid,a4]
  ·rw [(moveK_same id g l).2.2.1,s3,a5]
  ·rcases s4 with s4 | s4
   ·rw [s4]; exact a6
   ·rw [s4]
    show 0 <= idxOf h.t.nodes g
    exact has_of_adm ha
 ·obtain ⟨x,hx,rfl⟩:=lmm.1 hy
  rcases (moveK_same id g x).2.2.2 with s4 | s4
  .rw [s4]; exact groupOk_of_mem ha.1 hx
  .rw [s4]; exact groupOk_of_adm ha
theorem exit_sound {h : Hy} (hs : soundR h = true) (id : Int) : soundR ⟨h.t,exitL id h.ts,h.next⟩ = true:=by
 have m:=sound_mem hs
 refine sound_tasks hs ⟨?_,m.next1,m.next,m.tree,m.inc.filter _,fun y hy=>m.ids y (List.mem_filter.1 hy).1,fun y hy=>?_⟩ fun y hy=>groupOk_of_mem hs (List.mem_filter.1 hy).1
 ·have:=List.length_filter_le (stayB id) h.ts
  have:=m.len
  show (h.ts.filter (stayB id)).length <= 128
  omega
 ·obtain ⟨hy,hst⟩:=List.mem_filter.1 hy
  obtain ⟨a1,a2,⟨l,a3,a4,a5⟩,a6⟩:=m.fine y hy
  refine ⟨a1,a2,⟨l,findK_filter a3 ?_,a4,a5⟩,a6⟩
  have hl:=findK_id a3
  unfold stayB at hst ⊢
  simp only [bat,decide_eq_true_eq] at hst ⊢
  rw [a4,hl]
  exact ⟨hst.2,hst.2⟩
structure KeepsN (f : Nd -> Nd) : Prop where
 id : ∀ n,(f n).id = n.id
 parent : ∀ n,(f n).parent = n.parent
 name : ∀ n,(f n).name = n.name
 kind : ∀ n,(f n).kind = n.kind
def BoundP (n : Nd) : Prop:=0 <= n.control /\ n.control <= 31 /\ 0 <= n.owner /\ n.owner <= 1048576
theorem upR_map {f : Nd -> Nd} (hk : KeepsN f) : ∀ (ns : List Nd) (id : Int),upR (ns.map f) id = upR ns id
 | [],_=>rfl
 | n :: ns,id=>by
  rw [lpc,upR,upR,hk.id,hk.parent,upR_map hk ns id,upR_map hk ns n.parent]
theorem up_map {f : Nd -> Nd} (hk : KeepsN f) (ns : List Nd) (id : Int) : up (ns.map f) id = up ns id:=by
 unfold up
 rw [<- List.map_reverse]
 exact upR_map hk _ _
theorem findN_map {f : Nd -> Nd} (hk : KeepsN f) : ∀ (ns : List Nd) (id : Int),findN (ns.map f) id = (findN ns id).map f
 | [],_=>rfl
 | n :: ns,id=>by
  have ih:=findN_map hk ns id
  unfold findN at ih ⊢
  rw [lpc,List.find?_cons,List.find?_cons,hk.id]
  split
  .rfl
  .exact ih
theorem nodeOk_map {f : Nd -> Nd} (hk : KeepsN f) {pre : List Nd} {n : Nd} (h : nodeOk pre n = true) (hb : BoundP (f n)) : nodeOk (pre.map f) (f n) = true:=by
 unfold nodeOk at h ⊢
 rw [List.getLast?_map]
 cases hl : pre.getLast? with
 | none =>
  rw [hl] at h
  simp only [Option.map_none,hk.id,hk.parent,hk.name,hk.kind,bat,decide_eq_true_eq] at h ⊢
  exact ⟨⟨h.1.1,hb⟩,h.2⟩
 | some l =>
  rw [hl] at h
  simp only [Option.map_some,hk.id,hk.parent,hk.name,hk.kind,List.any_map,Function.comp_def,bat,decide_eq_true_eq] at h ⊢
  exact ⟨⟨h.1.1,hb⟩,h.2⟩
theorem nodesOk_map {f : Nd -> Nd} (hk : KeepsN f) : ∀ (ns pre : List Nd),nodesOk pre ns = true -> (∀ n ∈ ns,BoundP (f n)) -> nodesOk (pre.map f) (ns.map f) = true
 | [],_,_,_=>rfl
 | n :: ns,pre,h,hb=>by
  simp only [nodesOk,bat,lpc] at h ⊢
  refine ⟨nodeOk_map hk h.1 (hb n (lms ..)),?_⟩
  have:=nodesOk_map hk ns (pre ++ [n]) h.2 fun m hm=>hb m (lmc _ hm)
  rw [lma] at this
  exact this
theorem treeOk_map {f : Nd -> Nd} (hk : KeepsN f) {t : Tr} (h : TreeOk t) (hb : ∀ n ∈ t.nodes,BoundP (f n)) : TreeOk ⟨t.nodes.map f,t.next⟩:=by
 obtain ⟨h1,h2,h3,l,h4,h5⟩:=h
 refine ⟨by simpa using h1,nodesOk_map hk t.nodes [] h2 hb,fun n hn=>?_,f l,by simp [h4],?_⟩
 ·obtain ⟨m,hm,rfl⟩:=lmm.1 hn
  show (up (t.nodes.map f) (f m).id).length <= 9
  rw [up_map hk,hk.id]
  exact h3 m hm
 .rw [hk.id]; exact h5
theorem idxOf_map {f : Nd -> Nd} (hk : KeepsN f) (ns : List Nd) (id : Int) : idxOf (ns.map f) id = idxOf ns id:=by
 unfold idxOf
 rw [List.findIdx?_map]
 have : ((fun n : Nd=>decide (n.id = id)) ∘ f) = fun n : Nd=>decide (n.id = id):=by
  funext n
  simp [hk.id]
 rw [this]
theorem memP_map {f : Nd -> Nd} (hk : KeepsN f) {h : Hy} (m : MemP h) (hb : ∀ n ∈ h.t.nodes,BoundP (f n)) : MemP ⟨⟨h.t.nodes.map f,h.t.next⟩,h.ts,h.next⟩:=by
 refine ⟨m.len,m.next1,m.next,(treeOk_iff _).2 (treeOk_map hk ((treeOk_iff _).1 m.tree) hb),m.inc,m.ids,fun x hx=>?_⟩
 obtain ⟨a1,a2,a3,a4⟩:=m.fine x hx
 refine ⟨a1,a2,a3,?_⟩
 show 0 <= idxOf (h.t.nodes.map f) x.group
 rw [idxOf_map hk]
 exact a4
theorem findT_map {f : Nd -> Nd} (hk : KeepsN f) {t : Tr} (h : treeOk t = true) (h2 : treeOk ⟨t.nodes.map f,t.next⟩ = true) (id : Int) : findT ⟨t.nodes.map f,t.next⟩ id = (findT t id).map f:=by
 unfold findT
 rw [if_pos h,if_pos h2]
 exact findN_map hk _ _
theorem availR_map {f : Nd -> Nd} (hk : KeepsN f) (hc : ∀ n,(f n).control = n.control) {t : Tr} (h : treeOk t = true) (h2 : treeOk ⟨t.nodes.map f,t.next⟩ = true) (id : Int) : availR ⟨t.nodes.map f,t.next⟩ id = availR t id:=by
 have ha : actR ⟨t.nodes.map f,t.next⟩ id = actR t id:=by
  unfold actR
  rw [findT_map hk h h2]
  cases hq : findT t id with
  | none=>rfl
  | some x =>
   have e : ((findT ⟨t.nodes.map f,t.next⟩ x.parent).getD zeroNd).control = ((findT t x.parent).getD zeroNd).control:=by
    rw [findT_map hk h h2]
    cases findT t x.parent with
    | none=>rfl
    | some p=>exact hc p
   simp only [Option.map_some,hk.parent,hk.kind,e]
 unfold availR
 rw [findT_map hk h h2,ha]
 cases findT t id with
 | none=>rfl
 | some x=>simp only [Option.map_some,hk.kind]
theorem sound_map {f : Nd -> Nd} (hk : KeepsN f) (hc : ∀ n,(f n).control = n.control) {h : Hy} (hs : soundR h = true) (hb : ∀ n ∈ h.t.nodes,BoundP (f n)) : soundR ⟨⟨h.t.nodes.map f,h.t.next⟩,h.ts,h.next⟩ = true:=by
 obtain ⟨m,hn⟩:=(soundR_iff h).1 hs
 have m2:=memP_map hk m hb
 refine (soundR_iff _).2 ⟨m2,fun x hx=>?_⟩
 obtain ⟨n,hn1,rfl⟩:=lmm.1 hx
 have:=hn n hn1
 unfold NodeP at this ⊢
 simp only [hk.id,hc,availR_map hk hc m.tree m2.tree]
 exact this
theorem tree_bound {t : Tr} (ht : treeOk t = true) {n : Nd} (hn : n ∈ t.nodes) : BoundP n:=by
 obtain ⟨i,hi⟩:=lgm hn
 have:=(nodesOk_iff _ _).1 ((treeOk_iff t).1 ht).nodes i n hi
 simp only [nodeOk,bat,decide_eq_true_eq] at this
 exact this.1.2
def ownF (id o : Int) (n : Nd) : Nd:=⟨n.id,n.parent,n.name,n.control,n.kind,if n.id = id then o else n.owner⟩
theorem ownF_keepsN (id o : Int) : KeepsN (ownF id o):=⟨fun _=>rfl,fun _=>rfl,fun _=>rfl,fun _=>rfl⟩
theorem inc_same {ns : List Nd} (hp : ns.Pairwise fun a b=>a.id < b.id) {n y : Nd} (hn : n ∈ ns) (hy : y ∈ ns) (e : n.id = y.id) : n = y:=by
 have h1:=findN_self hp hn
 have h2:=findN_self hp hy
 rw [e,h2] at h1
 cases h1
 rfl
theorem owner_sound {h : Hy} (hs : soundR h = true) {id o : Int} {y : Nd} (hy : findT h.t id = some y) (h0 : 0 <= o) (h1 : o <= 1048576) : soundR ⟨⟨setN h.t.nodes ⟨y.id,y.parent,y.name,y.control,y.kind,o⟩,h.t.next⟩,h.ts,h.next⟩ = true:=by
 obtain ⟨ht,hf⟩:=findT_N hy
 have hym:=List.mem_of_find?_eq_some hf
 have hset : setN h.t.nodes ⟨y.id,y.parent,y.name,y.control,y.kind,o⟩ = h.t.nodes.map (ownF y.id o):=by
  unfold setN
  refine List.map_congr_left fun n hn=>?_
  unfold ownF
  by_cases e : n.id = y.id
  ·have:=inc_same ((treeOk_iff _).1 ht).inc hn hym e
   subst this
   simp
  .simp only [if_neg e]
 rw [hset]
 refine sound_map (ownF_keepsN _ _) (fun _=>rfl) hs fun n hn=>?_
 obtain ⟨b1,b2,b3,b4⟩:=tree_bound ht hn
 refine ⟨b1,b2,?_,?_⟩
 ·show 0 <= (if n.id = y.id then o else n.owner)
  split <;> assumption
 ·show (if n.id = y.id then o else n.owner) <= _
  split <;> assumption
def ZeroC (t : Tr) : Prop:=∀ n ∈ t.nodes,n.control = 0
theorem addT_zero {t : Tr} (h : ZeroC t) {p : Int} {s : ByteArray} (h0 : (addT t p s).2.2 = 0) : ZeroC (addT t p s).1:=by
 rw [(addT_ok h0).2.2]
 intro n hn
 rcases lmp.1 hn with hn | hn
 ·exact h n hn
 ·rw [List.mem_singleton] at hn
  subst hn
  rfl
theorem removeT_zero {t : Tr} (h : ZeroC t) {q : Int} (h0 : (removeT t q).2 = 0) : ZeroC (removeT t q).1:=by
 rw [(removeT_ok h0).2.2]
 intro n hn
 exact h n (List.mem_filter.1 hn).1
theorem treeStep_zero (L : List Int) (a : Nat) {t : Tr} (h : ZeroC t) : ZeroC (treeStep L a t).1:=by
 have h1 : ∀ p s,ZeroC (if (addT t p s).2.2 = 0 then (addT t p s).1 else t):=fun p s=>by
  split
  ·exact addT_zero h (by assumption)
  ·exact h
 unfold treeStep
 simp only
 split
 ·have h2 : ∀ (u : Tr) (q : Int),ZeroC u -> ZeroC (if (removeT u q).2 = 0 then (removeT u q).1 else u):=fun u q hu=>by
   split
   .exact removeT_zero hu (by assumption)
   .exact hu
  exact h2 _ _ (h1 _ _)
 .exact h1 _ _
theorem treeLoop_zero (L : List Int) : ∀ (k a : Nat) {t : Tr},ZeroC t -> ZeroC (treeLoop L k a t).1
 | 0,_,_,h=>h
 | k + 1,a,_,h=>treeLoop_zero L k _ (treeStep_zero L a h)
theorem dTree_zero (L : List Int) (a n : Nat) : ZeroC (dTree L a n).1:=treeLoop_zero L _ _ fun n hn=>by
 simp only [newT,List.mem_singleton] at hn
 subst hn
 rfl
theorem ant0 (v : Int) : antI .i64 0 v = 0:=by
 unfold antI
 simp
 rfl
theorem and0 (v : Int) : andI .i64 0 v = 0:=by
 unfold andI
 simp
 rfl
theorem made_sound (L : List Int) (a n : Nat) : soundR ⟨(dTree L a n).1,[],1⟩ = true:=by
 refine (soundR_iff _).2 ⟨⟨by simp,by simp,by simp,(treeOk_iff _).2 (dTree_ok L a n),List.Pairwise.nil,(fun _ h=>by cases h),(fun _ h=>by cases h)⟩,fun x hx=>?_⟩
 have:=dTree_zero L a n x hx
 exact ⟨by rw [this]; exact ant0 _,.inr (.inr fun _ h=>by cases h)⟩
def groupD (L : List Int) (a : Nat) (ns : List Nd) : Int × Nat :=
 if nextV L a 15 = 14 \/ ns = [] then (nextV L (nextA L a 15) 9 - 1,nextA L (nextA L a 15) 9)
 else ((ns.getD (nextV L (nextA L a 15) ns.length).toNat zeroNd).id,nextA L (nextA L a 15) ns.length)
theorem group_eq (L : List Int) (a : Nat) (t : Tr) (hL : L.length < 4611686018427387904) (hl : t.nodes.length < 1000000) : V 18 [.ptr (.arg 0 0) 0 0,t.vv] [diceB L a] = some (.p (.int .i64 (groupD L a t.nodes).1),[diceB L (groupD L a t.nodes).2]):=by
 refine V_wp (vf:=vf18) rfl ?_
 have hb:=bool_eq L a 15 hL (by omega) (by omega)
 have h9:=next_eq L (nextA L a 15) 9 hL (by omega)
 have hn:=next_eq L (nextA L a 15) t.nodes.length hL (by omega)
 have r9:=nextV_nonneg L (nextA L a 15) 9
 have r9':=nextV_lt L (nextA L a 15) (n:=9) (by omega)
 by_cases h14 : nextV L a 15 = 14
 ·have h14' : nextV L a 15 = 15 - 1:=by omega
  simp -implicitDefEqProofs (disch:=omega) only [vf18,vb18,hb,h14',h9,go_sem,↓reduceIte,rA,rS,rE,rL,reduceCtorEq]
  simp [groupD,h14]
 ·have h14' : ¬ nextV L a 15 = 15 - 1:=by omega
  by_cases hz : t.nodes = []
  ·have hz' : (t.nodes.length : Int) = 0:=by rw [hz]; rfl
   simp -implicitDefEqProofs (disch:=omega) only [vf18,vb18,hb,h14',h9,hz',go_sem,↓reduceIte,rA,rS,rE,rL,reduceCtorEq]
   simp [groupD,hz]
  ·have hp : 1 <= t.nodes.length:=List.length_pos_iff.2 hz
   have q0:=nextV_nonneg L (nextA L a 15) t.nodes.length
   have q1:=nextV_lt L (nextA L a 15) (n:=t.nodes.length) (by omega)
   have hm : t.nodes[(nextV L (nextA L a 15) t.nodes.length).toNat]? = some (t.nodes.getD (nextV L (nextA L a 15) t.nodes.length).toNat zeroNd):=by
    rw [List.getD_eq_getElem?_getD,lgg (by omega)]; rfl
   have hz0 : ¬ ((t.nodes.length : Int) = 0):=by omega
   simp -implicitDefEqProofs (disch:=omega) only [vf18,vb18,hb,h14',h9,hn,hz0,hm,go_sem,↓reduceIte,rA,rS,rE,rL,reduceCtorEq]
   simp [groupD,h14,hz]
theorem sound_len {h : Hy} (hs : soundR h = true) : h.ts.length <= 128 /\ 1 <= h.t.nodes.length /\ h.t.nodes.length <= 64 /\ 1 <= h.next:=by
 have m:=sound_mem hs
 have:=treeNext m.tree
 exact ⟨m.len,this.2.2.1,this.2.2.2,m.next1⟩
theorem sound_memOk {h : Hy} (hs : soundR h = true) : memOk h = true:=(memOk_iff h).2 (sound_mem hs)
set_option maxHeartbeats 4000000 in
theorem rexit_cases (h : Hy) (id : Int) (hm : memOk h = true) (hl : h.ts.length < 1000000) (hn : h.t.nodes.length < 1000000) :
  V 51 [h.vv,.p (.int .i64 id)] [] = some (.tup [(⟨h.t,exitL id h.ts,h.next⟩ : Hy).fv,.p (.int .i64 0)],[]) \/
  ∃ e : Int,e ≠ 0 /\ V 51 [h.vv,.p (.int .i64 id)] [] = some (.tup [noH,.p (.int .i64 e)],[]):=by
 cases hq : findK h.ts id with
 | some x=>exact .inl (rexit_ok h id hm (by rw [hq]; rfl) hl hn)
 | none =>
  have hc:=rmcheck_eq h hl hn
  rw [hm] at hc
  have hfi:=rfindK_eq h id hl hn
  unfold findM at hfi
  rw [if_pos hm,hq] at hfi
  simp only [Option.getD_none,Option.isSome_none,Tk.vv] at hfi
  refine .inr ⟨4,by decide,V_wp (vf:=vf51) rfl ?_⟩
  simp -implicitDefEqProofs (disch:=omega) only [vf51,vb51,hc,hfi,go_sem,↓reduceIte,rA,rS,rE,rL,reduceCtorEq]
def anyA (b : Bool) (k : Nat) (l : List PV) : VVal:=if b = true then .fresh k l else .p (.slice k l)
abbrev anyH (h : Hy) (b c : Bool) : VVal:=.agg [anyA b 6 (h.t.nodes.map Nd.pv),.p (.int .i64 h.t.next),anyA c 4 (h.ts.map Tk.pv),.p (.int .i64 h.next)]
def StepR (L : List Int) (r : VVal × List Ob) : Prop:=∃ (h' : Hy) (b c : Bool) (a' : Nat),r = (anyH h' b c,[diceB L a']) /\ soundR h' = true
set_option maxHeartbeats 16000000 in
theorem step_ok (L : List Int) (a : Nat) (h : Hy) (hL : L.length < 4611686018427387904) (hs : soundR h = true) : ∃ (h' : Hy) (b c : Bool) (a' : Nat),V 44 [.ptr (.arg 0 0) 0 0,h.vv] [diceB L a] = some (anyH h' b c,[diceB L a']) /\ soundR h' = true:=by
 suffices hw : wp (callF V vf44 [.ptr (.arg 0 0) 0 0,h.vv] [diceB L a]) (StepR L) by
  obtain ⟨r,hr,h',b,c,a',rfl,hs'⟩:=hw
  exact ⟨h',b,c,a',V_fix (f:=44) (vf:=vf44) rfl hr,hs'⟩
 obtain ⟨l1,l2,l3,l4⟩:=sound_len hs
 have hl : h.ts.length < 1000000:=by omega
 have hn : h.t.nodes.length < 1000000:=by omega
 have keep : ∀ a',StepR L (.agg [.p (nodesP h.t.nodes),.p (.int .i64 h.t.next),.p (tasksP h.ts),.p (.int .i64 h.next)],[diceB L a']):=fun a'=>⟨h,false,false,a',rfl,hs⟩
 have new : ∀ (h' : Hy) (a' : Nat),soundR h' = true -> StepR L (.agg [.fresh 6 (h'.t.nodes.map Nd.pv),.p (.int .i64 h'.t.next),.fresh 4 (h'.ts.map Tk.pv),.p (.int .i64 h'.next)],[diceB L a']):=fun h' a' hs'=>⟨h',true,true,a',rfl,hs'⟩
 have hg:=group_eq L a h.t hL hn
 generalize (groupD L a h.t.nodes).1 = g at hg
 generalize (groupD L a h.t.nodes).2 = a1 at hg
 have hk:=next_eq L a1 5 hL (by omega)
 generalize nextV L a1 5 = k at hk
 generalize nextA L a1 5 = a2 at hk
 have n10 : ¬ (1 : Int) = 0:=by decide
 have n20 : ¬ (2 : Int) = 0:=by decide
 have n21 : ¬ (2 : Int) = 1:=by decide
 have n30 : ¬ (3 : Int) = 0:=by decide
 have n31 : ¬ (3 : Int) = 1:=by decide
 have n32 : ¬ (3 : Int) = 2:=by decide
 by_cases k01 : k = 0 \/ k = 1
 ·have hctl:=dctl_eq L a2 hL
  generalize ctlV L a2 = ad at hctl
  generalize nextA L a2 9 = a3 at hctl
  obtain ⟨r,hr,hres⟩:=enable_ok h g ad 0 hl hn
  have hE:=V_fix (f:=88) (vf:=vf88) rfl hr
  rcases hres with ⟨h',rfl,hs'⟩ | ⟨e,he,rfl⟩
  ·have ht1 : List.take h'.t.nodes.length (h'.t.nodes.map Nd.pv) = h'.t.nodes.map Nd.pv:=ltl (by simp)
   have ht2 : List.take h'.ts.length (h'.ts.map Tk.pv) = h'.ts.map Tk.pv:=ltl (by simp)
   rcases k01 with k0 | k0
   ·simp -implicitDefEqProofs (disch:=omega) only [vf44,vb44,hg,hk,k0,n10,hctl,hE,ht1,ht2,go_sem,↓reduceIte,rA,rS,rE,rL,reduceCtorEq]
    exact new h' _ hs'
   ·simp -implicitDefEqProofs (disch:=omega) only [vf44,vb44,hg,hk,k0,n10,hctl,hE,ht1,ht2,go_sem,↓reduceIte,rA,rS,rE,rL,reduceCtorEq]
    exact new h' _ hs'
  ·rcases k01 with k0 | k0
   ·simp -implicitDefEqProofs (disch:=omega) only [vf44,vb44,hg,hk,k0,n10,hctl,hE,he,go_sem,↓reduceIte,rA,rS,rE,rL,reduceCtorEq]
    exact keep _
   ·simp -implicitDefEqProofs (disch:=omega) only [vf44,vb44,hg,hk,k0,n10,hctl,hE,he,go_sem,↓reduceIte,rA,rS,rE,rL,reduceCtorEq]
    exact keep _
 have k0 : ¬ k = 0:=fun e=>k01 (.inl e)
 have k1 : ¬ k = 1:=fun e=>k01 (.inr e)
 by_cases k2 : k = 2
 ·obtain ⟨r,hr,hres⟩:=convert_ok h g hl hn
  have hC:=V_fix (f:=89) (vf:=vf89) rfl hr
  rcases hres with ⟨h',rfl,hs'⟩ | ⟨e,he,rfl⟩
  ·have ht1 : List.take h'.t.nodes.length (h'.t.nodes.map Nd.pv) = h'.t.nodes.map Nd.pv:=ltl (by simp)
   have ht2 : List.take h'.ts.length (h'.ts.map Tk.pv) = h'.ts.map Tk.pv:=ltl (by simp)
   simp -implicitDefEqProofs (disch:=omega) only [vf44,vb44,hg,hk,k2,n20,n21,hC,ht1,ht2,go_sem,↓reduceIte,rA,rS,rE,rL,reduceCtorEq]
   exact new h' _ hs'
  ·simp -implicitDefEqProofs (disch:=omega) only [vf44,vb44,hg,hk,k2,n20,n21,hC,he,go_sem,↓reduceIte,rA,rS,rE,rL,reduceCtorEq]
   exact keep _
 by_cases k3 : k = 3
 ·have hfi:=rfind_eq h.t g hn
  cases hq : findT h.t g with
  | none =>
   rw [hq] at hfi
   simp only [Option.getD_none,Option.isSome_none,Nd.vv] at hfi
   simp -implicitDefEqProofs (disch:=omega) only [vf44,vb44,hg,hk,k3,n30,n31,n32,hfi,go_sem,↓reduceIte,rA,rS,rE,rL,reduceCtorEq]
   exact keep _
  | some y =>
   rw [hq] at hfi
   simp only [Option.getD_some,Option.isSome_some,Nd.vv] at hfi
   by_cases hg1 : g = 1
   ·subst hg1
    simp -implicitDefEqProofs (disch:=omega) only [vf44,vb44,hg,hk,k3,n30,n31,n32,hfi,go_sem,↓reduceIte,rA,rS,rE,rL,reduceCtorEq]
    exact keep _
   have h3:=next_eq L a2 3 hL (by omega)
   have o0:=nextV_nonneg L a2 3
   have o1:=nextV_lt L a2 (n:=3) (by omega)
   generalize nextV L a2 3 = o at h3 o0 o1
   generalize nextA L a2 3 = a3 at h3
   have hso:=owner_sound hs hq o0 (by omega : o <= 1048576)
   have hse:=rset_eq h.t ⟨y.id,y.parent,y.name,y.control,y.kind,o⟩ hn
   generalize setN h.t.nodes ⟨y.id,y.parent,y.name,y.control,y.kind,o⟩ = ns at hso hse
   simp only [Nd.vv] at hse
   have ht1 : List.take ns.length (ns.map Nd.pv) = ns.map Nd.pv:=ltl (by simp)
   simp -implicitDefEqProofs (disch:=omega) only [vf44,vb44,hg,hk,k3,n30,n31,n32,hfi,hg1,h3,hse,ht1,go_sem,↓reduceIte,rA,rS,rE,rL,reduceCtorEq]
   exact ⟨⟨⟨ns,h.t.next⟩,h.ts,h.next⟩,true,false,a3,rfl,hso⟩
 ·simp -implicitDefEqProofs (disch:=omega) only [vf44,vb44,hg,hk,k0,k1,k2,k3,go_sem,↓reduceIte,rA,rS,rE,rL,reduceCtorEq]
  exact keep _
theorem wp_cutN {a b : VCode} {s : St} {Q : VExit × St -> Prop} (M : St -> Prop) (h1 : wp (exec V a s) (fun r=>r.1 = .normal /\ M r.2)) (h2 : ∀ s',M s' -> wp (exec V b s') Q) : wp (exec V (.seq a b) s) Q:=by
 rw [exec_seq,wp_ob]
 refine wp_mono h1 fun r hr=>?_
 obtain ⟨x,s'⟩:=r
 obtain ⟨e,m⟩:=hr
 simp only at e m
 subst e
 exact h2 s' m
theorem wp_blk {n : Nat} {c : VCode} {s : St} {M : St -> Prop} (h : wp (exec V c s) (fun r=>(r.1 = .normal \/ r.1 = .exit n) /\ M r.2)) : wp (exec V (.block n c) s) (fun r=>r.1 = .normal /\ M r.2):=by
 rw [exec_block,wp_ob]
 refine wp_mono h fun r hr=>?_
 obtain ⟨x,s'⟩:=r
 obtain ⟨e,m⟩:=hr
 simp only at e m
 rcases e with e | e
 ·subst e
  rw [inB_normal,wp_some]
  exact ⟨rfl,m⟩
 ·subst e
  rw [inB_exit,if_pos rfl,wp_some]
  exact ⟨rfl,m⟩
def BoxH (fz : List Nat) (s : St) (h : Hy) : Prop:=∃ X Y,s.h (.slot 7 0) = some (0,.box [X,.p (.int .i64 h.t.next),Y,.p (.int .i64 h.next)]) /\ fz0 fz s.h X = .p (nodesP h.t.nodes) /\ fz0 fz s.h Y = .p (tasksP h.ts)
def BoxP (s : St) (h : Hy) : Prop:=s.h (.slot 7 0) = some (0,.box [.p (nodesP h.t.nodes),.p (.int .i64 h.t.next),.p (tasksP h.ts),.p (.int .i64 h.next)])
def Env6 (L : List Int) (b : Nat) (s : St) : Prop:=s.pe 0 = .ptr (.arg 0 0) 0 0 /\ s.pe 6 = .ptr (.slot 6 0) 0 0 /\ s.pe 7 = .ptr (.slot 7 0) 0 0 /\ s.h (.arg 0 0) = some (0,diceB L b) /\
 s.h (.slot 6 0) = some (0,.box [.own (.slot 6 1) 0 0 0,.p (.int .i64 0),.own (.slot 6 3) 0 0 0,.p (.int .i64 0)])
def J1 (L : List Int) (k : Nat) (x : Nat × Nat × Hy) (s : St) : Prop:=soundR x.2.2 = true /\ x.1 < 1003 /\ Env6 L x.2.1 s /\ s.pe 2 = .p (.int .i64 k) /\ s.pe 8 = .p (.int .i64 x.1) /\ BoxH [21,36] s x.2.2
def E1 (L : List Int) (k : Nat) (r : VExit × St) : Prop:=r.1 = .exit 0 /\ ∃ b h,soundR h = true /\ Env6 L b r.2 /\ r.2.pe 2 = .p (.int .i64 k) /\ BoxP r.2 h
def Mid (L : List Int) (i : Nat) (fz : List Nat) (s : St) : Prop:=∃ b h,soundR h = true /\ Env6 L b s /\ s.pe 9 = .p (.int .i64 i) /\ BoxH fz s h
def MidP (L : List Int) (i : Nat) (h : Hy) (g : Int) (s : St) : Prop:=∃ b,Env6 L b s /\ s.pe 9 = .p (.int .i64 i) /\ s.pe 10 = .p (.int .i64 g) /\ BoxP s h
abbrev fzE : List Nat:=[11,14,17,19,58,72,90,103]
def HierR (L : List Int) (r : VVal × List Ob) : Prop:=∃ (h' : Hy) (a' : Nat),r = (h'.vv,[diceB L a']) /\ soundR h' = true
set_option maxHeartbeats 16000000 in
theorem hier_ok (L : List Int) (a m k : Nat) (hL : L.length < 4611686018427387904) (hm : m < 1000) (hk : k < 1000) : ∃ (h' : Hy) (a' : Nat),V 11 [.ptr (.arg 0 0) 0 0,.p (.int .i64 m),.p (.int .i64 k)] [diceB L a] = some (h'.vv,[diceB L a']) /\ soundR h' = true:=by
 suffices hw : wp (callF V vf11 [.ptr (.arg 0 0) 0 0,.p (.int .i64 m),.p (.int .i64 k)] [diceB L a]) (HierR L) by
  obtain ⟨r,hr,h',a',rfl,hs'⟩:=hw
  exact ⟨h',a',V_fix (f:=11) (vf:=vf11) rfl hr,hs'⟩
 have ht:=tree_eq L a m hL hm
 have hms:=made_sound L a m
 generalize (dTree L a m).1 = t at ht hms
 generalize (dTree L a m).2 = a1 at ht
 have hnx:=next_eq L a1 ((m : Int) + 3) hL (by omega)
 have hn0:=nextV_nonneg L a1 ((m : Int) + 3)
 have hn1:=nextV_lt L a1 (n:=(m : Int) + 3) (by omega)
 generalize nextA L a1 ((m : Int) + 3) = a2 at hnx
 obtain ⟨k1,hk1,hk1l⟩ : ∃ k1 : Nat,nextV L a1 ((m : Int) + 3) = (k1 : Int) /\ k1 < 1003:=⟨(nextV L a1 ((m : Int) + 3)).toNat,by omega,by omega⟩
 rw [hk1] at hnx
 clear hn0 hn1 hk1
 have hnew : V 42 [] [] = some (.agg [.fresh 6 [(⟨1,0,⟨#[]⟩,0,0,0⟩ : Nd).pv],.p (.int .i64 2),.fresh 4 [],.p (.int .i64 1)],[]):=rhnew_eq
 simp -implicitDefEqProofs (disch:=omega) only [vf11,vb11,hnew,ht,hnx,go_sem,↓reduceIte,rA,rS,rE,rL,reduceCtorEq]
 refine wp_mono (Q:=E1 L k) (wp_meas (σ:=Nat × Nat × Hy) (J1 L k) (fun x=>x.1) (k1,a2,⟨t,[],1⟩) ?_ ?_) ?_
 ·refine ⟨hms,hk1l,⟨rfl,rfl,rfl,rfl,rfl⟩,rfl,rfl,_,_,rfl,?_,?_⟩
  ·simp -implicitDefEqProofs (disch:=omega) only [go_sem,↓reduceIte,rA,rS,rE,rL,reduceCtorEq]
  ·simp -implicitDefEqProofs (disch:=omega) only [go_sem,↓reduceIte,rA,rS,rE,rL,reduceCtorEq]
   rfl
 ·rintro ⟨i,b,h⟩ s ⟨hs,hi,⟨h0,h6,h7,hha,hh6⟩,h2,h8,X,Y,hh7,hX,hY⟩
  simp only at hs hi h8 hha hh7 hX hY
  obtain ⟨l1,l2,l3,l4⟩:=sound_len hs
  simp -implicitDefEqProofs (disch:=omega) only [h0,h2,h6,h7,h8,hha,hh6,hh7,hX,hY,go_sem,↓reduceIte,rA,rS,rE,rL,reduceCtorEq]
  refine wp_if_d (fun hgt=>?_) (fun hle=>?_)
  ·obtain ⟨i',rfl⟩ : ∃ i',i = i' + 1:=⟨i - 1,by omega⟩
   obtain ⟨h',c1,c2,b',hst,hs'⟩:=step_ok L b h hL hs
   have ht1 : List.take h'.t.nodes.length (h'.t.nodes.map Nd.pv) = h'.t.nodes.map Nd.pv:=ltl (by simp)
   have ht2 : List.take h'.ts.length (h'.ts.map Tk.pv) = h'.ts.map Tk.pv:=ltl (by simp)
   cases c1 <;> cases c2 <;> simp only [anyH,anyA,if_true,bft,if_false] at hst
   all_goals
    simp -implicitDefEqProofs (disch:=omega) only [h0,h2,h6,h7,h8,hha,hh6,hh7,hX,hY,hst,go_sem,↓reduceIte,rA,rS,rE,rL,reduceCtorEq]
    refine ⟨(i',b',h'),Nat.lt_succ_self _,hs',by simp only; omega,?_⟩
    unfold Env6 BoxH
    simp -implicitDefEqProofs (disch:=omega) only [h0,h2,h6,h7,h8,hha,hh6,hh7,hX,hY,go_sem,↓reduceIte,rA,rS,rE,rL,reduceCtorEq]
    refine ⟨by congr 2; omega,_,_,rfl,?_,?_⟩
    ·simp -implicitDefEqProofs (disch:=omega) only [ht1,go_sem,↓reduceIte,rA,rS,rE,rL,reduceCtorEq]
    ·simp -implicitDefEqProofs (disch:=omega) only [ht2,go_sem,↓reduceIte,rA,rS,rE,rL,reduceCtorEq]
  ·simp -implicitDefEqProofs (disch:=omega) only [h0,h2,h6,h7,h8,hha,hh6,hh7,hX,hY,go_sem,↓reduceIte,rA,rS,rE,rL,reduceCtorEq]
   refine ⟨rfl,b,h,hs,?_⟩
   unfold Env6 BoxP
   simp -implicitDefEqProofs (disch:=omega) only [h0,h2,h6,h7,h8,hha,hh6,hh7,hX,hY,go_sem,↓reduceIte,rA,rS,rE,rL,reduceCtorEq]
 ·rintro ⟨x,s⟩ ⟨e,b,h,hs,⟨h0,h6,h7,hha,hh6⟩,h2,hh7⟩
  simp only at e hs h0 h6 h7 hha hh6 h2 hh7
  subst e
  have hnx2:=next_eq L b ((k : Int) + 1) hL (by omega)
  have hn0:=nextV_nonneg L b ((k : Int) + 1)
  have hn1:=nextV_lt L b (n:=(k : Int) + 1) (by omega)
  generalize nextA L b ((k : Int) + 1) = b2 at hnx2
  obtain ⟨k2,hk2,hk2l⟩ : ∃ k2 : Nat,nextV L b ((k : Int) + 1) = (k2 : Int) /\ k2 < 1003:=⟨(nextV L b ((k : Int) + 1)).toNat,by omega,by omega⟩
  rw [hk2] at hnx2
  clear hn0 hn1 hk2
  simp -implicitDefEqProofs (disch:=omega) only [h0,h2,h6,h7,hha,hh6,hh7,hnx2,go_sem,↓reduceIte,rA,rS,rE,rL,reduceCtorEq]
  refine wp_meas (σ:=Nat) (fun i s=>i < 1003 /\ Mid L i fzE s) (fun x=>x) k2 ?_ ?_
  ·refine ⟨hk2l,b2,h,hs,?_⟩
   unfold Env6 BoxH
   simp -implicitDefEqProofs (disch:=omega) only [h0,h2,h6,h7,hha,hh6,hh7,go_sem,↓reduceIte,rA,rS,rE,rL,reduceCtorEq]
   first | refine ⟨_,_,hh7,?_,?_⟩ | refine ⟨_,_,rfl,?_,?_⟩
   ·simp -implicitDefEqProofs (disch:=omega) only [go_sem,↓reduceIte,rA,rS,rE,rL,reduceCtorEq]
   ·simp -implicitDefEqProofs (disch:=omega) only [go_sem,↓reduceIte,rA,rS,rE,rL,reduceCtorEq]
  clear hs h0 h6 h7 hha hh6 h2 hh7 hnx2
  rintro i s ⟨hi,b,h,hs,⟨h0,h6,h7,hha,hh6⟩,h9,X,Y,hh7,hX,hY⟩
  obtain ⟨l1,l2,l3,l4⟩:=sound_len hs
  have hl : h.ts.length < 1000000:=by omega
  have hn : h.t.nodes.length < 1000000:=by omega
  simp -implicitDefEqProofs (disch:=omega) only [h0,h6,h7,h9,hha,hh6,hh7,hX,hY,go_sem,↓reduceIte,rA,rS,rE,rL,reduceCtorEq]
  refine wp_if_d (fun hgt=>?_) (fun hle=>?_)
  ·obtain ⟨i',rfl⟩ : ∃ i',i = i' + 1:=⟨i - 1,by omega⟩
   rw [exec_skip,wp_some,thenE_normal]
   refine wp_cutN (Mid L (i' + 1) fzE) (wp_blk (M:=Mid L (i' + 1) fzE) ?_) ?_
   ·have hgr:=group_eq L b h.t hL hn
    generalize (groupD L b h.t.nodes).1 = g at hgr
    generalize (groupD L b h.t.nodes).2 = b1 at hgr
    refine wp_cutN (MidP L (i' + 1) h g) ?_ ?_
    ·simp -implicitDefEqProofs (disch:=omega) only [h0,h6,h7,h9,hha,hh6,hh7,hX,hY,hgr,go_sem,↓reduceIte,rA,rS,rE,rL,reduceCtorEq]
     refine ⟨b1,?_⟩
     unfold Env6 BoxP
     simp -implicitDefEqProofs (disch:=omega) only [h0,h6,h7,h9,hha,hh6,hh7,hX,hY,go_sem,↓reduceIte,rA,rS,rE,rL,reduceCtorEq]
    clear h0 h6 h7 hha hh6 h9 X Y hh7 hX hY hgr
    rintro s ⟨b2,⟨h0,h6,h7,hha,hh6⟩,h9,h10,hh7⟩
    unfold BoxP at hh7
    obtain ⟨e,he,hadm⟩:=admits_ok h g hl hn
    by_cases he0 : e = 0
    rotate_left
    ·simp -implicitDefEqProofs (disch:=omega) only [h0,h6,h7,h9,h10,hha,hh6,hh7,he,he0,go_sem,↓reduceIte,rA,rS,rE,rL,reduceCtorEq]
     refine ⟨b2,h,hs,?_⟩
     unfold Env6 BoxH
     simp -implicitDefEqProofs (disch:=omega) only [h0,h6,h7,h9,hha,hh6,hh7,go_sem,↓reduceIte,rA,rS,rE,rL,reduceCtorEq]
     first | refine ⟨_,_,hh7,?_,?_⟩ | refine ⟨_,_,rfl,?_,?_⟩
     ·simp -implicitDefEqProofs (disch:=omega) only [go_sem,↓reduceIte,rA,rS,rE,rL,reduceCtorEq]
     ·simp -implicitDefEqProofs (disch:=omega) only [go_sem,↓reduceIte,rA,rS,rE,rL,reduceCtorEq]
    subst he0
    have ha:=hadm rfl
    refine wp_cutN (MidP L (i' + 1) h g) ?_ ?_
    ·simp -implicitDefEqProofs (disch:=omega) only [h0,h6,h7,h9,h10,hha,hh6,hh7,he,go_sem,↓reduceIte,rA,rS,rE,rL,reduceCtorEq]
     refine ⟨b2,?_⟩
     unfold Env6 BoxP
     simp -implicitDefEqProofs (disch:=omega) only [h0,h6,h7,h9,h10,hha,hh6,hh7,go_sem,↓reduceIte,rA,rS,rE,rL,reduceCtorEq]
    clear h0 h6 h7 hha hh6 h9 h10 hh7 he hadm
    rintro s ⟨b,⟨h0,h6,h7,hha,hh6⟩,h9,h10,hh7⟩
    unfold BoxP at hh7
    refine wp_cutN (Mid L (i' + 1) [58]) ?_ ?_
    ·have h3:=next_eq L b 3 hL (by omega)
     have o0:=nextV_nonneg L b 3
     have o1:=nextV_lt L b (n:=3) (by omega)
     generalize nextV L b 3 = u at h3 o0 o1
     generalize nextA L b 3 = b1 at h3
     rcases rspawn_cases h g u (by omega) hl hn with ⟨_,_,_,_,hf,hsp⟩ | ⟨e,he,hsp⟩
     ·have hs':=spawn_sound ha hf o0 (by omega)
      generalize addH h ⟨0,0,g,u⟩ = h' at hsp hs'
      have ht1 : List.take h'.t.nodes.length (h'.t.nodes.map Nd.pv) = h'.t.nodes.map Nd.pv:=ltl (by simp)
      have ht2 : List.take h'.ts.length (h'.ts.map Tk.pv) = h'.ts.map Tk.pv:=ltl (by simp)
      simp -implicitDefEqProofs (disch:=omega) only [h0,h6,h7,h9,h10,hha,hh6,hh7,h3,hsp,ht1,ht2,go_sem,↓reduceIte,rA,rS,rE,rL,reduceCtorEq]
      refine ⟨b1,h',hs',?_⟩
      unfold Env6 BoxH
      simp -implicitDefEqProofs (disch:=omega) only [h0,h6,h7,h9,hha,hh6,hh7,go_sem,↓reduceIte,rA,rS,rE,rL,reduceCtorEq]
      refine ⟨_,_,rfl,?_,?_⟩
      .simp -implicitDefEqProofs (disch:=omega) only [ht1,go_sem,↓reduceIte,rA,rS,rE,rL,reduceCtorEq]
      .simp -implicitDefEqProofs (disch:=omega) only [ht2,go_sem,↓reduceIte,rA,rS,rE,rL,reduceCtorEq]
     ·simp -implicitDefEqProofs (disch:=omega) only [h0,h6,h7,h9,h10,hha,hh6,hh7,h3,hsp,he,go_sem,↓reduceIte,rA,rS,rE,rL,reduceCtorEq]
      refine ⟨b1,h,hs,?_⟩
      unfold Env6 BoxH
      simp -implicitDefEqProofs (disch:=omega) only [h0,h6,h7,h9,hha,hh6,hh7,go_sem,↓reduceIte,rA,rS,rE,rL,reduceCtorEq]
      first | refine ⟨_,_,hh7,?_,?_⟩ | refine ⟨_,_,rfl,?_,?_⟩
      .simp -implicitDefEqProofs (disch:=omega) only [go_sem,↓reduceIte,rA,rS,rE,rL,reduceCtorEq]
      .simp -implicitDefEqProofs (disch:=omega) only [go_sem,↓reduceIte,rA,rS,rE,rL,reduceCtorEq]
    clear h0 h6 h7 hha hh6 h9 h10 hh7 ha hs l1 l2 l3 l4 hl hn h b
    rintro s ⟨b,h,hs,⟨h0,h6,h7,hha,hh6⟩,h9,X,Y,hh7,hX,hY⟩
    refine wp_cutN (Mid L (i' + 1) [72]) ?_ ?_
    ·obtain ⟨l1,l2,l3,l4⟩:=sound_len hs
     have hl : h.ts.length < 1000000:=by omega
     have hn : h.t.nodes.length < 1000000:=by omega
     have hb:=bool_eq L b 3 hL (by omega) (by omega)
     generalize nextA L b 3 = b1 at hb
     generalize decide (nextV L b 3 = 3 - 1) = bo at hb
     cases bo
     ·simp -implicitDefEqProofs (disch:=omega) only [h0,h6,h7,h9,hha,hh6,hh7,hX,hY,hb,go_sem,↓reduceIte,rA,rS,rE,rL,reduceCtorEq]
      refine ⟨b1,h,hs,?_⟩
      unfold Env6 BoxH
      simp -implicitDefEqProofs (disch:=omega) only [h0,h6,h7,h9,hha,hh6,hh7,hX,hY,go_sem,↓reduceIte,rA,rS,rE,rL,reduceCtorEq]
      refine ⟨_,_,rfl,?_,?_⟩
      .simp -implicitDefEqProofs (disch:=omega) only [go_sem,↓reduceIte,rA,rS,rE,rL,reduceCtorEq]
      .simp -implicitDefEqProofs (disch:=omega) only [go_sem,↓reduceIte,rA,rS,rE,rL,reduceCtorEq]
     obtain ⟨id,b2,htk⟩:=dtask_ok L b1 h hL hl hn
     rcases rclone_cases h id (by omega) hl hn with ⟨x,_,hx,hf,hcl⟩ | ⟨e,he,hcl⟩
     ·have hs':=clone_sound hs hx hf
      generalize addH h x = h' at hcl hs'
      have ht1 : List.take h'.t.nodes.length (h'.t.nodes.map Nd.pv) = h'.t.nodes.map Nd.pv:=ltl (by simp)
      have ht2 : List.take h'.ts.length (h'.ts.map Tk.pv) = h'.ts.map Tk.pv:=ltl (by simp)
      simp -implicitDefEqProofs (disch:=omega) only [h0,h6,h7,h9,hha,hh6,hh7,hX,hY,hb,htk,hcl,ht1,ht2,go_sem,↓reduceIte,rA,rS,rE,rL,reduceCtorEq]
      refine ⟨b2,h',hs',?_⟩
      unfold Env6 BoxH
      simp -implicitDefEqProofs (disch:=omega) only [h0,h6,h7,h9,hha,hh6,hh7,hX,hY,go_sem,↓reduceIte,rA,rS,rE,rL,reduceCtorEq]
      refine ⟨_,_,rfl,?_,?_⟩
      .simp -implicitDefEqProofs (disch:=omega) only [ht1,go_sem,↓reduceIte,rA,rS,rE,rL,reduceCtorEq]
      .simp -implicitDefEqProofs (disch:=omega) only [ht2,go_sem,↓reduceIte,rA,rS,rE,rL,reduceCtorEq]
     ·simp -implicitDefEqProofs (disch:=omega) only [h0,h6,h7,h9,hha,hh6,hh7,hX,hY,hb,htk,hcl,he,go_sem,↓reduceIte,rA,rS,rE,rL,reduceCtorEq]
      refine ⟨b2,h,hs,?_⟩
      unfold Env6 BoxH
      simp -implicitDefEqProofs (disch:=omega) only [h0,h6,h7,h9,hha,hh6,hh7,hX,hY,go_sem,↓reduceIte,rA,rS,rE,rL,reduceCtorEq]
      refine ⟨_,_,rfl,?_,?_⟩
      .simp -implicitDefEqProofs (disch:=omega) only [go_sem,↓reduceIte,rA,rS,rE,rL,reduceCtorEq]
      .simp -implicitDefEqProofs (disch:=omega) only [go_sem,↓reduceIte,rA,rS,rE,rL,reduceCtorEq]
    clear h0 h6 h7 hha hh6 h9 X Y hh7 hX hY hs h b
    rintro s ⟨b,h,hs,⟨h0,h6,h7,hha,hh6⟩,h9,X,Y,hh7,hX,hY⟩
    refine wp_cutN (Mid L (i' + 1) [90]) ?_ ?_
    ·obtain ⟨l1,l2,l3,l4⟩:=sound_len hs
     have hl : h.ts.length < 1000000:=by omega
     have hn : h.t.nodes.length < 1000000:=by omega
     have hb:=bool_eq L b 4 hL (by omega) (by omega)
     generalize nextA L b 4 = b1 at hb
     generalize decide (nextV L b 4 = 4 - 1) = bo at hb
     cases bo
     ·simp -implicitDefEqProofs (disch:=omega) only [h0,h6,h7,h9,hha,hh6,hh7,hX,hY,hb,go_sem,↓reduceIte,rA,rS,rE,rL,reduceCtorEq]
      refine ⟨b1,h,hs,?_⟩
      unfold Env6 BoxH
      simp -implicitDefEqProofs (disch:=omega) only [h0,h6,h7,h9,hha,hh6,hh7,hX,hY,go_sem,↓reduceIte,rA,rS,rE,rL,reduceCtorEq]
      refine ⟨_,_,rfl,?_,?_⟩
      .simp -implicitDefEqProofs (disch:=omega) only [go_sem,↓reduceIte,rA,rS,rE,rL,reduceCtorEq]
      .simp -implicitDefEqProofs (disch:=omega) only [go_sem,↓reduceIte,rA,rS,rE,rL,reduceCtorEq]
     obtain ⟨id,b2,htk⟩:=dtask_ok L b1 h hL hl hn
     have hgr:=group_eq L b2 h.t hL hn
     generalize (groupD L b2 h.t.nodes).1 = g at hgr
     generalize (groupD L b2 h.t.nodes).2 = b3 at hgr
     obtain ⟨r,hr,hres⟩:=attach_ok h id g hl hn
     have hA:=V_fix (f:=50) (vf:=vf50) rfl hr
     rcases hres with ⟨h',rfl,ha,he'⟩ | ⟨e,he,rfl⟩
     ·have hs' : soundR h' = true:=by rw [he']; exact move_sound ha
      clear he'
      have ht1 : List.take h'.t.nodes.length (h'.t.nodes.map Nd.pv) = h'.t.nodes.map Nd.pv:=ltl (by simp)
      have ht2 : List.take h'.ts.length (h'.ts.map Tk.pv) = h'.ts.map Tk.pv:=ltl (by simp)
      simp -implicitDefEqProofs (disch:=omega) only [h0,h6,h7,h9,hha,hh6,hh7,hX,hY,hb,htk,hgr,hA,ht1,ht2,go_sem,↓reduceIte,rA,rS,rE,rL,reduceCtorEq]
      refine ⟨b3,h',hs',?_⟩
      unfold Env6 BoxH
      simp -implicitDefEqProofs (disch:=omega) only [h0,h6,h7,h9,hha,hh6,hh7,hX,hY,go_sem,↓reduceIte,rA,rS,rE,rL,reduceCtorEq]
      refine ⟨_,_,rfl,?_,?_⟩
      .simp -implicitDefEqProofs (disch:=omega) only [ht1,go_sem,↓reduceIte,rA,rS,rE,rL,reduceCtorEq]
      .simp -implicitDefEqProofs (disch:=omega) only [ht2,go_sem,↓reduceIte,rA,rS,rE,rL,reduceCtorEq]
     ·simp -implicitDefEqProofs (disch:=omega) only [h0,h6,h7,h9,hha,hh6,hh7,hX,hY,hb,htk,hgr,hA,he,go_sem,↓reduceIte,rA,rS,rE,rL,reduceCtorEq]
      refine ⟨b3,h,hs,?_⟩
      unfold Env6 BoxH
      simp -implicitDefEqProofs (disch:=omega) only [h0,h6,h7,h9,hha,hh6,hh7,hX,hY,go_sem,↓reduceIte,rA,rS,rE,rL,reduceCtorEq]
      refine ⟨_,_,rfl,?_,?_⟩
      .simp -implicitDefEqProofs (disch:=omega) only [go_sem,↓reduceIte,rA,rS,rE,rL,reduceCtorEq]
      .simp -implicitDefEqProofs (disch:=omega) only [go_sem,↓reduceIte,rA,rS,rE,rL,reduceCtorEq]
    clear h0 h6 h7 hha hh6 h9 X Y hh7 hX hY hs h b
    rintro s ⟨b,h,hs,⟨h0,h6,h7,hha,hh6⟩,h9,X,Y,hh7,hX,hY⟩
    obtain ⟨l1,l2,l3,l4⟩:=sound_len hs
    have hl : h.ts.length < 1000000:=by omega
    have hn : h.t.nodes.length < 1000000:=by omega
    have hb:=bool_eq L b 8 hL (by omega) (by omega)
    generalize nextA L b 8 = b1 at hb
    generalize decide (nextV L b 8 = 8 - 1) = bo at hb
    cases bo
    ·simp -implicitDefEqProofs (disch:=omega) only [h0,h6,h7,h9,hha,hh6,hh7,hX,hY,hb,go_sem,↓reduceIte,rA,rS,rE,rL,reduceCtorEq]
     refine ⟨b1,h,hs,?_⟩
     unfold Env6 BoxH
     simp -implicitDefEqProofs (disch:=omega) only [h0,h6,h7,h9,hha,hh6,hh7,hX,hY,go_sem,↓reduceIte,rA,rS,rE,rL,reduceCtorEq]
     refine ⟨_,_,rfl,?_,?_⟩
     .simp -implicitDefEqProofs (disch:=omega) only [go_sem,↓reduceIte,rA,rS,rE,rL,reduceCtorEq]
     .simp -implicitDefEqProofs (disch:=omega) only [go_sem,↓reduceIte,rA,rS,rE,rL,reduceCtorEq]
    obtain ⟨id,b2,htk⟩:=dtask_ok L b1 h hL hl hn
    rcases rexit_cases h id (sound_memOk hs) hl hn with hex | ⟨e,he,hex⟩
    ·have hs':=exit_sound hs id
     generalize hh' : (⟨h.t,exitL id h.ts,h.next⟩ : Hy) = h' at hex hs'
     have ht1 : List.take h'.t.nodes.length (h'.t.nodes.map Nd.pv) = h'.t.nodes.map Nd.pv:=ltl (by simp)
     have ht2 : List.take h'.ts.length (h'.ts.map Tk.pv) = h'.ts.map Tk.pv:=ltl (by simp)
     simp -implicitDefEqProofs (disch:=omega) only [h0,h6,h7,h9,hha,hh6,hh7,hX,hY,hb,htk,hex,ht1,ht2,go_sem,↓reduceIte,rA,rS,rE,rL,reduceCtorEq]
     refine ⟨b2,h',hs',?_⟩
     unfold Env6 BoxH
     simp -implicitDefEqProofs (disch:=omega) only [h0,h6,h7,h9,hha,hh6,hh7,hX,hY,go_sem,↓reduceIte,rA,rS,rE,rL,reduceCtorEq]
     refine ⟨_,_,rfl,?_,?_⟩
     .simp -implicitDefEqProofs (disch:=omega) only [ht1,go_sem,↓reduceIte,rA,rS,rE,rL,reduceCtorEq]
     .simp -implicitDefEqProofs (disch:=omega) only [ht2,go_sem,↓reduceIte,rA,rS,rE,rL,reduceCtorEq]
    ·simp -implicitDefEqProofs (disch:=omega) only [h0,h6,h7,h9,hha,hh6,hh7,hX,hY,hb,htk,hex,he,go_sem,↓reduceIte,rA,rS,rE,rL,reduceCtorEq]
     refine ⟨b2,h,hs,?_⟩
     unfold Env6 BoxH
     simp -implicitDefEqProofs (disch:=omega) only [h0,h6,h7,h9,hha,hh6,hh7,hX,hY,go_sem,↓reduceIte,rA,rS,rE,rL,reduceCtorEq]
     refine ⟨_,_,rfl,?_,?_⟩
     .simp -implicitDefEqProofs (disch:=omega) only [go_sem,↓reduceIte,rA,rS,rE,rL,reduceCtorEq]
     .simp -implicitDefEqProofs (disch:=omega) only [go_sem,↓reduceIte,rA,rS,rE,rL,reduceCtorEq]
   ·clear h0 h6 h7 hha hh6 h9 hh7 hX hY hs l1 l2 l3 l4 hl hn X Y h b
    rintro s ⟨b,h,hs,⟨h0,h6,h7,hha,hh6⟩,h9,X,Y,hh7,hX,hY⟩
    simp -implicitDefEqProofs (disch:=omega) only [h0,h6,h7,h9,hha,hh6,hh7,hX,hY,go_sem,↓reduceIte,rA,rS,rE,rL,reduceCtorEq]
    refine ⟨i',Nat.lt_succ_self _,by omega,b,h,hs,?_⟩
    unfold Env6 BoxH
    simp -implicitDefEqProofs (disch:=omega) only [h0,h6,h7,h9,hha,hh6,hh7,hX,hY,go_sem,↓reduceIte,rA,rS,rE,rL,reduceCtorEq]
    refine ⟨by congr 2; omega,?_⟩
    first | refine ⟨_,_,hh7,?_,?_⟩ | refine ⟨_,_,rfl,?_,?_⟩
    .simp -implicitDefEqProofs (disch:=omega) only [hX,go_sem,↓reduceIte,rA,rS,rE,rL,reduceCtorEq]
    .simp -implicitDefEqProofs (disch:=omega) only [hY,go_sem,↓reduceIte,rA,rS,rE,rL,reduceCtorEq]
  ·simp -implicitDefEqProofs (disch:=omega) only [h0,h6,h7,h9,hha,hh6,hh7,hX,hY,go_sem,↓reduceIte,rA,rS,rE,rL,reduceCtorEq]
   exact ⟨h,b,rfl,hs⟩
def eachL (m : Nat) : List Int:=(([0,1,2,3,4] : List Nat).filter fun k=>m.testBit k).map fun k=>((2 ^ k : Nat) : Int)
def wordS (c : Int) : ByteArray:=if c = 1 then ⟨#[99,112,117]⟩ else if c = 2 then ⟨#[109,101,109,111,114,121]⟩ else if c = 4 then ⟨#[105,111]⟩ else if c = 8 then ⟨#[112,105,100,115]⟩ else ⟨#[99,112,117,115,101,116]⟩
abbrev namesL (m : Nat) : List ByteArray:=(eachL m).map wordS
theorem tabA : ∀ m : Fin 32,andI .i64 (m.val : Nat) 31 = (m.val : Nat) /\ IntKind.u64.wrap (m.val : Nat) = (m.val : Nat) /\ antI .i64 31 (m.val : Nat) = ((31 - m.val : Nat) : Int):=by decide +kernel
theorem tabB : ∀ m : Fin 32,m.val ≠ 0 -> eachL m.val = ((2 ^ Lib.ctz 64 m.val : Nat) : Int) :: eachL (m.val &&& (m.val - 1)) /\ m.val &&& (m.val - 1) < m.val /\ IntKind.u64.wrap ((m.val : Nat) - 1) = ((m.val - 1 : Nat) : Int) /\ andI .u64 (m.val : Nat) ((m.val - 1 : Nat) : Int) = ((m.val &&& (m.val - 1) : Nat) : Int) /\
  shlI .i64 1 ((Lib.ctz 64 m.val : Nat) : Int) = ((2 ^ Lib.ctz 64 m.val : Nat) : Int):=by decide +kernel
set_option maxHeartbeats 1000000 in
theorem each_eq (m : Nat) (hm : m < 32) : V 80 [.p (.int .i64 m)] [] = some (.fresh 1 ((eachL m).map (.int .i64)),[]):=by
 refine V_wp (vf:=vf80) rfl ?_
 obtain ⟨a1,a2,_⟩:=tabA ⟨m,hm⟩
 simp only at a1 a2
 simp -implicitDefEqProofs (disch:=omega) only [vf80,vb80,a1,a2,go_sem,↓reduceIte,rA,rS,rE,rL,reduceCtorEq]
 obtain ⟨R,hR⟩ : ∃ I : Nat -> St -> Prop,∀ r s,I r s ↔ ∃ (acc : List Int) (w : Nat),r < 32 /\ eachL m = acc ++ eachL r /\ acc.length + r <= 32 /\ s.pe 3 = .own (.slot 3 0) w 0 acc.length /\ s.pe 4 = .p (.int .u64 r) /\ s.h (.slot 3 0) = some (w,Ob.arr 1 (acc.map (.int .i64))):=⟨_,fun _ _=>Iff.rfl⟩
 refine wp_meas R id (m) ?_ ?_
 ·refine (hR _ _).2 ⟨[],0,?_,?_,?_,?_,?_,?_⟩
  .exact hm
  .rfl
  .exact by simp; omega
  all_goals exact cl0
 intro r s hRk
 obtain ⟨acc,w,hb,ha,hl,h3,h4,hh3_0⟩:=(hR _ _).1 hRk
 clear hRk
 by_cases hb0 : r = 0
 ·subst hb0
  have e : eachL 0 = []:=by decide
  rw [e,lan] at ha
  subst ha
  simp -implicitDefEqProofs (disch:=omega) only [h3,h4,hh3_0,Int.natCast_zero,go_sem,↓reduceIte,rA,rS,rE,rL,reduceCtorEq]
  all_goals rw [ltl (by simp)]
 ·have hz : ¬ (r : Int) = 0:=by omega
  obtain ⟨b1,b2,b3,b4,b5⟩:=tabB ⟨r,hb⟩ hb0
  simp only at b1 b2 b3 b4 b5
  have ht:=tz_x (n:=(r : Int)) (by omega) (by omega)
  rw [Int.toNat_natCast] at ht
  have hc0 : (0 : Int) <= (Lib.ctz 64 r : Nat):=Int.natCast_nonneg _
  rw [b1,List.append_cons] at ha
  generalize ((2 ^ Lib.ctz 64 r : Nat) : Int) = c at b5 ha
  generalize r &&& (r - 1) = r' at b2 b4 ha
  generalize Lib.ctz 64 r = z at ht b5 hc0
  have htk : List.take acc.length (acc.map (PV.int .i64)) = acc.map (PV.int .i64):=ltl (by simp)
  clear b1
  simp -implicitDefEqProofs (disch:=omega) only [h3,h4,hh3_0,hz,ht,b3,b4,b5,hc0,htk,go_sem,↓reduceIte,rA,rS,rE,rL,reduceCtorEq]
  refine ⟨r',by simp only [id]; omega,(hR _ _).2 ⟨acc ++ [c],w + 1,?_,?_,?_,?_,?_,?_⟩⟩
  .omega
  .exact ha
  .exact by simp; omega
  all_goals exact cl0
theorem word_eq (c : Int) : V 81 [.p (.int .i64 c)] [] = some (.p (.str (wordS c)),[]):=by
 refine V_wp (vf:=vf81) rfl ?_
 unfold wordS
 have f1 : ¬ (2 : Int) = 1:=by decide
 have f2 : ¬ (4 : Int) = 1:=by decide
 have f3 : ¬ (4 : Int) = 2:=by decide
 have f4 : ¬ (8 : Int) = 1:=by decide
 have f5 : ¬ (8 : Int) = 2:=by decide
 have f6 : ¬ (8 : Int) = 4:=by decide
 by_cases h1 : c = 1
 ·subst h1
  simp -implicitDefEqProofs (disch:=omega) only [vf81,vb81,go_sem,↓reduceIte,rA,rS,rE,rL,reduceCtorEq]
 ·by_cases h2 : c = 2
  ·subst h2
   simp -implicitDefEqProofs (disch:=omega) only [vf81,vb81,f1,go_sem,↓reduceIte,rA,rS,rE,rL,reduceCtorEq]
  ·by_cases h4 : c = 4
   ·subst h4
    simp -implicitDefEqProofs (disch:=omega) only [vf81,vb81,f2,f3,go_sem,↓reduceIte,rA,rS,rE,rL,reduceCtorEq]
   ·by_cases h8 : c = 8
    ·subst h8
     simp -implicitDefEqProofs (disch:=omega) only [vf81,vb81,f4,f5,f6,go_sem,↓reduceIte,rA,rS,rE,rL,reduceCtorEq]
    .simp -implicitDefEqProofs (disch:=omega) only [vf81,vb81,h1,h2,h4,h8,go_sem,↓reduceIte,rA,rS,rE,rL,reduceCtorEq]
theorem eachL_len : ∀ m : Fin 32,(eachL m.val).length <= 5:=by decide +kernel
theorem wordS_size (c : Int) : (wordS c).size <= 6:=by
 unfold wordS
 repeat' split
 all_goals decide
theorem take_snoc7 {α : Type} {l : List α} {k : Nat} {x : α} (h : l[k]? = some x) : l.take (k + 1) = l.take k ++ [x]:=by
 rw [List.take_add_one,h]
 rfl
abbrev spB : ByteArray:=⟨#[32]⟩
set_option maxHeartbeats 1000000 in
theorem names_eq (m : Nat) (hm : m < 32) : V 83 [.p (.int .i64 m)] [] = some (.fresh 1 ((namesL m).map PV.str),[]):=by
 refine V_wp (vf:=vf83) rfl ?_
 have h1:=each_eq m hm
 have hl:=eachL_len ⟨m,hm⟩
 simp only at hl
 unfold namesL
 generalize eachL m = l at h1 hl ⊢
 simp -implicitDefEqProofs (disch:=omega) only [vf83,vb83,h1,go_sem,↓reduceIte,rA,rS,rE,rL,reduceCtorEq]
 obtain ⟨I,hI⟩ : ∃ I : Nat -> St -> Prop,∀ k s,I k s ↔ ∃ (w : Nat),s.pe 3 = .own (.slot 3 0) w 0 k /\ s.pe 7 = .own (.slot 7 1) 0 0 l.length /\ s.pe 8 = .p (.int .i64 l.length) /\ s.pe 9 = .p (.int .i64 k) /\ s.h (.slot 3 0) = some (w,Ob.arr 1 (((l.take k).map wordS).map PV.str)) /\ s.h (.slot 7 1) = some (0,Ob.arr 1 (l.map (.int .i64))):=⟨_,fun _ _=>Iff.rfl⟩
 refine wp_count (l.length) I ?_ ?_
 ·refine (hI _ _).2 ⟨0,?_,?_,?_,?_,?_,?_⟩
  all_goals exact cl0
 intro k s hk hIk
 obtain ⟨w,h3,h7,h8,h9,hh3_0,hh7_1⟩:=(hI _ _).1 hIk
 clear hIk
 simp -implicitDefEqProofs (disch:=omega) only [h3,h7,h8,h9,hh3_0,hh7_1,go_sem,↓reduceIte,rA,rS,rE,rL,reduceCtorEq]
 refine wp_if_d (fun hlt=>?_) (fun hge=>?_)
 ·have hc : l[k]? = some l[k]:=lgg (by omega)
  have htk:=take_snoc7 hc
  generalize l[k] = c at hc htk
  have hw:=word_eq c
  have ht3 : List.take k (((l.take k).map wordS).map PV.str) = ((l.take k).map wordS).map PV.str:=ltl (by simp; omega)
  have ht4 : ((l.take (k + 1)).map wordS).map PV.str = ((l.take k).map wordS).map PV.str ++ [PV.str (wordS c)]:=by rw [htk]; simp
  simp -implicitDefEqProofs (disch:=omega) only [h3,h7,h8,h9,hh3_0,hh7_1,hlt,hc,hw,ht3,go_sem,↓reduceIte,rA,rS,rE,rL,reduceCtorEq]
  try refine And.intro (by omega) ?_
  refine (hI _ _).2 ⟨w + 1,?_,?_,?_,?_,?_,?_⟩
  all_goals exact cl0
 ·have hk : k = l.length:=by omega
  subst hk
  rw [List.take_length] at hh3_0
  have ht : List.take l.length ((l.map wordS).map PV.str) = (l.map wordS).map PV.str:=ltl (by simp)
  simp -implicitDefEqProofs (disch:=omega) only [h3,h7,h8,h9,hh3_0,hh7_1,hge,ht,go_sem,↓reduceIte,rA,rS,rE,rL,reduceCtorEq]
theorem join_len (xs : List ByteArray) (h : ∀ x ∈ xs,x.size <= 6) (hl : xs.length <= 5) : (Lib.join (xs.map (·.data.toList)) spB.data.toList).length <= 140737488355328:=by
 cases xs with
 | nil=>exact Nat.zero_le _
 | cons x r =>
  rw [lpc,Lib.join_cons,lla,Lib.joinTail_length,llm]
  have h1 : x.data.toList.length <= 6:=h x (lms ..)
  have h2 : ∀ r : List ByteArray,(∀ x ∈ r,x.size <= 6) -> Lib.lens (r.map (·.data.toList)) <= 6 * r.length:=by
   intro r
   induction r with
   | nil=>simp [Lib.lens]
   | cons y r ih =>
    intro hr
    have:=ih fun z hz=>hr z (lmc _ hz)
    have h3 : y.data.toList.length <= 6:=hr y (lms ..)
    simp only [Lib.lens,lpc,List.sum_cons,llc] at this ⊢
    omega
  have h3:=h2 r fun z hz=>h z (lmc _ hz)
  have h4 : spB.data.toList.length = 1:=rfl
  rw [h4]
  rw [llc] at hl
  omega
theorem format_eq (m : Nat) (hm : m < 32) : V 41 [.p (.int .i64 m)] [] = some (.p (.str (joinS (namesL m) spB)),[]):=by
 refine V_wp (vf:=vf41) rfl ?_
 have h1:=names_eq m hm
 have hl : (namesL m).length <= 5:=by simpa using eachL_len ⟨m,hm⟩
 have hj:=join_len (namesL m) (fun x hx=>by obtain ⟨c,_,rfl⟩:=lmm.1 hx; exact wordS_size c) hl
 have h2:=join_x (ss:=namesL m) (sep:=spB) (by omega) hj
 generalize namesL m = l at h1 h2 ⊢
 have ht : List.take l.length (l.map PV.str) = l.map PV.str:=ltl (by simp)
 simp -implicitDefEqProofs (disch:=omega) only [vf41,vb41,h1,h2,ht,go_sem,↓reduceIte,rA,rS,rE,rL,reduceCtorEq]
abbrev plusB (c : Int) : ByteArray:=⟨#[43]⟩ ++ wordS c
abbrev minusB (c : Int) : ByteArray:=⟨#[45]⟩ ++ wordS c
def signW (w : ByteArray) : List Int -> Option (Int × Bool)
 | []=>none
 | c :: cs=>if w = plusB c then some (c,true) else if w = minusB c then some (c,false) else signW w cs
def stepW (s : Int × Int) (q : Int × Bool) : Int × Int:=if q.2 then (orI .i64 s.1 q.1,antI .i64 s.2 q.1) else (antI .i64 s.1 q.1,orI .i64 s.2 q.1)
def parseW : List ByteArray -> Int × Int -> Option (Int × Int)
 | [],s=>some s
 | w :: ws,s=>if w = ⟨#[]⟩ then parseW ws s else match signW w [1,2,4,8,16] with
  | none=>none
  | some q=>parseW ws (stepW s q)
def parseR : Option (Int × Int) -> VVal
 | some r=>.tup [.p (.int .i64 r.1),.p (.int .i64 r.2),.p (.int .i64 0)]
 | none=>.tup [.p (.int .i64 0),.p (.int .i64 0),.p (.int .i64 2)]
theorem eachL_31 : eachL 31 = [1,2,4,8,16]:=by decide +kernel
set_option maxHeartbeats 4000000 in
theorem parse_eq (s : ByteArray) (hs : s.size < 4294967281) : V 40 [.p (.str s)] [] = some (parseR (parseW (splitS s spB) (0,0)),[]):=by
 refine V_wp (vf:=vf40) rfl ?_
 have h1:=split_x (sep:=spB) hs (by decide)
 have h2 : V 80 [.p (.int .i64 31)] [] = some (.fresh 1 ((eachL 31).map (.int .i64)),[]):=each_eq 31 (by omega)
 rw [eachL_31] at h2
 simp only [lpc,lpn] at h2
 have hlen : (splitS s spB).length <= 4294967281:=by
  have e1:=Lib.splitB_all spB (by decide) 0 _ s rfl
  have e2:=Lib.countB_le spB (by decide) s.size s (lrf _)
  show (Lib.splitB spB 0 (Lib.countB s spB) s).length <= _
  omega
 generalize splitS s spB = ws at h1 hlen ⊢
 simp -implicitDefEqProofs (disch:=omega) only [vf40,vb40,h1,go_sem,↓reduceIte,rA,rS,rE,rL,reduceCtorEq]
 obtain ⟨I,hI⟩ : ∃ I : Nat -> St -> Prop,∀ k s,I k s ↔ ∃ (st : Int × Int),parseW ws (0,0) = parseW (ws.drop k) st /\ s.pe 5 = .p (.int .i64 st.1) /\ s.pe 6 = .p (.int .i64 st.2) /\ s.pe 12 = .own (.slot 12 1) 0 0 ws.length /\ s.pe 13 = .p (.int .i64 ↑ws.length) /\ s.pe 14 = .p (.int .i64 k) /\ s.h (.slot 12 1) = some (0,Ob.arr 1 (List.map PV.str ws)):=⟨_,fun _ _=>Iff.rfl⟩
 refine wp_count (ws.length) I ?_ ?_
 ·refine (hI _ _).2 ⟨(0,0),?_,?_,?_,?_,?_,?_,?_⟩
  ·rfl
  all_goals exact cl0
 intro k s hk hIk
 obtain ⟨st,hp,h5,h6,h12,h13,h14,hh12_1⟩:=(hI _ _).1 hIk
 clear hIk
 simp -implicitDefEqProofs (disch:=omega) only [h5,h6,h12,h13,h14,hh12_1,go_sem,↓reduceIte,rA,rS,rE,rL,reduceCtorEq]
 refine wp_if_d (fun hlt=>?_) (fun hge=>?_)
 ·have hc : ws[k]? = some ws[k]:=lgg (by omega)
  have hdr : ws.drop k = ws[k] :: ws.drop (k + 1):=ldg (by omega)
  generalize ws[k] = x at hc hdr
  rw [hdr] at hp
  by_cases he : x = ⟨#[]⟩
  ·have hd : decide (x = ⟨#[]⟩) = true:=decide_eq_true he
   simp only [parseW,if_pos he] at hp
   simp -implicitDefEqProofs (disch:=omega) only [h5,h6,h12,h13,h14,hh12_1,hlt,hc,hd,go_sem,↓reduceIte,rA,rS,rE,rL,reduceCtorEq]
   try refine And.intro (by omega) ?_
   refine (hI _ _).2 ⟨st,?_,?_,?_,?_,?_,?_,?_⟩
   ·exact hp
   all_goals exact cl0
  ·have hd : decide (x = ⟨#[]⟩) = false:=decide_eq_false he
   simp only [parseW,if_neg he] at hp
   generalize hsg : signW x [1,2,4,8,16] = q0 at hp
   simp -implicitDefEqProofs (disch:=omega) only [h5,h6,h12,h13,h14,hh12_1,hlt,hc,hd,h2,go_sem,↓reduceIte,rA,rS,rE,rL,reduceCtorEq]
   obtain ⟨J,hJ⟩ : ∃ I : Nat -> St -> Prop,∀ j s,I j s ↔ ∃ (v20_1 : Nat),q0 = signW x (([1,2,4,8,16] : List Int).drop j) /\ s.pe 5 = .p (.int .i64 st.fst) /\ s.pe 6 = .p (.int .i64 st.snd) /\ s.pe 8 = .p (PV.str x) /\ s.pe 12 = .own (.slot 12 1) 0 0 ws.length /\ s.pe 13 = .p (.int .i64 ↑ws.length) /\ s.pe 14 = .p (.int .i64 ↑k) /\ s.pe 20 = .own (.slot 20 1) v20_1 0 5 /\ s.pe 21 = .p (.int .i64 ↑5) /\ s.pe 22 = .p (.int .i64 j) /\ s.h (.slot 12 1) = some (0,Ob.arr 1 (List.map PV.str ws)) /\ s.h (.slot 20 1) = some (v20_1,Ob.arr 1 [PV.int IntKind.i64 1,PV.int IntKind.i64 2,PV.int IntKind.i64 4,PV.int IntKind.i64 8,PV.int IntKind.i64 16]):=⟨_,fun _ _=>Iff.rfl⟩
   refine wp_count (5) J ?_ ?_
   ·refine (hJ _ _).2 ⟨nv (fzOb [20] s.h (.slot 20 1)),?_,?_,?_,?_,?_,?_,?_,?_,?_,?_,?_,?_⟩
    ·exact hsg.symm
    all_goals exact cl0
   intro j s hj hJk
   obtain ⟨v20_1,hq,h5,h6,h8,h12,h13,h14,h20,h21,h22,hh12_1,hh20_1⟩:=(hJ _ _).1 hJk
   clear hJk
   simp -implicitDefEqProofs (disch:=omega) only [h5,h6,h8,h12,h13,h14,h20,h21,h22,hh12_1,hh20_1,go_sem,↓reduceIte,rA,rS,rE,rL,reduceCtorEq]
   refine wp_if_d (fun hlt2=>?_) (fun hge2=>?_)
   ·obtain ⟨c,hcj,hdj⟩ : ∃ c,([PV.int IntKind.i64 1,PV.int IntKind.i64 2,PV.int IntKind.i64 4,PV.int IntKind.i64 8,PV.int IntKind.i64 16] : List PV)[j]? = some (.int .i64 c) /\ ([1,2,4,8,16] : List Int).drop j = c :: ([1,2,4,8,16] : List Int).drop (j + 1):=by
     have hj5 : j < 5:=by omega
     match j,hj5 with
     | 0,_=>exact ⟨_,rfl,rfl⟩
     | 1,_=>exact ⟨_,rfl,rfl⟩
     | 2,_=>exact ⟨_,rfl,rfl⟩
     | 3,_=>exact ⟨_,rfl,rfl⟩
     | 4,_=>exact ⟨_,rfl,rfl⟩
    rw [hdj] at hq
    simp only [signW] at hq
    have hw:=word_eq c
    have z1 : (⟨#[43]⟩ : ByteArray).size = 1:=rfl
    have z2 : (⟨#[45]⟩ : ByteArray).size = 1:=rfl
    have hws:=wordS_size c
    by_cases hp1 : x = ⟨#[43]⟩ ++ wordS c
    ·have d1 : decide (x = ⟨#[43]⟩ ++ wordS c) = true:=decide_eq_true hp1
     rw [if_pos hp1] at hq
     rw [hq] at hp
     simp -implicitDefEqProofs (disch:=omega) only [h5,h6,h8,h12,h13,h14,h20,h21,h22,hh12_1,hh20_1,hlt2,hcj,hw,d1,go_sem,↓reduceIte,rA,rS,rE,rL,reduceCtorEq]
     try refine And.intro (by omega) ?_
     refine (hI _ _).2 ⟨(orI .i64 st.1 c,antI .i64 st.2 c),?_,?_,?_,?_,?_,?_,?_⟩
     ·exact hp
     all_goals exact cl0
    ·have d1 : decide (x = ⟨#[43]⟩ ++ wordS c) = false:=decide_eq_false hp1
     rw [if_neg hp1] at hq
     by_cases hp2 : x = ⟨#[45]⟩ ++ wordS c
     ·have d2 : decide (x = ⟨#[45]⟩ ++ wordS c) = true:=decide_eq_true hp2
      rw [if_pos hp2] at hq
      rw [hq] at hp
      simp -implicitDefEqProofs (disch:=omega) only [h5,h6,h8,h12,h13,h14,h20,h21,h22,hh12_1,hh20_1,hlt2,hcj,hw,d1,d2,go_sem,↓reduceIte,rA,rS,rE,rL,reduceCtorEq]
      try refine And.intro (by omega) ?_
      refine (hI _ _).2 ⟨(antI .i64 st.1 c,orI .i64 st.2 c),?_,?_,?_,?_,?_,?_,?_⟩
      .exact hp
      all_goals exact cl0
     ·have d2 : decide (x = ⟨#[45]⟩ ++ wordS c) = false:=decide_eq_false hp2
      rw [if_neg hp2] at hq
      simp -implicitDefEqProofs (disch:=omega) only [h5,h6,h8,h12,h13,h14,h20,h21,h22,hh12_1,hh20_1,hlt2,hcj,hw,d1,d2,go_sem,↓reduceIte,rA,rS,rE,rL,reduceCtorEq]
      try refine And.intro (by omega) ?_
      refine (hJ _ _).2 ⟨v20_1,?_,?_,?_,?_,?_,?_,?_,?_,?_,?_,?_,?_⟩
      .exact hq
      all_goals exact cl0
   ·rw [ldl (by simp; omega)] at hq
    simp only [signW] at hq
    rw [hq] at hp
    simp only at hp
    rw [hp]
    unfold parseR
    simp -implicitDefEqProofs (disch:=omega) only [h5,h6,h8,h12,h13,h14,h20,h21,h22,hh12_1,hh20_1,hge2,go_sem,↓reduceIte,rA,rS,rE,rL,reduceCtorEq]
 ·rw [ldl (by omega)] at hp
  simp only [parseW] at hp
  rw [hp]
  unfold parseR
  simp -implicitDefEqProofs (disch:=omega) only [h5,h6,h12,h13,h14,hh12_1,hge,go_sem,↓reduceIte,rA,rS,rE,rL,reduceCtorEq]
theorem ok_sane : parseW (splitS ⟨#[43,99,112,117,32,45,105,111]⟩ spB) (0,0) = some (1,4):=by decide +kernel
theorem ok_format : joinS (namesL 9) spB = ⟨#[99,112,117,32,112,105,100,115]⟩:=by decide +kernel
set_option maxHeartbeats 1000000 in
theorem sane7_eq : V 9 [] [] = some (.p (.bool true),[]):=by
 refine V_wp (vf:=vf9) rfl ?_
 have h1:=parse_eq ⟨#[43,99,112,117,32,45,105,111]⟩ (by decide)
 rw [ok_sane] at h1
 simp only [parseR] at h1
 have h2 : V 41 [.p (.int .i64 9)] [] = some (.p (.str (joinS (namesL 9) spB)),[]):=format_eq 9 (by omega)
 rw [ok_format] at h2
 simp -implicitDefEqProofs (disch:=omega) only [vf9,vb9,h1,h2,go_sem,↓reduceIte,rA,rS,rE,rL,reduceCtorEq]
theorem TreeOk.pos {t : Tr} (h : TreeOk t) : ∀ n ∈ t.nodes,1 <= n.id:=nodesOk_pos t.nodes [] (by simp) h.nodes
theorem TreeOk.nodeAt {t : Tr} (h : TreeOk t) {i : Nat} {n : Nd} (hn : t.nodes[i]? = some n) : (i = 0 /\ n.id = 1 /\ n.parent = 0) \/ (0 < i /\ 1 < n.id /\ ∃ j p,j < i /\ t.nodes[j]? = some p /\ p.id = n.parent):=by
 have hok:=(nodesOk_iff _ _).1 h.nodes i n hn
 rw [lna] at hok
 rcases Nat.eq_zero_or_pos i with rfl | hi
 ·left
  rw [List.take_zero] at hok
  have:=nodeOk_nil hok
  exact ⟨rfl,this.1,this.2.1⟩
 ·right
  have hlt:=(lgs.1 hn).1
  cases hl : (t.nodes.take i).getLast? with
  | none =>
   rw [List.getLast?_eq_none_iff] at hl
   have:=congrArg List.length hl
   rw [llt,lln] at this
   omega
  | some l =>
   obtain ⟨_,h2,_,_,p,hp,he⟩:=(nodeOk_some hl).1 hok
   have h1:=h.pos l (List.mem_of_mem_take (List.mem_of_getLast? hl))
   obtain ⟨j,hj⟩:=lgm hp
   have hjl:=(lgs.1 hj).1
   simp at hjl
   rw [List.getElem?_take,if_pos (by omega)] at hj
   exact ⟨hi,by omega,j,p,by omega,hj,he⟩
theorem TreeOk.fits {t : Tr} (h : TreeOk t) : t.Fits:=by
 intro n hn
 obtain ⟨i,hi⟩:=lgm hn
 have hok:=(nodesOk_iff _ _).1 h.nodes i n hi
 rw [lna] at hok
 unfold nodeOk at hok
 simp only [bat,decide_eq_true_eq] at hok
 refine ⟨?_,by omega⟩
 have h2:=hok.2
 split at h2
 ·simp only [decide_eq_true_eq] at h2
  rw [h2.2.2.1]
  decide
 ·simp only [bat] at h2
  have hv:=h2.1.1.2
  simp only [validN,bat,decide_eq_true_eq] at hv
  omega
theorem tabC : ∀ c v : Fin 32,antI .i64 ((c.val : Nat) : Int) ((v.val : Nat) : Int) = 0 -> antI .i64 (antI .i64 ((c.val : Nat) : Int) 6) ((v.val : Nat) : Int) = 0:=by decide +kernel
theorem tab6b : ∀ m : Fin 32,0 <= antI .i64 ((m.val : Nat) : Int) 6 /\ antI .i64 ((m.val : Nat) : Int) 6 <= 31:=by decide +kernel
theorem antC {c v : Int} (h0 : 0 <= c) (h1 : c <= 31) (v0 : 0 <= v) (v1 : v <= 31) (h : antI .i64 c v = 0) : antI .i64 (antI .i64 c 6) v = 0:=by
 have:=tabC ⟨c.toNat,by omega⟩ ⟨v.toNat,by omega⟩
 simp only [show ((c.toNat : Nat) : Int) = c by omega,show ((v.toNat : Nat) : Int) = v by omega] at this
 exact this h
theorem ant6b {c : Int} (h0 : 0 <= c) (h1 : c <= 31) : 0 <= antI .i64 c 6 /\ antI .i64 c 6 <= 31:=by
 have:=tab6b ⟨c.toNat,by omega⟩
 simp only [show ((c.toNat : Nat) : Int) = c by omega] at this
 exact this
theorem upC_bound {t : Tr} (ht : treeOk t = true) (n : Nd) : 0 <= upC t n /\ upC t n <= 31:=by
 unfold upC
 split
 ·decide
 ·cases hq : findN t.nodes n.parent with
  | none=>exact ⟨Int.le_refl _,by decide⟩
  | some p=>exact treeOk_control ht (List.mem_of_find?_eq_some hq)
theorem fromV_bound {t : Tr} (ht : treeOk t = true) (n : Nd) : 0 <= fromV t n /\ fromV t n <= 31:=by
 have hb:=upC_bound ht n
 unfold fromV
 split
 .exact ant6b hb.1 hb.2
 .exact hb
theorem availP_at {t : Tr} (ht : treeOk t = true) {n : Nd} (hn : n ∈ t.nodes) : availP t n.id = fromV t n:=by
 have hf : findT t n.id = some n:=by
  rw [findT,if_pos ht]
  exact findN_self ((treeOk_iff t).1 ht).inc hn
 unfold availP
 rw [hf]
theorem parent_at {t : Tr} (ht : treeOk t = true) {n : Nd} (hn : n ∈ t.nodes) (h1 : n.id ≠ 1) : ∃ p ∈ t.nodes,p.id = n.parent /\ findN t.nodes n.parent = some p:=by
 have h:=(treeOk_iff t).1 ht
 obtain ⟨i,hi⟩:=lgm hn
 rcases h.nodeAt hi with ⟨_,e,_⟩ | ⟨_,_,j,p,_,hj,he⟩
 ·exact absurd e h1
 ·have hp:=lmg hj
  exact ⟨p,hp,he,by rw [<- he]; exact findN_self h.inc hp⟩
theorem acts_sub {h : Hy} (hs : soundR h = true) {x : Nd} (hx : x ∈ h.t.nodes) (h1 : x.id ≠ 1) (hp1 : x.parent ≠ 1) : antI .i64 (actP h.t x.id) (actP h.t x.parent) = 0:=by
 have m:=sound_mem hs
 have ht:=m.tree
 obtain ⟨p,hp,he,hf⟩:=parent_at ht hx h1
 have hpi : p.id ≠ 1:=fun e=>hp1 (he ▸ e)
 have hn:=(((soundR_iff h).1 hs).2 p hp).1
 rw [avail_from ht hp] at hn
 have hb:=fromV_bound ht p
 have hc:=treeOk_control ht hp
 unfold actP
 rw [if_neg h1,if_neg hp1,availP_at ht hx,<- he,availP_at ht hp]
 have hu : upC h.t x = p.control:=by
  unfold upC
  rw [if_neg h1,hf]
  rfl
 unfold fromV at hb hn ⊢
 rw [hu]
 split
 .exact antC hc.1 hc.2 hb.1 hb.2 hn
 .exact hn
theorem tasks_none {h : Hy} (hs : soundR h = true) {x : Nd} (hx : x ∈ h.t.nodes) (h1 : x.id ≠ 1) (hc : andI .i64 x.control 6 ≠ 0) : (tasksOf x.id h.ts).length = 0:=by
 rcases (((soundR_iff h).1 hs).2 x hx).2 with e | e | e
 .exact absurd e h1
 .exact absurd e hc
 .exact (tasksOf_nil _ _).2 e
set_option maxHeartbeats 16000000 in
theorem controlChains_eq (L : List Int) : V 3 [.p (intsP L)] [] = some (.p (.bool true),[]):=by
 refine V_wp (vf:=vf3) rfl ?_
 have hlight:=light_eq (L.map (.int .i64))
 rw [List.length_map] at hlight
 have hsane:=sane7_eq
 by_cases h6 : L.length <= 600
 rotate_left
 ·simp -implicitDefEqProofs (disch:=omega) only [vf3,vb3,hlight,h6,hsane,go_sem,↓reduceIte,rA,rS,rE,rL,reduceCtorEq]
 have hroll:=roll_eq L
 obtain ⟨h,a',hhy0,hs⟩:=hier_ok L 0 8 6 (by omega) (by omega) (by omega)
 have hhy : V 11 [.ptr (.arg 0 0) 0 0,.p (.int .i64 8),.p (.int .i64 6)] [.box [.p (intsP L),.p (.int .i64 0)]] = some (h.vv,[diceB L a']):=hhy0
 clear hhy0
 have m:=sound_mem hs
 have ht:=(treeOk_iff _).1 m.tree
 obtain ⟨l1,l2,l3,l4⟩:=sound_len hs
 have hl : h.ts.length < 1000000:=by omega
 have hn : h.t.nodes.length < 1000000:=by omega
 have hcs:=csound_eq h ht.fits hl hn
 rw [← sound_eq,hs] at hcs
 have hac:=fun id=>cacting_eq h.t id ht.fits hn
 have htk:=fun g=>rtasks_eq h g hl hn
 simp only [sound_memOk hs,if_true] at htk
 simp -implicitDefEqProofs (disch:=omega) only [vf3,vb3,hlight,h6,hroll,hhy,go_sem,↓reduceIte,rA,rS,rE,rL,reduceCtorEq]
 obtain ⟨I,hI⟩ : ∃ I : Nat -> St -> Prop,∀ k s,I k s ↔ s.pe 3 = .ptr (.slot 3 0) 0 0 /\ s.pe 16 = .p (.int .i64 ↑h.t.nodes.length) /\ s.pe 17 = .p (.int .i64 k) /\ s.h (.slot 3 0) = some (0,Ob.box [.p (nodesP h.t.nodes),.p (.int .i64 h.t.next),.p (tasksP h.ts),.p (.int .i64 h.next)]):=⟨_,fun _ _=>Iff.rfl⟩
 refine wp_count (h.t.nodes.length) I ?_ ?_
 ·refine (hI _ _).2 ⟨?_,?_,?_,?_⟩
  all_goals exact cl0
 intro k s hk hIk
 obtain ⟨h3,h16,h17,hh3_0⟩:=(hI _ _).1 hIk
 clear hIk
 simp -implicitDefEqProofs (disch:=omega) only [h3,h16,h17,hh3_0,go_sem,↓reduceIte,rA,rS,rE,rL,reduceCtorEq]
 refine wp_if_d (fun hlt=>?_) (fun hge=>?_)
 ·have hc : h.t.nodes[k]? = some h.t.nodes[k]:=lgg (by omega)
  have hx : h.t.nodes[k] ∈ h.t.nodes:=lgk _
  generalize h.t.nodes[k] = x at hc hx
  by_cases h1 : x.id = 1
  ·simp -implicitDefEqProofs (disch:=omega) only [h3,h16,h17,hh3_0,hlt,hc,h1,go_sem,↓reduceIte,rA,rS,rE,rL,reduceCtorEq]
   try refine And.intro (by omega) ?_
   refine (hI _ _).2 ⟨?_,?_,?_,?_⟩
   all_goals exact cl0
  ·have ha1:=hac x.id
   have ha2:=hac x.parent
   have hsub:=acts_sub hs hx h1
   have htn:=tasks_none hs hx h1
   have ht1:=htk x.id
   generalize actP h.t x.id = A at ha1 hsub
   generalize actP h.t x.parent = B at ha2 hsub
   generalize tasksOf x.id h.ts = tl at htn ht1
   have key : x.parent = 1 \/ (x.parent ≠ 1 /\ antI .i64 A B = 0):=by
    by_cases hp : x.parent = 1
    ·exact .inl hp
    ·exact .inr ⟨hp,hsub hp⟩
   by_cases hc6 : andI .i64 x.control 6 = 0
   ·by_cases hz : (0 : Int) < (tl.length : Nat)
    ·rcases key with hp | ⟨hp,h0⟩
     ·simp -implicitDefEqProofs (disch:=omega) only [h3,h16,h17,hh3_0,hlt,hc,h1,hp,ha1,ha2,ht1,hz,hc6,go_sem,↓reduceIte,rA,rS,rE,rL,reduceCtorEq]
      try refine And.intro (by omega) ?_
      refine (hI _ _).2 ⟨?_,?_,?_,?_⟩
      all_goals exact cl0
     ·simp -implicitDefEqProofs (disch:=omega) only [h3,h16,h17,hh3_0,hlt,hc,h1,hp,h0,ha1,ha2,ht1,hz,hc6,go_sem,↓reduceIte,rA,rS,rE,rL,reduceCtorEq]
      try refine And.intro (by omega) ?_
      refine (hI _ _).2 ⟨?_,?_,?_,?_⟩
      all_goals exact cl0
    ·rcases key with hp | ⟨hp,h0⟩
     ·simp -implicitDefEqProofs (disch:=omega) only [h3,h16,h17,hh3_0,hlt,hc,h1,hp,ha1,ha2,ht1,hz,go_sem,↓reduceIte,rA,rS,rE,rL,reduceCtorEq]
      try refine And.intro (by omega) ?_
      refine (hI _ _).2 ⟨?_,?_,?_,?_⟩
      all_goals exact cl0
     ·simp -implicitDefEqProofs (disch:=omega) only [h3,h16,h17,hh3_0,hlt,hc,h1,hp,h0,ha1,ha2,ht1,hz,go_sem,↓reduceIte,rA,rS,rE,rL,reduceCtorEq]
      try refine And.intro (by omega) ?_
      refine (hI _ _).2 ⟨?_,?_,?_,?_⟩
      all_goals exact cl0
   ·have hz : ¬ (0 : Int) < (tl.length : Nat):=by have:=htn hc6; omega
    rcases key with hp | ⟨hp,h0⟩
    ·simp -implicitDefEqProofs (disch:=omega) only [h3,h16,h17,hh3_0,hlt,hc,h1,hp,ha1,ha2,ht1,hz,go_sem,↓reduceIte,rA,rS,rE,rL,reduceCtorEq]
     try refine And.intro (by omega) ?_
     refine (hI _ _).2 ⟨?_,?_,?_,?_⟩
     all_goals exact cl0
    ·simp -implicitDefEqProofs (disch:=omega) only [h3,h16,h17,hh3_0,hlt,hc,h1,hp,h0,ha1,ha2,ht1,hz,go_sem,↓reduceIte,rA,rS,rE,rL,reduceCtorEq]
     try refine And.intro (by omega) ?_
     refine (hI _ _).2 ⟨?_,?_,?_,?_⟩
     all_goals exact cl0
 .simp -implicitDefEqProofs (disch:=omega) only [h3,h16,h17,hh3_0,hge,hcs,hsane,go_sem,↓reduceIte,rA,rS,rE,rL,reduceCtorEq]
end Go.V
