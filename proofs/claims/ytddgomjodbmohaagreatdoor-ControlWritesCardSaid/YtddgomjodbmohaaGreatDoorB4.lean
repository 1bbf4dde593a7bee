/- Part 4 of the proof. -/
import Derived.Test.YtddgomjodbmohaaGreatDoorB3
set_option linter.unusedSectionVars false
set_option linter.unusedSimpArgs false
set_option linter.unusedVariables false
open Nat renaming reduceAdd → rA, reduceSub → rS, reduceEqDiff → rE, reduceLeDiff → rL, le_refl → lrf
open List renaming getElem?_eq_getElem → lgg, getElem?_eq_some_iff → lgs, mem_of_getElem? → lmg, drop_eq_getElem_cons → ldg, mem_cons_of_mem → lmc, map_cons → lpc, drop_of_length_le → ldl, nil_append → lna, append_nil → lan, mem_map → lmm, mem_cons_self → lms, map_append → lma, take_of_length_le → ltl, getElem?_of_mem → lgm, length_cons → llc, length_append → lla, mem_cons → lmk, map_nil → lpn, length_nil → lln, mem_append → lmp, length_map → llm, getElem_mem → lgk, pairwise_cons → lpw, cons_append → lca
open Bool renaming and_eq_true → bat, false_and → bfa, false_eq_true → bft, true_and → bta, or_eq_true → bot
namespace Go.V
theorem runT_some {h : Hy} : ∀ {l : List Tk} {last r : Int},runT h last l = some r -> l.Pairwise (fun a b=>a.id < b.id) /\ ∀ x ∈ l,last < x.id /\ x.id <= r /\ fineT h x = true
 | [],_,_,_=>⟨List.Pairwise.nil,fun _ h=>by cases h⟩
 | x :: l,last,r,e=>by
  unfold runT at e
  split at e
  ·cases e
  ·split at e
   ·rename_i h1 h2
    obtain ⟨hp,ha⟩:=runT_some e
    have hle:=runT_le h e
    refine ⟨lpw.2 ⟨fun y hy=>(ha y hy).1,hp⟩,fun y hy=>?_⟩
    rcases lmk.1 hy with rfl | hy
    ·exact ⟨by omega,hle,h2⟩
    ·have:=ha y hy
     exact ⟨by omega,this.2.1,this.2.2⟩
   .cases e
theorem runT_of {h : Hy} : ∀ {l : List Tk} {last n : Int},l.Pairwise (fun a b=>a.id < b.id) -> (∀ x ∈ l,last < x.id /\ x.id < n /\ fineT h x = true) -> last < n -> ∃ r,runT h last l = some r /\ r < n
 | [],last,n,_,_,h0=>⟨last,rfl,h0⟩
 | x :: l,last,n,hp,ha,h0=>by
  obtain ⟨h1,h2⟩:=lpw.1 hp
  have hx:=ha x (lms ..)
  obtain ⟨r,e,hr⟩:=runT_of h2 (n:=n) (last:=x.id) (fun y hy=>⟨h1 y hy,(ha y (lmc _ hy)).2⟩) hx.2.1
  refine ⟨r,?_,hr⟩
  unfold runT
  rw [if_neg (by omega),if_pos hx.2.2]
  exact e
structure FineP (h : Hy) (x : Tk) : Prop where
 u0 : 0 <= x.user
 u1 : x.user <= 1048576
 lead : ∃ l,findK h.ts x.process = some l /\ l.process = l.id /\ l.user = x.user
 grp : 0 <= idxOf h.t.nodes x.group
theorem fineT_iff (h : Hy) (x : Tk) : fineT h x = true ↔ FineP h x:=by
 unfold fineT leadOk
 constructor
 ·intro e
  cases hf : findK h.ts x.process with
  | none=>rw [hf] at e; simp at e
  | some l =>
   rw [hf] at e
   simp only [bat,decide_eq_true_eq] at e
   exact ⟨e.1.1.1,e.1.1.2,⟨l,hf,e.1.2.1,e.1.2.2⟩,e.2⟩
 ·rintro ⟨h1,h2,⟨l,hf,h3,h4⟩,h5⟩
  rw [hf]
  simp only [bat,decide_eq_true_eq]
  exact ⟨⟨⟨h1,h2⟩,h3,h4⟩,h5⟩
structure MemP (h : Hy) : Prop where
 len : h.ts.length <= 128
 next1 : 1 <= h.next
 next : h.next <= 2147483648
 tree : treeOk h.t = true
 inc : h.ts.Pairwise fun a b=>a.id < b.id
 ids : ∀ x ∈ h.ts,0 < x.id /\ x.id < h.next
 fine : ∀ x ∈ h.ts,FineP h x
theorem memOk_iff (h : Hy) : memOk h = true ↔ MemP h:=by
 unfold memOk
 simp only [bat,decide_eq_true_eq]
 constructor
 ·rintro ⟨⟨⟨h1,h2⟩,h3⟩,h4⟩
  cases hr : runT h 0 h.ts with
  | none=>rw [hr] at h4; cases h4
  | some r =>
   rw [hr] at h4
   have h4 : r < h.next:=by simpa [ltO] using h4
   obtain ⟨hp,ha⟩:=runT_some hr
   have:=runT_le h hr
   exact ⟨h1,by omega,h2,h3,hp,fun x hx=>⟨(ha x hx).1,by have:=(ha x hx).2.1; omega⟩,fun x hx=>(fineT_iff h x).1 (ha x hx).2.2⟩
 ·intro m
  refine ⟨⟨⟨m.len,m.next⟩,m.tree⟩,?_⟩
  obtain ⟨r,e,hr⟩:=runT_of (h:=h) m.inc (last:=0) (n:=h.next) (fun x hx=>⟨(m.ids x hx).1,(m.ids x hx).2,(fineT_iff h x).2 (m.fine x hx)⟩) (by have:=m.next1; omega)
  rw [e]
  simpa [ltO] using hr
def NodeP (h : Hy) (n : Nd) : Prop:=antI .i64 n.control (availR h.t n.id) = 0 /\ (n.id = 1 \/ andI .i64 n.control 6 = 0 \/ ∀ x ∈ h.ts,x.group ≠ n.id)
theorem soundR_iff (h : Hy) : soundR h = true ↔ MemP h /\ ∀ n ∈ h.t.nodes,NodeP h n:=by
 unfold soundR nodeR NodeP
 simp only [bat,List.all_eq_true,bot,decide_eq_true_eq,memOk_iff,or_assoc]
def GroupOk (h : Hy) (g : Int) : Prop:=∀ n ∈ h.t.nodes,n.id = g -> n.id = 1 \/ andI .i64 n.control 6 = 0
theorem groupOk_of_mem {h : Hy} (hs : soundR h = true) {x : Tk} (hx : x ∈ h.ts) : GroupOk h x.group:=fun n hn e=>by
 rcases (((soundR_iff h).1 hs).2 n hn).2 with h1 | h1 | h1
 .exact .inl h1
 .exact .inr h1
 .exact absurd e.symm (h1 x hx)
theorem findT_N {t : Tr} {g : Int} {x : Nd} (h : findT t g = some x) : treeOk t = true /\ findN t.nodes g = some x:=by
 unfold findT at h
 split at h
 .exact ⟨by assumption,h⟩
 .cases h
theorem groupOk_of_adm {h : Hy} {g : Int} (ha : AdmB h g) : GroupOk h g:=fun n hn e=>by
 obtain ⟨_,x,hx,h1⟩:=ha
 obtain ⟨ht,hf⟩:=findT_N hx
 have h2:=findN_self ((treeOk_iff _).1 ht).inc hn
 rw [e,hf] at h2
 cases h2
 rcases h1 with h1 | h1
 .exact .inl (e.trans h1)
 .exact .inr h1
theorem has_idx {ns : List Nd} {g : Int} {x : Nd} (hf : findN ns g = some x) : 0 <= idxOf ns g:=by
 rcases idxOf_lt ns g with ⟨_,e⟩ | ⟨k,_,e,_⟩
 .rw [e] at hf; cases hf
 .omega
theorem has_of_adm {h : Hy} {g : Int} (ha : AdmB h g) : 0 <= idxOf h.t.nodes g:=by
 obtain ⟨_,x,hx,_⟩:=ha
 exact has_idx (findT_N hx).2
theorem sound_tasks {h : Hy} (hs : soundR h = true) {ts : List Tk} {next : Int} (hm : MemP ⟨h.t,ts,next⟩) (hg : ∀ y ∈ ts,GroupOk h y.group) : soundR ⟨h.t,ts,next⟩ = true:=by
 refine (soundR_iff _).2 ⟨hm,fun n hn=>⟨(((soundR_iff h).1 hs).2 n hn).1,?_⟩⟩
 by_cases h1 : n.id = 1
 .exact .inl h1
 by_cases h2 : andI .i64 n.control 6 = 0
 .exact .inr (.inl h2)
 refine .inr (.inr fun x hx e=>?_)
 rcases hg x hx n hn e.symm with h3 | h3
 .exact h1 h3
 .exact h2 h3
theorem findK_append : ∀ {ts : List Tk} {p : Int} {l : Tk} (r : List Tk),findK ts p = some l -> findK (ts ++ r) p = some l
 | [],_,_,_,h=>by cases h
 | x :: ts,p,l,r,h=>by
  rw [lca]
  unfold findK at h ⊢
  split
  ·rename_i e
   rw [if_pos e] at h
   exact h
  ·rename_i e
   rw [if_neg e] at h
   exact findK_append r h
theorem findK_last : ∀ {ts : List Tk} (x : Tk),(∀ y ∈ ts,y.id ≠ x.id) -> findK (ts ++ [x]) x.id = some x
 | [],x,_=>by simp [findK]
 | y :: ts,x,h=>by
  rw [lca,findK,if_neg (h y (lms ..))]
  exact findK_last x fun z hz=>h z (lmc _ hz)
theorem findK_mem : ∀ {ts : List Tk} {p : Int} {x : Tk},findK ts p = some x -> x ∈ ts
 | [],_,_,h=>by cases h
 | y :: ts,p,x,h=>by
  unfold findK at h
  split at h
  .cases h; exact lms ..
  .exact lmc _ (findK_mem h)
theorem findK_map {f : Tk -> Tk} (hf : ∀ x,(f x).id = x.id) : ∀ (ts : List Tk) (p : Int),findK (ts.map f) p = (findK ts p).map f
 | [],_=>rfl
 | x :: ts,p=>by
  rw [lpc,findK,findK,hf x,findK_map hf ts p]
  split <;> rfl
theorem findK_filter {q : Tk -> Bool} : ∀ {ts : List Tk} {p : Int} {x : Tk},findK ts p = some x -> q x = true -> findK (ts.filter q) p = some x
 | [],_,_,h,_=>by cases h
 | y :: ts,p,x,h,hq=>by
  unfold findK at h
  split at h
  ·rename_i e
   cases h
   rw [List.filter_cons_of_pos hq,findK,if_pos e]
  ·rename_i e
   have ih:=findK_filter h hq
   cases hy : q y
   ·rw [List.filter_cons_of_neg (by simp [hy])]
    exact ih
   ·rw [List.filter_cons_of_pos hy,findK,if_neg e]
    exact ih
theorem addH_mem {h : Hy} (m : MemP h) (hf : ¬ fullH h) {x : Tk} (hu0 : 0 <= x.user) (hu1 : x.user <= 1048576) (hg : 0 <= idxOf h.t.nodes x.group)
  (hp : x.process = 0 \/ ∃ l,findK h.ts x.process = some l /\ l.process = l.id /\ l.user = x.user) : MemP (addH h x):=by
 have f1 : ¬ 128 <= h.ts.length:=fun e=>hf (.inl e)
 have f2 : ¬ 2147483647 < h.next:=fun e=>hf (.inr e)
 have n1:=m.next1
 refine ⟨by simp only [lla,llc,lln]; omega,by show 1 <= h.next + 1; omega,by show h.next + 1 <= _; omega,m.tree,?_,fun y hy=>?_,fun y hy=>?_⟩
 ·show (h.ts ++ [newK h x]).Pairwise _
  refine List.pairwise_append.2 ⟨m.inc,by simp,fun a ha b hb=>?_⟩
  rw [List.mem_singleton] at hb
  subst hb
  exact (m.ids a ha).2
 ·show 0 < y.id /\ y.id < h.next + 1
  rcases lmp.1 hy with hy | hy
  ·have:=m.ids y hy
   omega
  ·rw [List.mem_singleton] at hy
   subst hy
   show 0 < h.next /\ h.next < h.next + 1
   omega
 ·rcases lmp.1 hy with hy | hy
  ·obtain ⟨a1,a2,⟨l,a3,a4⟩,a5⟩:=m.fine y hy
   exact ⟨a1,a2,⟨l,findK_append _ a3,a4⟩,a5⟩
  ·rw [List.mem_singleton] at hy
   subst hy
   refine ⟨hu0,hu1,?_,hg⟩
   by_cases h0 : x.process = 0
   ·have hk : newK h x = ⟨h.next,h.next,x.group,x.user⟩:=by unfold newK; rw [if_pos h0]
    refine ⟨newK h x,?_,by rw [hk],rfl⟩
    have:=findK_last (ts:=h.ts) (newK h x) fun z hz=>by
     have:=(m.ids z hz).2
     show z.id ≠ h.next
     omega
    rw [hk] at this ⊢
    show findK (h.ts ++ [newK h x]) h.next = _
    rw [hk]
    exact this
   ·have hk : newK h x = ⟨h.next,x.process,x.group,x.user⟩:=by unfold newK; rw [if_neg h0]
    rcases hp with hp | ⟨l,a3,a4⟩
    ·exact absurd hp h0
    ·refine ⟨l,?_,by rw [hk]; exact a4⟩
     rw [hk]
     exact findK_append _ a3
theorem sound_mem {h : Hy} (hs : soundR h = true) : MemP h:=((soundR_iff h).1 hs).1
theorem addH_sound {h : Hy} (hs : soundR h = true) (hf : ¬ fullH h) {x : Tk} (hu0 : 0 <= x.user) (hu1 : x.user <= 1048576) (hg : 0 <= idxOf h.t.nodes x.group)
  (hp : x.process = 0 \/ ∃ l,findK h.ts x.process = some l /\ l.process = l.id /\ l.user = x.user) (hgo : GroupOk h x.group) : soundR (addH h x) = true:=by
 refine sound_tasks hs (addH_mem (sound_mem hs) hf hu0 hu1 hg hp) fun y hy=>?_
 rcases lmp.1 hy with hy | hy
 ·exact groupOk_of_mem hs hy
 ·rw [List.mem_singleton] at hy
  subst hy
  exact hgo
theorem spawn_sound {h : Hy} {g u : Int} (ha : AdmB h g) (hf : ¬ fullH h) (hu0 : 0 <= u) (hu1 : u <= 1048576) : soundR (addH h ⟨0,0,g,u⟩) = true :=
 addH_sound ha.1 hf hu0 hu1 (has_of_adm ha) (.inl rfl) (groupOk_of_adm ha)
theorem clone_sound {h : Hy} (hs : soundR h = true) {id : Int} {x : Tk} (hx : findK h.ts id = some x) (hf : ¬ fullH h) : soundR (addH h x) = true:=by
 have hm:=findK_mem hx
 have f:=(sound_mem hs).fine x hm
 exact addH_sound hs hf f.u0 f.u1 f.grp (.inr f.lead) (groupOk_of_mem hs hm)
theorem moveK_same (id g : Int) (x : Tk) : (moveK id g x).id = x.id /\ (moveK id g x).process = x.process /\ (moveK id g x).user = x.user /\ ((moveK id g x).group = x.group \/ (moveK id g x).group = g):=by
 unfold moveK
 split <;> simp
theorem move_sound {h : Hy} {id g : Int} (ha : AdmB h g) : soundR ⟨h.t,moveL id g h.ts,h.next⟩ = true:=by
 have m:=sound_mem ha.1
 have hid : ∀ x,(moveK id g x).id = x.id:=fun x=>(moveK_same id g x).1
 refine sound_tasks ha.1 ⟨by simpa [moveL] using m.len,m.next1,m.next,m.tree,?_,fun y hy=>?_,fun y hy=>?_⟩ fun y hy=>?_
 ·show (h.ts.map (moveK id g)).Pairwise _
  rw [List.pairwise_map]
  exact m.inc.imp fun {a b} hab=>by rw [hid,hid]; exact hab
 ·obtain ⟨x,hx,rfl⟩:=lmm.1 hy
  rw [hid]
  exact m.ids x hx
 ·obtain ⟨x,hx,rfl⟩:=lmm.1 hy
  obtain ⟨a1,a2,⟨l,a3,a4,a5⟩,a6⟩:=m.fine x hx
  obtain ⟨_,s2,s3,s4⟩:=moveK_same id g x
  refine ⟨by rw [s3]; exact a1,by rw [s3]; exact a2,⟨moveK id g l,?_,?_,?_⟩,?_⟩
  ·rw [s2]
   show findK (h.ts.map (moveK id g)) x.process = _
   rw [findK_map hid,a3]
   rfl
  ·rw [(moveK_same id g l).2.1,hid,a4]
  ·rw [(moveK_same id g l).2.2.1,s3,a5]
  ·rcases s4 with s4 | s4
   ·rw [s4]; exact a6
   ·rw [s4]
    show 0 <= idxOf h.t.nodes g
    exact has_of_adm ha
 ·obtain ⟨x,hx,rfl⟩:=lmm.1 hy
  rcases (moveK_same id g x).2.2.2 with s4 | s4
  .rw [s4]; exact groupOk_of_mem ha.1 hx
  .rw [s4]; exact groupOk_of_adm ha
theorem exit_sound {h : Hy} (hs : soundR h = true) (id : Int) : soundR ⟨h.t,exitL id h.ts,h.next⟩ = true:=by
 have m:=sound_mem hs
 refine sound_tasks hs ⟨?_,m.next1,m.next,m.tree,m.inc.filter _,fun y hy=>m.ids y (List.mem_filter.1 hy).1,fun y hy=>?_⟩ fun y hy=>groupOk_of_mem hs (List.mem_filter.1 hy).1
 ·have:=List.length_filter_le (stayB id) h.ts
  have:=m.len
  show (h.ts.filter (stayB id)).length <= 128
  omega
 ·obtain ⟨hy,hst⟩:=List.mem_filter.1 hy
  obtain ⟨a1,a2,⟨l,a3,a4,a5⟩,a6⟩:=m.fine y hy
  refine ⟨a1,a2,⟨l,findK_filter a3 ?_,a4,a5⟩,a6⟩
  have hl:=findK_id a3
  unfold stayB at hst ⊢
  simp only [bat,decide_eq_true_eq] at hst ⊢
  rw [a4,hl]
  exact ⟨hst.2,hst.2⟩
structure KeepsN (f : Nd -> Nd) : Prop where
 id : ∀ n,(f n).id = n.id
 parent : ∀ n,(f n).parent = n.parent
 name : ∀ n,(f n).name = n.name
 kind : ∀ n,(f n).kind = n.kind
def BoundP (n : Nd) : Prop:=0 <= n.control /\ n.control <= 31 /\ 0 <= n.owner /\ n.owner <= 1048576
theorem upR_map {f : Nd -> Nd} (hk : KeepsN f) : ∀ (ns : List Nd) (id : Int),upR (ns.map f) id = upR ns id
 | [],_=>rfl
 | n :: ns,id=>by
  rw [lpc,upR,upR,hk.id,hk.parent,upR_map hk ns id,upR_map hk ns n.parent]
theorem up_map {f : Nd -> Nd} (hk : KeepsN f) (ns : List Nd) (id : Int) : up (ns.map f) id = up ns id:=by
 unfold up
 rw [<- List.map_reverse]
 exact upR_map hk _ _
theorem findN_map {f : Nd -> Nd} (hk : KeepsN f) : ∀ (ns : List Nd) (id : Int),findN (ns.map f) id = (findN ns id).map f
 | [],_=>rfl
 | n :: ns,id=>by
  have ih:=findN_map hk ns id
  unfold findN at ih ⊢
  rw [lpc,List.find?_cons,List.find?_cons,hk.id]
  split
  .rfl
  .exact ih
theorem nodeOk_map {f : Nd -> Nd} (hk : KeepsN f) {pre : List Nd} {n : Nd} (h : nodeOk pre n = true) (hb : BoundP (f n)) : nodeOk (pre.map f) (f n) = true:=by
 unfold nodeOk at h ⊢
 rw [List.getLast?_map]
 cases hl : pre.getLast? with
 | none =>
  rw [hl] at h
  simp only [Option.map_none,hk.id,hk.parent,hk.name,hk.kind,bat,decide_eq_true_eq] at h ⊢
  exact ⟨⟨h.1.1,hb⟩,h.2⟩
 | some l =>
  rw [hl] at h
  simp only [Option.map_some,hk.id,hk.parent,hk.name,hk.kind,List.any_map,Function.comp_def,bat,decide_eq_true_eq] at h ⊢
  exact ⟨⟨h.1.1,hb⟩,h.2⟩
theorem nodesOk_map {f : Nd -> Nd} (hk : KeepsN f) : ∀ (ns pre : List Nd),nodesOk pre ns = true -> (∀ n ∈ ns,BoundP (f n)) -> nodesOk (pre.map f) (ns.map f) = true
 | [],_,_,_=>rfl
 | n :: ns,pre,h,hb=>by
  simp only [nodesOk,bat,lpc] at h ⊢
  refine ⟨nodeOk_map hk h.1 (hb n (lms ..)),?_⟩
  have:=nodesOk_map hk ns (pre ++ [n]) h.2 fun m hm=>hb m (lmc _ hm)
  rw [lma] at this
  exact this
theorem treeOk_map {f : Nd -> Nd} (hk : KeepsN f) {t : Tr} (h : TreeOk t) (hb : ∀ n ∈ t.nodes,BoundP (f n)) : TreeOk ⟨t.nodes.map f,t.next⟩:=by
 obtain ⟨h1,h2,h3,l,h4,h5⟩:=h
 refine ⟨by simpa using h1,nodesOk_map hk t.nodes [] h2 hb,fun n hn=>?_,f l,by simp [h4],?_⟩
 ·obtain ⟨m,hm,rfl⟩:=lmm.1 hn
  show (up (t.nodes.map f) (f m).id).length <= 9
  rw [up_map hk,hk.id]
  exact h3 m hm
 .rw [hk.id]; exact h5
theorem idxOf_map {f : Nd -> Nd} (hk : KeepsN f) (ns : List Nd) (id : Int) : idxOf (ns.map f) id = idxOf ns id:=by
 unfold idxOf
 rw [List.findIdx?_map]
 have : ((fun n : Nd=>decide (n.id = id)) ∘ f) = fun n : Nd=>decide (n.id = id):=by
  funext n
  simp [hk.id]
 rw [this]
theorem memP_map {f : Nd -> Nd} (hk : KeepsN f) {h : Hy} (m : MemP h) (hb : ∀ n ∈ h.t.nodes,BoundP (f n)) : MemP ⟨⟨h.t.nodes.map f,h.t.next⟩,h.ts,h.next⟩:=by
 refine ⟨m.len,m.next1,m.next,(treeOk_iff _).2 (treeOk_map hk ((treeOk_iff _).1 m.tree) hb),m.inc,m.ids,fun x hx=>?_⟩
 obtain ⟨a1,a2,a3,a4⟩:=m.fine x hx
 refine ⟨a1,a2,a3,?_⟩
 show 0 <= idxOf (h.t.nodes.map f) x.group
 rw [idxOf_map hk]
 exact a4
theorem findT_map {f : Nd -> Nd} (hk : KeepsN f) {t : Tr} (h : treeOk t = true) (h2 : treeOk ⟨t.nodes.map f,t.next⟩ = true) (id : Int) : findT ⟨t.nodes.map f,t.next⟩ id = (findT t id).map f:=by
 unfold findT
 rw [if_pos h,if_pos h2]
 exact findN_map hk _ _
theorem availR_map {f : Nd -> Nd} (hk : KeepsN f) (hc : ∀ n,(f n).control = n.control) {t : Tr} (h : treeOk t = true) (h2 : treeOk ⟨t.nodes.map f,t.next⟩ = true) (id : Int) : availR ⟨t.nodes.map f,t.next⟩ id = availR t id:=by
 have ha : actR ⟨t.nodes.map f,t.next⟩ id = actR t id:=by
  unfold actR
  rw [findT_map hk h h2]
  cases hq : findT t id with
  | none=>rfl
  | some x =>
   have e : ((findT ⟨t.nodes.map f,t.next⟩ x.parent).getD zeroNd).control = ((findT t x.parent).getD zeroNd).control:=by
    rw [findT_map hk h h2]
    cases findT t x.parent with
    | none=>rfl
    | some p=>exact hc p
   simp only [Option.map_some,hk.parent,hk.kind,e]
 unfold availR
 rw [findT_map hk h h2,ha]
 cases findT t id with
 | none=>rfl
 | some x=>simp only [Option.map_some,hk.kind]
theorem sound_map {f : Nd -> Nd} (hk : KeepsN f) (hc : ∀ n,(f n).control = n.control) {h : Hy} (hs : soundR h = true) (hb : ∀ n ∈ h.t.nodes,BoundP (f n)) : soundR ⟨⟨h.t.nodes.map f,h.t.next⟩,h.ts,h.next⟩ = true:=by
 obtain ⟨m,hn⟩:=(soundR_iff h).1 hs
 have m2:=memP_map hk m hb
 refine (soundR_iff _).2 ⟨m2,fun x hx=>?_⟩
 obtain ⟨n,hn1,rfl⟩:=lmm.1 hx
 have:=hn n hn1
 unfold NodeP at this ⊢
 simp only [hk.id,hc,availR_map hk hc m.tree m2.tree]
 exact this
theorem tree_bound {t : Tr} (ht : treeOk t = true) {n : Nd} (hn : n ∈ t.nodes) : BoundP n:=by
 obtain ⟨i,hi⟩:=lgm hn
 have:=(nodesOk_iff _ _).1 ((treeOk_iff t).1 ht).nodes i n hi
 simp only [nodeOk,bat,decide_eq_true_eq] at this
 exact this.1.2
def ownF (id o : Int) (n : Nd) : Nd:=⟨n.id,n.parent,n.name,n.control,n.kind,if n.id = id then o else n.owner⟩
theorem ownF_keepsN (id o : Int) : KeepsN (ownF id o):=⟨fun _=>rfl,fun _=>rfl,fun _=>rfl,fun _=>rfl⟩
theorem inc_same {ns : List Nd} (hp : ns.Pairwise fun a b=>a.id < b.id) {n y : Nd} (hn : n ∈ ns) (hy : y ∈ ns) (e : n.id = y.id) : n = y:=by
 have h1:=findN_self hp hn
 have h2:=findN_self hp hy
 rw [e,h2] at h1
 cases h1
 rfl
theorem owner_sound {h : Hy} (hs : soundR h = true) {id o : Int} {y : Nd} (hy : findT h.t id = some y) (h0 : 0 <= o) (h1 : o <= 1048576) : soundR ⟨⟨setN h.t.nodes ⟨y.id,y.parent,y.name,y.control,y.kind,o⟩,h.t.next⟩,h.ts,h.next⟩ = true:=by
 obtain ⟨ht,hf⟩:=findT_N hy
 have hym:=List.mem_of_find?_eq_some hf
 have hset : setN h.t.nodes ⟨y.id,y.parent,y.name,y.control,y.kind,o⟩ = h.t.nodes.map (ownF y.id o):=by
  unfold setN
  refine List.map_congr_left fun n hn=>?_
  unfold ownF
  by_cases e : n.id = y.id
  ·have:=inc_same ((treeOk_iff _).1 ht).inc hn hym e
   subst this
   simp
  .simp only [if_neg e]
 rw [hset]
 refine sound_map (ownF_keepsN _ _) (fun _=>rfl) hs fun n hn=>?_
 obtain ⟨b1,b2,b3,b4⟩:=tree_bound ht hn
 refine ⟨b1,b2,?_,?_⟩
 ·show 0 <= (if n.id = y.id then o else n.owner)
  split <;> assumption
 ·show (if n.id = y.id then o else n.owner) <= _
  split <;> assumption
def ZeroC (t : Tr) : Prop:=∀ n ∈ t.nodes,n.control = 0
theorem addT_zero {t : Tr} (h : ZeroC t) {p : Int} {s : ByteArray} (h0 : (addT t p s).2.2 = 0) : ZeroC (addT t p s).1:=by
 rw [(addT_ok h0).2.2]
 intro n hn
 rcases lmp.1 hn with hn | hn
 ·exact h n hn
 ·rw [List.mem_singleton] at hn
  subst hn
  rfl
theorem removeT_zero {t : Tr} (h : ZeroC t) {q : Int} (h0 : (removeT t q).2 = 0) : ZeroC (removeT t q).1:=by
 rw [(removeT_ok h0).2.2]
 intro n hn
 exact h n (List.mem_filter.1 hn).1
theorem treeStep_zero (L : List Int) (a : Nat) {t : Tr} (h : ZeroC t) : ZeroC (treeStep L a t).1:=by
 have h1 : ∀ p s,ZeroC (if (addT t p s).2.2 = 0 then (addT t p s).1 else t):=fun p s=>by
  split
  ·exact addT_zero h (by assumption)
  ·exact h
 unfold treeStep
 simp only
 split
 ·have h2 : ∀ (u : Tr) (q : Int),ZeroC u -> ZeroC (if (removeT u q).2 = 0 then (removeT u q).1 else u):=fun u q hu=>by
   split
   .exact removeT_zero hu (by assumption)
   .exact hu
  exact h2 _ _ (h1 _ _)
 .exact h1 _ _
theorem treeLoop_zero (L : List Int) : ∀ (k a : Nat) {t : Tr},ZeroC t -> ZeroC (treeLoop L k a t).1
 | 0,_,_,h=>h
 | k + 1,a,_,h=>treeLoop_zero L k _ (treeStep_zero L a h)
theorem dTree_zero (L : List Int) (a n : Nat) : ZeroC (dTree L a n).1:=treeLoop_zero L _ _ fun n hn=>by
 simp only [newT,List.mem_singleton] at hn
 subst hn
 rfl
theorem ant0 (v : Int) : antI .i64 0 v = 0:=by
 unfold antI
 simp
 rfl
theorem made_sound (L : List Int) (a n : Nat) : soundR ⟨(dTree L a n).1,[],1⟩ = true:=by
 refine (soundR_iff _).2 ⟨⟨by simp,by simp,by simp,(treeOk_iff _).2 (dTree_ok L a n),List.Pairwise.nil,(fun _ h=>by cases h),(fun _ h=>by cases h)⟩,fun x hx=>?_⟩
 have:=dTree_zero L a n x hx
 exact ⟨by rw [this]; exact ant0 _,.inr (.inr fun _ h=>by cases h)⟩
def groupD (L : List Int) (a : Nat) (ns : List Nd) : Int × Nat :=
 if nextV L a 15 = 14 \/ ns = [] then (nextV L (nextA L a 15) 9 - 1,nextA L (nextA L a 15) 9)
 else ((ns.getD (nextV L (nextA L a 15) ns.length).toNat zeroNd).id,nextA L (nextA L a 15) ns.length)
theorem group_eq (L : List Int) (a : Nat) (t : Tr) (hL : L.length < 4611686018427387904) (hl : t.nodes.length < 1000000) : V 18 [.ptr (.arg 0 0) 0 0,t.vv] [diceB L a] = some (.p (.int .i64 (groupD L a t.nodes).1),[diceB L (groupD L a t.nodes).2]):=by
 refine V_wp (vf:=vf18) rfl ?_
 have hb:=bool_eq L a 15 hL (by omega) (by omega)
 have h9:=next_eq L (nextA L a 15) 9 hL (by omega)
 have hn:=next_eq L (nextA L a 15) t.nodes.length hL (by omega)
 have r9:=nextV_nonneg L (nextA L a 15) 9
 have r9':=nextV_lt L (nextA L a 15) (n:=9) (by omega)
 by_cases h14 : nextV L a 15 = 14
 ·have h14' : nextV L a 15 = 15 - 1:=by omega
  simp -implicitDefEqProofs (disch:=omega) only [vf18,vb18,hb,h14',h9,go_sem,↓reduceIte,rA,rS,rE,rL,reduceCtorEq]
  simp [groupD,h14]
 ·have h14' : ¬ nextV L a 15 = 15 - 1:=by omega
  by_cases hz : t.nodes = []
  ·have hz' : (t.nodes.length : Int) = 0:=by rw [hz]; rfl
   simp -implicitDefEqProofs (disch:=omega) only [vf18,vb18,hb,h14',h9,hz',go_sem,↓reduceIte,rA,rS,rE,rL,reduceCtorEq]
   simp [groupD,hz]
  ·have hp : 1 <= t.nodes.length:=List.length_pos_iff.2 hz
   have q0:=nextV_nonneg L (nextA L a 15) t.nodes.length
   have q1:=nextV_lt L (nextA L a 15) (n:=t.nodes.length) (by omega)
   have hm : t.nodes[(nextV L (nextA L a 15) t.nodes.length).toNat]? = some (t.nodes.getD (nextV L (nextA L a 15) t.nodes.length).toNat zeroNd):=by
    rw [List.getD_eq_getElem?_getD,lgg (by omega)]; rfl
   have hz0 : ¬ ((t.nodes.length : Int) = 0):=by omega
   simp -implicitDefEqProofs (disch:=omega) only [vf18,vb18,hb,h14',h9,hn,hz0,hm,go_sem,↓reduceIte,rA,rS,rE,rL,reduceCtorEq]
   simp [groupD,h14,hz]
theorem sound_len {h : Hy} (hs : soundR h = true) : h.ts.length <= 128 /\ 1 <= h.t.nodes.length /\ h.t.nodes.length <= 64 /\ 1 <= h.next:=by
 have m:=sound_mem hs
 have:=treeNext m.tree
 exact ⟨m.len,this.2.2.1,this.2.2.2,m.next1⟩
theorem sound_memOk {h : Hy} (hs : soundR h = true) : memOk h = true:=(memOk_iff h).2 (sound_mem hs)
set_option maxHeartbeats 4000000 in
theorem rexit_cases (h : Hy) (id : Int) (hm : memOk h = true) (hl : h.ts.length < 1000000) (hn : h.t.nodes.length < 1000000) :
  V 51 [h.vv,.p (.int .i64 id)] [] = some (.tup [(⟨h.t,exitL id h.ts,h.next⟩ : Hy).fv,.p (.int .i64 0)],[]) \/
  ∃ e : Int,e ≠ 0 /\ V 51 [h.vv,.p (.int .i64 id)] [] = some (.tup [noH,.p (.int .i64 e)],[]):=by
 cases hq : findK h.ts id with
 | some x=>exact .inl (rexit_ok h id hm (by rw [hq]; rfl) hl hn)
 | none =>
  have hc:=rmcheck_eq h hl hn
  rw [hm] at hc
  have hfi:=rfindK_eq h id hl hn
  unfold findM at hfi
  rw [if_pos hm,hq] at hfi
  simp only [Option.getD_none,Option.isSome_none,Tk.vv] at hfi
  refine .inr ⟨4,by decide,V_wp (vf:=vf51) rfl ?_⟩
  simp -implicitDefEqProofs (disch:=omega) only [vf51,vb51,hc,hfi,go_sem,↓reduceIte,rA,rS,rE,rL,reduceCtorEq]
def anyA (b : Bool) (k : Nat) (l : List PV) : VVal:=if b = true then .fresh k l else .p (.slice k l)
abbrev anyH (h : Hy) (b c : Bool) : VVal:=.agg [anyA b 6 (h.t.nodes.map Nd.pv),.p (.int .i64 h.t.next),anyA c 4 (h.ts.map Tk.pv),.p (.int .i64 h.next)]
def StepR (L : List Int) (r : VVal × List Ob) : Prop:=∃ (h' : Hy) (b c : Bool) (a' : Nat),r = (anyH h' b c,[diceB L a']) /\ soundR h' = true
set_option maxHeartbeats 16000000 in
theorem step_ok (L : List Int) (a : Nat) (h : Hy) (hL : L.length < 4611686018427387904) (hs : soundR h = true) : ∃ (h' : Hy) (b c : Bool) (a' : Nat),V 44 [.ptr (.arg 0 0) 0 0,h.vv] [diceB L a] = some (anyH h' b c,[diceB L a']) /\ soundR h' = true:=by
 suffices hw : wp (callF V vf44 [.ptr (.arg 0 0) 0 0,h.vv] [diceB L a]) (StepR L) by
  obtain ⟨r,hr,h',b,c,a',rfl,hs'⟩:=hw
  exact ⟨h',b,c,a',V_fix (f:=44) (vf:=vf44) rfl hr,hs'⟩
 obtain ⟨l1,l2,l3,l4⟩:=sound_len hs
 have hl : h.ts.length < 1000000:=by omega
 have hn : h.t.nodes.length < 1000000:=by omega
 have keep : ∀ a',StepR L (.agg [.p (nodesP h.t.nodes),.p (.int .i64 h.t.next),.p (tasksP h.ts),.p (.int .i64 h.next)],[diceB L a']):=fun a'=>⟨h,false,false,a',rfl,hs⟩
 have new : ∀ (h' : Hy) (a' : Nat),soundR h' = true -> StepR L (.agg [.fresh 6 (h'.t.nodes.map Nd.pv),.p (.int .i64 h'.t.next),.fresh 4 (h'.ts.map Tk.pv),.p (.int .i64 h'.next)],[diceB L a']):=fun h' a' hs'=>⟨h',true,true,a',rfl,hs'⟩
 have hg:=group_eq L a h.t hL hn
 generalize (groupD L a h.t.nodes).1 = g at hg
 generalize (groupD L a h.t.nodes).2 = a1 at hg
 have hk:=next_eq L a1 5 hL (by omega)
 generalize nextV L a1 5 = k at hk
 generalize nextA L a1 5 = a2 at hk
 have n10 : ¬ (1 : Int) = 0:=by decide
 have n20 : ¬ (2 : Int) = 0:=by decide
 have n21 : ¬ (2 : Int) = 1:=by decide
 have n30 : ¬ (3 : Int) = 0:=by decide
 have n31 : ¬ (3 : Int) = 1:=by decide
 have n32 : ¬ (3 : Int) = 2:=by decide
 by_cases k01 : k = 0 \/ k = 1
 ·have hctl:=dctl_eq L a2 hL
  generalize ctlV L a2 = ad at hctl
  generalize nextA L a2 9 = a3 at hctl
  obtain ⟨r,hr,hres⟩:=enable_ok h g ad 0 hl hn
  have hE:=V_fix (f:=88) (vf:=vf88) rfl hr
  rcases hres with ⟨h',rfl,hs'⟩ | ⟨e,he,rfl⟩
  ·have ht1 : List.take h'.t.nodes.length (h'.t.nodes.map Nd.pv) = h'.t.nodes.map Nd.pv:=ltl (by simp)
   have ht2 : List.take h'.ts.length (h'.ts.map Tk.pv) = h'.ts.map Tk.pv:=ltl (by simp)
   rcases k01 with k0 | k0
   ·simp -implicitDefEqProofs (disch:=omega) only [vf44,vb44,hg,hk,k0,n10,hctl,hE,ht1,ht2,go_sem,↓reduceIte,rA,rS,rE,rL,reduceCtorEq]
    exact new h' _ hs'
   ·simp -implicitDefEqProofs (disch:=omega) only [vf44,vb44,hg,hk,k0,n10,hctl,hE,ht1,ht2,go_sem,↓reduceIte,rA,rS,rE,rL,reduceCtorEq]
    exact new h' _ hs'
  ·rcases k01 with k0 | k0
   ·simp -implicitDefEqProofs (disch:=omega) only [vf44,vb44,hg,hk,k0,n10,hctl,hE,he,go_sem,↓reduceIte,rA,rS,rE,rL,reduceCtorEq]
    exact keep _
   ·simp -implicitDefEqProofs (disch:=omega) only [vf44,vb44,hg,hk,k0,n10,hctl,hE,he,go_sem,↓reduceIte,rA,rS,rE,rL,reduceCtorEq]
    exact keep _
 have k0 : ¬ k = 0:=fun e=>k01 (.inl e)
 have k1 : ¬ k = 1:=fun e=>k01 (.inr e)
 by_cases k2 : k = 2
 ·obtain ⟨r,hr,hres⟩:=convert_ok h g hl hn
  have hC:=V_fix (f:=89) (vf:=vf89) rfl hr
  rcases hres with ⟨h',rfl,hs'⟩ | ⟨e,he,rfl⟩
  ·have ht1 : List.take h'.t.nodes.length (h'.t.nodes.map Nd.pv) = h'.t.nodes.map Nd.pv:=ltl (by simp)
   have ht2 : List.take h'.ts.length (h'.ts.map Tk.pv) = h'.ts.map Tk.pv:=ltl (by simp)
   simp -implicitDefEqProofs (disch:=omega) only [vf44,vb44,hg,hk,k2,n20,n21,hC,ht1,ht2,go_sem,↓reduceIte,rA,rS,rE,rL,reduceCtorEq]
   exact new h' _ hs'
  ·simp -implicitDefEqProofs (disch:=omega) only [vf44,vb44,hg,hk,k2,n20,n21,hC,he,go_sem,↓reduceIte,rA,rS,rE,rL,reduceCtorEq]
   exact keep _
 by_cases k3 : k = 3
 ·have hfi:=rfind_eq h.t g hn
  cases hq : findT h.t g with
  | none =>
   rw [hq] at hfi
   simp only [Option.getD_none,Option.isSome_none,Nd.vv] at hfi
   simp -implicitDefEqProofs (disch:=omega) only [vf44,vb44,hg,hk,k3,n30,n31,n32,hfi,go_sem,↓reduceIte,rA,rS,rE,rL,reduceCtorEq]
   exact keep _
  | some y =>
   rw [hq] at hfi
   simp only [Option.getD_some,Option.isSome_some,Nd.vv] at hfi
   by_cases hg1 : g = 1
   ·subst hg1
    simp -implicitDefEqProofs (disch:=omega) only [vf44,vb44,hg,hk,k3,n30,n31,n32,hfi,go_sem,↓reduceIte,rA,rS,rE,rL,reduceCtorEq]
    exact keep _
   have h3:=next_eq L a2 3 hL (by omega)
   have o0:=nextV_nonneg L a2 3
   have o1:=nextV_lt L a2 (n:=3) (by omega)
   generalize nextV L a2 3 = o at h3 o0 o1
   generalize nextA L a2 3 = a3 at h3
   have hso:=owner_sound hs hq o0 (by omega : o <= 1048576)
   have hse:=rset_eq h.t ⟨y.id,y.parent,y.name,y.control,y.kind,o⟩ hn
   generalize setN h.t.nodes ⟨y.id,y.parent,y.name,y.control,y.kind,o⟩ = ns at hso hse
   simp only [Nd.vv] at hse
   have ht1 : List.take ns.length (ns.map Nd.pv) = ns.map Nd.pv:=ltl (by simp)
   simp -implicitDefEqProofs (disch:=omega) only [vf44,vb44,hg,hk,k3,n30,n31,n32,hfi,hg1,h3,hse,ht1,go_sem,↓reduceIte,rA,rS,rE,rL,reduceCtorEq]
   exact ⟨⟨⟨ns,h.t.next⟩,h.ts,h.next⟩,true,false,a3,rfl,hso⟩
 ·simp -implicitDefEqProofs (disch:=omega) only [vf44,vb44,hg,hk,k0,k1,k2,k3,go_sem,↓reduceIte,rA,rS,rE,rL,reduceCtorEq]
  exact keep _
theorem wp_cutN {a b : VCode} {s : St} {Q : VExit × St -> Prop} (M : St -> Prop) (h1 : wp (exec V a s) (fun r=>r.1 = .normal /\ M r.2)) (h2 : ∀ s',M s' -> wp (exec V b s') Q) : wp (exec V (.seq a b) s) Q:=by
 rw [exec_seq,wp_ob]
 refine wp_mono h1 fun r hr=>?_
 obtain ⟨x,s'⟩:=r
 obtain ⟨e,m⟩:=hr
 simp only at e m
 subst e
 exact h2 s' m
theorem wp_blk {n : Nat} {c : VCode} {s : St} {M : St -> Prop} (h : wp (exec V c s) (fun r=>(r.1 = .normal \/ r.1 = .exit n) /\ M r.2)) : wp (exec V (.block n c) s) (fun r=>r.1 = .normal /\ M r.2):=by
 rw [exec_block,wp_ob]
 refine wp_mono h fun r hr=>?_
 obtain ⟨x,s'⟩:=r
 obtain ⟨e,m⟩:=hr
 simp only at e m
 rcases e with e | e
 ·subst e
  rw [inB_normal,wp_some]
  exact ⟨rfl,m⟩
 ·subst e
  rw [inB_exit,if_pos rfl,wp_some]
  exact ⟨rfl,m⟩
def BoxH (fz : List Nat) (s : St) (h : Hy) : Prop:=∃ X Y,s.h (.slot 7 0) = some (0,.box [X,.p (.int .i64 h.t.next),Y,.p (.int .i64 h.next)]) /\ fz0 fz s.h X = .p (nodesP h.t.nodes) /\ fz0 fz s.h Y = .p (tasksP h.ts)
def BoxP (s : St) (h : Hy) : Prop:=s.h (.slot 7 0) = some (0,.box [.p (nodesP h.t.nodes),.p (.int .i64 h.t.next),.p (tasksP h.ts),.p (.int .i64 h.next)])
def Env6 (L : List Int) (b : Nat) (s : St) : Prop:=s.pe 0 = .ptr (.arg 0 0) 0 0 /\ s.pe 6 = .ptr (.slot 6 0) 0 0 /\ s.pe 7 = .ptr (.slot 7 0) 0 0 /\ s.h (.arg 0 0) = some (0,diceB L b) /\
 s.h (.slot 6 0) = some (0,.box [.own (.slot 6 1) 0 0 0,.p (.int .i64 0),.own (.slot 6 3) 0 0 0,.p (.int .i64 0)])
def J1 (L : List Int) (k : Nat) (x : Nat × Nat × Hy) (s : St) : Prop:=soundR x.2.2 = true /\ x.1 < 1003 /\ Env6 L x.2.1 s /\ s.pe 2 = .p (.int .i64 k) /\ s.pe 8 = .p (.int .i64 x.1) /\ BoxH [21,36] s x.2.2
def E1 (L : List Int) (k : Nat) (r : VExit × St) : Prop:=r.1 = .exit 0 /\ ∃ b h,soundR h = true /\ Env6 L b r.2 /\ r.2.pe 2 = .p (.int .i64 k) /\ BoxP r.2 h
def Mid (L : List Int) (i : Nat) (fz : List Nat) (s : St) : Prop:=∃ b h,soundR h = true /\ Env6 L b s /\ s.pe 9 = .p (.int .i64 i) /\ BoxH fz s h
def MidP (L : List Int) (i : Nat) (h : Hy) (g : Int) (s : St) : Prop:=∃ b,Env6 L b s /\ s.pe 9 = .p (.int .i64 i) /\ s.pe 10 = .p (.int .i64 g) /\ BoxP s h
abbrev fzE : List Nat:=[11,14,17,19,58,72,90,103]
def HierR (L : List Int) (r : VVal × List Ob) : Prop:=∃ (h' : Hy) (a' : Nat),r = (h'.vv,[diceB L a']) /\ soundR h' = true
set_option maxHeartbeats 16000000 in
theorem hier_ok (L : List Int) (a m k : Nat) (hL : L.length < 4611686018427387904) (hm : m < 1000) (hk : k < 1000) : ∃ (h' : Hy) (a' : Nat),V 11 [.ptr (.arg 0 0) 0 0,.p (.int .i64 m),.p (.int .i64 k)] [diceB L a] = some (h'.vv,[diceB L a']) /\ soundR h' = true:=by
 suffices hw : wp (callF V vf11 [.ptr (.arg 0 0) 0 0,.p (.int .i64 m),.p (.int .i64 k)] [diceB L a]) (HierR L) by
  obtain ⟨r,hr,h',a',rfl,hs'⟩:=hw
  exact ⟨h',a',V_fix (f:=11) (vf:=vf11) rfl hr,hs'⟩
 have ht:=tree_eq L a m hL hm
 have hms:=made_sound L a m
 generalize (dTree L a m).1 = t at ht hms
 generalize (dTree L a m).2 = a1 at ht
 have hnx:=next_eq L a1 ((m : Int) + 3) hL (by omega)
 have hn0:=nextV_nonneg L a1 ((m : Int) + 3)
 have hn1:=nextV_lt L a1 (n:=(m : Int) + 3) (by omega)
 generalize nextA L a1 ((m : Int) + 3) = a2 at hnx
 obtain ⟨k1,hk1,hk1l⟩ : ∃ k1 : Nat,nextV L a1 ((m : Int) + 3) = (k1 : Int) /\ k1 < 1003:=⟨(nextV L a1 ((m : Int) + 3)).toNat,by omega,by omega⟩
 rw [hk1] at hnx
 clear hn0 hn1 hk1
 have hnew : V 42 [] [] = some (.agg [.fresh 6 [(⟨1,0,⟨#[]⟩,0,0,0⟩ : Nd).pv],.p (.int .i64 2),.fresh 4 [],.p (.int .i64 1)],[]):=rhnew_eq
 simp -implicitDefEqProofs (disch:=omega) only [vf11,vb11,hnew,ht,hnx,go_sem,↓reduceIte,rA,rS,rE,rL,reduceCtorEq]
 refine wp_mono (Q:=E1 L k) (wp_meas (σ:=Nat × Nat × Hy) (J1 L k) (fun x=>x.1) (k1,a2,⟨t,[],1⟩) ?_ ?_) ?_
 ·refine ⟨hms,hk1l,⟨rfl,rfl,rfl,rfl,rfl⟩,rfl,rfl,_,_,rfl,?_,?_⟩
  ·simp -implicitDefEqProofs (disch:=omega) only [go_sem,↓reduceIte,rA,rS,rE,rL,reduceCtorEq]
  ·simp -implicitDefEqProofs (disch:=omega) only [go_sem,↓reduceIte,rA,rS,rE,rL,reduceCtorEq]
   rfl
 ·rintro ⟨i,b,h⟩ s ⟨hs,hi,⟨h0,h6,h7,hha,hh6⟩,h2,h8,X,Y,hh7,hX,hY⟩
  simp only at hs hi h8 hha hh7 hX hY
  obtain ⟨l1,l2,l3,l4⟩:=sound_len hs
  simp -implicitDefEqProofs (disch:=omega) only [h0,h2,h6,h7,h8,hha,hh6,hh7,hX,hY,go_sem,↓reduceIte,rA,rS,rE,rL,reduceCtorEq]
  refine wp_if_d (fun hgt=>?_) (fun hle=>?_)
  ·obtain ⟨i',rfl⟩ : ∃ i',i = i' + 1:=⟨i - 1,by omega⟩
   obtain ⟨h',c1,c2,b',hst,hs'⟩:=step_ok L b h hL hs
   have ht1 : List.take h'.t.nodes.length (h'.t.nodes.map Nd.pv) = h'.t.nodes.map Nd.pv:=ltl (by simp)
   have ht2 : List.take h'.ts.length (h'.ts.map Tk.pv) = h'.ts.map Tk.pv:=ltl (by simp)
   cases c1 <;> cases c2 <;> simp only [anyH,anyA,if_true,bft,if_false] at hst
   all_goals
    simp -implicitDefEqProofs (disch:=omega) only [h0,h2,h6,h7,h8,hha,hh6,hh7,hX,hY,hst,go_sem,↓reduceIte,rA,rS,rE,rL,reduceCtorEq]
    refine ⟨(i',b',h'),Nat.lt_succ_self _,hs',by simp only; omega,?_⟩
    unfold Env6 BoxH
    simp -implicitDefEqProofs (disch:=omega) only [h0,h2,h6,h7,h8,hha,hh6,hh7,hX,hY,go_sem,↓reduceIte,rA,rS,rE,rL,reduceCtorEq]
    refine ⟨by congr 2; omega,_,_,rfl,?_,?_⟩
    ·simp -implicitDefEqProofs (disch:=omega) only [ht1,go_sem,↓reduceIte,rA,rS,rE,rL,reduceCtorEq]
    ·simp -implicitDefEqProofs (disch:=omega) only [ht2,go_sem,↓reduceIte,rA,rS,rE,rL,reduceCtorEq]
  ·simp -implicitDefEqProofs (disch:=omega) only [h0,h2,h6,h7,h8,hha,hh6,hh7,hX,hY,go_sem,↓reduceIte,rA,rS,rE,rL,reduceCtorEq]
   refine ⟨rfl,b,h,hs,?_⟩
   unfold Env6 BoxP
   simp -implicitDefEqProofs (disch:=omega) only [h0,h2,h6,h7,h8,hha,hh6,hh7,hX,hY,go_sem,↓reduceIte,rA,rS,rE,rL,reduceCtorEq]
 ·rintro ⟨x,s⟩ ⟨e,b,h,hs,⟨h0,h6,h7,hha,hh6⟩,h2,hh7⟩
  simp only at e hs h0 h6 h7 hha hh6 h2 hh7
  subst e
  have hnx2:=next_eq L b ((k : Int) + 1) hL (by omega)
  have hn0:=nextV_nonneg L b ((k : Int) + 1)
  have hn1:=nextV_lt L b (n:=(k : Int) + 1) (by omega)
  generalize nextA L b ((k : Int) + 1) = b2 at hnx2
  obtain ⟨k2,hk2,hk2l⟩ : ∃ k2 : Nat,nextV L b ((k : Int) + 1) = (k2 : Int) /\ k2 < 1003:=⟨(nextV L b ((k : Int) + 1)).toNat,by omega,by omega⟩
  rw [hk2] at hnx2
  clear hn0 hn1 hk2
  simp -implicitDefEqProofs (disch:=omega) only [h0,h2,h6,h7,hha,hh6,hh7,hnx2,go_sem,↓reduceIte,rA,rS,rE,rL,reduceCtorEq]
  refine wp_meas (σ:=Nat) (fun i s=>i < 1003 /\ Mid L i fzE s) (fun x=>x) k2 ?_ ?_
  ·refine ⟨hk2l,b2,h,hs,?_⟩
   unfold Env6 BoxH
   simp -implicitDefEqProofs (disch:=omega) only [h0,h2,h6,h7,hha,hh6,hh7,go_sem,↓reduceIte,rA,rS,rE,rL,reduceCtorEq]
   first | refine ⟨_,_,hh7,?_,?_⟩ | refine ⟨_,_,rfl,?_,?_⟩
   ·simp -implicitDefEqProofs (disch:=omega) only [go_sem,↓reduceIte,rA,rS,rE,rL,reduceCtorEq]
   ·simp -implicitDefEqProofs (disch:=omega) only [go_sem,↓reduceIte,rA,rS,rE,rL,reduceCtorEq]
  clear hs h0 h6 h7 hha hh6 h2 hh7 hnx2
  rintro i s ⟨hi,b,h,hs,⟨h0,h6,h7,hha,hh6⟩,h9,X,Y,hh7,hX,hY⟩
  obtain ⟨l1,l2,l3,l4⟩:=sound_len hs
  have hl : h.ts.length < 1000000:=by omega
  have hn : h.t.nodes.length < 1000000:=by omega
  simp -implicitDefEqProofs (disch:=omega) only [h0,h6,h7,h9,hha,hh6,hh7,hX,hY,go_sem,↓reduceIte,rA,rS,rE,rL,reduceCtorEq]
  refine wp_if_d (fun hgt=>?_) (fun hle=>?_)
  ·obtain ⟨i',rfl⟩ : ∃ i',i = i' + 1:=⟨i - 1,by omega⟩
   rw [exec_skip,wp_some,thenE_normal]
   refine wp_cutN (Mid L (i' + 1) fzE) (wp_blk (M:=Mid L (i' + 1) fzE) ?_) ?_
   ·have hgr:=group_eq L b h.t hL hn
    generalize (groupD L b h.t.nodes).1 = g at hgr
    generalize (groupD L b h.t.nodes).2 = b1 at hgr
    refine wp_cutN (MidP L (i' + 1) h g) ?_ ?_
    ·simp -implicitDefEqProofs (disch:=omega) only [h0,h6,h7,h9,hha,hh6,hh7,hX,hY,hgr,go_sem,↓reduceIte,rA,rS,rE,rL,reduceCtorEq]
     refine ⟨b1,?_⟩
     unfold Env6 BoxP
     simp -implicitDefEqProofs (disch:=omega) only [h0,h6,h7,h9,hha,hh6,hh7,hX,hY,go_sem,↓reduceIte,rA,rS,rE,rL,reduceCtorEq]
    clear h0 h6 h7 hha hh6 h9 X Y hh7 hX hY hgr
    rintro s ⟨b2,⟨h0,h6,h7,hha,hh6⟩,h9,h10,hh7⟩
    unfold BoxP at hh7
    obtain ⟨e,he,hadm⟩:=admits_ok h g hl hn
    by_cases he0 : e = 0
    rotate_left
    ·simp -implicitDefEqProofs (disch:=omega) only [h0,h6,h7,h9,h10,hha,hh6,hh7,he,he0,go_sem,↓reduceIte,rA,rS,rE,rL,reduceCtorEq]
     refine ⟨b2,h,hs,?_⟩
     unfold Env6 BoxH
     simp -implicitDefEqProofs (disch:=omega) only [h0,h6,h7,h9,hha,hh6,hh7,go_sem,↓reduceIte,rA,rS,rE,rL,reduceCtorEq]
     first | refine ⟨_,_,hh7,?_,?_⟩ | refine ⟨_,_,rfl,?_,?_⟩
     ·simp -implicitDefEqProofs (disch:=omega) only [go_sem,↓reduceIte,rA,rS,rE,rL,reduceCtorEq]
     ·simp -implicitDefEqProofs (disch:=omega) only [go_sem,↓reduceIte,rA,rS,rE,rL,reduceCtorEq]
    subst he0
    have ha:=hadm rfl
    refine wp_cutN (MidP L (i' + 1) h g) ?_ ?_
    ·simp -implicitDefEqProofs (disch:=omega) only [h0,h6,h7,h9,h10,hha,hh6,hh7,he,go_sem,↓reduceIte,rA,rS,rE,rL,reduceCtorEq]
     refine ⟨b2,?_⟩
     unfold Env6 BoxP
     simp -implicitDefEqProofs (disch:=omega) only [h0,h6,h7,h9,h10,hha,hh6,hh7,go_sem,↓reduceIte,rA,rS,rE,rL,reduceCtorEq]
    clear h0 h6 h7 hha hh6 h9 h10 hh7 he hadm
    rintro s ⟨b,⟨h0,h6,h7,hha,hh6⟩,h9,h10,hh7⟩
    unfold BoxP at hh7
    refine wp_cutN (Mid L (i' + 1) [58]) ?_ ?_
    ·have h3:=next_eq L b 3 hL (by omega)
     have o0:=nextV_nonneg L b 3
     have o1:=nextV_lt L b (n:=3) (by omega)
     generalize nextV L b 3 = u at h3 o0 o1
     generalize nextA L b 3 = b1 at h3
     rcases rspawn_cases h g u (by omega) hl hn with ⟨_,_,_,_,hf,hsp⟩ | ⟨e,he,hsp⟩
     ·have hs':=spawn_sound ha hf o0 (by omega)
      generalize addH h ⟨0,0,g,u⟩ = h' at hsp hs'
      have ht1 : List.take h'.t.nodes.length (h'.t.nodes.map Nd.pv) = h'.t.nodes.map Nd.pv:=ltl (by simp)
      have ht2 : List.take h'.ts.length (h'.ts.map Tk.pv) = h'.ts.map Tk.pv:=ltl (by simp)
      simp -implicitDefEqProofs (disch:=omega) only [h0,h6,h7,h9,h10,hha,hh6,hh7,h3,hsp,ht1,ht2,go_sem,↓reduceIte,rA,rS,rE,rL,reduceCtorEq]
      refine ⟨b1,h',hs',?_⟩
      unfold Env6 BoxH
      simp -implicitDefEqProofs (disch:=omega) only [h0,h6,h7,h9,hha,hh6,hh7,go_sem,↓reduceIte,rA,rS,rE,rL,reduceCtorEq]
      refine ⟨_,_,rfl,?_,?_⟩
      .simp -implicitDefEqProofs (disch:=omega) only [ht1,go_sem,↓reduceIte,rA,rS,rE,rL,reduceCtorEq]
      .simp -implicitDefEqProofs (disch:=omega) only [ht2,go_sem,↓reduceIte,rA,rS,rE,rL,reduceCtorEq]
     ·simp -implicitDefEqProofs (disch:=omega) only [h0,h6,h7,h9,h10,hha,hh6,hh7,h3,hsp,he,go_sem,↓reduceIte,rA,rS,rE,rL,reduceCtorEq]
      refine ⟨b1,h,hs,?_⟩
      unfold Env6 BoxH
      simp -implicitDefEqProofs (disch:=omega) only [h0,h6,h7,h9,hha,hh6,hh7,go_sem,↓reduceIte,rA,rS,rE,rL,reduceCtorEq]
      first | refine ⟨_,_,hh7,?_,?_⟩ | refine ⟨_,_,rfl,?_,?_⟩
      .simp -implicitDefEqProofs (disch:=omega) only [go_sem,↓reduceIte,rA,rS,rE,rL,reduceCtorEq]
      .simp -implicitDefEqProofs (disch:=omega) only [go_sem,↓reduceIte,rA,rS,rE,rL,reduceCtorEq]
    clear h0 h6 h7 hha hh6 h9 h10 hh7 ha hs l1 l2 l3 l4 hl hn h b
    rintro s ⟨b,h,hs,⟨h0,h6,h7,hha,hh6⟩,h9,X,Y,hh7,hX,hY⟩
    refine wp_cutN (Mid L (i' + 1) [72]) ?_ ?_
    ·obtain ⟨l1,l2,l3,l4⟩:=sound_len hs
     have hl : h.ts.length < 1000000:=by omega
     have hn : h.t.nodes.length < 1000000:=by omega
     have hb:=bool_eq L b 3 hL (by omega) (by omega)
     generalize nextA L b 3 = b1 at hb
     generalize decide (nextV L b 3 = 3 - 1) = bo at hb
     cases bo
     ·simp -implicitDefEqProofs (disch:=omega) only [h0,h6,h7,h9,hha,hh6,hh7,hX,hY,hb,go_sem,↓reduceIte,rA,rS,rE,rL,reduceCtorEq]
      refine ⟨b1,h,hs,?_⟩
      unfold Env6 BoxH
      simp -implicitDefEqProofs (disch:=omega) only [h0,h6,h7,h9,hha,hh6,hh7,hX,hY,go_sem,↓reduceIte,rA,rS,rE,rL,reduceCtorEq]
      refine ⟨_,_,rfl,?_,?_⟩
      .simp -implicitDefEqProofs (disch:=omega) only [go_sem,↓reduceIte,rA,rS,rE,rL,reduceCtorEq]
      .simp -implicitDefEqProofs (disch:=omega) only [go_sem,↓reduceIte,rA,rS,rE,rL,reduceCtorEq]
     obtain ⟨id,b2,htk⟩:=dtask_ok L b1 h hL hl hn
     rcases rclone_cases h id (by omega) hl hn with ⟨x,_,hx,hf,hcl⟩ | ⟨e,he,hcl⟩
     ·have hs':=clone_sound hs hx hf
      generalize addH h x = h' at hcl hs'
      have ht1 : List.take h'.t.nodes.length (h'.t.nodes.map Nd.pv) = h'.t.nodes.map Nd.pv:=ltl (by simp)
      have ht2 : List.take h'.ts.length (h'.ts.map Tk.pv) = h'.ts.map Tk.pv:=ltl (by simp)
      simp -implicitDefEqProofs (disch:=omega) only [h0,h6,h7,h9,hha,hh6,hh7,hX,hY,hb,htk,hcl,ht1,ht2,go_sem,↓reduceIte,rA,rS,rE,rL,reduceCtorEq]
      refine ⟨b2,h',hs',?_⟩
      unfold Env6 BoxH
      simp -implicitDefEqProofs (disch:=omega) only [h0,h6,h7,h9,hha,hh6,hh7,hX,hY,go_sem,↓reduceIte,rA,rS,rE,rL,reduceCtorEq]
      refine ⟨_,_,rfl,?_,?_⟩
      .simp -implicitDefEqProofs (disch:=omega) only [ht1,go_sem,↓reduceIte,rA,rS,rE,rL,reduceCtorEq]
      .simp -implicitDefEqProofs (disch:=omega) only [ht2,go_sem,↓reduceIte,rA,rS,rE,rL,reduceCtorEq]
     ·simp -implicitDefEqProofs (disch:=omega) only [h0,h6,h7,h9,hha,hh6,hh7,hX,hY,hb,htk,hcl,he,go_sem,↓reduceIte,rA,rS,rE,rL,reduceCtorEq]
      refine ⟨b2,h,hs,?_⟩
      unfold Env6 BoxH
      simp -implicitDefEqProofs (disch:=omega) only [h0,h6,h7,h9,hha,hh6,hh7,hX,hY,go_sem,↓reduceIte,rA,rS,rE,rL,reduceCtorEq]
      refine ⟨_,_,rfl,?_,?_⟩
      .simp -implicitDefEqProofs (disch:=omega) only [go_sem,↓reduceIte,rA,rS,rE,rL,reduceCtorEq]
      .simp -implicitDefEqProofs (disch:=omega) only [go_sem,↓reduceIte,rA,rS,rE,rL,reduceCtorEq]
    clear h0 h6 h7 hha hh6 h9 X Y hh7 hX hY hs h b
    rintro s ⟨b,h,hs,⟨h0,h6,h7,hha,hh6⟩,h9,X,Y,hh7,hX,hY⟩
    refine wp_cutN (Mid L (i' + 1) [90]) ?_ ?_
    ·obtain ⟨l1,l2,l3,l4⟩:=sound_len hs
     have hl : h.ts.length < 1000000:=by omega
     have hn : h.t.nodes.length < 1000000:=by omega
     have hb:=bool_eq L b 4 hL (by omega) (by omega)
     generalize nextA L b 4 = b1 at hb
     generalize decide (nextV L b 4 = 4 - 1) = bo at hb
     cases bo
     ·simp -implicitDefEqProofs (disch:=omega) only [h0,h6,h7,h9,hha,hh6,hh7,hX,hY,hb,go_sem,↓reduceIte,rA,rS,rE,rL,reduceCtorEq]
      refine ⟨b1,h,hs,?_⟩
      unfold Env6 BoxH
      simp -implicitDefEqProofs (disch:=omega) only [h0,h6,h7,h9,hha,hh6,hh7,hX,hY,go_sem,↓reduceIte,rA,rS,rE,rL,reduceCtorEq]
      refine ⟨_,_,rfl,?_,?_⟩
      .simp -implicitDefEqProofs (disch:=omega) only [go_sem,↓reduceIte,rA,rS,rE,rL,reduceCtorEq]
      .simp -implicitDefEqProofs (disch:=omega) only [go_sem,↓reduceIte,rA,rS,rE,rL,reduceCtorEq]
     obtain ⟨id,b2,htk⟩:=dtask_ok L b1 h hL hl hn
     have hgr:=group_eq L b2 h.t hL hn
     generalize (groupD L b2 h.t.nodes).1 = g at hgr
     generalize (groupD L b2 h.t.nodes).2 = b3 at hgr
     obtain ⟨r,hr,hres⟩:=attach_ok h id g hl hn
     have hA:=V_fix (f:=50) (vf:=vf50) rfl hr
     rcases hres with ⟨h',rfl,ha,he'⟩ | ⟨e,he,rfl⟩
     ·have hs' : soundR h' = true:=by rw [he']; exact move_sound ha
      clear he'
      have ht1 : List.take h'.t.nodes.length (h'.t.nodes.map Nd.pv) = h'.t.nodes.map Nd.pv:=ltl (by simp)
      have ht2 : List.take h'.ts.length (h'.ts.map Tk.pv) = h'.ts.map Tk.pv:=ltl (by simp)
      simp -implicitDefEqProofs (disch:=omega) only [h0,h6,h7,h9,hha,hh6,hh7,hX,hY,hb,htk,hgr,hA,ht1,ht2,go_sem,↓reduceIte,rA,rS,rE,rL,reduceCtorEq]
      refine ⟨b3,h',hs',?_⟩
      unfold Env6 BoxH
      simp -implicitDefEqProofs (disch:=omega) only [h0,h6,h7,h9,hha,hh6,hh7,hX,hY,go_sem,↓reduceIte,rA,rS,rE,rL,reduceCtorEq]
      refine ⟨_,_,rfl,?_,?_⟩
      .simp -implicitDefEqProofs (disch:=omega) only [ht1,go_sem,↓reduceIte,rA,rS,rE,rL,reduceCtorEq]
      .simp -implicitDefEqProofs (disch:=omega) only [ht2,go_sem,↓reduceIte,rA,rS,rE,rL,reduceCtorEq]
     ·simp -implicitDefEqProofs (disch:=omega) only [h0,h6,h7,h9,hha,hh6,hh7,hX,hY,hb,htk,hgr,hA,he,go_sem,↓reduceIte,rA,rS,rE,rL,reduceCtorEq]
      refine ⟨b3,h,hs,?_⟩
      unfold Env6 BoxH
      simp -implicitDefEqProofs (disch:=omega) only [h0,h6,h7,h9,hha,hh6,hh7,hX,hY,go_sem,↓reduceIte,rA,rS,rE,rL,reduceCtorEq]
      refine ⟨_,_,rfl,?_,?_⟩
      .simp -implicitDefEqProofs (disch:=omega) only [go_sem,↓reduceIte,rA,rS,rE,rL,reduceCtorEq]
      .simp -implicitDefEqProofs (disch:=omega) only [go_sem,↓reduceIte,rA,rS,rE,rL,reduceCtorEq]
    clear h0 h6 h7 hha hh6 h9 X Y hh7 hX hY hs h b
    rintro s ⟨b,h,hs,⟨h0,h6,h7,hha,hh6⟩,h9,X,Y,hh7,hX,hY⟩
    obtain ⟨l1,l2,l3,l4⟩:=sound_len hs
    have hl : h.ts.length < 1000000:=by omega
    have hn : h.t.nodes.length < 1000000:=by omega
    have hb:=bool_eq L b 8 hL (by omega) (by omega)
    generalize nextA L b 8 = b1 at hb
    generalize decide (nextV L b 8 = 8 - 1) = bo at hb
    cases bo
    ·simp -implicitDefEqProofs (disch:=omega) only [h0,h6,h7,h9,hha,hh6,hh7,hX,hY,hb,go_sem,↓reduceIte,rA,rS,rE,rL,reduceCtorEq]
     refine ⟨b1,h,hs,?_⟩
     unfold Env6 BoxH
     simp -implicitDefEqProofs (disch:=omega) only [h0,h6,h7,h9,hha,hh6,hh7,hX,hY,go_sem,↓reduceIte,rA,rS,rE,rL,reduceCtorEq]
     refine ⟨_,_,rfl,?_,?_⟩
     .simp -implicitDefEqProofs (disch:=omega) only [go_sem,↓reduceIte,rA,rS,rE,rL,reduceCtorEq]
     .simp -implicitDefEqProofs (disch:=omega) only [go_sem,↓reduceIte,rA,rS,rE,rL,reduceCtorEq]
    obtain ⟨id,b2,htk⟩:=dtask_ok L b1 h hL hl hn
    rcases rexit_cases h id (sound_memOk hs) hl hn with hex | ⟨e,he,hex⟩
    ·have hs':=exit_sound hs id
     generalize hh' : (⟨h.t,exitL id h.ts,h.next⟩ : Hy) = h' at hex hs'
     have ht1 : List.take h'.t.nodes.length (h'.t.nodes.map Nd.pv) = h'.t.nodes.map Nd.pv:=ltl (by simp)
     have ht2 : List.take h'.ts.length (h'.ts.map Tk.pv) = h'.ts.map Tk.pv:=ltl (by simp)
     simp -implicitDefEqProofs (disch:=omega) only [h0,h6,h7,h9,hha,hh6,hh7,hX,hY,hb,htk,hex,ht1,ht2,go_sem,↓reduceIte,rA,rS,rE,rL,reduceCtorEq]
     refine ⟨b2,h',hs',?_⟩
     unfold Env6 BoxH
     simp -implicitDefEqProofs (disch:=omega) only [h0,h6,h7,h9,hha,hh6,hh7,hX,hY,go_sem,↓reduceIte,rA,rS,rE,rL,reduceCtorEq]
     refine ⟨_,_,rfl,?_,?_⟩
     .simp -implicitDefEqProofs (disch:=omega) only [ht1,go_sem,↓reduceIte,rA,rS,rE,rL,reduceCtorEq]
     .simp -implicitDefEqProofs (disch:=omega) only [ht2,go_sem,↓reduceIte,rA,rS,rE,rL,reduceCtorEq]
    ·simp -implicitDefEqProofs (disch:=omega) only [h0,h6,h7,h9,hha,hh6,hh7,hX,hY,hb,htk,hex,he,go_sem,↓reduceIte,rA,rS,rE,rL,reduceCtorEq]
     refine ⟨b2,h,hs,?_⟩
     unfold Env6 BoxH
     simp -implicitDefEqProofs (disch:=omega) only [h0,h6,h7,h9,hha,hh6,hh7,hX,hY,go_sem,↓reduceIte,rA,rS,rE,rL,reduceCtorEq]
     refine ⟨_,_,rfl,?_,?_⟩
     .simp -implicitDefEqProofs (disch:=omega) only [go_sem,↓reduceIte,rA,rS,rE,rL,reduceCtorEq]
     .simp -implicitDefEqProofs (disch:=omega) only [go_sem,↓reduceIte,rA,rS,rE,rL,reduceCtorEq]
   ·clear h0 h6 h7 hha hh6 h9 hh7 hX hY hs l1 l2 l3 l4 hl hn X Y h b
    rintro s ⟨b,h,hs,⟨h0,h6,h7,hha,hh6⟩,h9,X,Y,hh7,hX,hY⟩
    simp -implicitDefEqProofs (disch:=omega) only [h0,h6,h7,h9,hha,hh6,hh7,hX,hY,go_sem,↓reduceIte,rA,rS,rE,rL,reduceCtorEq]
    refine ⟨i',Nat.lt_succ_self _,by omega,b,h,hs,?_⟩
    unfold Env6 BoxH
    simp -implicitDefEqProofs (disch:=omega) only [h0,h6,h7,h9,hha,hh6,hh7,hX,hY,go_sem,↓reduceIte,rA,rS,rE,rL,reduceCtorEq]
    refine ⟨by congr 2; omega,?_⟩
    first | refine ⟨_,_,hh7,?_,?_⟩ | refine ⟨_,_,rfl,?_,?_⟩
    .simp -implicitDefEqProofs (disch:=omega) only [hX,go_sem,↓reduceIte,rA,rS,rE,rL,reduceCtorEq]
    .simp -implicitDefEqProofs (disch:=omega) only [hY,go_sem,↓reduceIte,rA,rS,rE,rL,reduceCtorEq]
  ·simp -implicitDefEqProofs (disch:=omega) only [h0,h6,h7,h9,hha,hh6,hh7,hX,hY,go_sem,↓reduceIte,rA,rS,rE,rL,reduceCtorEq]
   exact ⟨h,b,rfl,hs⟩
def eachL (m : Nat) : List Int:=(([0,1,2,3,4] : List Nat).filter fun k=>m.testBit k).map fun k=>((2 ^ k : Nat) : Int)
def wordS (c : Int) : ByteArray:=if c = 1 then ⟨#[99,112,117]⟩ else if c = 2 then ⟨#[109,101,109,111,114,121]⟩ else if c = 4 then ⟨#[105,111]⟩ else if c = 8 then ⟨#[112,105,100,115]⟩ else ⟨#[99,112,117,115,101,116]⟩
abbrev namesL (m : Nat) : List ByteArray:=(eachL m).map wordS
theorem tabA : ∀ m : Fin 32,andI .i64 (m.val : Nat) 31 = (m.val : Nat) /\ IntKind.u64.wrap (m.val : Nat) = (m.val : Nat) /\ antI .i64 31 (m.val : Nat) = ((31 - m.val : Nat) : Int):=by decide +kernel
theorem tabB : ∀ m : Fin 32,m.val ≠ 0 -> eachL m.val = ((2 ^ Lib.ctz 64 m.val : Nat) : Int) :: eachL (m.val &&& (m.val - 1)) /\ m.val &&& (m.val - 1) < m.val /\ IntKind.u64.wrap ((m.val : Nat) - 1) = ((m.val - 1 : Nat) : Int) /\ andI .u64 (m.val : Nat) ((m.val - 1 : Nat) : Int) = ((m.val &&& (m.val - 1) : Nat) : Int) /\
  shlI .i64 1 ((Lib.ctz 64 m.val : Nat) : Int) = ((2 ^ Lib.ctz 64 m.val : Nat) : Int):=by decide +kernel
set_option maxHeartbeats 1000000 in
theorem each_eq (m : Nat) (hm : m < 32) : V 80 [.p (.int .i64 m)] [] = some (.fresh 1 ((eachL m).map (.int .i64)),[]):=by
 refine V_wp (vf:=vf80) rfl ?_
 obtain ⟨a1,a2,_⟩:=tabA ⟨m,hm⟩
 simp only at a1 a2
 simp -implicitDefEqProofs (disch:=omega) only [vf80,vb80,a1,a2,go_sem,↓reduceIte,rA,rS,rE,rL,reduceCtorEq]
 obtain ⟨R,hR⟩ : ∃ I : Nat -> St -> Prop,∀ r s,I r s ↔ ∃ (acc : List Int) (w : Nat),r < 32 /\ eachL m = acc ++ eachL r /\ acc.length + r <= 32 /\ s.pe 3 = .own (.slot 3 0) w 0 acc.length /\ s.pe 4 = .p (.int .u64 r) /\ s.h (.slot 3 0) = some (w,Ob.arr 1 (acc.map (.int .i64))):=⟨_,fun _ _=>Iff.rfl⟩
 refine wp_meas R id (m) ?_ ?_
 ·refine (hR _ _).2 ⟨[],0,?_,?_,?_,?_,?_,?_⟩
  .exact hm
  .rfl
  .exact by simp; omega
  all_goals exact cl0
 intro r s hRk
 obtain ⟨acc,w,hb,ha,hl,h3,h4,hh3_0⟩:=(hR _ _).1 hRk
 clear hRk
 by_cases hb0 : r = 0
 ·subst hb0
  have e : eachL 0 = []:=by decide
  rw [e,lan] at ha
  subst ha
  simp -implicitDefEqProofs (disch:=omega) only [h3,h4,hh3_0,Int.natCast_zero,go_sem,↓reduceIte,rA,rS,rE,rL,reduceCtorEq]
  all_goals rw [ltl (by simp)]
 ·have hz : ¬ (r : Int) = 0:=by omega
  obtain ⟨b1,b2,b3,b4,b5⟩:=tabB ⟨r,hb⟩ hb0
  simp only at b1 b2 b3 b4 b5
  have ht:=tz_x (n:=(r : Int)) (by omega) (by omega)
  rw [Int.toNat_natCast] at ht
  have hc0 : (0 : Int) <= (Lib.ctz 64 r : Nat):=Int.natCast_nonneg _
  rw [b1,List.append_cons] at ha
  generalize ((2 ^ Lib.ctz 64 r : Nat) : Int) = c at b5 ha
  generalize r &&& (r - 1) = r' at b2 b4 ha
  generalize Lib.ctz 64 r = z at ht b5 hc0
  have htk : List.take acc.length (acc.map (PV.int .i64)) = acc.map (PV.int .i64):=ltl (by simp)
  clear b1
  simp -implicitDefEqProofs (disch:=omega) only [h3,h4,hh3_0,hz,ht,b3,b4,b5,hc0,htk,go_sem,↓reduceIte,rA,rS,rE,rL,reduceCtorEq]
  refine ⟨r',by simp only [id]; omega,(hR _ _).2 ⟨acc ++ [c],w + 1,?_,?_,?_,?_,?_,?_⟩⟩
  .omega
  .exact ha
  .exact by simp; omega
  all_goals exact cl0
theorem word_eq (c : Int) : V 81 [.p (.int .i64 c)] [] = some (.p (.str (wordS c)),[]):=by
 refine V_wp (vf:=vf81) rfl ?_
 unfold wordS
 have f1 : ¬ (2 : Int) = 1:=by decide
 have f2 : ¬ (4 : Int) = 1:=by decide
 have f3 : ¬ (4 : Int) = 2:=by decide
 have f4 : ¬ (8 : Int) = 1:=by decide
 have f5 : ¬ (8 : Int) = 2:=by decide
 have f6 : ¬ (8 : Int) = 4:=by decide
 by_cases h1 : c = 1
 ·subst h1
  simp -implicitDefEqProofs (disch:=omega) only [vf81,vb81,go_sem,↓reduceIte,rA,rS,rE,rL,reduceCtorEq]
 ·by_cases h2 : c = 2
  ·subst h2
   simp -implicitDefEqProofs (disch:=omega) only [vf81,vb81,f1,go_sem,↓reduceIte,rA,rS,rE,rL,reduceCtorEq]
  ·by_cases h4 : c = 4
   ·subst h4
    simp -implicitDefEqProofs (disch:=omega) only [vf81,vb81,f2,f3,go_sem,↓reduceIte,rA,rS,rE,rL,reduceCtorEq]
   ·by_cases h8 : c = 8
    ·subst h8
     simp -implicitDefEqProofs (disch:=omega) only [vf81,vb81,f4,f5,f6,go_sem,↓reduceIte,rA,rS,rE,rL,reduceCtorEq]
    .simp -implicitDefEqProofs (disch:=omega) only [vf81,vb81,h1,h2,h4,h8,go_sem,↓reduceIte,rA,rS,rE,rL,reduceCtorEq]
theorem eachL_len : ∀ m : Fin 32,(eachL m.val).length <= 5:=by decide +kernel
theorem wordS_size (c : Int) : (wordS c).size <= 6:=by
 unfold wordS
 repeat' split
 all_goals decide
theorem take_snoc7 {α : Type} {l : List α} {k : Nat} {x : α} (h : l[k]? = some x) : l.take (k + 1) = l.take k ++ [x]:=by
 rw [List.take_add_one,h]
 rfl
abbrev spB : ByteArray:=⟨#[32]⟩
set_option maxHeartbeats 1000000 in
theorem names_eq (m : Nat) (hm : m < 32) : V 83 [.p (.int .i64 m)] [] = some (.fresh 1 ((namesL m).map PV.str),[]):=by
 refine V_wp (vf:=vf83) rfl ?_
 have h1:=each_eq m hm
 have hl:=eachL_len ⟨m,hm⟩
 simp only at hl
 unfold namesL
 generalize eachL m = l at h1 hl ⊢
 simp -implicitDefEqProofs (disch:=omega) only [vf83,vb83,h1,go_sem,↓reduceIte,rA,rS,rE,rL,reduceCtorEq]
 obtain ⟨I,hI⟩ : ∃ I : Nat -> St -> Prop,∀ k s,I k s ↔ ∃ (w : Nat),s.pe 3 = .own (.slot 3 0) w 0 k /\ s.pe 7 = .own (.slot 7 1) 0 0 l.length /\ s.pe 8 = .p (.int .i64 l.length) /\ s.pe 9 = .p (.int .i64 k) /\ s.h (.slot 3 0) = some (w,Ob.arr 1 (((l.take k).map wordS).map PV.str)) /\ s.h (.slot 7 1) = some (0,Ob.arr 1 (l.map (.int .i64))):=⟨_,fun _ _=>Iff.rfl⟩
 refine wp_count (l.length) I ?_ ?_
 ·refine (hI _ _).2 ⟨0,?_,?_,?_,?_,?_,?_⟩
  all_goals exact cl0
 intro k s hk hIk
 obtain ⟨w,h3,h7,h8,h9,hh3_0,hh7_1⟩:=(hI _ _).1 hIk
 clear hIk
 simp -implicitDefEqProofs (disch:=omega) only [h3,h7,h8,h9,hh3_0,hh7_1,go_sem,↓reduceIte,rA,rS,rE,rL,reduceCtorEq]
 refine wp_if_d (fun hlt=>?_) (fun hge=>?_)
 ·have hc : l[k]? = some l[k]:=lgg (by omega)
  have htk:=take_snoc7 hc
  generalize l[k] = c at hc htk
  have hw:=word_eq c
  have ht3 : List.take k (((l.take k).map wordS).map PV.str) = ((l.take k).map wordS).map PV.str:=ltl (by simp; omega)
  have ht4 : ((l.take (k + 1)).map wordS).map PV.str = ((l.take k).map wordS).map PV.str ++ [PV.str (wordS c)]:=by rw [htk]; simp
  simp -implicitDefEqProofs (disch:=omega) only [h3,h7,h8,h9,hh3_0,hh7_1,hlt,hc,hw,ht3,go_sem,↓reduceIte,rA,rS,rE,rL,reduceCtorEq]
  try refine And.intro (by omega) ?_
  refine (hI _ _).2 ⟨w + 1,?_,?_,?_,?_,?_,?_⟩
  all_goals exact cl0
 ·have hk : k = l.length:=by omega
  subst hk
  rw [List.take_length] at hh3_0
  have ht : List.take l.length ((l.map wordS).map PV.str) = (l.map wordS).map PV.str:=ltl (by simp)
  simp -implicitDefEqProofs (disch:=omega) only [h3,h7,h8,h9,hh3_0,hh7_1,hge,ht,go_sem,↓reduceIte,rA,rS,rE,rL,reduceCtorEq]
theorem join_len (xs : List ByteArray) (h : ∀ x ∈ xs,x.size <= 6) (hl : xs.length <= 5) : (Lib.join (xs.map (·.data.toList)) spB.data.toList).length <= 140737488355328:=by
 cases xs with
 | nil=>exact Nat.zero_le _
 | cons x r =>
  rw [lpc,Lib.join_cons,lla,Lib.joinTail_length,llm]
  have h1 : x.data.toList.length <= 6:=h x (lms ..)
  have h2 : ∀ r : List ByteArray,(∀ x ∈ r,x.size <= 6) -> Lib.lens (r.map (·.data.toList)) <= 6 * r.length:=by
   intro r
   induction r with
   | nil=>simp [Lib.lens]
   | cons y r ih =>
    intro hr
    have:=ih fun z hz=>hr z (lmc _ hz)
    have h3 : y.data.toList.length <= 6:=hr y (lms ..)
    simp only [Lib.lens,lpc,List.sum_cons,llc] at this ⊢
    omega
  have h3:=h2 r fun z hz=>h z (lmc _ hz)
  have h4 : spB.data.toList.length = 1:=rfl
  rw [h4]
  rw [llc] at hl
  omega
theorem format_eq (m : Nat) (hm : m < 32) : V 41 [.p (.int .i64 m)] [] = some (.p (.str (joinS (namesL m) spB)),[]):=by
 refine V_wp (vf:=vf41) rfl ?_
 have h1:=names_eq m hm
 have hl : (namesL m).length <= 5:=by simpa using eachL_len ⟨m,hm⟩
 have hj:=join_len (namesL m) (fun x hx=>by obtain ⟨c,_,rfl⟩:=lmm.1 hx; exact wordS_size c) hl
 have h2:=join_x (ss:=namesL m) (sep:=spB) (by omega) hj
 generalize namesL m = l at h1 h2 ⊢
 have ht : List.take l.length (l.map PV.str) = l.map PV.str:=ltl (by simp)
 simp -implicitDefEqProofs (disch:=omega) only [vf41,vb41,h1,h2,ht,go_sem,↓reduceIte,rA,rS,rE,rL,reduceCtorEq]
abbrev plusB (c : Int) : ByteArray:=⟨#[43]⟩ ++ wordS c
abbrev minusB (c : Int) : ByteArray:=⟨#[45]⟩ ++ wordS c
def signW (w : ByteArray) : List Int -> Option (Int × Bool)
 | []=>none
 | c :: cs=>if w = plusB c then some (c,true) else if w = minusB c then some (c,false) else signW w cs
def stepW (s : Int × Int) (q : Int × Bool) : Int × Int:=if q.2 then (orI .i64 s.1 q.1,antI .i64 s.2 q.1) else (antI .i64 s.1 q.1,orI .i64 s.2 q.1)
def parseW : List ByteArray -> Int × Int -> Option (Int × Int)
 | [],s=>some s
 | w :: ws,s=>if w = ⟨#[]⟩ then parseW ws s else match signW w [1,2,4,8,16] with
  | none=>none
  | some q=>parseW ws (stepW s q)
def parseR : Option (Int × Int) -> VVal
 | some r=>.tup [.p (.int .i64 r.1),.p (.int .i64 r.2),.p (.int .i64 0)]
 | none=>.tup [.p (.int .i64 0),.p (.int .i64 0),.p (.int .i64 2)]
theorem eachL_31 : eachL 31 = [1,2,4,8,16]:=by decide +kernel
set_option maxHeartbeats 4000000 in
theorem parse_eq (s : ByteArray) (hs : s.size < 4294967281) : V 40 [.p (.str s)] [] = some (parseR (parseW (splitS s spB) (0,0)),[]):=by
 refine V_wp (vf:=vf40) rfl ?_
 have h1:=split_x (sep:=spB) hs (by decide)
 have h2 : V 80 [.p (.int .i64 31)] [] = some (.fresh 1 ((eachL 31).map (.int .i64)),[]):=each_eq 31 (by omega)
 rw [eachL_31] at h2
 simp only [lpc,lpn] at h2
 have hlen : (splitS s spB).length <= 4294967281:=by
  have e1:=Lib.splitB_all spB (by decide) 0 _ s rfl
  have e2:=Lib.countB_le spB (by decide) s.size s (lrf _)
  show (Lib.splitB spB 0 (Lib.countB s spB) s).length <= _
  omega
 generalize splitS s spB = ws at h1 hlen ⊢
 simp -implicitDefEqProofs (disch:=omega) only [vf40,vb40,h1,go_sem,↓reduceIte,rA,rS,rE,rL,reduceCtorEq]
 obtain ⟨I,hI⟩ : ∃ I : Nat -> St -> Prop,∀ k s,I k s ↔ ∃ (st : Int × Int),parseW ws (0,0) = parseW (ws.drop k) st /\ s.pe 5 = .p (.int .i64 st.1) /\ s.pe 6 = .p (.int .i64 st.2) /\ s.pe 12 = .own (.slot 12 1) 0 0 ws.length /\ s.pe 13 = .p (.int .i64 ↑ws.length) /\ s.pe 14 = .p (.int .i64 k) /\ s.h (.slot 12 1) = some (0,Ob.arr 1 (List.map PV.str ws)):=⟨_,fun _ _=>Iff.rfl⟩
 refine wp_count (ws.length) I ?_ ?_
 ·refine (hI _ _).2 ⟨(0,0),?_,?_,?_,?_,?_,?_,?_⟩
  ·rfl
  all_goals exact cl0
 intro k s hk hIk
 obtain ⟨st,hp,h5,h6,h12,h13,h14,hh12_1⟩:=(hI _ _).1 hIk
 clear hIk
 simp -implicitDefEqProofs (disch:=omega) only [h5,h6,h12,h13,h14,hh12_1,go_sem,↓reduceIte,rA,rS,rE,rL,reduceCtorEq]
 refine wp_if_d (fun hlt=>?_) (fun hge=>?_)
 ·have hc : ws[k]? = some ws[k]:=lgg (by omega)
  have hdr : ws.drop k = ws[k] :: ws.drop (k + 1):=ldg (by omega)
  generalize ws[k] = x at hc hdr
  rw [hdr] at hp
  by_cases he : x = ⟨#[]⟩
  ·have hd : decide (x = ⟨#[]⟩) = true:=decide_eq_true he
   simp only [parseW,if_pos he] at hp
   simp -implicitDefEqProofs (disch:=omega) only [h5,h6,h12,h13,h14,hh12_1,hlt,hc,hd,go_sem,↓reduceIte,rA,rS,rE,rL,reduceCtorEq]
   try refine And.intro (by omega) ?_
   refine (hI _ _).2 ⟨st,?_,?_,?_,?_,?_,?_,?_⟩
   ·exact hp
   all_goals exact cl0
  ·have hd : decide (x = ⟨#[]⟩) = false:=decide_eq_false he
   simp only [parseW,if_neg he] at hp
   generalize hsg : signW x [1,2,4,8,16] = q0 at hp
   simp -implicitDefEqProofs (disch:=omega) only [h5,h6,h12,h13,h14,hh12_1,hlt,hc,hd,h2,go_sem,↓reduceIte,rA,rS,rE,rL,reduceCtorEq]
   obtain ⟨J,hJ⟩ : ∃ I : Nat -> St -> Prop,∀ j s,I j s ↔ ∃ (v20_1 : Nat),q0 = signW x (([1,2,4,8,16] : List Int).drop j) /\ s.pe 5 = .p (.int .i64 st.fst) /\ s.pe 6 = .p (.int .i64 st.snd) /\ s.pe 8 = .p (PV.str x) /\ s.pe 12 = .own (.slot 12 1) 0 0 ws.length /\ s.pe 13 = .p (.int .i64 ↑ws.length) /\ s.pe 14 = .p (.int .i64 ↑k) /\ s.pe 20 = .own (.slot 20 1) v20_1 0 5 /\ s.pe 21 = .p (.int .i64 ↑5) /\ s.pe 22 = .p (.int .i64 j) /\ s.h (.slot 12 1) = some (0,Ob.arr 1 (List.map PV.str ws)) /\ s.h (.slot 20 1) = some (v20_1,Ob.arr 1 [PV.int IntKind.i64 1,PV.int IntKind.i64 2,PV.int IntKind.i64 4,PV.int IntKind.i64 8,PV.int IntKind.i64 16]):=⟨_,fun _ _=>Iff.rfl⟩
   refine wp_count (5) J ?_ ?_
   ·refine (hJ _ _).2 ⟨nv (fzOb [20] s.h (.slot 20 1)),?_,?_,?_,?_,?_,?_,?_,?_,?_,?_,?_,?_⟩
    ·exact hsg.symm
    all_goals exact cl0
   intro j s hj hJk
   obtain ⟨v20_1,hq,h5,h6,h8,h12,h13,h14,h20,h21,h22,hh12_1,hh20_1⟩:=(hJ _ _).1 hJk
   clear hJk
   simp -implicitDefEqProofs (disch:=omega) only [h5,h6,h8,h12,h13,h14,h20,h21,h22,hh12_1,hh20_1,go_sem,↓reduceIte,rA,rS,rE,rL,reduceCtorEq]
   refine wp_if_d (fun hlt2=>?_) (fun hge2=>?_)
   ·obtain ⟨c,hcj,hdj⟩ : ∃ c,([PV.int IntKind.i64 1,PV.int IntKind.i64 2,PV.int IntKind.i64 4,PV.int IntKind.i64 8,PV.int IntKind.i64 16] : List PV)[j]? = some (.int .i64 c) /\ ([1,2,4,8,16] : List Int).drop j = c :: ([1,2,4,8,16] : List Int).drop (j + 1):=by
     have hj5 : j < 5:=by omega
     match j,hj5 with
     | 0,_=>exact ⟨_,rfl,rfl⟩
     | 1,_=>exact ⟨_,rfl,rfl⟩
     | 2,_=>exact ⟨_,rfl,rfl⟩
     | 3,_=>exact ⟨_,rfl,rfl⟩
     | 4,_=>exact ⟨_,rfl,rfl⟩
    rw [hdj] at hq
    simp only [signW] at hq
    have hw:=word_eq c
    have z1 : (⟨#[43]⟩ : ByteArray).size = 1:=rfl
    have z2 : (⟨#[45]⟩ : ByteArray).size = 1:=rfl
    have hws:=wordS_size c
    by_cases hp1 : x = ⟨#[43]⟩ ++ wordS c
    ·have d1 : decide (x = ⟨#[43]⟩ ++ wordS c) = true:=decide_eq_true hp1
     rw [if_pos hp1] at hq
     rw [hq] at hp
     simp -implicitDefEqProofs (disch:=omega) only [h5,h6,h8,h12,h13,h14,h20,h21,h22,hh12_1,hh20_1,hlt2,hcj,hw,d1,go_sem,↓reduceIte,rA,rS,rE,rL,reduceCtorEq]
     try refine And.intro (by omega) ?_
     refine (hI _ _).2 ⟨(orI .i64 st.1 c,antI .i64 st.2 c),?_,?_,?_,?_,?_,?_,?_⟩
     ·exact hp
     all_goals exact cl0
    ·have d1 : decide (x = ⟨#[43]⟩ ++ wordS c) = false:=decide_eq_false hp1
     rw [if_neg hp1] at hq
     by_cases hp2 : x = ⟨#[45]⟩ ++ wordS c
     ·have d2 : decide (x = ⟨#[45]⟩ ++ wordS c) = true:=decide_eq_true hp2
      rw [if_pos hp2] at hq
      rw [hq] at hp
      simp -implicitDefEqProofs (disch:=omega) only [h5,h6,h8,h12,h13,h14,h20,h21,h22,hh12_1,hh20_1,hlt2,hcj,hw,d1,d2,go_sem,↓reduceIte,rA,rS,rE,rL,reduceCtorEq]
      try refine And.intro (by omega) ?_
      refine (hI _ _).2 ⟨(antI .i64 st.1 c,orI .i64 st.2 c),?_,?_,?_,?_,?_,?_,?_⟩
      .exact hp
      all_goals exact cl0
     ·have d2 : decide (x = ⟨#[45]⟩ ++ wordS c) = false:=decide_eq_false hp2
      rw [if_neg hp2] at hq
      simp -implicitDefEqProofs (disch:=omega) only [h5,h6,h8,h12,h13,h14,h20,h21,h22,hh12_1,hh20_1,hlt2,hcj,hw,d1,d2,go_sem,↓reduceIte,rA,rS,rE,rL,reduceCtorEq]
      try refine And.intro (by omega) ?_
      refine (hJ _ _).2 ⟨v20_1,?_,?_,?_,?_,?_,?_,?_,?_,?_,?_,?_,?_⟩
      .exact hq
      all_goals exact cl0
   ·rw [ldl (by simp; omega)] at hq
    simp only [signW] at hq
    rw [hq] at hp
    simp only at hp
    rw [hp]
    unfold parseR
    simp -implicitDefEqProofs (disch:=omega) only [h5,h6,h8,h12,h13,h14,h20,h21,h22,hh12_1,hh20_1,hge2,go_sem,↓reduceIte,rA,rS,rE,rL,reduceCtorEq]
 ·rw [ldl (by omega)] at hp
  simp only [parseW] at hp
  rw [hp]
  unfold parseR
  simp -implicitDefEqProofs (disch:=omega) only [h5,h6,h12,h13,h14,hh12_1,hge,go_sem,↓reduceIte,rA,rS,rE,rL,reduceCtorEq]
theorem ok_sane : parseW (splitS ⟨#[43,99,112,117,32,45,105,111]⟩ spB) (0,0) = some (1,4):=by decide +kernel
theorem ok_format : joinS (namesL 9) spB = ⟨#[99,112,117,32,112,105,100,115]⟩:=by decide +kernel
set_option maxHeartbeats 1000000 in
theorem sane7_eq : V 9 [] [] = some (.p (.bool true),[]):=by
 refine V_wp (vf:=vf9) rfl ?_
 have h1:=parse_eq ⟨#[43,99,112,117,32,45,105,111]⟩ (by decide)
 rw [ok_sane] at h1
 simp only [parseR] at h1
 have h2 : V 41 [.p (.int .i64 9)] [] = some (.p (.str (joinS (namesL 9) spB)),[]):=format_eq 9 (by omega)
 rw [ok_format] at h2
 simp -implicitDefEqProofs (disch:=omega) only [vf9,vb9,h1,h2,go_sem,↓reduceIte,rA,rS,rE,rL,reduceCtorEq]
theorem TreeOk.fits {t : Tr} (h : TreeOk t) : t.Fits:=by
 intro n hn
 obtain ⟨i,hi⟩:=lgm hn
 have hok:=(nodesOk_iff _ _).1 h.nodes i n hi
 rw [lna] at hok
 unfold nodeOk at hok
 simp only [bat,decide_eq_true_eq] at hok
 refine ⟨?_,by omega⟩
 have h2:=hok.2
 split at h2
 ·simp only [decide_eq_true_eq] at h2
  rw [h2.2.2.1]
  decide
 ·simp only [bat] at h2
  have hv:=h2.1.1.2
  simp only [validN,bat,decide_eq_true_eq] at hv
  omega
theorem tab2 : ∀ c d : Fin 32,(0 <= antI .i64 ((c.val : Nat) : Int) ((d.val : Nat) : Int) /\ antI .i64 ((c.val : Nat) : Int) ((d.val : Nat) : Int) <= 31) /\ (0 <= orI .i64 ((c.val : Nat) : Int) ((d.val : Nat) : Int) /\ orI .i64 ((c.val : Nat) : Int) ((d.val : Nat) : Int) <= 31) /\
  andI .i64 (antI .i64 ((c.val : Nat) : Int) ((d.val : Nat) : Int)) 6 = antI .i64 (andI .i64 ((c.val : Nat) : Int) 6) ((d.val : Nat) : Int):=by decide +kernel
structure In5 (c : Int) : Prop where
 a : 0 <= c
 b : c <= 31
theorem In5.fin {c : Int} (h : In5 c) : ∃ m : Fin 32,c = ((m.val : Nat) : Int):=⟨⟨c.toNat,by have:=h.a; have:=h.b; omega⟩,by have:=h.a; simp only; omega⟩
theorem In5.ant {c d : Int} (h : In5 c) (k : In5 d) : In5 (antI .i64 c d):=by
 obtain ⟨m,rfl⟩:=h.fin
 obtain ⟨n,rfl⟩:=k.fin
 exact ⟨(tab2 m n).1.1,(tab2 m n).1.2⟩
theorem In5.or {c d : Int} (h : In5 c) (k : In5 d) : In5 (orI .i64 c d):=by
 obtain ⟨m,rfl⟩:=h.fin
 obtain ⟨n,rfl⟩:=k.fin
 exact ⟨(tab2 m n).2.1.1,(tab2 m n).2.1.2⟩
theorem In5.dom {c d : Int} (h : In5 c) (k : In5 d) : andI .i64 (antI .i64 c d) 6 = antI .i64 (andI .i64 c 6) d:=by
 obtain ⟨m,rfl⟩:=h.fin
 obtain ⟨n,rfl⟩:=k.fin
 exact (tab2 m n).2.2
theorem setB_in {n : Int} (h : setB n = true) : In5 n:=by
 unfold setB at h
 simp only [bat,decide_eq_true_eq] at h
 exact ⟨h.1,h.2⟩
theorem node_in {t : Tr} (ht : treeOk t = true) {n : Nd} (hn : n ∈ t.nodes) : In5 n.control:=⟨(treeOk_control ht hn).1,(treeOk_control ht hn).2⟩
theorem cset_eq (n : Int) (hn : n < 9223372036854775808) : V 56 [.p (.int .i64 n)] [] = some (.p (.bool (setB n)),[]):=by
 refine V_wp (vf:=vf56) rfl ?_
 unfold setB
 by_cases h0 : 0 <= n
 ·have e:=antI31 h0 hn
  by_cases h1 : n <= 31
  ·have e2 : antI .i64 n 31 = 0:=e ▸ h1
   simp -implicitDefEqProofs (disch:=omega) only [vf56,vb56,h0,h1,e2,go_sem,↓reduceIte,rA,rS,rE,rL,reduceCtorEq]
  ·have e2 : ¬ antI .i64 n 31 = 0:=fun h=>h1 (e ▸ h)
   simp -implicitDefEqProofs (disch:=omega) only [vf56,vb56,h0,h1,e2,go_sem,↓reduceIte,rA,rS,rE,rL,reduceCtorEq]
 .simp -implicitDefEqProofs (disch:=omega) only [vf56,vb56,h0,go_sem,↓reduceIte,rA,rS,rE,rL,reduceCtorEq]
theorem ccopy_eq (h : Hy) (hl : h.ts.length < 1000000) (hn : h.t.nodes.length < 1000000) : V 58 [h.vv] [] = some (h.fv,[]):=by
 refine V_wp (vf:=vf58) rfl ?_
 have h1:=cloneN_x (xs:=h.t.nodes.map Nd.pv) (by rw [llm]; exact hn)
 have h2:=cloneT_x (xs:=h.ts.map Tk.pv) (by rw [llm]; exact hl)
 have ht1 : List.take h.t.nodes.length (h.t.nodes.map Nd.pv) = h.t.nodes.map Nd.pv:=ltl (by simp)
 have ht2 : List.take h.ts.length (h.ts.map Tk.pv) = h.ts.map Tk.pv:=ltl (by simp)
 simp -implicitDefEqProofs (disch:=omega) only [vf58,vb58,h1,h2,ht1,ht2,go_sem,↓reduceIte,rA,rS,rE,rL,reduceCtorEq]
theorem setN_at {ns : List Nd} (hp : ns.Pairwise fun a b=>a.id < b.id) {k : Nat} {x y : Nd} (hk : ns[k]? = some x) (he : y.id = x.id) : ns.set k y = setN ns y:=by
 apply List.ext_getElem?
 intro j
 unfold setN
 rw [List.getElem?_set,List.getElem?_map]
 have hkl:=(lgs.1 hk).1
 by_cases hj : k = j
 ·subst hj
  rw [if_pos rfl,if_pos hkl,hk]
  simp [he]
 ·rw [if_neg hj]
  cases hn : ns[j]? with
  | none=>rfl
  | some n =>
   have hne : ¬ n.id = y.id:=fun e=>by
    have:=inc_same hp (lmg hn) (lmg hk) (e.trans he)
    subst this
    have hjl:=(lgs.1 hn).1
    have hpi:=List.pairwise_iff_getElem.1 hp
    rcases Nat.lt_or_ge k j with h1 | h1
    ·have:=hpi k j hkl hjl h1
     rw [(lgs.1 hk).2,(lgs.1 hn).2] at this
     omega
    ·have:=hpi j k hjl hkl (by omega)
     rw [(lgs.1 hk).2,(lgs.1 hn).2] at this
     omega
   simp [hne]
set_option maxHeartbeats 16000000 in
theorem cwrite_eq (h : Hy) (id add drop : Int) (hfit : h.t.Fits) (ha63 : add < 9223372036854775808) (hd63 : drop < 9223372036854775808) (hl : h.ts.length < 1000000) (hn : h.t.nodes.length < 1000000) :
  V 16 [h.vv,.p (.int .i64 id),.p (.int .i64 add),.p (.int .i64 drop)] [] = some (.tup [wrO h id add drop,.p (.int .i64 (wrE h id add drop))],[]):=by
 refine V_wp (vf:=vf16) rfl ?_
 have hs:=csound_eq h hfit hl hn
 rw [<- sound_eq] at hs
 have ha:=cset_eq add ha63
 have hd:=cset_eq drop hd63
 have err : ∀ e : Int,wrE h id add drop = e -> e ≠ 0 -> (VVal.tup [noH,.p (.int .i64 e)],([] : List Ob)) = (VVal.tup [wrO h id add drop,.p (.int .i64 (wrE h id add drop))],([] : List Ob)):=fun e he hne=>by
  unfold wrO
  rw [he,if_neg hne]
 by_cases hS : soundR h = false
 ·have he : wrE h id add drop = 1:=by unfold wrE; rw [if_neg (fun e=>by rw [hS] at e; exact Bool.false_ne_true e.1)]
  rw [hS] at hs
  simp -implicitDefEqProofs (disch:=omega) only [vf16,vb16,hs,go_sem,↓reduceIte,rA,rS,rE,rL,reduceCtorEq]
  exact err 1 he (by decide)
 by_cases hA : setB add = false
 ·have hS : soundR h = true:=by simpa using hS
  have he : wrE h id add drop = 1:=by unfold wrE; rw [if_neg (fun e=>by rw [hA] at e; exact Bool.false_ne_true e.2.1)]
  rw [hS] at hs
  rw [hA] at ha
  simp -implicitDefEqProofs (disch:=omega) only [vf16,vb16,hs,ha,go_sem,↓reduceIte,rA,rS,rE,rL,reduceCtorEq]
  exact err 1 he (by decide)
 by_cases hD : setB drop = false
 ·have hS : soundR h = true:=by simpa using hS
  have hA : setB add = true:=by simpa using hA
  have he : wrE h id add drop = 1:=by unfold wrE; rw [if_neg (fun e=>by rw [hD] at e; exact Bool.false_ne_true e.2.2.1)]
  rw [hS] at hs
  rw [hA] at ha
  rw [hD] at hd
  simp -implicitDefEqProofs (disch:=omega) only [vf16,vb16,hs,ha,hd,go_sem,↓reduceIte,rA,rS,rE,rL,reduceCtorEq]
  exact err 1 he (by decide)
 have hS : soundR h = true:=by simpa using hS
 have hA : setB add = true:=by simpa using hA
 have hD : setB drop = true:=by simpa using hD
 rw [hS] at hs
 rw [hA] at ha
 rw [hD] at hd
 by_cases h0 : andI .i64 add drop = 0
 rotate_left
 ·have he : wrE h id add drop = 1:=by unfold wrE; rw [if_neg (fun e=>h0 e.2.2.2)]
  simp -implicitDefEqProofs (disch:=omega) only [vf16,vb16,hs,ha,hd,h0,go_sem,↓reduceIte,rA,rS,rE,rL,reduceCtorEq]
  exact err 1 he (by decide)
 have hm:=sound_memOk hS
 have ht:=memOk_tree hm
 have hat:=at_eq h.t id hn
 rcases idxOf_lt h.t.nodes id with ⟨hi,hfn⟩ | ⟨q,x,hi,hq,hfn,hxid⟩
 ·have he : wrE h id add drop = 4:=by unfold wrE findT; rw [if_pos ⟨hS,hA,hD,h0⟩,if_pos ht,hfn]
  generalize idxOf h.t.nodes id = i at hat hi
  simp -implicitDefEqProofs (disch:=omega) only [vf16,vb16,hs,ha,hd,h0,hat,hi,go_sem,↓reduceIte,rA,rS,rE,rL,reduceCtorEq]
  exact err 4 he (by decide)
 have hft : findT h.t id = some x:=by unfold findT; rw [if_pos ht,hfn]
 have hxm:=lmg hq
 have hql:=(lgs.1 hq).1
 rw [hi] at hat
 have hqn : ¬ ((q : Nat) : Int) < 0:=by omega
 have hfr:=cfrom_eq h.t x hn
 rw [<- avail_from ht hxm,hxid] at hfr
 have heq : wrE h id add drop = if antI .i64 add (availR h.t id) = 0 then if dropB h.t.nodes id drop = true then 9 else if antI .i64 (andI .i64 (nowI x add drop) 6) x.control = 0 \/ id = 1 \/ (∀ y ∈ h.ts,y.group ≠ id) then 0 else 6 else 9:=by
  unfold wrE; rw [if_pos ⟨hS,hA,hD,h0⟩,hft]
 generalize availR h.t id = av at hfr heq
 unfold Nd.vv at hfr
 by_cases h1 : antI .i64 add av = 0
 rotate_left
 ·rw [if_neg h1] at heq
  simp -implicitDefEqProofs (disch:=omega) only [vf16,vb16,hs,ha,hd,h0,hat,hqn,hq,hfr,h1,go_sem,↓reduceIte,rA,rS,rE,rL,reduceCtorEq]
  exact err 9 heq (by decide)
 rw [if_pos h1] at heq
 generalize hab : dropB h.t.nodes id drop = ab at heq
 unfold dropB at hab
 simp -implicitDefEqProofs (disch:=omega) only [vf16,vb16,hs,ha,hd,h0,hat,hqn,hq,hfr,h1,go_sem,↓reduceIte,rA,rS,rE,rL,reduceCtorEq]
 obtain ⟨I,hI⟩ : ∃ I : Nat -> St -> Prop,∀ k s,I k s ↔ ab = (h.t.nodes.drop k).any (fun n=>decide (n.parent = id) && decide (andI .i64 n.control drop ≠ 0)) /\ s.pe 1 = .p (.int .i64 id) /\ s.pe 2 = .p (.int .i64 add) /\ s.pe 3 = .p (.int .i64 drop) /\ s.pe 4 = .ptr (.slot 4 0) 0 0 /\ s.pe 8 = .ptr (.slot 8 0) 0 0 /\ s.pe 10 = .p (.int .i64 ↑q) /\ s.pe 11 = .ptr (.slot 11 0) 0 0 /\ s.pe 59 = .p (nodesP h.t.nodes) /\ s.pe 60 = .p (.int .i64 ↑h.t.nodes.length) /\ s.pe 61 = .p (.int .i64 k) /\ s.h (.slot 4 0) = some (0,Ob.box [.p (nodesP h.t.nodes),.p (.int .i64 h.t.next),.p (tasksP h.ts),.p (.int .i64 h.next)]) /\ s.h (.slot 8 0) = some (0,Ob.box [.own (.slot 8 1) 0 0 0,.p (.int .i64 0),.own (.slot 8 3) 0 0 0,.p (.int .i64 0)]) /\ s.h (.slot 8 1) = some (0,Ob.arr 6 []) /\ s.h (.slot 8 3) = some (0,Ob.arr 4 []) /\ s.h (.slot 11 0) = some (0,Ob.box [.p (.int .i64 x.id),.p (.int .i64 x.parent),.p (PV.str x.name),.p (.int .i64 x.control),.p (.int .i64 x.kind),.p (.int .i64 x.owner)]):=⟨_,fun _ _=>Iff.rfl⟩
 refine wp_count (h.t.nodes.length) I ?_ ?_
 ·refine (hI _ _).2 ⟨?_,?_,?_,?_,?_,?_,?_,?_,?_,?_,?_,?_,?_,?_,?_,?_⟩
  ·exact hab.symm
  all_goals exact cl0
 intro k s hk hIk
 obtain ⟨hqa,h1,h2,h3,h4,h8,h10,h11,h59,h60,h61,hh4_0,hh8_0,hh8_1,hh8_3,hh11_0⟩:=(hI _ _).1 hIk
 clear hIk
 simp -implicitDefEqProofs (disch:=omega) only [h1,h2,h3,h4,h8,h10,h11,h59,h60,h61,hh4_0,hh8_0,hh8_1,hh8_3,hh11_0,go_sem,↓reduceIte,rA,rS,rE,rL,reduceCtorEq]
 refine wp_if_d (fun hlt=>?_) (fun hge=>?_)
 ·have hc : h.t.nodes[k]? = some h.t.nodes[k]:=lgg (by omega)
  have hdr : h.t.nodes.drop k = h.t.nodes[k] :: h.t.nodes.drop (k + 1):=ldg (by omega)
  generalize h.t.nodes[k] = y at hc hdr
  rw [hdr,List.any_cons] at hqa
  by_cases hp : y.parent = id
  ·by_cases hy : andI .i64 y.control drop = 0
   ·rw [decide_eq_false (show ¬ (andI .i64 y.control drop ≠ 0) from fun e=>e hy),Bool.and_false,Bool.false_or] at hqa
    simp -implicitDefEqProofs (disch:=omega) only [h1,h2,h3,h4,h8,h10,h11,h59,h60,h61,hh4_0,hh8_0,hh8_1,hh8_3,hh11_0,hlt,hc,hp,hy,go_sem,↓reduceIte,rA,rS,rE,rL,reduceCtorEq]
    try refine And.intro (by omega) ?_
    refine (hI _ _).2 ⟨?_,?_,?_,?_,?_,?_,?_,?_,?_,?_,?_,?_,?_,?_,?_,?_⟩
    ·exact hqa
    all_goals exact cl0
   ·rw [decide_eq_true hp,decide_eq_true hy,bta,Bool.true_or] at hqa
    rw [hqa,if_pos rfl] at heq
    simp -implicitDefEqProofs (disch:=omega) only [h1,h2,h3,h4,h8,h10,h11,h59,h60,h61,hh4_0,hh8_0,hh8_1,hh8_3,hh11_0,hlt,hc,hp,hy,go_sem,↓reduceIte,rA,rS,rE,rL,reduceCtorEq]
    exact err 9 heq (by decide)
  ·rw [decide_eq_false hp,bfa,Bool.false_or] at hqa
   simp -implicitDefEqProofs (disch:=omega) only [h1,h2,h3,h4,h8,h10,h11,h59,h60,h61,hh4_0,hh8_0,hh8_1,hh8_3,hh11_0,hlt,hc,hp,go_sem,↓reduceIte,rA,rS,rE,rL,reduceCtorEq]
   try refine And.intro (by omega) ?_
   refine (hI _ _).2 ⟨?_,?_,?_,?_,?_,?_,?_,?_,?_,?_,?_,?_,?_,?_,?_,?_⟩
   ·exact hqa
   all_goals exact cl0
 ·rw [ldl (by omega),List.any_nil] at hqa
  rw [hqa,if_neg Bool.false_ne_true] at heq
  have htk:=ctasks_eq h id hl
  have hcr:=crewL_nil id h.ts
  have hcp:=ccopy_eq h hl hn
  have hinc:=((treeOk_iff _).1 ht).inc
  have hset : ((h.t.nodes.map Nd.pv).set q (.agg [.int .i64 x.id,.int .i64 x.parent,.str x.name,.int .i64 (nowI x add drop),.int .i64 x.kind,.int .i64 x.owner])) = (setN h.t.nodes ⟨x.id,x.parent,x.name,nowI x add drop,x.kind,x.owner⟩).map Nd.pv:=by
   rw [<- setN_at hinc hq (y:=⟨x.id,x.parent,x.name,nowI x add drop,x.kind,x.owner⟩) rfl,List.map_set]
   rfl
  have hsl:=setN_len h.t.nodes ⟨x.id,x.parent,x.name,nowI x add drop,x.kind,x.owner⟩
  have hoo : wrE h id add drop = 0 -> wrO h id add drop = (⟨⟨setN h.t.nodes ⟨x.id,x.parent,x.name,nowI x add drop,x.kind,x.owner⟩,h.t.next⟩,h.ts,h.next⟩ : Hy).fv:=fun e=>by
   unfold wrO
   rw [e,if_pos rfl,hft,Option.getD_some]
   rfl
  have hdom : andI .i64 (antI .i64 (nowI x add drop) x.control) 6 = antI .i64 (andI .i64 (nowI x add drop) 6) x.control:=by
   have hx5:=node_in ht hxm
   exact In5.dom ((hx5.ant (setB_in hD)).or (setB_in hA)) hx5
  rw [<- hdom] at heq
  clear hdom
  generalize setN h.t.nodes ⟨x.id,x.parent,x.name,nowI x add drop,x.kind,x.owner⟩ = ns at hset hsl hoo
  unfold nowI at hset heq
  have ht1 : List.take h.t.nodes.length (ns.map Nd.pv) = ns.map Nd.pv:=ltl (Nat.le_of_eq (by rw [llm,hsl]))
  have ht2 : List.take h.ts.length (h.ts.map Tk.pv) = h.ts.map Tk.pv:=ltl (by simp)
  have fin : wrE h id add drop = 0 -> (VVal.tup [(⟨⟨ns,h.t.next⟩,h.ts,h.next⟩ : Hy).fv,.p (.int .i64 0)],([] : List Ob)) = (VVal.tup [wrO h id add drop,.p (.int .i64 (wrE h id add drop))],([] : List Ob)):=fun e=>by
   rw [hoo e,e]
  by_cases h6 : andI .i64 (antI .i64 (orI .i64 (antI .i64 x.control drop) add) x.control) 6 = 0
  ·rw [if_pos (Or.inl h6)] at heq
   simp -implicitDefEqProofs (disch:=omega) only [h1,h2,h3,h4,h8,h10,h11,h59,h60,h61,hh4_0,hh8_0,hh8_1,hh8_3,hh11_0,hge,h6,hcp,hq,hql,hset,ht1,ht2,go_sem,↓reduceIte,rA,rS,rE,rL,reduceCtorEq]
   exact fin heq
  ·by_cases hi1 : id = 1
   ·rw [if_pos (Or.inr (Or.inl hi1))] at heq
    subst hi1
    simp -implicitDefEqProofs (disch:=omega) only [h1,h2,h3,h4,h8,h10,h11,h59,h60,h61,hh4_0,hh8_0,hh8_1,hh8_3,hh11_0,hge,h6,hcp,hq,hql,hset,ht1,ht2,go_sem,↓reduceIte,rA,rS,rE,rL,reduceCtorEq]
    exact fin heq
   ·by_cases hz0 : (crewL id h.ts).length = 0
    ·rw [if_pos (Or.inr (Or.inr (hcr.1 hz0)))] at heq
     have hz2 : ¬ (0 : Int) < ((crewL id h.ts).length : Nat):=by omega
     simp -implicitDefEqProofs (disch:=omega) only [h1,h2,h3,h4,h8,h10,h11,h59,h60,h61,hh4_0,hh8_0,hh8_1,hh8_3,hh11_0,hge,h6,hi1,htk,hz2,hcp,hq,hql,hset,ht1,ht2,go_sem,↓reduceIte,rA,rS,rE,rL,reduceCtorEq]
     exact fin heq
    ·rw [if_neg (fun e=>by rcases e with e | e | e; exact h6 e; exact hi1 e; exact hz0 (hcr.2 e))] at heq
     have hz2 : (0 : Int) < ((crewL id h.ts).length : Nat):=by omega
     simp -implicitDefEqProofs (disch:=omega) only [h1,h2,h3,h4,h8,h10,h11,h59,h60,h61,hh4_0,hh8_0,hh8_1,hh8_3,hh11_0,hge,h6,hi1,htk,hz2,go_sem,↓reduceIte,rA,rS,rE,rL,reduceCtorEq]
     exact err 6 heq (by decide)
set_option maxHeartbeats 4000000 in
theorem sameT_refl (t : Tr) (hn : t.nodes.length < 1000000) : V 59 [t.vv,t.vv] [] = some (.p (.bool true),[]):=by
 refine V_wp (vf:=vf59) rfl ?_
 simp -implicitDefEqProofs (disch:=omega) only [vf59,vb59,go_sem,↓reduceIte,rA,rS,rE,rL,reduceCtorEq]
 obtain ⟨I,hI⟩ : ∃ I : Nat -> St -> Prop,∀ k s,I k s ↔ s.pe 2 = .ptr (.slot 2 0) 0 0 /\ s.pe 3 = .ptr (.slot 3 0) 0 0 /\ s.pe 5 = .p (.int .i64 k) /\ s.h (.slot 2 0) = some (0,Ob.box [.p (nodesP t.nodes),.p (.int .i64 t.next)]) /\ s.h (.slot 3 0) = some (0,Ob.box [.p (nodesP t.nodes),.p (.int .i64 t.next)]):=⟨_,fun _ _=>Iff.rfl⟩
 refine wp_count (t.nodes.length) I ?_ ?_
 ·refine (hI _ _).2 ⟨?_,?_,?_,?_,?_⟩
  all_goals exact cl0
 intro k s hk hIk
 obtain ⟨h2,h3,h5,hh2_0,hh3_0⟩:=(hI _ _).1 hIk
 clear hIk
 simp -implicitDefEqProofs (disch:=omega) only [h2,h3,h5,hh2_0,hh3_0,go_sem,↓reduceIte,rA,rS,rE,rL,reduceCtorEq]
 refine wp_if_d (fun hlt=>?_) (fun hge=>?_)
 ·have hc : t.nodes[k]? = some t.nodes[k]:=lgg (by omega)
  generalize t.nodes[k] = x at hc
  simp -implicitDefEqProofs (disch:=omega) only [h2,h3,h5,hh2_0,hh3_0,hlt,hc,go_sem,↓reduceIte,rA,rS,rE,rL,reduceCtorEq]
  try refine And.intro (by omega) ?_
  refine (hI _ _).2 ⟨?_,?_,?_,?_,?_⟩
  all_goals exact cl0
 .simp -implicitDefEqProofs (disch:=omega) only [h2,h3,h5,hh2_0,hh3_0,hge,go_sem,↓reduceIte,rA,rS,rE,rL,reduceCtorEq]
set_option maxHeartbeats 4000000 in
theorem sameH_refl (h : Hy) (hl : h.ts.length < 1000000) (hn : h.t.nodes.length < 1000000) : V 17 [h.vv,h.vv] [] = some (.p (.bool true),[]):=by
 refine V_wp (vf:=vf17) rfl ?_
 have hs:=sameT_refl h.t hn
 simp -implicitDefEqProofs (disch:=omega) only [vf17,vb17,hs,go_sem,↓reduceIte,rA,rS,rE,rL,reduceCtorEq]
 obtain ⟨I,hI⟩ : ∃ I : Nat -> St -> Prop,∀ k s,I k s ↔ s.pe 2 = .ptr (.slot 2 0) 0 0 /\ s.pe 3 = .ptr (.slot 3 0) 0 0 /\ s.pe 5 = .p (.int .i64 k) /\ s.h (.slot 2 0) = some (0,Ob.box [.p (nodesP h.t.nodes),.p (.int .i64 h.t.next),.p (tasksP h.ts),.p (.int .i64 h.next)]) /\ s.h (.slot 3 0) = some (0,Ob.box [.p (nodesP h.t.nodes),.p (.int .i64 h.t.next),.p (tasksP h.ts),.p (.int .i64 h.next)]):=⟨_,fun _ _=>Iff.rfl⟩
 refine wp_count (h.ts.length) I ?_ ?_
 ·refine (hI _ _).2 ⟨?_,?_,?_,?_,?_⟩
  all_goals exact cl0
 intro k s hk hIk
 obtain ⟨h2,h3,h5,hh2_0,hh3_0⟩:=(hI _ _).1 hIk
 clear hIk
 simp -implicitDefEqProofs (disch:=omega) only [h2,h3,h5,hh2_0,hh3_0,go_sem,↓reduceIte,rA,rS,rE,rL,reduceCtorEq]
 refine wp_if_d (fun hlt=>?_) (fun hge=>?_)
 ·have hc : h.ts[k]? = some h.ts[k]:=lgg (by omega)
  generalize h.ts[k] = x at hc
  simp -implicitDefEqProofs (disch:=omega) only [h2,h3,h5,hh2_0,hh3_0,hlt,hc,go_sem,↓reduceIte,rA,rS,rE,rL,reduceCtorEq]
  try refine And.intro (by omega) ?_
  refine (hI _ _).2 ⟨?_,?_,?_,?_,?_⟩
  all_goals exact cl0
 .simp -implicitDefEqProofs (disch:=omega) only [h2,h3,h5,hh2_0,hh3_0,hge,go_sem,↓reduceIte,rA,rS,rE,rL,reduceCtorEq]
abbrev A5 (c d : Int) : Int:=antI .i64 c d
abbrev O5 (c d : Int) : Int:=orI .i64 c d
abbrev N5 (c d : Int) : Int:=andI .i64 c d
abbrev f5 (m : Fin 32) : Int:=((m.val : Nat) : Int)
theorem tabU : ∀ c : Fin 32,A5 (f5 c) 0 = f5 c /\ O5 (f5 c) 0 = f5 c /\ A5 (N5 (f5 c) 6) (f5 c) = 0 /\ A5 (f5 c) (f5 c) = 0:=by decide +kernel
theorem tabT : ∀ m c d : Fin 32,(A5 (f5 m) (f5 c) = 0 -> A5 (f5 c) (f5 d) = 0 -> A5 (f5 m) (f5 d) = 0) /\ (A5 (f5 m) (f5 d) = 0 -> A5 (f5 c) (f5 d) = 0 -> A5 (O5 (f5 m) (f5 c)) (f5 d) = 0) /\
  (A5 (f5 m) (f5 c) = 0 -> N5 (f5 d) (f5 c) = 0 -> N5 (f5 m) (f5 d) = 0):=by decide +kernel
section
variable {m c d : Int}
theorem In5.a0 (h : In5 c) : A5 c 0 = c:=by obtain ⟨m,rfl⟩:=h.fin; exact (tabU m).1
theorem In5.o0 (h : In5 c) : O5 c 0 = c:=by obtain ⟨m,rfl⟩:=h.fin; exact (tabU m).2.1
theorem In5.trans (g : In5 m) (h : In5 c) (k : In5 d) (e1 : A5 m c = 0) (e2 : A5 c d = 0) : A5 m d = 0:=by
 obtain ⟨m,rfl⟩:=g.fin; obtain ⟨c,rfl⟩:=h.fin; obtain ⟨d,rfl⟩:=k.fin
 exact (tabT m c d).1 e1 e2
end
theorem z5 : In5 0:=⟨by decide,by decide⟩
theorem In5.set {c : Int} (h : In5 c) : setB c = true:=by
 unfold setB
 simp only [bat,decide_eq_true_eq]
 exact ⟨h.a,h.b⟩
theorem word_ok (L : List Int) (a : Nat) (hL : L.length < 4611686018427387904) : ∃ s : ByteArray,s.size < 100 /\ V 62 [.ptr (.arg 0 0) 0 0] [diceB L a] = some (.p (.str s),[diceB L (nextA L a 12)]):=by
 have hc:=next_eq L a 12 hL (by omega)
 have h0:=nextV_nonneg L a 12
 have h1:=nextV_lt L a (n:=12) (by omega)
 obtain ⟨s,hs,hg⟩ : ∃ s : ByteArray,s.size < 100 /\ ([.str ⟨#[97]⟩,.str ⟨#[98]⟩,.str ⟨#[99]⟩,.str ⟨#[119,101,98]⟩,.str ⟨#[100,98,45,49]⟩,.str ⟨#[88,95,57]⟩,.str ⟨#[]⟩,.str ⟨#[45,97]⟩,.str ⟨#[97,47,98]⟩,.str ⟨#[195,169]⟩,.str ⟨#[97,97,97,97,97,97,97,97,97,97,97,97,97,97,97,97,97,97,97,97,97,97,97,97,97,97,97,97,97,97,97,97]⟩,.str ⟨#[97,97,97,97,97,97,97,97,97,97,97,97,97,97,97,97,97,97,97,97,97,97,97,97,97,97,97,97,97,97,97,97,97]⟩] : List PV)[(nextV L a 12).toNat]? = some (.str s):=by
  have hi : (nextV L a 12).toNat < 12:=by omega
  generalize (nextV L a 12).toNat = i at hi
  match i,hi with
  | 0,_=>exact ⟨_,by decide,rfl⟩
  | 1,_=>exact ⟨_,by decide,rfl⟩
  | 2,_=>exact ⟨_,by decide,rfl⟩
  | 3,_=>exact ⟨_,by decide,rfl⟩
  | 4,_=>exact ⟨_,by decide,rfl⟩
  | 5,_=>exact ⟨_,by decide,rfl⟩
  | 6,_=>exact ⟨_,by decide,rfl⟩
  | 7,_=>exact ⟨_,by decide,rfl⟩
  | 8,_=>exact ⟨_,by decide,rfl⟩
  | 9,_=>exact ⟨_,by decide,rfl⟩
  | 10,_=>exact ⟨_,by decide,rfl⟩
  | 11,_=>exact ⟨_,by decide,rfl⟩
 refine ⟨s,hs,V_wp (vf:=vf62) rfl ?_⟩
 simp -implicitDefEqProofs (disch:=omega) only [vf62,vb62,hc,h0,hg,go_sem,↓reduceIte,rA,rS,rE,rL,reduceCtorEq]
theorem user_ok (L : List Int) (a : Nat) (hL : L.length < 4611686018427387904) : ∃ n : Int,V 63 [.ptr (.arg 0 0) 0 0] [diceB L a] = some (.p (.int .i64 n),[diceB L (nextA L a 8)]):=by
 have hc:=next_eq L a 8 hL (by omega)
 have h0:=nextV_nonneg L a 8
 have h1:=nextV_lt L a (n:=8) (by omega)
 obtain ⟨n,hg⟩ : ∃ n : Int,([.int .i64 0,.int .i64 1,.int .i64 2,.int .i64 1,.int .i64 7,.int .i64 (-1),.int .i64 1048576,.int .i64 1048577] : List PV)[(nextV L a 8).toNat]? = some (.int .i64 n):=by
  have hi : (nextV L a 8).toNat < 8:=by omega
  generalize (nextV L a 8).toNat = i at hi
  match i,hi with
  | 0,_=>exact ⟨_,rfl⟩
  | 1,_=>exact ⟨_,rfl⟩
  | 2,_=>exact ⟨_,rfl⟩
  | 3,_=>exact ⟨_,rfl⟩
  | 4,_=>exact ⟨_,rfl⟩
  | 5,_=>exact ⟨_,rfl⟩
  | 6,_=>exact ⟨_,rfl⟩
  | 7,_=>exact ⟨_,rfl⟩
 refine ⟨n,V_wp (vf:=vf63) rfl ?_⟩
 simp -implicitDefEqProofs (disch:=omega) only [vf63,vb63,hc,h0,hg,go_sem,↓reduceIte,rA,rS,rE,rL,reduceCtorEq]
def odd_b0 : VCode:=.block 0 (.seq (.region ⟨[
      { dst:=.t 23,op:=.bin .eql (.v 21) (.c (.int .i64 0)) },
      { dst:=.v 22,op:=.move (.t 23) }],[],[]⟩) (.cond (.v 22) (.region ⟨[
      { dst:=.t 24,op:=.move (.v 6) },
      { dst:=.t 25,op:=.move (.v 0) },
      { dst:=.t 26,op:=.call 15 [.t 25,.c (.int .i64 9)] },
      { dst:=.t 27,op:=.nilCheck (.t 24) },
      { dst:=.t 28,op:=.fieldAddr 0 (.t 27) },
      { dst:=.none,op:=.store 1 (.t 28) (.t 26) }],[],[]⟩) (.seq (.region ⟨[
      { dst:=.t 30,op:=.bin .eql (.v 21) (.c (.int .i64 1)) },
      { dst:=.v 29,op:=.move (.t 30) }],[],[]⟩) (.cond (.v 29) (.region ⟨[
      { dst:=.t 31,op:=.move (.v 6) },
      { dst:=.t 32,op:=.move (.v 0) },
      { dst:=.t 33,op:=.call 15 [.t 32,.c (.int .i64 9)] },
      { dst:=.t 34,op:=.nilCheck (.t 31) },
      { dst:=.t 35,op:=.fieldAddr 1 (.t 34) },
      { dst:=.none,op:=.store 1 (.t 35) (.t 33) }],[],[]⟩) (.seq (.region ⟨[
      { dst:=.t 37,op:=.bin .eql (.v 21) (.c (.int .i64 2)) },
      { dst:=.v 36,op:=.move (.t 37) }],[],[]⟩) (.cond (.v 36) (.region ⟨[
      { dst:=.t 38,op:=.move (.v 6) },
      { dst:=.t 39,op:=.move (.v 0) },
      { dst:=.t 40,op:=.call 62 [.t 39] },
      { dst:=.t 41,op:=.nilCheck (.t 38) },
      { dst:=.t 42,op:=.fieldAddr 2 (.t 41) },
      { dst:=.none,op:=.store 1 (.t 42) (.t 40) }],[],[]⟩) (.seq (.region ⟨[
      { dst:=.t 44,op:=.bin .eql (.v 21) (.c (.int .i64 3)) },
      { dst:=.v 43,op:=.move (.t 44) }],[],[]⟩) (.cond (.v 43) (.region ⟨[
      { dst:=.t 45,op:=.move (.v 6) },
      { dst:=.t 46,op:=.move (.v 0) },
      { dst:=.t 47,op:=.call 25 [.t 46] },
      { dst:=.t 48,op:=.nilCheck (.t 45) },
      { dst:=.t 49,op:=.fieldAddr 3 (.t 48) },
      { dst:=.none,op:=.store 1 (.t 49) (.t 47) }],[],[]⟩) (.seq (.region ⟨[
      { dst:=.t 51,op:=.bin .eql (.v 21) (.c (.int .i64 4)) },
      { dst:=.v 50,op:=.move (.t 51) }],[],[]⟩) (.cond (.v 50) (.region ⟨[
      { dst:=.t 52,op:=.move (.v 6) },
      { dst:=.t 53,op:=.move (.v 0) },
      { dst:=.t 54,op:=.call 15 [.t 53,.c (.int .i64 4)] },
      { dst:=.t 55,op:=.bin .sub (.t 54) (.c (.int .i64 1)) },
      { dst:=.t 56,op:=.nilCheck (.t 52) },
      { dst:=.t 57,op:=.fieldAddr 4 (.t 56) },
      { dst:=.none,op:=.store 1 (.t 57) (.t 55) }],[],[]⟩) (.seq (.region ⟨[
      { dst:=.t 59,op:=.bin .eql (.v 21) (.c (.int .i64 5)) },
      { dst:=.v 58,op:=.move (.t 59) }],[],[]⟩) (.cond (.v 58) (.region ⟨[
      { dst:=.t 60,op:=.move (.v 6) },
      { dst:=.t 61,op:=.move (.v 0) },
      { dst:=.t 62,op:=.call 63 [.t 61] },
      { dst:=.t 63,op:=.nilCheck (.t 60) },
      { dst:=.t 64,op:=.fieldAddr 5 (.t 63) },
      { dst:=.none,op:=.store 1 (.t 64) (.t 62) }],[],[]⟩) (.seq (.region ⟨[
      { dst:=.t 66,op:=.bin .eql (.v 21) (.c (.int .i64 6)) },
      { dst:=.v 65,op:=.move (.t 66) }],[],[]⟩) (.cond (.v 65) (.region ⟨[
      { dst:=.t 67,op:=.move (.v 0) },
      { dst:=.t 68,op:=.call 15 [.t 67,.c (.int .i64 9)] },
      { dst:=.t 69,op:=.fieldAddr 0 (.v 5) },
      { dst:=.t 70,op:=.fieldAddr 1 (.t 69) },
      { dst:=.none,op:=.store 1 (.t 70) (.t 68) }],[],[]⟩) (.seq (.region ⟨[
      { dst:=.t 72,op:=.bin .eql (.v 21) (.c (.int .i64 7)) },
      { dst:=.v 71,op:=.move (.t 72) }],[],[]⟩) (.cond (.v 71) (.region ⟨[
      { dst:=.t 73,op:=.move (.v 0) },
      { dst:=.t 74,op:=.call 15 [.t 73,.c (.int .i64 9)] },
      { dst:=.t 75,op:=.fieldAddr 3 (.v 5) },
      { dst:=.none,op:=.store 1 (.t 75) (.t 74) }],[],[]⟩) (.seq (.region ⟨[
      { dst:=.t 77,op:=.bin .eql (.v 21) (.c (.int .i64 8)) },
      { dst:=.v 76,op:=.move (.t 77) }],[],[]⟩) (.cond (.v 76) (.region ⟨[
      { dst:=.t 78,op:=.fieldAddr 0 (.v 5) },
      { dst:=.t 79,op:=.fieldAddr 0 (.t 78) },
      { dst:=.t 80,op:=.load none (.t 79) },
      { dst:=.t 81,op:=.move (.v 6) },
      { dst:=.t 82,op:=.nilCheck (.t 81) },
      { dst:=.t 83,op:=.load (some 6) (.t 82) },
      { dst:=.t 84,op:=.buildSlice 6 [.t 83] },
      { dst:=.t 85,op:=.append 6 56 (.t 80) (.t 84) },
      { dst:=.t 86,op:=.fieldAddr 0 (.v 5) },
      { dst:=.t 87,op:=.fieldAddr 0 (.t 86) },
      { dst:=.none,op:=.store 1 (.t 87) (.t 85) }],[],[(2,6)]⟩) (.skip)))))))))))))))))))
def odd_b1 : VCode:=.block 1 (.seq (.region ⟨[
      { dst:=.t 103,op:=.bin .eql (.v 101) (.c (.int .i64 0)) },
      { dst:=.v 102,op:=.move (.t 103) }],[],[]⟩) (.cond (.v 102) (.region ⟨[
      { dst:=.t 104,op:=.move (.v 7) },
      { dst:=.t 105,op:=.move (.v 0) },
      { dst:=.t 106,op:=.call 15 [.t 105,.c (.int .i64 9)] },
      { dst:=.t 107,op:=.nilCheck (.t 104) },
      { dst:=.t 108,op:=.fieldAddr 0 (.t 107) },
      { dst:=.none,op:=.store 1 (.t 108) (.t 106) }],[],[]⟩) (.seq (.region ⟨[
      { dst:=.t 110,op:=.bin .eql (.v 101) (.c (.int .i64 1)) },
      { dst:=.v 109,op:=.move (.t 110) }],[],[]⟩) (.cond (.v 109) (.region ⟨[
      { dst:=.t 111,op:=.move (.v 7) },
      { dst:=.t 112,op:=.move (.v 0) },
      { dst:=.t 113,op:=.call 15 [.t 112,.c (.int .i64 9)] },
      { dst:=.t 114,op:=.nilCheck (.t 111) },
      { dst:=.t 115,op:=.fieldAddr 1 (.t 114) },
      { dst:=.none,op:=.store 1 (.t 115) (.t 113) }],[],[]⟩) (.seq (.region ⟨[
      { dst:=.t 117,op:=.bin .eql (.v 101) (.c (.int .i64 2)) },
      { dst:=.v 116,op:=.move (.t 117) }],[],[]⟩) (.cond (.v 116) (.region ⟨[
      { dst:=.t 118,op:=.move (.v 7) },
      { dst:=.t 119,op:=.move (.v 0) },
      { dst:=.t 120,op:=.call 15 [.t 119,.c (.int .i64 9)] },
      { dst:=.t 121,op:=.nilCheck (.t 118) },
      { dst:=.t 122,op:=.fieldAddr 2 (.t 121) },
      { dst:=.none,op:=.store 1 (.t 122) (.t 120) }],[],[]⟩) (.seq (.region ⟨[
      { dst:=.t 124,op:=.bin .eql (.v 101) (.c (.int .i64 3)) },
      { dst:=.v 123,op:=.move (.t 124) }],[],[]⟩) (.cond (.v 123) (.region ⟨[
      { dst:=.t 125,op:=.move (.v 7) },
      { dst:=.t 126,op:=.move (.v 0) },
      { dst:=.t 127,op:=.call 63 [.t 126] },
      { dst:=.t 128,op:=.nilCheck (.t 125) },
      { dst:=.t 129,op:=.fieldAddr 3 (.t 128) },
      { dst:=.none,op:=.store 1 (.t 129) (.t 127) }],[],[]⟩) (.skip)))))))))
theorem odd_eq : vb21 =
    .seq (.region ⟨[
      { dst:=.v 3,op:=.box 4 (.v 1) },
      { dst:=.v 4,op:=.alloc [.nil 6,.c (.int .i64 0),.nil 4,.c (.int .i64 0)] }],[],[]⟩) (.seq (.region ⟨[
      { dst:=.t 8,op:=.load (some 4) (.v 3) },
      { dst:=.t 9,op:=.call 61 [.t 8] },
      { dst:=.v 5,op:=.alloc [.nil 6,.c (.int .i64 0),.nil 4,.c (.int .i64 0)] },
      { dst:=.none,op:=.store 4 (.v 5) (.t 9) }],[],[]⟩) (.seq (.region ⟨[
      { dst:=.t 10,op:=.fieldAddr 0 (.v 5) },
      { dst:=.t 11,op:=.fieldAddr 0 (.t 10) },
      { dst:=.t 12,op:=.load none (.t 11) },
      { dst:=.t 13,op:=.move (.v 0) },
      { dst:=.t 14,op:=.fieldAddr 0 (.v 5) },
      { dst:=.t 15,op:=.fieldAddr 0 (.t 14) },
      { dst:=.t 16,op:=.load none (.t 15) },
      { dst:=.t 17,op:=.len (.t 16) },
      { dst:=.t 18,op:=.call 15 [.t 13,.t 17] },
      { dst:=.t 19,op:=.indexAddr 6 (.t 12) (.t 18) },
      { dst:=.v 6,op:=.move (.t 19) }],[],[(2,8)]⟩) (.seq (.seq (.region ⟨[
      { dst:=.t 20,op:=.move (.v 0) },
      { dst:=.v 21,op:=.call 15 [.t 20,.c (.int .i64 12)] }],[],[]⟩) odd_b0) (.seq (.seq (.region ⟨[
      { dst:=.t 88,op:=.fieldAddr 2 (.v 5) },
      { dst:=.t 89,op:=.load none (.t 88) },
      { dst:=.t 90,op:=.len (.t 89) },
      { dst:=.v 91,op:=.bin .gtr (.t 90) (.c (.int .i64 0)) }],[],[]⟩) (.cond (.v 91) (.seq (.region ⟨[
      { dst:=.t 92,op:=.fieldAddr 2 (.v 5) },
      { dst:=.t 93,op:=.load none (.t 92) },
      { dst:=.t 94,op:=.move (.v 0) },
      { dst:=.t 95,op:=.fieldAddr 2 (.v 5) },
      { dst:=.t 96,op:=.load none (.t 95) },
      { dst:=.t 97,op:=.len (.t 96) },
      { dst:=.t 98,op:=.call 15 [.t 94,.t 97] },
      { dst:=.t 99,op:=.indexAddr 4 (.t 93) (.t 98) },
      { dst:=.v 7,op:=.move (.t 99) }],[],[(1,6)]⟩) (.seq (.region ⟨[
      { dst:=.t 100,op:=.move (.v 0) },
      { dst:=.v 101,op:=.call 15 [.t 100,.c (.int .i64 8)] }],[],[]⟩) odd_b1)) (.skip))) (.seq (.region ⟨[
      { dst:=.t 130,op:=.load (some 4) (.v 5) },
      { dst:=.none,op:=.store 4 (.v 4) (.t 130) }],[9,85],[]⟩) (.ret)))))):=rfl
def OddM (L : List Int) (ts : List Tk) (s : St) : Prop:=∃ (b : Nat) (N : List Nd) (nx n : Int) (ver : Nat),(∀ y ∈ N,y.Fits) /\ N.length < 1000000 /\ s.pe 0 = .ptr (.arg 0 0) 0 0 /\ s.pe 4 = .ptr (.slot 4 0) 0 0 /\ s.pe 5 = .ptr (.slot 5 0) 0 0 /\ s.h (.arg 0 0) = some (0,diceB L b) /\
 s.h (.slot 4 0) = some (0,.box [.own (.slot 4 1) 0 0 0,.p (.int .i64 0),.own (.slot 4 3) 0 0 0,.p (.int .i64 0)]) /\ s.h (.slot 5 0) = some (0,.box [.own (.slot 9 1) ver 0 N.length,.p (.int .i64 nx),.own (.slot 9 3) 0 0 ts.length,.p (.int .i64 n)]) /\ s.h (.slot 9 1) = some (ver,.arr 6 (N.map Nd.pv)) /\ s.h (.slot 9 3) = some (0,.arr 4 (ts.map Tk.pv))
def OddT (L : List Int) (N : List Nd) (s : St) : Prop:=∃ (b : Nat) (ts : List Tk) (nx n : Int) (ver : Nat),ts.length < 1000000 /\ s.pe 0 = .ptr (.arg 0 0) 0 0 /\ s.pe 4 = .ptr (.slot 4 0) 0 0 /\ s.pe 5 = .ptr (.slot 5 0) 0 0 /\ s.h (.arg 0 0) = some (0,diceB L b) /\
 s.h (.slot 4 0) = some (0,.box [.own (.slot 4 1) 0 0 0,.p (.int .i64 0),.own (.slot 4 3) 0 0 0,.p (.int .i64 0)]) /\ s.h (.slot 5 0) = some (0,.box [.own (.slot 9 1) ver 0 N.length,.p (.int .i64 nx),.own (.slot 9 3) 0 0 ts.length,.p (.int .i64 n)]) /\ s.h (.slot 9 1) = some (ver,.arr 6 (N.map Nd.pv)) /\ s.h (.slot 9 3) = some (0,.arr 4 (ts.map Tk.pv))
def OddR (L : List Int) (r : VVal × List Ob) : Prop:=∃ (h' : Hy) (a' : Nat),r = (h'.vv,[diceB L a']) /\ h'.t.Fits /\ h'.t.nodes.length < 1000000 /\ h'.ts.length < 1000000
set_option maxHeartbeats 16000000 in
theorem odd_ok (L : List Int) (a : Nat) (h : Hy) (hL : L.length < 4611686018427387904) (hs : soundR h = true) : ∃ (h' : Hy) (a' : Nat),V 21 [.ptr (.arg 0 0) 0 0,h.vv] [diceB L a] = some (h'.vv,[diceB L a']) /\ h'.t.Fits /\ h'.t.nodes.length < 1000000 /\ h'.ts.length < 1000000:=by
 suffices hw : wp (callF V vf21 [.ptr (.arg 0 0) 0 0,h.vv] [diceB L a]) (OddR L) by
  obtain ⟨r,hr,h',a',rfl,hs'⟩:=hw
  exact ⟨h',a',V_fix (f:=21) (vf:=vf21) rfl hr,hs'⟩
 have m:=sound_mem hs
 have htr:=(treeOk_iff _).1 m.tree
 have hfits:=htr.fits
 obtain ⟨l1,l2,l3,l4⟩:=sound_len hs
 have hl : h.ts.length < 1000000:=by omega
 have hn : h.t.nodes.length < 1000000:=by omega
 have hcp:=rhcopy_eq h hl hn
 have hnx:=next_eq L a h.t.nodes.length hL (by omega)
 have q0:=nextV_nonneg L a h.t.nodes.length
 have q1:=nextV_lt L a (n:=h.t.nodes.length) (by omega)
 generalize nextA L a h.t.nodes.length = a1 at hnx
 generalize nextV L a h.t.nodes.length = iz at hnx q0 q1
 obtain ⟨i,rfl⟩ : ∃ i : Nat,iz = (i : Int):=⟨iz.toNat,by omega⟩
 have hil : i < h.t.nodes.length:=by omega
 have hc : h.t.nodes[i]? = some (h.t.nodes[i]):=lgg hil
 have hxf : (h.t.nodes[i]).Fits:=hfits _ (lgk hil)
 generalize h.t.nodes[i] = x at hc hxf
 have h12:=next_eq L a1 12 hL (by omega)
 generalize nextV L a1 12 = k at h12
 generalize nextA L a1 12 = a2 at h12
 have ht1 : List.take h.t.nodes.length (h.t.nodes.map Nd.pv) = h.t.nodes.map Nd.pv:=ltl (by simp)
 have ht2 : List.take h.ts.length (h.ts.map Tk.pv) = h.ts.map Tk.pv:=ltl (by simp)
 simp -implicitDefEqProofs (disch:=omega) only [vf21,odd_eq,hcp,hnx,q0,hil,h12,ht1,ht2,go_sem,↓reduceIte,rA,rS,rE,rL,reduceCtorEq]
 have htk : ∀ N : List Nd,N.length = h.t.nodes.length -> List.take h.t.nodes.length (N.map Nd.pv) = N.map Nd.pv:=fun N e=>ltl (by rw [llm,e]; exact lrf _)
 have hsf : ∀ y : Nd,y.Fits -> (∀ z ∈ h.t.nodes.set i y,z.Fits) /\ (h.t.nodes.set i y).length < 1000000:=fun y hy=>⟨fun z hz=>by
  rcases List.mem_or_eq_of_mem_set hz with e | e
  ·exact hfits z e
  ·exact e ▸ hy,by rw [List.length_set]; exact hn⟩
 refine wp_mono (Q:=fun r=>r.1 = .normal /\ OddM L h.ts r.2) ?_ ?_
 ·unfold odd_b0
  refine wp_blk ?_
  have h9:=next_eq L a2 9 hL (by omega)
  have h9n:=nextV_nonneg L a2 9
  have h9l:=nextV_lt L a2 (n:=9) (by omega)
  generalize nextV L a2 9 = v9 at h9 h9n h9l
  generalize nextA L a2 9 = a9 at h9
  have h4:=next_eq L a2 4 hL (by omega)
  have h4n:=nextV_nonneg L a2 4
  have h4l:=nextV_lt L a2 (n:=4) (by omega)
  generalize nextV L a2 4 = v4 at h4 h4n h4l
  generalize nextA L a2 4 = a4 at h4
  have hw4 : IntKind.i64.wrap (v4 - 1) = v4 - 1:=wrap64 (by omega) (by omega)
  obtain ⟨wd,hwd,hword⟩:=word_ok L a2 hL
  generalize nextA L a2 12 = a12 at hword
  obtain ⟨us,huser⟩:=user_ok L a2 hL
  generalize nextA L a2 8 = a8 at huser
  have hctl:=dctl_eq L a2 hL
  have hctlb : ctlV L a2 < 100:=by
   unfold ctlV
   have:=nextV_nonneg L a2 9
   have:=nextV_lt L a2 (n:=9) (by omega)
   have hi : (nextV L a2 9).toNat < 9:=by omega
   generalize (nextV L a2 9).toNat = q at hi
   exact (by decide +kernel : ∀ q : Fin 9,([1,9,31,2,25,4,0,32,-1] : List Int).getD q.val 0 < 100) ⟨q,hi⟩
  generalize ctlV L a2 = ct at hctl hctlb
  generalize nextA L a2 9 = ac at hctl
  by_cases k0 : k = 0
  ·have ke : (k = 0) = True:=eq_true k0
   have hset : ((h.t.nodes.map Nd.pv).set i (.agg [.int .i64 v9,.int .i64 x.parent,.str x.name,.int .i64 x.control,.int .i64 x.kind,.int .i64 x.owner])) = (h.t.nodes.set i ⟨v9,x.parent,x.name,x.control,x.kind,x.owner⟩).map Nd.pv:=by rw [List.map_set]; rfl
   have hfx:=hsf ⟨v9,x.parent,x.name,x.control,x.kind,x.owner⟩ ⟨hxf.name,hxf.control⟩
   have htx:=htk (h.t.nodes.set i ⟨v9,x.parent,x.name,x.control,x.kind,x.owner⟩) (List.length_set ..)
   simp -implicitDefEqProofs (disch:=omega) only [h9,hc,hil,ke,go_sem,↓reduceIte,rA,rS,rE,rL,reduceCtorEq]
   refine ⟨a9,h.t.nodes.set i ⟨v9,x.parent,x.name,x.control,x.kind,x.owner⟩,h.t.next,h.next,0,hfx.1,hfx.2,?_⟩
   simp -implicitDefEqProofs (disch:=omega) only [hset,htx,go_sem,↓reduceIte,rA,rS,rE,rL,reduceCtorEq]
   simp only [List.length_set]
  by_cases k1 : k = 1
  ·have ke : (k = 1) = True:=eq_true k1
   have hset : ((h.t.nodes.map Nd.pv).set i (.agg [.int .i64 x.id,.int .i64 v9,.str x.name,.int .i64 x.control,.int .i64 x.kind,.int .i64 x.owner])) = (h.t.nodes.set i ⟨x.id,v9,x.name,x.control,x.kind,x.owner⟩).map Nd.pv:=by rw [List.map_set]; rfl
   have hfx:=hsf ⟨x.id,v9,x.name,x.control,x.kind,x.owner⟩ ⟨hxf.name,hxf.control⟩
   have htx:=htk (h.t.nodes.set i ⟨x.id,v9,x.name,x.control,x.kind,x.owner⟩) (List.length_set ..)
   simp -implicitDefEqProofs (disch:=omega) only [h9,hc,hil,ke,k0,go_sem,↓reduceIte,rA,rS,rE,rL,reduceCtorEq]
   refine ⟨a9,h.t.nodes.set i ⟨x.id,v9,x.name,x.control,x.kind,x.owner⟩,h.t.next,h.next,0,hfx.1,hfx.2,?_⟩
   simp -implicitDefEqProofs (disch:=omega) only [hset,htx,go_sem,↓reduceIte,rA,rS,rE,rL,reduceCtorEq]
   simp only [List.length_set]
  by_cases k2 : k = 2
  ·have ke : (k = 2) = True:=eq_true k2
   have hset : ((h.t.nodes.map Nd.pv).set i (.agg [.int .i64 x.id,.int .i64 x.parent,.str wd,.int .i64 x.control,.int .i64 x.kind,.int .i64 x.owner])) = (h.t.nodes.set i ⟨x.id,x.parent,wd,x.control,x.kind,x.owner⟩).map Nd.pv:=by rw [List.map_set]; rfl
   have hfx:=hsf ⟨x.id,x.parent,wd,x.control,x.kind,x.owner⟩ ⟨by show wd.size < _; omega,hxf.control⟩
   have htx:=htk (h.t.nodes.set i ⟨x.id,x.parent,wd,x.control,x.kind,x.owner⟩) (List.length_set ..)
   simp -implicitDefEqProofs (disch:=omega) only [hword,hc,hil,ke,k0,k1,go_sem,↓reduceIte,rA,rS,rE,rL,reduceCtorEq]
   refine ⟨a12,h.t.nodes.set i ⟨x.id,x.parent,wd,x.control,x.kind,x.owner⟩,h.t.next,h.next,0,hfx.1,hfx.2,?_⟩
   simp -implicitDefEqProofs (disch:=omega) only [hset,htx,go_sem,↓reduceIte,rA,rS,rE,rL,reduceCtorEq]
   simp only [List.length_set]
  by_cases k3 : k = 3
  ·have ke : (k = 3) = True:=eq_true k3
   have hset : ((h.t.nodes.map Nd.pv).set i (.agg [.int .i64 x.id,.int .i64 x.parent,.str x.name,.int .i64 ct,.int .i64 x.kind,.int .i64 x.owner])) = (h.t.nodes.set i ⟨x.id,x.parent,x.name,ct,x.kind,x.owner⟩).map Nd.pv:=by rw [List.map_set]; rfl
   have hfx:=hsf ⟨x.id,x.parent,x.name,ct,x.kind,x.owner⟩ ⟨hxf.name,by show ct < _; omega⟩
   have htx:=htk (h.t.nodes.set i ⟨x.id,x.parent,x.name,ct,x.kind,x.owner⟩) (List.length_set ..)
   simp -implicitDefEqProofs (disch:=omega) only [hctl,hc,hil,ke,k0,k1,k2,go_sem,↓reduceIte,rA,rS,rE,rL,reduceCtorEq]
   refine ⟨ac,h.t.nodes.set i ⟨x.id,x.parent,x.name,ct,x.kind,x.owner⟩,h.t.next,h.next,0,hfx.1,hfx.2,?_⟩
   simp -implicitDefEqProofs (disch:=omega) only [hset,htx,go_sem,↓reduceIte,rA,rS,rE,rL,reduceCtorEq]
   simp only [List.length_set]
  by_cases k4 : k = 4
  ·have ke : (k = 4) = True:=eq_true k4
   have hset : ((h.t.nodes.map Nd.pv).set i (.agg [.int .i64 x.id,.int .i64 x.parent,.str x.name,.int .i64 x.control,.int .i64 (v4 - 1),.int .i64 x.owner])) = (h.t.nodes.set i ⟨x.id,x.parent,x.name,x.control,(v4 - 1),x.owner⟩).map Nd.pv:=by rw [List.map_set]; rfl
   have hfx:=hsf ⟨x.id,x.parent,x.name,x.control,(v4 - 1),x.owner⟩ ⟨hxf.name,hxf.control⟩
   have htx:=htk (h.t.nodes.set i ⟨x.id,x.parent,x.name,x.control,(v4 - 1),x.owner⟩) (List.length_set ..)
   simp -implicitDefEqProofs (disch:=omega) only [h4,hw4,hc,hil,ke,k0,k1,k2,k3,go_sem,↓reduceIte,rA,rS,rE,rL,reduceCtorEq]
   refine ⟨a4,h.t.nodes.set i ⟨x.id,x.parent,x.name,x.control,(v4 - 1),x.owner⟩,h.t.next,h.next,0,hfx.1,hfx.2,?_⟩
   simp -implicitDefEqProofs (disch:=omega) only [hset,htx,go_sem,↓reduceIte,rA,rS,rE,rL,reduceCtorEq]
   simp only [List.length_set]
  by_cases k5 : k = 5
  ·have ke : (k = 5) = True:=eq_true k5
   have hset : ((h.t.nodes.map Nd.pv).set i (.agg [.int .i64 x.id,.int .i64 x.parent,.str x.name,.int .i64 x.control,.int .i64 x.kind,.int .i64 us])) = (h.t.nodes.set i ⟨x.id,x.parent,x.name,x.control,x.kind,us⟩).map Nd.pv:=by rw [List.map_set]; rfl
   have hfx:=hsf ⟨x.id,x.parent,x.name,x.control,x.kind,us⟩ ⟨hxf.name,hxf.control⟩
   have htx:=htk (h.t.nodes.set i ⟨x.id,x.parent,x.name,x.control,x.kind,us⟩) (List.length_set ..)
   simp -implicitDefEqProofs (disch:=omega) only [huser,hc,hil,ke,k0,k1,k2,k3,k4,go_sem,↓reduceIte,rA,rS,rE,rL,reduceCtorEq]
   refine ⟨a8,h.t.nodes.set i ⟨x.id,x.parent,x.name,x.control,x.kind,us⟩,h.t.next,h.next,0,hfx.1,hfx.2,?_⟩
   simp -implicitDefEqProofs (disch:=omega) only [hset,htx,go_sem,↓reduceIte,rA,rS,rE,rL,reduceCtorEq]
   simp only [List.length_set]
  by_cases k6 : k = 6
  ·have ke : (k = 6) = True:=eq_true k6
   simp -implicitDefEqProofs (disch:=omega) only [h9,hc,hil,ke,k0,k1,k2,k3,k4,k5,go_sem,↓reduceIte,rA,rS,rE,rL,reduceCtorEq]
   refine ⟨a9,h.t.nodes,v9,h.next,0,hfits,hn,?_⟩
   simp -implicitDefEqProofs (disch:=omega) only [ht1,go_sem,↓reduceIte,rA,rS,rE,rL,reduceCtorEq]
  by_cases k7 : k = 7
  ·have ke : (k = 7) = True:=eq_true k7
   simp -implicitDefEqProofs (disch:=omega) only [h9,hc,hil,ke,k0,k1,k2,k3,k4,k5,k6,go_sem,↓reduceIte,rA,rS,rE,rL,reduceCtorEq]
   refine ⟨a9,h.t.nodes,h.t.next,v9,0,hfits,hn,?_⟩
   simp -implicitDefEqProofs (disch:=omega) only [ht1,go_sem,↓reduceIte,rA,rS,rE,rL,reduceCtorEq]
  by_cases k8 : k = 8
  ·have ke : (k = 8) = True:=eq_true k8
   have hcat : h.t.nodes.map Nd.pv ++ [.agg [.int .i64 x.id,.int .i64 x.parent,.str x.name,.int .i64 x.control,.int .i64 x.kind,.int .i64 x.owner]] = (h.t.nodes ++ [x]).map Nd.pv:=by rw [lma]; rfl
   have htc : List.take (h.t.nodes.length + 1) ((h.t.nodes ++ [x]).map Nd.pv) = (h.t.nodes ++ [x]).map Nd.pv:=ltl (by simp)
   simp -implicitDefEqProofs (disch:=omega) only [hc,hil,ke,ht1,k0,k1,k2,k3,k4,k5,k6,k7,go_sem,↓reduceIte,rA,rS,rE,rL,reduceCtorEq]
   refine ⟨a2,h.t.nodes ++ [x],h.t.next,h.next,1,fun z hz=>?_,by rw [lla]; simp only [llc,lln]; omega,?_⟩
   ·rcases lmp.1 hz with e | e
    .exact hfits z e
    .rw [List.mem_singleton.1 e]; exact hxf
   simp -implicitDefEqProofs (disch:=omega) only [hcat,htc,ht1,go_sem,↓reduceIte,rA,rS,rE,rL,reduceCtorEq]
  ·simp -implicitDefEqProofs (disch:=omega) only [hc,hil,k0,k1,k2,k3,k4,k5,k6,k7,k8,go_sem,↓reduceIte,rA,rS,rE,rL,reduceCtorEq]
   refine ⟨a2,h.t.nodes,h.t.next,h.next,0,hfits,hn,?_⟩
   simp -implicitDefEqProofs (disch:=omega) only [ht1,go_sem,↓reduceIte,rA,rS,rE,rL,reduceCtorEq]
 ·rintro ⟨e,s⟩ ⟨e0,b,N,nx,n,ver,hf,hnl,p0,p4,p5,ha0,q4,q5,qX,q9⟩
  simp only at e0 p0 p4 p5 ha0 q4 q5 qX q9
  subst e0
  by_cases hz : h.ts.length = 0
  ·have hz1 : ¬ (0 : Int) < (h.ts.length : Nat):=by omega
   simp -implicitDefEqProofs (disch:=omega) only [p0,p4,p5,ha0,q4,q5,qX,q9,hz1,ht2,ltl (show (N.map Nd.pv).length <= N.length by simp),go_sem,↓reduceIte,rA,rS,rE,rL,reduceCtorEq]
   exact ⟨⟨⟨N,nx⟩,h.ts,n⟩,b,rfl,hf,hnl,hl⟩
  have hz1 : (0 : Int) < (h.ts.length : Nat):=by omega
  have hnt:=next_eq L b h.ts.length hL (by omega)
  have t0:=nextV_nonneg L b h.ts.length
  have t1:=nextV_lt L b (n:=h.ts.length) (by omega)
  generalize nextA L b h.ts.length = b1 at hnt
  generalize nextV L b h.ts.length = jz at hnt t0 t1
  obtain ⟨j,rfl⟩ : ∃ j : Nat,jz = (j : Int):=⟨jz.toNat,by omega⟩
  have hjl : j < h.ts.length:=by omega
  have hd : h.ts[j]? = some (h.ts[j]):=lgg hjl
  generalize h.ts[j] = y at hd
  have h8:=next_eq L b1 8 hL (by omega)
  generalize nextV L b1 8 = k at h8
  generalize nextA L b1 8 = b2 at h8
  have h9:=next_eq L b2 9 hL (by omega)
  generalize nextV L b2 9 = v9 at h9
  generalize nextA L b2 9 = b9 at h9
  obtain ⟨us,huser⟩:=user_ok L b2 hL
  generalize nextA L b2 8 = b8 at huser
  have htt : ∀ N : List Tk,N.length = h.ts.length -> List.take h.ts.length (N.map Tk.pv) = N.map Tk.pv:=fun N e=>ltl (by rw [llm,e]; exact lrf _)
  simp -implicitDefEqProofs (disch:=omega) only [p0,p4,p5,ha0,q4,q5,qX,q9,hz1,hnt,t0,hjl,h8,go_sem,↓reduceIte,rA,rS,rE,rL,reduceCtorEq]
  refine wp_mono (Q:=fun r=>r.1 = .normal /\ OddT L N r.2) ?_ ?_
  ·unfold odd_b1
   refine wp_blk ?_
   by_cases k0 : k = 0
   ·have ke : (k = 0) = True:=eq_true k0
    have hset : ((h.ts.map Tk.pv).set j (.agg [.int .i64 v9,.int .i64 y.process,.int .i64 y.group,.int .i64 y.user])) = (h.ts.set j ⟨v9,y.process,y.group,y.user⟩).map Tk.pv:=by rw [List.map_set]; rfl
    have htx:=htt (h.ts.set j ⟨v9,y.process,y.group,y.user⟩) (List.length_set ..)
    simp -implicitDefEqProofs (disch:=omega) only [h9,hd,hjl,ke,p0,p4,p5,ha0,q4,q5,qX,q9,go_sem,↓reduceIte,rA,rS,rE,rL,reduceCtorEq]
    refine ⟨b9,h.ts.set j ⟨v9,y.process,y.group,y.user⟩,nx,n,ver,by rw [List.length_set]; exact hl,?_⟩
    simp -implicitDefEqProofs (disch:=omega) only [hset,htx,p0,p4,p5,ha0,q4,q5,qX,q9,go_sem,↓reduceIte,rA,rS,rE,rL,reduceCtorEq]
    simp only [List.length_set]
   by_cases k1 : k = 1
   ·have ke : (k = 1) = True:=eq_true k1
    have hset : ((h.ts.map Tk.pv).set j (.agg [.int .i64 y.id,.int .i64 v9,.int .i64 y.group,.int .i64 y.user])) = (h.ts.set j ⟨y.id,v9,y.group,y.user⟩).map Tk.pv:=by rw [List.map_set]; rfl
    have htx:=htt (h.ts.set j ⟨y.id,v9,y.group,y.user⟩) (List.length_set ..)
    simp -implicitDefEqProofs (disch:=omega) only [h9,hd,hjl,ke,p0,p4,p5,ha0,q4,q5,qX,q9,k0,go_sem,↓reduceIte,rA,rS,rE,rL,reduceCtorEq]
    refine ⟨b9,h.ts.set j ⟨y.id,v9,y.group,y.user⟩,nx,n,ver,by rw [List.length_set]; exact hl,?_⟩
    simp -implicitDefEqProofs (disch:=omega) only [hset,htx,p0,p4,p5,ha0,q4,q5,qX,q9,go_sem,↓reduceIte,rA,rS,rE,rL,reduceCtorEq]
    simp only [List.length_set]
   by_cases k2 : k = 2
   ·have ke : (k = 2) = True:=eq_true k2
    have hset : ((h.ts.map Tk.pv).set j (.agg [.int .i64 y.id,.int .i64 y.process,.int .i64 v9,.int .i64 y.user])) = (h.ts.set j ⟨y.id,y.process,v9,y.user⟩).map Tk.pv:=by rw [List.map_set]; rfl
    have htx:=htt (h.ts.set j ⟨y.id,y.process,v9,y.user⟩) (List.length_set ..)
    simp -implicitDefEqProofs (disch:=omega) only [h9,hd,hjl,ke,p0,p4,p5,ha0,q4,q5,qX,q9,k0,k1,go_sem,↓reduceIte,rA,rS,rE,rL,reduceCtorEq]
    refine ⟨b9,h.ts.set j ⟨y.id,y.process,v9,y.user⟩,nx,n,ver,by rw [List.length_set]; exact hl,?_⟩
    simp -implicitDefEqProofs (disch:=omega) only [hset,htx,p0,p4,p5,ha0,q4,q5,qX,q9,go_sem,↓reduceIte,rA,rS,rE,rL,reduceCtorEq]
    simp only [List.length_set]
   by_cases k3 : k = 3
   ·have ke : (k = 3) = True:=eq_true k3
    have hset : ((h.ts.map Tk.pv).set j (.agg [.int .i64 y.id,.int .i64 y.process,.int .i64 y.group,.int .i64 us])) = (h.ts.set j ⟨y.id,y.process,y.group,us⟩).map Tk.pv:=by rw [List.map_set]; rfl
    have htx:=htt (h.ts.set j ⟨y.id,y.process,y.group,us⟩) (List.length_set ..)
    simp -implicitDefEqProofs (disch:=omega) only [huser,hd,hjl,ke,p0,p4,p5,ha0,q4,q5,qX,q9,k0,k1,k2,go_sem,↓reduceIte,rA,rS,rE,rL,reduceCtorEq]
    refine ⟨b8,h.ts.set j ⟨y.id,y.process,y.group,us⟩,nx,n,ver,by rw [List.length_set]; exact hl,?_⟩
    simp -implicitDefEqProofs (disch:=omega) only [hset,htx,p0,p4,p5,ha0,q4,q5,qX,q9,go_sem,↓reduceIte,rA,rS,rE,rL,reduceCtorEq]
    simp only [List.length_set]
   simp -implicitDefEqProofs (disch:=omega) only [hd,hjl,p0,p4,p5,ha0,q4,q5,qX,q9,k0,k1,k2,k3,go_sem,↓reduceIte,rA,rS,rE,rL,reduceCtorEq]
   refine ⟨b2,h.ts,nx,n,ver,hl,?_⟩
   simp -implicitDefEqProofs (disch:=omega) only [ht2,p0,p4,p5,ha0,q4,q5,qX,q9,go_sem,↓reduceIte,rA,rS,rE,rL,reduceCtorEq]
  ·clear p0 p4 p5 ha0 q4 q5 qX q9
   rintro ⟨e,s⟩ ⟨e0,b3,ts,nx,n,ver,htl,p0,p4,p5,ha0,q4,q5,qX,q9⟩
   simp only at e0 p0 p4 p5 ha0 q4 q5 qX q9
   subst e0
   have ht4 : List.take N.length (N.map Nd.pv) = N.map Nd.pv:=ltl (by simp)
   have ht3 : List.take ts.length (ts.map Tk.pv) = ts.map Tk.pv:=ltl (by simp)
   simp -implicitDefEqProofs (disch:=omega) only [p0,p4,p5,ha0,q4,q5,qX,q9,ht3,ht4,go_sem,↓reduceIte,rA,rS,rE,rL,reduceCtorEq]
   exact ⟨⟨⟨N,nx⟩,ts,n⟩,b3,rfl,hf,hnl,htl⟩
abbrev boxW (u : Hy) : Ob:=.box [.p (nodesP u.t.nodes),.p (.int .i64 u.t.next),.p (tasksP u.ts),.p (.int .i64 u.next)]
def write_b0 : VCode:=.block 4 (.loop (.seq (.region ⟨[
      { dst:=.v 98,op:=.bin .lss (.v 97) (.v 96) }],[17,19,108,118],[]⟩) (.seq (.cond (.v 98) (.skip) (.exit 4)) (.seq (.block 5 (.seq (.region ⟨[
      { dst:=.t 99,op:=.indexAddr 2 (.v 95) (.v 97) },
      { dst:=.t 100,op:=.load (some 2) (.t 99) },
      { dst:=.v 16,op:=.alloc [.c (.int .i64 0),.c (.int .i64 0)] },
      { dst:=.none,op:=.store 2 (.v 16) (.t 100) }],[],[]⟩) (.seq (.region ⟨[
      { dst:=.t 102,op:=.load (some 4) (.v 12) },
      { dst:=.t 103,op:=.move (.v 14) },
      { dst:=.t 104,op:=.fieldAddr 0 (.v 16) },
      { dst:=.t 105,op:=.load none (.t 104) },
      { dst:=.t 106,op:=.fieldAddr 1 (.v 16) },
      { dst:=.t 107,op:=.load none (.t 106) },
      { dst:=.t 108,op:=.call 16 [.t 102,.t 103,.t 105,.t 107] },
      { dst:=.t 101,op:=.move (.t 108) },
      { dst:=.t 109,op:=.extract (.t 101) 0 },
      { dst:=.t 110,op:=.extract (.t 101) 1 },
      { dst:=.v 17,op:=.alloc [.nil 6,.c (.int .i64 0),.nil 4,.c (.int .i64 0)] },
      { dst:=.none,op:=.store 4 (.v 17) (.t 109) },
      { dst:=.v 18,op:=.move (.t 110) }],[],[]⟩) (.seq (.region ⟨[
      { dst:=.t 112,op:=.load (some 4) (.v 12) },
      { dst:=.t 113,op:=.move (.v 14) },
      { dst:=.t 114,op:=.fieldAddr 0 (.v 16) },
      { dst:=.t 115,op:=.load none (.t 114) },
      { dst:=.t 116,op:=.fieldAddr 1 (.v 16) },
      { dst:=.t 117,op:=.load none (.t 116) },
      { dst:=.t 118,op:=.call 26 [.t 112,.t 113,.t 115,.t 117] },
      { dst:=.t 111,op:=.move (.t 118) },
      { dst:=.t 119,op:=.extract (.t 111) 0 },
      { dst:=.t 120,op:=.extract (.t 111) 1 },
      { dst:=.v 19,op:=.alloc [.nil 6,.c (.int .i64 0),.nil 4,.c (.int .i64 0)] },
      { dst:=.none,op:=.store 4 (.v 19) (.t 119) },
      { dst:=.v 20,op:=.move (.t 120) }],[],[]⟩) (.seq (.region ⟨[
      { dst:=.t 121,op:=.move (.v 18) },
      { dst:=.t 122,op:=.move (.v 20) },
      { dst:=.t 123,op:=.bin .neq (.t 121) (.t 122) },
      { dst:=.t 124,op:=.move (.t 123) },
      { dst:=.t 125,op:=.load (some 4) (.v 17),guard:=some (.t 124,false) },
      { dst:=.t 126,op:=.load (some 4) (.v 19),guard:=some (.t 124,false) },
      { dst:=.t 127,op:=.call 17 [.t 125,.t 126],guard:=some (.t 124,false) },
      { dst:=.t 128,op:=.not (.t 127),guard:=some (.t 124,false) },
      { dst:=.v 129,op:=.pick (.t 124) (.c (.bool true)) (.t 128) }],[108,118],[]⟩) (.cond (.v 129) (.seq (.region ⟨[
      { dst:=.v 8,op:=.move (.c (.bool false)) }],[],[]⟩) (.ret)) (.skip))))))) (.region ⟨[
      { dst:=.t 130,op:=.bin .add (.v 97) (.c (.int .i64 1)) },
      { dst:=.v 97,op:=.move (.t 130) }],[],[]⟩)))))
def write_b1 : VCode:=.block 2 (.loop (.seq (.region ⟨[
      { dst:=.v 51,op:=.bin .lss (.v 50) (.v 49) }],[17,19,108,118],[]⟩) (.seq (.cond (.v 51) (.skip) (.exit 2)) (.seq (.block 3 (.seq (.region ⟨[
      { dst:=.t 52,op:=.indexAddr 1 (.v 48) (.v 50) },
      { dst:=.t 53,op:=.load none (.t 52) },
      { dst:=.v 14,op:=.move (.t 53) }],[],[]⟩) (.seq (.seq (.region ⟨[
      { dst:=.t 54,op:=.load (some 4) (.v 12) },
      { dst:=.t 55,op:=.call 14 [.t 54] },
      { dst:=.t 56,op:=.load (some 4) (.v 12) },
      { dst:=.t 57,op:=.call 20 [.t 56] },
      { dst:=.t 58,op:=.eqB true (.t 55) (.t 57) },
      { dst:=.t 59,op:=.move (.t 58) },
      { dst:=.t 60,op:=.fieldAddr 0 (.v 12),guard:=some (.t 59,false) },
      { dst:=.t 61,op:=.load (some 2) (.t 60),guard:=some (.t 59,false) },
      { dst:=.t 62,op:=.move (.v 14),guard:=some (.t 59,false) },
      { dst:=.t 63,op:=.call 22 [.t 61,.t 62],guard:=some (.t 59,false) },
      { dst:=.t 64,op:=.fieldAddr 0 (.v 12),guard:=some (.t 59,false) },
      { dst:=.t 65,op:=.load (some 2) (.t 64),guard:=some (.t 59,false) },
      { dst:=.t 66,op:=.move (.v 14),guard:=some (.t 59,false) },
      { dst:=.t 67,op:=.call 23 [.t 65,.t 66],guard:=some (.t 59,false) },
      { dst:=.t 68,op:=.bin .neq (.t 63) (.t 67),guard:=some (.t 59,false) },
      { dst:=.t 69,op:=.pick (.t 59) (.c (.bool true)) (.t 68) },
      { dst:=.t 70,op:=.move (.t 69) },
      { dst:=.t 71,op:=.fieldAddr 0 (.v 12),guard:=some (.t 70,false) },
      { dst:=.t 72,op:=.load (some 2) (.t 71),guard:=some (.t 70,false) },
      { dst:=.t 73,op:=.move (.v 14),guard:=some (.t 70,false) },
      { dst:=.t 74,op:=.call 12 [.t 72,.t 73],guard:=some (.t 70,false) },
      { dst:=.t 75,op:=.fieldAddr 0 (.v 12),guard:=some (.t 70,false) },
      { dst:=.t 76,op:=.load (some 2) (.t 75),guard:=some (.t 70,false) },
      { dst:=.t 77,op:=.move (.v 14),guard:=some (.t 70,false) },
      { dst:=.t 78,op:=.call 24 [.t 76,.t 77],guard:=some (.t 70,false) },
      { dst:=.t 79,op:=.bin .neq (.t 74) (.t 78),guard:=some (.t 70,false) },
      { dst:=.v 80,op:=.pick (.t 70) (.c (.bool true)) (.t 79) }],[],[(1,2),(9,11),(20,22)]⟩) (.cond (.v 80) (.seq (.region ⟨[
      { dst:=.v 8,op:=.move (.c (.bool false)) }],[],[]⟩) (.ret)) (.skip))) (.seq (.region ⟨[
      { dst:=.t 81,op:=.move (.v 2) },
      { dst:=.t 82,op:=.move (.v 3) },
      { dst:=.t 83,op:=.buildArr 1 [.t 81,.t 82] },
      { dst:=.t 84,op:=.move (.v 9) },
      { dst:=.t 85,op:=.call 25 [.t 84] },
      { dst:=.t 86,op:=.buildArr 1 [.t 85,.c (.int .i64 0)] },
      { dst:=.t 87,op:=.move (.v 9) },
      { dst:=.t 88,op:=.call 25 [.t 87] },
      { dst:=.t 89,op:=.buildArr 1 [.c (.int .i64 0),.t 88] },
      { dst:=.t 90,op:=.move (.v 9) },
      { dst:=.t 91,op:=.call 15 [.t 90,.c (.int .i64 32)] },
      { dst:=.t 92,op:=.move (.v 9) },
      { dst:=.t 93,op:=.call 15 [.t 92,.c (.int .i64 32)] },
      { dst:=.t 94,op:=.buildArr 1 [.t 91,.t 93] },
      { dst:=.v 95,op:=.buildSlice 2 [.t 83,.t 86,.t 89,.t 94] },
      { dst:=.v 96,op:=.len (.v 95) },
      { dst:=.v 97,op:=.move (.c (.int .i64 0)) }],[],[]⟩) write_b0)))) (.region ⟨[
      { dst:=.t 131,op:=.bin .add (.v 50) (.c (.int .i64 1)) },
      { dst:=.v 50,op:=.move (.t 131) }],[],[]⟩)))))
def write_b2 : VCode:=.block 0 (.loop (.seq (.region ⟨[
      { dst:=.v 36,op:=.bin .lss (.v 35) (.v 34) }],[12,17,19,108,118],[]⟩) (.seq (.cond (.v 36) (.skip) (.exit 0)) (.seq (.block 1 (.seq (.region ⟨[
      { dst:=.t 37,op:=.indexAddr 4 (.v 33) (.v 35) },
      { dst:=.t 38,op:=.load (some 4) (.t 37) },
      { dst:=.v 12,op:=.alloc [.nil 6,.c (.int .i64 0),.nil 4,.c (.int .i64 0)] },
      { dst:=.none,op:=.store 4 (.v 12) (.t 38) }],[],[]⟩) (.seq (.region ⟨[
      { dst:=.t 39,op:=.move (.v 1) },
      { dst:=.t 40,op:=.move (.v 9) },
      { dst:=.t 41,op:=.fieldAddr 0 (.v 12) },
      { dst:=.t 42,op:=.load (some 2) (.t 41) },
      { dst:=.t 43,op:=.call 18 [.t 40,.t 42] },
      { dst:=.t 44,op:=.move (.v 9) },
      { dst:=.t 45,op:=.fieldAddr 0 (.v 12) },
      { dst:=.t 46,op:=.load (some 2) (.t 45) },
      { dst:=.t 47,op:=.call 18 [.t 44,.t 46] },
      { dst:=.v 48,op:=.buildSlice 1 [.t 39,.t 43,.t 47] },
      { dst:=.v 49,op:=.len (.v 48) },
      { dst:=.v 50,op:=.move (.c (.int .i64 0)) }],[],[(4,7)]⟩) write_b1))) (.region ⟨[
      { dst:=.t 132,op:=.bin .add (.v 35) (.c (.int .i64 1)) },
      { dst:=.v 35,op:=.move (.t 132) }],[],[]⟩)))))
theorem write_eq : vb6 =
    .seq (.region ⟨[
      { dst:=.v 8,op:=.move (.c (.bool false)) }],[],[]⟩) (.seq (.seq (.region ⟨[
      { dst:=.t 21,op:=.move (.v 0) },
      { dst:=.t 22,op:=.call 8 [.t 21] },
      { dst:=.v 23,op:=.not (.t 22) }],[],[]⟩) (.cond (.v 23) (.seq (.region ⟨[
      { dst:=.t 24,op:=.call 9 [] },
      { dst:=.v 8,op:=.move (.t 24) }],[],[]⟩) (.ret)) (.skip))) (.seq (.region ⟨[
      { dst:=.t 25,op:=.move (.v 0) },
      { dst:=.t 26,op:=.call 10 [.t 25] },
      { dst:=.v 9,op:=.move (.t 26) }],[],[]⟩) (.seq (.region ⟨[
      { dst:=.t 27,op:=.move (.v 9) },
      { dst:=.t 28,op:=.call 11 [.t 27,.c (.int .i64 6),.c (.int .i64 6)] },
      { dst:=.v 10,op:=.alloc [.nil 6,.c (.int .i64 0),.nil 4,.c (.int .i64 0)] },
      { dst:=.none,op:=.store 4 (.v 10) (.t 28) }],[],[]⟩) (.seq (.seq (.region ⟨[
      { dst:=.t 29,op:=.load (some 4) (.v 10) },
      { dst:=.t 30,op:=.move (.v 9) },
      { dst:=.t 31,op:=.load (some 4) (.v 10) },
      { dst:=.t 32,op:=.call 21 [.t 30,.t 31] },
      { dst:=.v 33,op:=.buildSlice 4 [.t 29,.t 32] },
      { dst:=.v 34,op:=.len (.v 33) },
      { dst:=.v 35,op:=.move (.c (.int .i64 0)) }],[],[(0,3)]⟩) write_b2) (.seq (.region ⟨[
      { dst:=.t 133,op:=.call 9 [] },
      { dst:=.v 8,op:=.move (.t 133) }],[],[]⟩) (.ret)))))):=rfl
theorem avail_same (t : Tr) (id : Int) : availP t id = availR t id:=by
 unfold availP
 cases hq : findT t id with
 | none=>unfold availR; rw [hq]
 | some n =>
  obtain ⟨ht,hfn⟩:=findT_N hq
  have hn:=List.mem_of_find?_eq_some hfn
  have hi : n.id = id:=by simpa using List.find?_some hfn
  rw [<- hi,avail_from ht hn]
theorem act_same (t : Tr) (id : Int) : actP t id = actR t id:=by
 unfold actP
 by_cases h1 : id = 1
 ·rw [if_pos h1]
  unfold actR
  split
  ·rfl
  ·rw [if_pos h1]
 ·rw [if_neg h1,avail_same]
  unfold availR
  cases hq : findT t id with
  | none=>unfold actR; rw [hq]
  | some n =>
   simp only [if_neg h1]
   unfold actR
   rw [hq]
   simp only [if_neg h1]
   split
   ·obtain ⟨ht,_⟩:=findT_N hq
    have hpc : 0 <= ((findT t n.parent).getD zeroNd).control /\ ((findT t n.parent).getD zeroNd).control <= 31:=by
     cases hp : findT t n.parent with
     | none=>exact ⟨Int.le_refl _,by decide⟩
     | some p=>exact treeOk_control ht (List.mem_of_find?_eq_some (findT_N hp).2)
    exact ant6 hpc.1 hpc.2
   .rfl
theorem ctlV_lt (L : List Int) (a : Nat) : ctlV L a < 100:=by
 unfold ctlV
 have:=nextV_nonneg L a 9
 have:=nextV_lt L a (n:=9) (by omega)
 have hi : (nextV L a 9).toNat < 9:=by omega
 generalize (nextV L a 9).toNat = q at hi
 exact (by decide +kernel : ∀ q : Fin 9,([1,9,31,2,25,4,0,32,-1] : List Int).getD q.val 0 < 100) ⟨q,hi⟩
theorem wrO_box (x : Hy) (id a d : Int) (hl : x.ts.length < 1000000) (hn : x.t.nodes.length < 1000000) : ∃ u : Hy,wrO x id a d = u.fv /\ u.ts.length < 1000000 /\ u.t.nodes.length < 1000000:=by
 by_cases e : wrE x id a d = 0
 .exact ⟨wrH x ((findT x.t id).getD zeroNd) a d,by unfold wrO; rw [if_pos e],hl,by show (setN x.t.nodes _).length < _; rw [setN_len]; exact hn⟩
 .exact ⟨⟨⟨[],0⟩,[],0⟩,by unfold wrO; rw [if_neg e]; rfl,by decide,by decide⟩
def hyP (h : Hy) : PV:=.agg [nodesP h.t.nodes,.int .i64 h.t.next,tasksP h.ts,.int .i64 h.next]
def prP (p : Int × Int) : PV:=.agg [.int .i64 p.1,.int .i64 p.2]
def EnvW (L : List Int) (id add drop : Int) (hs : List Hy) (b i : Nat) (s : St) : Prop:=s.pe 1 = .p (.int .i64 id) /\ s.pe 2 = .p (.int .i64 add) /\ s.pe 3 = .p (.int .i64 drop) /\ s.pe 9 = .ptr (.slot 26 1) 0 0 /\ s.pe 33 = .own (.slot 33 0) 0 0 hs.length /\ s.pe 34 = .p (.int .i64 hs.length) /\ s.pe 35 = .p (.int .i64 i) /\
 s.h (.slot 26 1) = some (0,diceB L b) /\ s.h (.slot 33 0) = some (0,.arr 4 (hs.map hyP))
def EnvX (x : Hy) (gs : List Int) (j : Nat) (s : St) : Prop:=∃ v12 v48,s.pe 12 = .ptr (.slot 12 0) v12 0 /\ s.h (.slot 12 0) = some (v12,boxW x) /\ s.pe 48 = .own (.slot 48 0) v48 0 gs.length /\ s.h (.slot 48 0) = some (v48,.arr 1 (gs.map (.int .i64))) /\ s.pe 49 = .p (.int .i64 gs.length) /\ s.pe 50 = .p (.int .i64 j)
def EnvP (g : Int) (ps : List (Int × Int)) (k : Nat) (s : St) : Prop:=∃ v95,s.pe 14 = .p (.int .i64 g) /\ s.pe 95 = .own (.slot 95 0) v95 0 ps.length /\ s.h (.slot 95 0) = some (v95,.arr 2 (ps.map prP)) /\ s.pe 96 = .p (.int .i64 ps.length) /\ s.pe 97 = .p (.int .i64 k)
set_option maxHeartbeats 16000000 in
theorem write0 (L : List Int) (id add drop : Int) (hs : List Hy) (b i j : Nat) (x : Hy) (g : Int) (gs : List Int) (ps : List (Int × Int)) (hf : x.t.Fits) (hl : x.ts.length < 1000000) (hn : x.t.nodes.length < 1000000) (hps : ps.length < 1000)
  (hp : ∀ p ∈ ps,p.1 < 9223372036854775808 /\ p.2 < 9223372036854775808) (s : St) (e1 : EnvW L id add drop hs b i s) (e2 : EnvX x gs j s) (e3 : EnvP g ps 0 s) :
  wp (exec V write_b0 s) (fun r=>r.1 = .normal /\ EnvW L id add drop hs b i r.2 /\ EnvX x gs j r.2):=by
 unfold write_b0
 refine wp_blk (M:=fun s=>EnvW L id add drop hs b i s /\ EnvX x gs j s) ?_
 rw [exec_loop]
 refine wp_count ps.length (fun k s=>EnvW L id add drop hs b i s /\ EnvX x gs j s /\ EnvP g ps k s) ⟨e1,e2,e3⟩ ?_
 clear e1 e2 e3
 rintro k s hk ⟨⟨p1,p2,p3,p9,p33,p34,p35,q26,q33⟩,⟨v12,v48,p12,q12,p48,q48,p49,p50⟩,⟨v95,p14,p95,q95,p96,p97⟩⟩
 simp -implicitDefEqProofs (disch:=omega) only [p1,p2,p3,p9,p33,p34,p35,q26,q33,p12,q12,p48,q48,p49,p50,p14,p95,q95,p96,p97,go_sem,↓reduceIte,rA,rS,rE,rL,reduceCtorEq]
 refine wp_if_d (fun hlt=>?_) (fun hge=>?_)
 ·have hkl : k < ps.length:=by omega
  have hc : ps[k]? = some (ps[k]):=lgg hkl
  have hpk:=hp _ (lgk hkl)
  generalize ps[k] = p at hc hpk
  have hw:=cwrite_eq x g p.1 p.2 hf hpk.1 hpk.2 hl hn
  have hr:=rwrite_eq x g p.1 p.2 hl hn
  obtain ⟨u,hu,ul,un⟩:=wrO_box x g p.1 p.2 hl hn
  rw [hu] at hw hr
  generalize wrE x g p.1 p.2 = e at hw hr
  have hsame:=sameH_refl u ul un
  have ht1 : List.take u.t.nodes.length (u.t.nodes.map Nd.pv) = u.t.nodes.map Nd.pv:=ltl (by simp)
  have ht2 : List.take u.ts.length (u.ts.map Tk.pv) = u.ts.map Tk.pv:=ltl (by simp)
  simp -implicitDefEqProofs (disch:=omega) only [p1,p2,p3,p9,p33,p34,p35,q26,q33,p12,q12,p48,q48,p49,p50,p14,p95,q95,p96,p97,hc,hkl,prP,hw,hr,hsame,ht1,ht2,go_sem,↓reduceIte,rA,rS,rE,rL,reduceCtorEq]
  unfold EnvW EnvX EnvP
  refine ⟨?_,⟨v12,v48,?_⟩,⟨v95,?_⟩⟩
  ·simp -implicitDefEqProofs (disch:=omega) only [p1,p2,p3,p9,p33,p34,p35,q26,q33,p12,q12,p48,q48,p49,p50,p14,p95,q95,p96,p97,go_sem,↓reduceIte,rA,rS,rE,rL,reduceCtorEq]
  ·simp -implicitDefEqProofs (disch:=omega) only [p1,p2,p3,p9,p33,p34,p35,q26,q33,p12,q12,p48,q48,p49,p50,p14,p95,q95,p96,p97,go_sem,↓reduceIte,rA,rS,rE,rL,reduceCtorEq]
  ·simp -implicitDefEqProofs (disch:=omega) only [p1,p2,p3,p9,p33,p34,p35,q26,q33,p12,q12,p48,q48,p49,p50,p14,p95,q95,p96,p97,go_sem,↓reduceIte,rA,rS,rE,rL,reduceCtorEq]
   exact congrArg (fun n : Int=>VVal.p (.int .i64 n)) (by omega)
 ·simp -implicitDefEqProofs (disch:=omega) only [p1,p2,p3,p9,p33,p34,p35,q26,q33,p12,q12,p48,q48,p49,p50,p14,p95,q95,p96,p97,go_sem,↓reduceIte,rA,rS,rE,rL,reduceCtorEq]
  unfold EnvW EnvX
  refine ⟨?_,⟨v12,v48,?_⟩⟩
  .simp -implicitDefEqProofs (disch:=omega) only [p1,p2,p3,p9,p33,p34,p35,q26,q33,p12,q12,p48,q48,p49,p50,p14,p95,q95,p96,p97,go_sem,↓reduceIte,rA,rS,rE,rL,reduceCtorEq]
  .simp -implicitDefEqProofs (disch:=omega) only [p1,p2,p3,p9,p33,p34,p35,q26,q33,p12,q12,p48,q48,p49,p50,p14,p95,q95,p96,p97,go_sem,↓reduceIte,rA,rS,rE,rL,reduceCtorEq]
set_option maxHeartbeats 16000000 in
theorem write1 (L : List Int) (hL : L.length < 4611686018427387904) (id add drop : Int) (ha : add < 9223372036854775808) (hd : drop < 9223372036854775808) (hs : List Hy) (b i : Nat) (x : Hy) (gs : List Int) (hgs : gs.length < 1000) (hf : x.t.Fits) (hl : x.ts.length < 1000000) (hn : x.t.nodes.length < 1000000)
  (s : St) (e1 : EnvW L id add drop hs b i s) (e2 : EnvX x gs 0 s) : wp (exec V write_b1 s) (fun r=>r.1 = .normal /\ ∃ b,EnvW L id add drop hs b i r.2):=by
 unfold write_b1
 refine wp_blk (M:=fun s=>∃ b,EnvW L id add drop hs b i s) ?_
 rw [exec_loop]
 refine wp_count gs.length (fun j s=>∃ b,EnvW L id add drop hs b i s /\ EnvX x gs j s) ⟨b,e1,e2⟩ ?_
 clear e1 e2 b
 rintro j s hj ⟨b,⟨p1,p2,p3,p9,p33,p34,p35,q26,q33⟩,⟨v12,v48,p12,q12,p48,q48,p49,p50⟩⟩
 simp -implicitDefEqProofs (disch:=omega) only [p1,p2,p3,p9,p33,p34,p35,q26,q33,p12,q12,p48,q48,p49,p50,go_sem,↓reduceIte,rA,rS,rE,rL,reduceCtorEq]
 refine wp_if_d (fun hlt=>?_) (fun hge=>?_)
 ·have hjl : j < gs.length:=by omega
  have hc : gs[j]? = some (gs[j]):=lgg hjl
  generalize gs[j] = g at hc
  have s1:=csound_eq x hf hl hn
  have s2:=rsound_eq x hl hn
  rw [<- sound_eq] at s1
  have s3:=cavail_eq x.t g hf hn
  have s4:=ravail_eq x.t g hn
  rw [avail_same] at s3
  have s5:=cacting_eq x.t g hf hn
  have s6:=racting_eq x.t g hn
  rw [act_same] at s5
  generalize soundR x = so at s1 s2
  generalize availR x.t g = av at s3 s4
  generalize actR x.t g = ac at s5 s6
  have c1:=dctl_eq L b hL
  generalize hc1 : ctlV L b = x1 at c1
  generalize nextA L b 9 = b1 at c1
  have c2:=dctl_eq L b1 hL
  generalize hc2 : ctlV L b1 = x2 at c2
  generalize nextA L b1 9 = b2 at c2
  have m1:=next_eq L b2 32 hL (by omega)
  have m1l:=nextV_lt L b2 (n:=32) (by omega)
  generalize nextV L b2 32 = x3 at m1 m1l
  generalize nextA L b2 32 = b3 at m1
  have m2:=next_eq L b3 32 hL (by omega)
  have m2l:=nextV_lt L b3 (n:=32) (by omega)
  generalize nextV L b3 32 = x4 at m2 m2l
  generalize nextA L b3 32 = b4 at m2
  have hx1 : x1 < 100:=hc1 ▸ ctlV_lt L b
  have hx2 : x2 < 100:=hc2 ▸ ctlV_lt L b1
  cases so
  all_goals
   simp -implicitDefEqProofs (disch:=omega) only [p1,p2,p3,p9,p33,p34,p35,q26,q33,p12,q12,p48,q48,p49,p50,hc,hjl,s1,s2,s3,s4,s5,s6,c1,c2,m1,m2,go_sem,↓reduceIte,rA,rS,rE,rL,reduceCtorEq]
   refine wp_mono (write0 L id add drop hs b4 i j x g gs [(add,drop),(x1,0),(0,x2),(x3,x4)] hf hl hn (by simp only [llc,lln]; omega) ?_ _ ?_ ?_ ?_) ?_
   ·intro p hp
    simp only [lmk,List.not_mem_nil,or_false] at hp
    rcases hp with rfl | rfl | rfl | rfl
    ·exact ⟨ha,hd⟩
    ·exact ⟨by show x1 < _; omega,by show (0 : Int) < _; omega⟩
    ·exact ⟨by show (0 : Int) < _; omega,by show x2 < _; omega⟩
    ·exact ⟨by show x3 < _; omega,by show x4 < _; omega⟩
   ·unfold EnvW
    simp -implicitDefEqProofs (disch:=omega) only [p1,p2,p3,p9,p33,p34,p35,q26,q33,p12,q12,p48,q48,p49,p50,go_sem,↓reduceIte,rA,rS,rE,rL,reduceCtorEq]
   ·refine ⟨v12,v48,?_⟩
    simp -implicitDefEqProofs (disch:=omega) only [p1,p2,p3,p9,p33,p34,p35,q26,q33,p12,q12,p48,q48,p49,p50,go_sem,↓reduceIte,rA,rS,rE,rL,reduceCtorEq]
   ·unfold EnvP
    simp -implicitDefEqProofs (disch:=omega) only [prP,p1,p2,p3,p9,p33,p34,p35,q26,q33,p12,q12,p48,q48,p49,p50,go_sem,↓reduceIte,rA,rS,rE,rL,reduceCtorEq]
    exact ⟨_,rfl,rfl,rfl⟩
   ·rintro ⟨e,s⟩ ⟨e0,⟨p1,p2,p3,p9,p33,p34,p35,q26,q33⟩,⟨v12,v48,p12,q12,p48,q48,p49,p50⟩⟩
    simp only at e0 p1 p2 p3 p9 p33 p34 p35 q26 q33 p12 q12 p48 q48 p49 p50
    subst e0
    simp -implicitDefEqProofs (disch:=omega) only [p1,p2,p3,p9,p33,p34,p35,q26,q33,p12,q12,p48,q48,p49,p50,go_sem,↓reduceIte,rA,rS,rE,rL,reduceCtorEq]
    refine ⟨hjl,b4,?_,v12,v48,?_⟩
    ·unfold EnvW
     simp -implicitDefEqProofs (disch:=omega) only [p1,p2,p3,p9,p33,p34,p35,q26,q33,p12,q12,p48,q48,p49,p50,go_sem,↓reduceIte,rA,rS,rE,rL,reduceCtorEq]
    ·simp -implicitDefEqProofs (disch:=omega) only [p1,p2,p3,p9,p33,p34,p35,q26,q33,p12,q12,p48,q48,p49,p50,go_sem,↓reduceIte,rA,rS,rE,rL,reduceCtorEq]
     exact congrArg (fun n : Int=>VVal.p (.int .i64 n)) (by omega)
 ·simp -implicitDefEqProofs (disch:=omega) only [p1,p2,p3,p9,p33,p34,p35,q26,q33,p12,q12,p48,q48,p49,p50,go_sem,↓reduceIte,rA,rS,rE,rL,reduceCtorEq]
  unfold EnvW
  exact ⟨b,by simp -implicitDefEqProofs (disch:=omega) only [p1,p2,p3,p9,p33,p34,p35,q26,q33,p12,q12,p48,q48,p49,p50,go_sem,↓reduceIte,rA,rS,rE,rL,reduceCtorEq]⟩
set_option maxHeartbeats 16000000 in
theorem write2 (L : List Int) (hL : L.length < 4611686018427387904) (id add drop : Int) (ha : add < 9223372036854775808) (hd : drop < 9223372036854775808) (b : Nat) (hs : List Hy) (hhs : hs.length < 1000) (hx : ∀ x ∈ hs,x.t.Fits /\ x.ts.length < 1000000 /\ x.t.nodes.length < 1000000)
  (s : St) (e1 : EnvW L id add drop hs b 0 s) : wp (exec V write_b2 s) (fun r=>r.1 = .normal):=by
 unfold write_b2
 refine wp_mono (wp_blk (M:=fun _=>True) ?_) fun r hr=>hr.1
 rw [exec_loop]
 refine wp_count hs.length (fun i s=>∃ b,EnvW L id add drop hs b i s) ⟨b,e1⟩ ?_
 clear e1 b
 rintro i s hi ⟨b,⟨p1,p2,p3,p9,p33,p34,p35,q26,q33⟩⟩
 simp -implicitDefEqProofs (disch:=omega) only [p1,p2,p3,p9,p33,p34,p35,q26,q33,go_sem,↓reduceIte,rA,rS,rE,rL,reduceCtorEq]
 refine wp_if_d (fun hlt=>?_) (fun hge=>?_)
 ·have hil : i < hs.length:=by omega
  have hc : hs[i]? = some (hs[i]):=lgg hil
  obtain ⟨hf,hl,hn⟩:=hx _ (lgk hil)
  generalize hs[i] = x at hc hf hl hn
  have g1:=group_eq L b x.t hL hn
  generalize (groupD L b x.t.nodes).1 = v1 at g1
  generalize (groupD L b x.t.nodes).2 = b1 at g1
  have g2:=group_eq L b1 x.t hL hn
  generalize (groupD L b1 x.t.nodes).1 = v2 at g2
  generalize (groupD L b1 x.t.nodes).2 = b2 at g2
  simp -implicitDefEqProofs (disch:=omega) only [p1,p2,p3,p9,p33,p34,p35,q26,q33,hc,hil,hyP,g1,g2,go_sem,↓reduceIte,rA,rS,rE,rL,reduceCtorEq]
  refine wp_mono (write1 L hL id add drop ha hd hs b2 i x [id,v1,v2] (by simp only [llc,lln]; omega) hf hl hn _ ?_ ?_) ?_
  ·unfold EnvW
   simp -implicitDefEqProofs (disch:=omega) only [p1,p2,p3,p9,p33,p34,p35,q26,q33,go_sem,↓reduceIte,rA,rS,rE,rL,reduceCtorEq]
  ·unfold EnvX boxW
   simp -implicitDefEqProofs (disch:=omega) only [p1,p2,p3,p9,p33,p34,p35,q26,q33,go_sem,↓reduceIte,rA,rS,rE,rL,reduceCtorEq]
   exact ⟨_,_,rfl,rfl,rfl,rfl,rfl⟩
  ·clear p1 p2 p3 p9 p33 p34 p35 q26 q33
   rintro ⟨e,s⟩ ⟨e0,b3,p1,p2,p3,p9,p33,p34,p35,q26,q33⟩
   simp only at e0 p1 p2 p3 p9 p33 p34 p35 q26 q33
   subst e0
   simp -implicitDefEqProofs (disch:=omega) only [p1,p2,p3,p9,p33,p34,p35,q26,q33,go_sem,↓reduceIte,rA,rS,rE,rL,reduceCtorEq]
   refine ⟨hil,b3,?_⟩
   unfold EnvW
   simp -implicitDefEqProofs (disch:=omega) only [p1,p2,p3,p9,p33,p34,p35,q26,q33,go_sem,↓reduceIte,rA,rS,rE,rL,reduceCtorEq]
   exact congrArg (fun n : Int=>VVal.p (.int .i64 n)) (by omega)
 .simp -implicitDefEqProofs (disch:=omega) only [p1,p2,p3,p9,p33,p34,p35,q26,q33,go_sem,↓reduceIte,rA,rS,rE,rL,reduceCtorEq]
set_option maxHeartbeats 16000000 in
theorem controlWrites_eq (L : List Int) (id add drop : Int) (ha : add < 9223372036854775808) (hd : drop < 9223372036854775808) : V 6 [.p (intsP L),.p (.int .i64 id),.p (.int .i64 add),.p (.int .i64 drop)] [] = some (.p (.bool true),[]):=by
 refine V_wp (vf:=vf6) rfl ?_
 have hlight:=light_eq (L.map (.int .i64))
 rw [llm] at hlight
 have hsane:=sane7_eq
 by_cases h6 : L.length <= 600
 rotate_left
 ·simp -implicitDefEqProofs (disch:=omega) only [vf6,write_eq,hlight,h6,hsane,go_sem,↓reduceIte,rA,rS,rE,rL,reduceCtorEq]
 have hroll:=roll_eq L
 obtain ⟨h,a0,hhy0,hs⟩:=hier_ok L 0 6 6 (by omega) (by omega) (by omega)
 have hhy : V 11 [.ptr (.arg 0 0) 0 0,.p (.int .i64 6),.p (.int .i64 6)] [.box [.p (intsP L),.p (.int .i64 0)]] = some (h.vv,[diceB L a0]):=hhy0
 clear hhy0
 have hL : L.length < 4611686018427387904:=by omega
 have m:=sound_mem hs
 have ht:=(treeOk_iff _).1 m.tree
 obtain ⟨l1,l2,l3,l4⟩:=sound_len hs
 obtain ⟨h2,a1,hodd,hf2,hn2,hl2⟩:=odd_ok L a0 h hL hs
 simp -implicitDefEqProofs (disch:=omega) only [vf6,write_eq,hlight,h6,hroll,hhy,hodd,go_sem,↓reduceIte,rA,rS,rE,rL,reduceCtorEq]
 refine wp_mono (write2 L hL id add drop ha hd a1 [h,h2] (by simp only [llc,lln]; omega) (fun x hx=>?_) _ ?_) ?_
 ·simp only [lmk,List.not_mem_nil,or_false] at hx
  rcases hx with rfl | rfl
  .exact ⟨ht.fits,by omega,by omega⟩
  .exact ⟨hf2,hl2,hn2⟩
 ·unfold EnvW
  simp -implicitDefEqProofs (disch:=omega) only [hyP,go_sem,↓reduceIte,rA,rS,rE,rL,reduceCtorEq]
  rfl
 ·rintro ⟨e,s⟩ e0
  simp only at e0
  subst e0
  simp -implicitDefEqProofs (disch:=omega) only [hsane,go_sem,↓reduceIte,rA,rS,rE,rL,reduceCtorEq]
end Go.V
