/- Part 10 of the proof. -/
import Derived.Test.YtgcipcfojdnlkaaDoorA8
import Derived.Shelf.Sort.Plain
set_option linter.unusedSectionVars false
set_option linter.unusedSimpArgs false
set_option linter.unusedVariables false
open List renaming map_cons → lpc
namespace Go.V
open Go.RowKit Go.Sort Go.Proofs Go.Shelf
section
variable [GK]
theorem sort_arg {G : Gh} {w : World} {n sz : Nat} {xs : List PV} {c : Value} (hinv : HeapInv G (enterH [.arr sz xs]) w) (hv : VRel G (enterH [.arr sz xs]) w (.own (.arg 0 0) 0 0 n) c) (hn : n = xs.length) :
  ∃ a cap,c = .slice a n cap /\ (n = 0 \/ (a = some ⟨G.blk (.arg 0 0),0,none⟩ /\ G.kind (G.blk (.arg 0 0)) = .mine (.arg 0 0) /\ ∃ arr t,w.heap[G.blk (.arg 0 0)]? = some (.cells arr t (0,0)) /\ (xs.length <= G.cap (.arg 0 0) /\ arr.size = G.cap (.arg 0 0) * sz) /\
   ∀ (i : Nat) (x : PV) (j : Nat) (c : PV),xs[i]? = some x -> x.cells[j]? = some c -> ∃ v,arr[i * sz + j]? = some v /\ PRel (fun b=>G.kind b = .frozen) w c v)):=by
 cases hv with
 | @own _ _ _ _ a n' cap v o hn' hcap hh hle hoo =>
  have h0 : enterH [.arr sz xs] (.arg 0 0) = some (0,.arr sz xs):=rfl
  rw [h0] at hh
  simp at hh
  obtain ⟨rfl,rfl⟩:=hh
  subst hn'
  obtain ⟨sz2,xs2,e,hlen,hreal⟩:=hoo rfl
  simp at e
  obtain ⟨rfl,rfl⟩:=e
  refine ⟨a,cap,rfl,?_⟩
  by_cases hz : n' = 0
  ·exact .inl hz
  ·right
   rcases hreal with ⟨hc0,_⟩ | ⟨k1,k2,k3⟩
   ·omega
   ·obtain ⟨hcs,_,hall⟩:=hinv _ _ _ h0
    obtain ⟨a1,arr,t,a2,a3,a4⟩:=hall k1
    refine ⟨by rw [k3 (by omega)]; simp,k1,arr,t,a2,⟨a1,a3⟩,fun i x j c hx hj=>?_⟩
    obtain ⟨v,e1,_,e3⟩:=a4 i x j c hx hj
    exact ⟨v,e1,e3⟩
theorem mapO_map {α β : Type} {f : α -> Option β} {g : β -> α} (hfg : ∀ x y,f x = some y -> x = g y) : ∀ {l : List α} {ys : List β},mapO f l = some ys -> l = ys.map g
 | [],ys,h=>by simp [mapO] at h; subst h; rfl
 | x :: xs,ys,h=>by
  simp only [mapO] at h
  obtain ⟨y,hy,h⟩:=ob_eq h
  obtain ⟨zs,hz,h⟩:=ob_eq h
  simp at h
  subst h
  rw [lpc,<- hfg x y hy,<- mapO_map hfg hz]
end
end Go.V
