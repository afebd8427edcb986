/- What stays through the draws. -/
import Derived.Test.YtbajnecahojcfaaDraw
import Derived.Deep.LoopGhost
import Derived.Deep.RegionLaw
namespace Go.Proofs.Ytbajnecahojcfaa
open Go.RowKit Go.Sort
set_option maxHeartbeats 4000000
set_option maxRecDepth 100000
theorem blockL' {B k : Nat} {w w' : World} {o : Obj} (h : Below B w w') (hk : k < B) (y : w.heap[k]? = some o) : w'.heap[k]? = some o := (h.block k hk).trans y
theorem blockG {w w' : World} {g k : Nat} {o : Obj} (hg : w.grownBy w' (some g)) (hne : k ≠ g) (h : w.heap[k]? = some o) : w'.heap[k]? = some o := (hg.block k (lt_of_heap h) (by simpa using hne)).trans h
theorem Cur.set {w : World} {g k j : Nat} (h : Cur w g) (hk : g < k) (u : Value) : Cur (w.setCell ⟨k, j, none⟩ u) g := by
  obtain ⟨v, bs, i, hh, h1, h2, h3, h4, h5⟩ := h
  exact ⟨v, bs, i, hh, setO (by omega) h1 u, h2, h3, h4, h5.keep ((Below.refl g w).setCell (p := ⟨k, j, none⟩) (by show g ≤ k; omega) u)⟩
theorem grown_new {w w1 : World} {k j : Nat} {r : Option Nat} (h : w.grownBy w1 r) (hk : w.heap.size ≤ k) (u : Value) : w.grownBy (w1.setCell ⟨k, j, none⟩ u) r :=
  ⟨h.os, h.tape, h.output, by simpa [World.setCell] using h.size, fun i hi hr => (Below.heap_setCell w1 ⟨k, j, none⟩ u i (by show i ≠ k; omega)).trans (h.block i hi hr)⟩
theorem own_set_low {w : World} {B k j : Nat} {e : TypeId} {v : Value} {n : Nat} {xs : List Value} (h : w.ownsRow B e 1 v n xs) (hk : k < B) (u : Value) : (w.setCell ⟨k, j, none⟩ u).ownsRow B e 1 v n xs := ownsRow_setCell_below h (a := ⟨k, j, none⟩) hk u
theorem own_grown {w w' : World} {B g : Nat} {v : Value} {l : List Int} (h : OwnI w B v l) (hg : w.grownBy w' (some g)) (hB : g < B) : OwnI w' B v l := by
  refine ⟨h.1, ?_⟩
  rcases h.2 with h2 | ⟨g', cap, cur, hv, hgg, hh, r⟩
  · exact .inl h2
  · exact .inr ⟨g', cap, cur, hv, hgg, blockG hg (by omega) hh, r⟩
theorem Cur.low {w w' : World} {g B : Nat} (h : Cur w g) (hb : Below B w w') (hg : g < B) : Cur w' g := by
  obtain ⟨v, bs, i, hh, h1, h2, h3, h4, h5⟩ := h
  exact ⟨v, bs, i, hh, blockL' hb hg h1, h2, h3, h4, h5.keep (hb.mono (by omega))⟩
theorem grown_low {w w2 w3 : World} {B : Nat} {r : Option Nat} (hG : w.grownBy w2 r) (hb : Below B w2 w3) (hB : w.heap.size ≤ B) : w.grownBy w3 r :=
  ⟨hb.os.trans hG.os, hb.tape.trans hG.tape, hb.output.trans hG.output, Nat.le_trans hG.size hb.size, fun k hk hr => (hb.block k (by omega)).trans (hG.block k hk hr)⟩
theorem ownR_grown {w w' : World} {B g n : Nat} {e : TypeId} {v : Value} {xs : List Value} (h : w.ownsRow B e 1 v n xs) (hg : w.grownBy w' (some g)) (hB : g < B) : w'.ownsRow B e 1 v n xs := by
  refine ⟨h.1, ?_⟩
  rcases h.2 with h2 | ⟨g', cap, cur, hv, hgg, hh, r⟩
  · exact .inl h2
  · exact .inr ⟨g', cap, cur, hv, hgg, blockG hg (by omega) hh, r⟩
end Go.Proofs.Ytbajnecahojcfaa
