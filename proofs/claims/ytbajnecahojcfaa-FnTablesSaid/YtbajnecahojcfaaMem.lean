/- Small laws on cells and blocks. -/
import Derived.Test.YtbajnecahojcfaaFlow
import Derived.ChangeSame
import Derived.OpenShut
namespace Go.Proofs.Ytbajnecahojcfaa
open Go.RowKit Go.Sort
theorem cellN {w : World} {a : Addr} {v : Value} (h : w.cell? a = some v) (o : Obj) : (w.alloc o).cell? a = some v := cellB ((Below.refl _ _).alloc (Nat.le_refl _) o) h
theorem size_alloc (w : World) (o : Obj) : (w.alloc o).heap.size = w.heap.size + 1 := by simp
theorem heap_new1 (w : World) (o p : Obj) : ((w.alloc o).alloc p).heap[w.heap.size + 1]? = some p := by
  have := heap_alloc_new (w.alloc o) p
  rwa [size_alloc] at this
theorem heap_new2 (w : World) (o p q : Obj) : (((w.alloc o).alloc p).alloc q).heap[w.heap.size + 2]? = some q := by
  have := heap_alloc_new ((w.alloc o).alloc p) q
  rwa [size_alloc, size_alloc] at this
theorem heapN {w : World} {g : Nat} {o : Obj} (h : w.heap[g]? = some o) (p : Obj) : (w.alloc p).heap[g]? = some o := blockB ((Below.refl _ _).alloc (Nat.le_refl _) p) h
theorem belowA {w w1 w2 : World} {o : Obj} (h : Below w.heap.size w w1) (h2 : Below (w1.alloc o).heap.size (w1.alloc o) w2) : Below w.heap.size w w2 := (h.alloc h.size o).trans (h2.mono (Nat.le_trans h.size (by simp)))
end Go.Proofs.Ytbajnecahojcfaa
