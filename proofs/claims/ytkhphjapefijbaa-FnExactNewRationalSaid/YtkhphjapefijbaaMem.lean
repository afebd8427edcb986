/- Small laws on cells and blocks. -/
import Derived.Test.YtkhphjapefijbaaRatS
namespace Go.Proofs.Ytkhphjapefijbaa
open Go.RowKit Go.Sort
theorem cellN {w : World} {a : Addr} {v : Value} (h : w.cell? a = some v) (o : Obj) : (w.alloc o).cell? a = some v := cellB ((Below.refl _ _).alloc (Nat.le_refl _) o) h
theorem belowA {w w1 w2 : World} {o : Obj} (h : Below w.heap.size w w1) (h2 : Below (w1.alloc o).heap.size (w1.alloc o) w2) : Below w.heap.size w w2 := (h.alloc h.size o).trans (h2.mono (Nat.le_trans h.size (by simp)))
end Go.Proofs.Ytkhphjapefijbaa
