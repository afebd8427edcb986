/- Results that lie in cells (a struct of two fields), read off the block's fact. -/
import Derived.Test.YtkhphjapefijbaaSl
namespace Go.Proofs.Ytkhphjapefijbaa
open Go.RowKit Go.Sort
set_option maxHeartbeats 1000000
set_option maxRecDepth 100000
theorem res_cell {fn : Func} {t : Tmp} (h : fn.results = #[.cell t 25]) {tmps : Array Value} {k : Nat} (ht : tmps[t]? = some (.pointer (some ⟨k, 0, none⟩))) {w : World} {a b : Value} (y : w.heap[k]? = some (.cells #[a, b] 25 (0, 0))) :
    (results fn tmps).run Try.prog w = .ok (.agg #[a, b]) w := by
  have r0 := cellAt y 0
  have r1 := cellAt y 1
  simp at r0 r1
  simp [results, h, go_sem, ht, r0, r1]
theorem res_cell_tmp {fn : Func} {t u : Tmp} (h : fn.results = #[.cell t 25, .tmp u]) {tmps : Array Value} {k : Nat} (ht : tmps[t]? = some (.pointer (some ⟨k, 0, none⟩))) {x : Value} (hu : tmps[u]? = some x) {w : World} {a b : Value} (y : w.heap[k]? = some (.cells #[a, b] 25 (0, 0))) :
    (results fn tmps).run Try.prog w = .ok (.tuple #[.agg #[a, b], x]) w := by
  have r0 := cellAt y 0
  have r1 := cellAt y 1
  simp at r0 r1
  simp [results, h, go_sem, ht, hu, r0, r1]
theorem res_cell2 {fn : Func} {t u : Tmp} (h : fn.results = #[.cell t 25, .cell u 25]) {tmps : Array Value} {k k' : Nat} (ht : tmps[t]? = some (.pointer (some ⟨k, 0, none⟩))) (hu : tmps[u]? = some (.pointer (some ⟨k', 0, none⟩))) {w : World} {a b a' b' : Value} (y : w.heap[k]? = some (.cells #[a, b] 25 (0, 0))) (y' : w.heap[k']? = some (.cells #[a', b'] 25 (0, 0))) :
    (results fn tmps).run Try.prog w = .ok (.tuple #[.agg #[a, b], .agg #[a', b']]) w := by
  have r0 := cellAt y 0
  have r1 := cellAt y 1
  have r2 := cellAt y' 0
  have r3 := cellAt y' 1
  simp at r0 r1 r2 r3
  simp [results, h, go_sem, ht, hu, r0, r1, r2, r3]
end Go.Proofs.Ytkhphjapefijbaa
