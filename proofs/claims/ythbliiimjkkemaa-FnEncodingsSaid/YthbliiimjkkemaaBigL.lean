/- Whether a code is too long. -/
import Derived.Test.YthbliiimjkkemaaDraw
namespace Go.Proofs.Ythbliiimjkkemaa
set_option maxRecDepth 100000
theorem big_l (v : Value) (bs : List UInt8) (w : World) (hv : SlB w.heap.size w v bs) : Calls Try.prog 38 #[v] w (Ret (.bool (decide ((1048576 : Int) < bs.length))) w) := by
  obtain ⟨A, c, rfl, hA⟩ := hv
  clear hA
  go_enter Try.func38, Try.ntmps38
  go_wp2_with fail
  go_ret
  exact ⟨rfl, rfl⟩
end Go.Proofs.Ythbliiimjkkemaa
