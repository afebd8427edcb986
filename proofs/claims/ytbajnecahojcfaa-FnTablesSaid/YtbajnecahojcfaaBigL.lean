/- Whether a code is too long. -/
import Derived.Test.YtbajnecahojcfaaDraw
namespace Go.Proofs.Ytbajnecahojcfaa
set_option maxRecDepth 100000
theorem big_l (v : Value) (bs : List UInt8) (w : World) (hv : SlB w.heap.size w v bs) : Calls Try.prog 39 #[v] w (Ret (.bool (decide ((1048576 : Int) < bs.length))) w) := by
  obtain ⟨A, c, rfl, hA⟩ := hv
  clear hA
  go_enter Try.func39, Try.ntmps39
  go_wp2_with fail
  go_ret
  exact ⟨rfl, rfl⟩
end Go.Proofs.Ytbajnecahojcfaa
