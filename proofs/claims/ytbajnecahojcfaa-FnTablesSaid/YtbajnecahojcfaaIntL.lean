/- Slices of numbers, as the laws use them. -/
import Derived.Test.YtbajnecahojcfaaIntS
import Derived.Test.YtbajnecahojcfaaSeg
namespace Go.Proofs.Ytbajnecahojcfaa
open Go.RowKit Go.Sort
set_option maxHeartbeats 1000000
set_option maxRecDepth 100000
theorem belowA' {w w1 w2 : World} {o : Obj} (h : Below w.heap.size w w1) (h2 : Below (w1.alloc o).heap.size (w1.alloc o) w2) : Below w.heap.size w w2 := (h.alloc h.size o).trans (h2.mono (Nat.le_trans h.size (by simp)))
theorem eqInt_law (a b : Value) (l : List Int) (w : World) (ha : IRow w a l) (hb : IRow w b l) : Calls Try.prog 30 #[a, b] w (RetB (.bool true) w) := by
  have := eqIntS_l a b l l w ha hb
  rwa [show (l == l) = true by simp] at this
theorem toInt_law (v : Value) (l : List Int) (w : World) (hv : IRow w v l) (hl : l.length ≤ 1048576) :
    Calls Try.prog 28 #[v] w (fun e w' => ∃ A c, e = .returned (.slice A l.length c) ∧ OwnI w' w.heap.size (.slice A l.length c) l ∧ Below w.heap.size w w') := by
  refine (toIntS_l v l w hv hl).mono fun e w' ⟨v', h1, h2, h3⟩ => ?_
  obtain ⟨A, c, rfl, -⟩ := IRow.open h2.row
  exact ⟨A, c, h1, h2, h3⟩
theorem markInt_law (v : Value) (l : List Int) (k : Int) (lo hi : Nat) (w : World) (hv : SegI w lo hi v l) (hk : 0 ≤ k ∧ k ≤ 1099511627776) (hl : l.length ≤ 1099511627776) :
    Calls Try.prog 37 #[v, .int .i64 k] w (fun e w' => e = .returned (.int .i64 (k + l.length)) ∧ SegI w' lo hi v (marks k.toNat l.length) ∧ Within lo hi w w') := by
  obtain ⟨n, rfl⟩ := Int.eq_ofNat_of_zero_le hk.1
  refine (markIntS_l v l n lo w hv.1 (by omega) hl).mono fun e w' ⟨h1, h2, h3⟩ => ⟨h1.trans (ret_int (by omega)), ⟨h2, hv.2⟩, within_of_grown hv h3⟩
theorem heldInt_law (v : Value) (k : Int) (n : Nat) (w : World) (hv : IRow w v (marks k.toNat n)) (hk : 0 ≤ k ∧ k ≤ 1099511627776) (hl : n ≤ 1099511627776) :
    Calls Try.prog 38 #[v, .int .i64 k] w (RetB (.int .i64 (k + n)) w) := by
  obtain ⟨m, rfl⟩ := Int.eq_ofNat_of_zero_le hk.1
  refine (heldIntS_l v m n w hv (by omega) hl).mono fun e w' ⟨h1, h2⟩ => ⟨h1.trans (ret_int (by omega)), h2 ▸ Below.refl _ _⟩
end Go.Proofs.Ytbajnecahojcfaa
