/- The draws of big integers: bounds. (Written by mkbigarith.py.) -/
import Derived.Test.YtkhphjapefijbaaDrawR
import Derived.Test.YtkhphjapefijbaaBigN
namespace Go.Proofs.Ytkhphjapefijbaa
open Go.RowKit Go.Sort
set_option maxHeartbeats 4000000
set_option maxRecDepth 100000
theorem DrawPowBigInt_s (v : Value) (bs : List UInt8) (w : World) (hl : bs.length ≤ 1048576) (hv : SlB w.heap.size w v bs) : Calls Try.prog 65 #[v] w (fun e w' => ∃ n k : Int, e = .returned (.tuple #[.int .i64 n, .int .i64 k]) ∧ (-1 ≤ n ∧ n ≤ 16) ∧ (-1 ≤ k ∧ k ≤ 101) ∧ Below w.heap.size w w') := by
  go_enter Try.func65, Try.ntmps65
  go_wp2_with (first
    | (go_at_call 77; ((with_reducible refine (l1New_s _ bs _ hl hv).mono ?_); rintro e w1 ⟨g, rfl, hgw, hc, hB⟩))
    | (go_at_call 79; ((with_reducible refine ((l1PickInt_s g (.slice (some ⟨_, 0, none⟩) 8 8) 0 [(0), (1), (2), (3), (7), (10), (16), (-1)] (by simp) (by simp) _ (hc.below ((Below.refl _ _).alloc (Nat.le_refl _) _)) (World.ownsRow_lit _ #[.int .i64 (0), .int .i64 (1), .int .i64 (2), .int .i64 (3), .int .i64 (7), .int .i64 (10), .int .i64 (16), .int .i64 (-1)] 8 (Nat.zero_le _) (by decide) rfl))).mono ?_); rintro e w1 ⟨y, rfl, hy, hc1, hg1⟩; (replace hB := (hB.alloc hB.size _).trans (below_of_grown hg1 hgw (by have := hB.size; simp; omega)); replace hc := hc1; clear hc1 hg1; simp at hy)))
    | (go_at_call 79; ((with_reducible refine ((l1PickInt_s g (.slice (some ⟨_, 0, none⟩) 8 8) 0 [(0), (1), (2), (5), (9), (40), (101), (-1)] (by simp) (by simp) _ (hc.below ((Below.refl _ _).alloc (Nat.le_refl _) _)) (World.ownsRow_lit _ #[.int .i64 (0), .int .i64 (1), .int .i64 (2), .int .i64 (5), .int .i64 (9), .int .i64 (40), .int .i64 (101), .int .i64 (-1)] 8 (Nat.zero_le _) (by decide) rfl))).mono ?_); rintro e w1 ⟨z, rfl, hz, hc1, hg1⟩; (replace hB := (hB.alloc hB.size _).trans (below_of_grown hg1 hgw (by have := hB.size; simp; omega)); replace hc := hc1; clear hc1 hg1; simp at hz))))
  go_ret2
  exact ⟨_, _, rfl, by omega, by omega, hB⟩
end Go.Proofs.Ytkhphjapefijbaa
