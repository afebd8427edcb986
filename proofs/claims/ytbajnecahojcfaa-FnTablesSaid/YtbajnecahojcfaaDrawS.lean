/- Draws of texts out of a list. -/
import Derived.Test.YtbajnecahojcfaaDraw
namespace Go.Proofs.Ytbajnecahojcfaa
open Go.RowKit Go.Sort
set_option maxHeartbeats 1000000
set_option maxRecDepth 100000
theorem l1Pick_s (g q cap : Nat) (ss : List (List UInt8)) (h0 : 0 < ss.length) (h1 : ss.length ≤ 1000) (hcap : ss.length ≤ cap ∧ cap ≤ 1000) (w : World) (hc : Cur w g) (hne : q ≠ g) (hlt : q < w.heap.size) (hcell : ∀ k (hk : k < ss.length), w.cell? ⟨q, k, none⟩ = some (.string ⟨ss[k].toArray⟩)) :
    Calls Try.prog 113 #[.pointer (some ⟨g, 0, none⟩), .slice (some ⟨q, 0, none⟩) ss.length cap] w (fun e w' => ∃ x : List UInt8, e = .returned (.string ⟨x.toArray⟩) ∧ x ∈ ss ∧ Cur w' g ∧ w.grownBy w' (some g)) := by
  have Hhcell := Lib.hid hcell; clear hcell
  go_enter Try.func113, Try.ntmps113
  go_wp2_with (go_at_call 102; ((with_reducible refine (l1Below_s g ss.length (by omega) _ hc).mono ?_); rintro e w1 ⟨x, rfl, hx, hc1, hg1⟩; (obtain ⟨k, rfl⟩ := Int.eq_ofNat_of_zero_le hx.1; have hk : k < ss.length := (by omega); have c1 : w1.cell? ⟨q, k, none⟩ = some (.string ⟨ss[k].toArray⟩) := (World.cell?_of_block (hg1.block q hlt (by simpa using hne))).trans (Hhcell.out k hk))))
  go_ret
  exact ⟨_, rfl, List.getElem_mem _, hc1, hg1⟩
end Go.Proofs.Ytbajnecahojcfaa
