/- Small leaves: within, l1In, compareInts. -/
import Derived.Test.YtbajnecahojcfaaBase
namespace Go.Proofs.Ytbajnecahojcfaa
open Go.RowKit
set_option maxHeartbeats 400000

def inR (n a b : Int) : Bool := decide (a ≤ n) && decide (n ≤ b)
theorem inR_yes {n a b : Int} (h : a ≤ n ∧ n ≤ b) : inR n a b = true := by simp [inR, h]
theorem inR_no {n a b : Int} (h : ¬ (a ≤ n ∧ n ≤ b)) : inR n a b = false := by
  unfold inR; rw [Bool.and_eq_false_iff]; simp only [decide_eq_false_iff_not]; omega
theorem inR_iff {n a b : Int} : inR n a b = true ↔ a ≤ n ∧ n ≤ b := by simp [inR]

theorem within_any (n a b : Int) (w : World) : Calls Try.prog 96 #[.int .i64 n, .int .i64 a, .int .i64 b] w (Ret (.bool (inR n a b)) w) := by
  go_enter Try.func96, Try.ntmps96
  go_wp2
  all_goals (go_ret; refine ⟨?_, rfl⟩)
  all_goals simp [inR, *]
  omega
theorem within_yes (n a b : Int) (h : a ≤ n ∧ n ≤ b) (w : World) : Calls Try.prog 96 #[.int .i64 n, .int .i64 a, .int .i64 b] w (Ret (.bool true) w) := inR_yes h ▸ within_any n a b w
theorem within_no (n a b : Int) (h : ¬ (a ≤ n ∧ n ≤ b)) (w : World) : Calls Try.prog 96 #[.int .i64 n, .int .i64 a, .int .i64 b] w (Ret (.bool false) w) := inR_no h ▸ within_any n a b w
theorem l1In_any (n a b : Int) (w : World) : Calls Try.prog 95 #[.int .i64 n, .int .i64 a, .int .i64 b] w (Ret (.bool (inR n a b)) w) := by
  go_enter Try.func95, Try.ntmps95
  go_wp2
  all_goals (go_ret; refine ⟨?_, rfl⟩)
  all_goals simp [inR, *]
  omega
theorem l1In_yes (n a b : Int) (h : a ≤ n ∧ n ≤ b) (w : World) : Calls Try.prog 95 #[.int .i64 n, .int .i64 a, .int .i64 b] w (Ret (.bool true) w) := inR_yes h ▸ l1In_any n a b w
theorem l1In_no (n a b : Int) (h : ¬ (a ≤ n ∧ n ≤ b)) (w : World) : Calls Try.prog 95 #[.int .i64 n, .int .i64 a, .int .i64 b] w (Ret (.bool false) w) := inR_no h ▸ l1In_any n a b w
def cmpI (a b : Int) : Int := if a < b then -1 else if b < a then 1 else 0
theorem compareInts_any (a b : Int) (w : World) : Calls Try.prog 97 #[.int .i64 a, .int .i64 b] w (Ret (.int .i64 (cmpI a b)) w) := by
  go_enter Try.func97, Try.ntmps97
  go_wp2
  all_goals (go_ret; refine ⟨ret_int ?_, rfl⟩)
  all_goals (unfold cmpI; repeat (first | rw [if_pos (by omega)] | rw [if_neg (by omega)]))
end Go.Proofs.Ytbajnecahojcfaa
