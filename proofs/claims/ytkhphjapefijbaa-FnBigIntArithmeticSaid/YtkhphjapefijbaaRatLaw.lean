/- The normal form of a quotient: plain Lean. -/
import Derived.Test.YtkhphjapefijbaaRatOps
import Derived.Test.YtkhphjapefijbaaDraw
namespace Go.Proofs.Ytkhphjapefijbaa
open Go.RowKit Go.Sort
set_option maxHeartbeats 1000000
set_option maxRecDepth 100000

theorem rG_pos {n d : Int} (h0 : d ≠ 0) : 0 < rG n d := Nat.gcd_pos_of_pos_right _ (by omega)
theorem rN_mul (n d : Int) : rN n d * (rG n d : Int) = if d < 0 then -n else n := by
  have h : (rG n d : Int) ∣ n := Int.ofNat_dvd_left.2 (Nat.gcd_dvd_left _ _)
  unfold rN
  split
  · exact Int.tdiv_mul_cancel (Int.dvd_neg.2 h)
  · exact Int.tdiv_mul_cancel h
theorem rD_mul (n d : Int) : rD n d * (rG n d : Int) = if d < 0 then -d else d := by
  have h : (rG n d : Int) ∣ d := Int.ofNat_dvd_left.2 (Nat.gcd_dvd_right _ _)
  unfold rD
  split
  · exact Int.tdiv_mul_cancel (Int.dvd_neg.2 h)
  · exact Int.tdiv_mul_cancel h
theorem rN_abs (n d : Int) : (rN n d).natAbs = n.natAbs / rG n d := by
  unfold rN
  rw [Int.natAbs_tdiv]
  split <;> simp <;> rfl
theorem rD_abs (n d : Int) : (rD n d).natAbs = d.natAbs / rG n d := by
  unfold rD
  rw [Int.natAbs_tdiv]
  split <;> simp <;> rfl
theorem rD_pos {n d : Int} (h0 : d ≠ 0) : 1 ≤ rD n d := by
  have hg := rG_pos (n := n) h0
  have h := rD_mul n d
  rcases Int.lt_or_le 0 (rD n d) with h1 | h1
  · omega
  · exfalso
    have : rD n d * (rG n d : Int) ≤ 0 := Int.mul_nonpos_of_nonpos_of_nonneg h1 (by omega)
    rw [h] at this
    split at this <;> omega
theorem rNrD_gcd {n d : Int} (h0 : d ≠ 0) : Nat.gcd (rN n d).natAbs (rD n d).natAbs = 1 := by
  rw [rN_abs, rD_abs]
  exact Nat.gcd_div_gcd_div_gcd_of_pos_right (by omega)
theorem rN_bd (n d : Int) : (rN n d).natAbs ≤ n.natAbs := by rw [rN_abs]; exact Nat.div_le_self _ _
theorem rD_bd (n d : Int) : (rD n d).natAbs ≤ d.natAbs := by rw [rD_abs]; exact Nat.div_le_self _ _
theorem cross {n d : Int} (h0 : d ≠ 0) : rN n d * d = n * rD n d := by
  have hg := rG_pos (n := n) h0
  have h1 := rN_mul n d
  have h2 := rD_mul n d
  have : rN n d * d * (rG n d : Int) = n * rD n d * (rG n d : Int) := by
    rw [Int.mul_assoc n, h2, Int.mul_assoc, Int.mul_comm d, ← Int.mul_assoc, h1]
    split
    · rw [Int.neg_mul, Int.mul_neg]
    · rfl
  exact Int.eq_of_mul_eq_mul_right (by omega) this
theorem rvalid_of {a b : Int} (ha : -1000000000 ≤ a ∧ a ≤ 1000000000) (hb : 1 ≤ b ∧ b ≤ 1000000000) (hg : Nat.gcd a.natAbs b.natAbs = 1) : rvalid a b = true := by
  unfold rvalid
  rw [inR_yes ha, inR_yes hb]
  simp [hg]
/-- A quotient whose normal form is in range. -/
theorem newR_yes {n d : Int} (h0 : d ≠ 0) (h1 : -4000000000000000000 ≤ n ∧ n ≤ 4000000000000000000) (h2 : -4000000000000000000 ≤ d ∧ d ≤ 4000000000000000000) (h3 : (rN n d).natAbs ≤ 1000000000) (h4 : (rD n d).natAbs ≤ 1000000000) :
    newR n d = .tuple #[.agg #[.int .i64 (rN n d), .int .i64 (rD n d)], .bool true] := by
  have hp := rD_pos (n := n) h0
  rw [newR_in h0 h1 h2, rvalid_of (by omega) (by omega) (rNrD_gcd h0)]
  rfl
/-- The normal form is unique. -/
theorem nf_unique {n d a b : Int} (h0 : d ≠ 0) (hb : 1 ≤ b) (hg : Nat.gcd a.natAbs b.natAbs = 1) (hx : a * d = n * b) : rN n d = a ∧ rD n d = b := by
  have hp := rD_pos (n := n) h0
  have hc := cross (n := n) h0
  have hgc := rNrD_gcd (n := n) h0
  -- rN * b = a * rD
  have key : rN n d * b = a * rD n d := by
    have : rN n d * b * d = a * rD n d * d := by
      rw [Int.mul_right_comm, hc, Int.mul_right_comm a, hx, Int.mul_right_comm]
    exact Int.eq_of_mul_eq_mul_right h0 this
  have k1 : (rN n d).natAbs * b.natAbs = a.natAbs * (rD n d).natAbs := by rw [← Int.natAbs_mul, ← Int.natAbs_mul, key]
  have d1 : b.natAbs ∣ (rD n d).natAbs := (Nat.Coprime.symm hg).dvd_of_dvd_mul_left ⟨_, by rw [← k1, Nat.mul_comm]⟩
  have d2 : (rD n d).natAbs ∣ b.natAbs := (Nat.Coprime.symm hgc).dvd_of_dvd_mul_left ⟨_, by rw [k1, Nat.mul_comm]⟩
  have e1 : rD n d = b := by have := Nat.dvd_antisymm d1 d2; omega
  refine ⟨?_, e1⟩
  rw [e1] at key
  exact Int.eq_of_mul_eq_mul_right (by omega) key
theorem newR_unique {n d a b : Int} (h0 : d ≠ 0) (h1 : -4000000000000000000 ≤ n ∧ n ≤ 4000000000000000000) (h2 : -4000000000000000000 ≤ d ∧ d ≤ 4000000000000000000) (hv : rvalid a b = true) (hx : a * d = n * b) :
    newR n d = .tuple #[.agg #[.int .i64 a, .int .i64 b], .bool true] := by
  have R := rvalid_range hv
  have hg : Nat.gcd a.natAbs b.natAbs = 1 := by
    unfold rvalid at hv
    rw [Bool.and_eq_true] at hv
    simpa using hv.2
  obtain ⟨e1, e2⟩ := nf_unique h0 (by omega) hg hx
  rw [newR_yes h0 h1 h2 (by rw [e1]; omega) (by rw [e2]; omega), e1, e2]
/-- What the law on the normal form says, at small arguments. -/
theorem newR_small {n d : Int} (hn : -1000000 ≤ n ∧ n ≤ 1000000) (hd : -1000000 ≤ d ∧ d ≤ 1000000) (h0 : d ≠ 0) :
    ∃ a b : Int, newR n d = .tuple #[.agg #[.int .i64 a, .int .i64 b], .bool true] ∧ newR (3 * n) (3 * d) = .tuple #[.agg #[.int .i64 a, .int .i64 b], .bool true] ∧ a * d = n * b ∧ (-1000000 ≤ a ∧ a ≤ 1000000) ∧ 1 ≤ b ∧ b ≤ 1000000 := by
  have hp := rD_pos (n := n) h0
  have b1 := rN_bd n d
  have b2 := rD_bd n d
  have hc := cross (n := n) h0
  refine ⟨rN n d, rD n d, newR_yes h0 (by omega) (by omega) (by omega) (by omega), ?_, hc, by omega, by omega, by omega⟩
  refine newR_unique (by omega) (by omega) (by omega) (rvalid_of (by omega) (by omega) (rNrD_gcd h0)) ?_
  rw [Int.mul_left_comm, hc, Int.mul_assoc]

theorem big_l (v : Value) (bs : List UInt8) (w : World) (hv : SlB w.heap.size w v bs) : Calls Try.prog 39 #[v] w (Ret (.bool (decide ((1048576 : Int) < bs.length))) w) := by
  obtain ⟨A, c, rfl, hA⟩ := hv
  clear hA
  go_enter Try.func39, Try.ntmps39
  go_wp2_with fail
  go_ret
  exact ⟨rfl, rfl⟩
end Go.Proofs.Ytkhphjapefijbaa
