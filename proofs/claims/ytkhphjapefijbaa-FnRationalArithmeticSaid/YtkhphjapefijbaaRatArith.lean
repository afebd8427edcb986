/- The laws of rational arithmetic: plain Lean. -/
import Derived.Test.YtkhphjapefijbaaRatLaw
namespace Go.Proofs.Ytkhphjapefijbaa
open Go.RowKit Go.Sort
set_option maxHeartbeats 1000000
set_option maxRecDepth 100000
def rtup (p q : Int) (t : Bool) : Value := .tuple #[.agg #[.int .i64 p, .int .i64 q], .bool t]
theorem rtup_inj {p q p' q' : Int} {t t' : Bool} (h : rtup p q t = rtup p' q' t') : p = p' ∧ q = q' ∧ t = t' := by
  unfold rtup at h; simp at h; exact ⟨h.1.1, h.1.2, h.2⟩
theorem newR_true {n d p q : Int} (h : newR n d = rtup p q true) : d ≠ 0 ∧ rvalid p q = true ∧ p * d = n * q := by
  unfold newR at h
  split at h
  · rename_i hok
    obtain ⟨e1, e2, _⟩ := rtup_inj (p := rN n d) (q := rD n d) (t := true) h
    unfold rOk at hok
    simp only [Bool.and_eq_true, decide_eq_true_eq] at hok
    have hc := cross (n := n) hok.1.1
    rw [← e1, ← e2]
    exact ⟨hok.1.1, hok.2, hc⟩
  · have := (rtup_inj (p := 0) (q := 0) (t := false) h).2.2; cases this
theorem addR_true {a b c d p q : Int} (h : addR a b c d = rtup p q true) : rvalid a b = true ∧ rvalid c d = true ∧ rvalid p q = true ∧ p * (b * d) = (a * d + c * b) * q := by
  unfold addR at h
  split at h
  · rename_i hv
    rw [Bool.and_eq_true] at hv
    obtain ⟨_, h2, h3⟩ := newR_true h
    exact ⟨hv.1, hv.2, h2, h3⟩
  · have := (rtup_inj (p := 0) (q := 0) (t := false) h).2.2; cases this
theorem mulR_true {a b c d p q : Int} (h : mulR a b c d = rtup p q true) : rvalid a b = true ∧ rvalid c d = true ∧ rvalid p q = true ∧ p * (b * d) = (a * c) * q := by
  unfold mulR at h
  split at h
  · rename_i hv
    rw [Bool.and_eq_true] at hv
    obtain ⟨_, h2, h3⟩ := newR_true h
    exact ⟨hv.1, hv.2, h2, h3⟩
  · have := (rtup_inj (p := 0) (q := 0) (t := false) h).2.2; cases this
theorem den_mul_ne {b d : Int} (hb : 1 ≤ b) (hd : d ≠ 0) : b * d ≠ 0 := Int.mul_ne_zero (by omega) hd
theorem sub_back {a b c d p q : Int} (h : addR a b c d = rtup p q true) : addR p q (-c) d = rtup a b true := by
  obtain ⟨h1, h2, h3, h4⟩ := addR_true h
  have R1 := rvalid_range h1
  have R2 := rvalid_range h2
  have R3 := rvalid_range h3
  unfold addR
  rw [rvalid_neg, h3, h2]
  simp only [Bool.and_self, if_true]
  have m1 := mul_range (x := p) (y := d) (by omega) (by omega)
  have m2 := mul_range (x := -c) (y := q) (by omega) (by omega)
  have m3 := mul_range (x := q) (y := d) (by omega) (by omega)
  refine newR_unique (den_mul_ne (by omega) (by omega)) (by omega) (by omega) h1 ?_
  have e1 : p * (b * d) = (p * d) * b := by rw [Int.mul_comm b d, ← Int.mul_assoc]
  have e2 : (a * d + c * b) * q = a * (q * d) + c * q * b := by
    rw [Int.add_mul, Int.mul_assoc a d q, Int.mul_comm d q, Int.mul_assoc c b q, Int.mul_comm b q, Int.mul_assoc c q b]
  rw [e1, e2] at h4
  rw [Int.add_mul, Int.neg_mul, Int.neg_mul, h4]
  omega
theorem div_back {a b c d p q : Int} (h : mulR a b c d = rtup p q true) (hc : c ≠ 0) : divR p q c d = rtup a b true := by
  obtain ⟨h1, h2, h3, h4⟩ := mulR_true h
  have R1 := rvalid_range h1
  have R2 := rvalid_range h2
  have R3 := rvalid_range h3
  unfold divR
  rw [h3, h2]
  simp only [Bool.and_self, if_true]
  have m1 := mul_range (x := p) (y := d) (by omega) (by omega)
  have m3 := mul_range (x := q) (y := c) (by omega) (by omega)
  refine newR_unique (den_mul_ne (by omega) hc) (by omega) (by omega) h1 ?_
  have e1 : p * (b * d) = (p * d) * b := by rw [Int.mul_comm b d, ← Int.mul_assoc]
  have e2 : (a * c) * q = a * (q * c) := by rw [Int.mul_assoc, Int.mul_comm c q]
  rw [← e1, h4, e2]
theorem cmpI_swap (x y : Int) : cmpI x y = -cmpI y x := by unfold cmpI; (repeat' split) <;> omega
theorem cmpR_swap (a b c d : Int) : cmpR a b c d = -cmpR c d a b := by
  unfold cmpR
  rw [Bool.and_comm (rvalid c d)]
  split
  · exact cmpI_swap _ _
  · rfl
theorem sign_mul {p q x y : Int} (hq : 0 < q) (hy : 0 < y) (h : p * y = x * q) : (p < 0 ↔ x < 0) ∧ (p = 0 ↔ x = 0) := by
  constructor
  · constructor
    · intro hp
      have h1 : p * y < 0 := Int.mul_neg_of_neg_of_pos hp hy
      rw [h] at h1
      exact Int.neg_of_mul_neg_left h1 (by omega)
    · intro hx
      have h1 : x * q < 0 := Int.mul_neg_of_neg_of_pos hx hq
      rw [← h] at h1
      exact Int.neg_of_mul_neg_left h1 (by omega)
  · constructor
    · intro hp
      rw [hp, Int.zero_mul] at h
      rcases Int.mul_eq_zero.1 h.symm with h | h
      · exact h
      · omega
    · intro hx
      rw [hx, Int.zero_mul] at h
      rcases Int.mul_eq_zero.1 h with h | h
      · exact h
      · omega
theorem cmp_sign {a b c d p q : Int} (h : addR a b (-c) d = rtup p q true) : (cmpR a b c d < 0 ↔ p < 0) ∧ (cmpR a b c d = 0 ↔ p = 0) := by
  obtain ⟨h1, h2, h3, h4⟩ := addR_true h
  rw [rvalid_neg] at h2
  have R1 := rvalid_range h1
  have R2 := rvalid_range h2
  have R3 := rvalid_range h3
  obtain ⟨s1, s2⟩ := sign_mul (p := p) (q := q) (x := a * d + -c * b) (y := b * d) (by omega) (Int.mul_pos (by omega) (by omega)) h4
  unfold cmpR cmpI
  rw [h1, h2]
  simp only [Bool.and_self, if_true]
  rw [Int.neg_mul] at s1 s2
  constructor
  · rw [s1]; (repeat' split) <;> omega
  · rw [s2]; (repeat' split) <;> omega
end Go.Proofs.Ytkhphjapefijbaa
