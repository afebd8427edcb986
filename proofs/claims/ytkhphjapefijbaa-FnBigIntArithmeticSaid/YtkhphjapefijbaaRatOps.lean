/- Add, Mul, Div, Sub, Compare of rationals, both. -/
import Derived.Test.YtkhphjapefijbaaRatNew
import Derived.Test.YtkhphjapefijbaaMem
namespace Go.Proofs.Ytkhphjapefijbaa
open Go.RowKit Go.Sort
set_option maxHeartbeats 2000000
set_option maxRecDepth 100000

theorem rvalid_range {n d : Int} (h : rvalid n d = true) : -1000000000 ≤ n ∧ n ≤ 1000000000 ∧ 1 ≤ d ∧ d ≤ 1000000000 := by
  unfold rvalid at h
  rw [Bool.and_eq_true, Bool.and_eq_true, inR_iff, inR_iff] at h
  omega
theorem mul_range {x y : Int} (hx : -1000000000 ≤ x ∧ x ≤ 1000000000) (hy : -1000000000 ≤ y ∧ y ≤ 1000000000) : -1000000000000000000 ≤ x * y ∧ x * y ≤ 1000000000000000000 := by
  have h : (x * y).natAbs ≤ 1000000000 * 1000000000 := by
    rw [Int.natAbs_mul]
    exact Nat.mul_le_mul (by omega) (by omega)
  omega

theorem bothValid_i (a b c d : Int) (w : World) : Calls Try.prog 73 #[.agg #[.int .i64 a, .int .i64 b], .agg #[.int .i64 c, .int .i64 d]] w (RetB (.bool (rvalid a b && rvalid c d)) w) := by
  have k1 := fun W => IsValidRational_i a b W
  have k2 := fun W => IsValidRational_i c d W
  have q1 : ((w.alloc (.cells #[.int .i64 a, .int .i64 b] 25)).alloc (.cells #[.int .i64 c, .int .i64 d] 25)).cell? ⟨w.heap.size + 1, 0, none⟩ = some (.int .i64 c) := cellAt (heap_new1 _ _ _) 0
  have q2 : ((w.alloc (.cells #[.int .i64 a, .int .i64 b] 25)).alloc (.cells #[.int .i64 c, .int .i64 d] 25)).cell? ⟨w.heap.size + 1, 1, none⟩ = some (.int .i64 d) := cellAt (heap_new1 _ _ _) 1
  have q3 : ((w.alloc (.cells #[.int .i64 a, .int .i64 b] 25)).alloc (.cells #[.int .i64 c, .int .i64 d] 25)).cell? ⟨w.heap.size, 0, none⟩ = some (.int .i64 a) := cellN box_at0 _
  have q4 : ((w.alloc (.cells #[.int .i64 a, .int .i64 b] 25)).alloc (.cells #[.int .i64 c, .int .i64 d] 25)).cell? ⟨w.heap.size, 1, none⟩ = some (.int .i64 b) := cellN box_at1 _
  have hb0 : Below w.heap.size w ((w.alloc (.cells #[.int .i64 a, .int .i64 b] 25)).alloc (.cells #[.int .i64 c, .int .i64 d] 25)) := ((Below.refl _ _).alloc (Nat.le_refl _) _).alloc (by simp) _
  cases h1 : rvalid a b
  · rw [Bool.false_and]
    rw [h1] at k1
    have Hh1 := Lib.hid h1; clear h1; have Hk1 := Lib.hid k1; clear k1; have Hk2 := Lib.hid k2; clear k2; have Hhb0 := Lib.hid hb0; clear hb0
    go_enter Try.func73, Try.ntmps73
    go_wp2_with ((go_at_call 25; ((with_reducible refine (Hk1.out _).mono ?_); rintro e w' ⟨rfl, hb1⟩)))
    go_ret
    exact ⟨rfl, below_tr Hhb0.out hb1⟩
  · rw [Bool.true_and]
    rw [h1] at k1
    have Hh1 := Lib.hid h1; clear h1; have Hk1 := Lib.hid k1; clear k1; have Hk2 := Lib.hid k2; clear k2; have Hhb0 := Lib.hid hb0; clear hb0
    go_enter Try.func73, Try.ntmps73
    go_wp2_with (first | (go_at_call 25; ((with_reducible refine (Hk1.out _).mono ?_); rintro e w' ⟨rfl, hb1⟩; (have z1 := cellB hb1 q1; have z2 := cellB hb1 q2))) | (go_at_call 25; ((with_reducible refine (Hk2.out _).mono ?_); rintro e w' ⟨rfl, hb2⟩)))
    go_ret
    exact ⟨rfl, below_tr (below_tr Hhb0.out hb1) hb2⟩
-- OPS
theorem add_vals {p q p' q' : Int} {t t' : Bool} (h1 : p = p') (h2 : q = q') (h3 : t = t') : Ending.returned (.tuple #[.agg #[.int .i64 p, .int .i64 q], .bool t]) = .returned (.tuple #[.agg #[.int .i64 p', .int .i64 q'], .bool t']) := by rw [h1, h2, h3]
def noR : Value := .tuple #[ratV 0 0, .bool false]
def addR (a b c d : Int) : Value := if rvalid a b && rvalid c d then newR (a * d + c * b) (b * d) else noR
def mulR (a b c d : Int) : Value := if rvalid a b && rvalid c d then newR (a * c) (b * d) else noR
def divR (a b c d : Int) : Value := if rvalid a b && rvalid c d then newR (a * d) (b * c) else noR
def subR (a b c d : Int) : Value := addR a b (-c) d
def cmpR (a b c d : Int) : Int := if rvalid a b && rvalid c d then cmpI (a * d) (c * b) else 0
theorem rvalid_neg (c d : Int) : rvalid (-c) d = rvalid c d := by
  have e : inR (-c) (-1000000000) 1000000000 = inR c (-1000000000) 1000000000 := by
    by_cases h : -1000000000 ≤ c ∧ c ≤ 1000000000
    · rw [inR_yes h, inR_yes (by omega)]
    · rw [inR_no h, inR_no (by omega)]
  unfold rvalid
  rw [e, Int.natAbs_neg]

theorem addR_tuple (a b c d : Int) : ∃ (p q : Int) (t : Bool), addR a b c d = .tuple #[.agg #[.int .i64 p, .int .i64 q], .bool t] := by
  unfold addR noR ratV
  split
  · exact newR_tuple _ _
  · exact ⟨_, _, _, rfl⟩
theorem AddRational_i (a b c d : Int) (w : World) : Calls Try.prog 34 #[.agg #[.int .i64 a, .int .i64 b], .agg #[.int .i64 c, .int .i64 d]] w (RetB (addR a b c d) w) := by
  have k1 := fun W => bothValid_i a b c d W
  have hb0 : Below w.heap.size w (((w.alloc (.cells #[.int .i64 a, .int .i64 b] 25)).alloc (.cells #[.int .i64 c, .int .i64 d] 25)).alloc (.cells #[.int .i64 0, .int .i64 0] 25)) := (((Below.refl _ _).alloc (Nat.le_refl _) _).alloc (by simp) _).alloc (by simp; omega) _
  have p1 := heapN (heapN (heap_alloc_new w (.cells #[.int .i64 a, .int .i64 b] 25)) (.cells #[.int .i64 c, .int .i64 d] 25)) (.cells #[.int .i64 0, .int .i64 0] 25)
  have p2 := heapN (heap_new1 w (.cells #[.int .i64 a, .int .i64 b] 25) (.cells #[.int .i64 c, .int .i64 d] 25)) (.cells #[.int .i64 0, .int .i64 0] 25)
  have p3 := heap_new2 w (.cells #[.int .i64 a, .int .i64 b] 25) (.cells #[.int .i64 c, .int .i64 d] 25) (.cells #[.int .i64 0, .int .i64 0] 25)
  have q1 := cellAt p1 0
  have q2 := cellAt p1 1
  have q3 := cellAt p2 0
  have q4 := cellAt p2 1
  unfold addR
  cases h1 : rvalid a b && rvalid c d
  · rw [h1] at k1
    simp only [Bool.false_eq_true, if_false, noR]
    have Hh1 := Lib.hid h1; clear h1; have Hk1 := Lib.hid k1; clear k1; have Hhb0 := Lib.hid hb0; clear hb0; have Hp1 := Lib.hid p1; clear p1; have Hp2 := Lib.hid p2; clear p2; have Hp3 := Lib.hid p3; clear p3
    go_enter Try.func34, Try.ntmps34
    go_wp2_with ((go_at_call 73; ((with_reducible refine (Hk1.out _).mono ?_); rintro e w' ⟨rfl, hb1⟩; (have y1 := blockB hb1 Hp1.out; have y2 := blockB hb1 Hp2.out; have y3 := blockB hb1 Hp3.out; have u0 := cellAt y1 0; have u1 := cellAt y1 1; have u2 := cellAt y2 0; have u3 := cellAt y2 1; have t0 := cellAt y3 0; have t1 := cellAt y3 1; have f0 := frozen0 (j := 0) y3; have f1 := frozen0 (j := 1) y3; have Hy3 := Lib.hid y3; clear y1 y2 y3))))
    have r0 := setCell_at t0 rfl
    have r1 := setCell_two (u := .bool false) t1
    refine bodyPost_ret (v := .tuple #[ratV 0 0, .bool false]) (by simp [results, Try.results34, go_sem, ratV, r0, r1]) rfl ⟨rfl, ?_⟩
    exact ((below_tr Hhb0.out hb1).setCell (by simp <;> omega) _).setCell (by simp <;> omega) _
  · have R := rvalid_range (Bool.and_eq_true _ _ ▸ h1).1
    have S := rvalid_range (Bool.and_eq_true _ _ ▸ h1).2
    have m1 := mul_range (x := a) (y := d) (by omega) (by omega)
    have m2 := mul_range (x := c) (y := b) (by omega) (by omega)
    have m3 := mul_range (x := b) (y := d) (by omega) (by omega)
    have m4 := mul_range (x := a) (y := c) (by omega) (by omega)
    have m5 := mul_range (x := b) (y := c) (by omega) (by omega)
    rw [h1] at k1
    simp only [if_true]
    have k2 := fun W => NewRational_i (a * d + c * b) (b * d) (by omega) W
    obtain ⟨p, q, t, e⟩ := newR_tuple (a * d + c * b) (b * d)
    rw [e] at k2 ⊢
    have Hh1 := Lib.hid h1; clear h1; have Hk1 := Lib.hid k1; clear k1; have Hk2 := Lib.hid k2; clear k2; have Hhb0 := Lib.hid hb0; clear hb0; have Hp1 := Lib.hid p1; clear p1; have Hp2 := Lib.hid p2; clear p2; have Hp3 := Lib.hid p3; clear p3; have He := Lib.hid e; clear e; have HR := Lib.hid R; clear R; have HS := Lib.hid S; clear S
    go_enter Try.func34, Try.ntmps34
    go_wp2_with (first | (go_at_call 73; ((with_reducible refine (Hk1.out _).mono ?_); rintro e w' ⟨rfl, hb1⟩; (have y1 := blockB hb1 Hp1.out; have y2 := blockB hb1 Hp2.out; have y3 := blockB hb1 Hp3.out; have u0 := cellAt y1 0; have u1 := cellAt y1 1; have u2 := cellAt y2 0; have u3 := cellAt y2 1; have t0 := cellAt y3 0; have t1 := cellAt y3 1; have f0 := frozen0 (j := 0) y3; have f1 := frozen0 (j := 1) y3; have Hy3 := Lib.hid y3; clear y1 y2 y3))) | (go_at_call 29; ((with_reducible refine (Hk2.out _).mono ?_); rintro e w' ⟨rfl, hb2⟩; (clear u0 u1 u2 u3 t0 t1 f0 f1; have y4 := blockB hb2 Hy3.out; have t0 := cellAt y4 0; have t1 := cellAt y4 1; have f0 := frozen0 (j := 0) y4; have f1 := frozen0 (j := 1) y4; clear y4))))
    have r0 := setCell_at t0 rfl
    have r1 := setCell_two (u := .int .i64 q) t1
    refine bodyPost_ret (v := .tuple #[.agg #[.int .i64 p, .int .i64 q], .bool t]) (by simp [results, Try.results34, go_sem, r0, r1]) rfl ⟨rfl, ?_⟩
    exact ((below_tr (below_tr Hhb0.out hb1) hb2).setCell (by simp <;> omega) _).setCell (by simp <;> omega) _
theorem MulRational_i (a b c d : Int) (w : World) : Calls Try.prog 38 #[.agg #[.int .i64 a, .int .i64 b], .agg #[.int .i64 c, .int .i64 d]] w (RetB (mulR a b c d) w) := by
  have k1 := fun W => bothValid_i a b c d W
  have hb0 : Below w.heap.size w (((w.alloc (.cells #[.int .i64 a, .int .i64 b] 25)).alloc (.cells #[.int .i64 c, .int .i64 d] 25)).alloc (.cells #[.int .i64 0, .int .i64 0] 25)) := (((Below.refl _ _).alloc (Nat.le_refl _) _).alloc (by simp) _).alloc (by simp; omega) _
  have p1 := heapN (heapN (heap_alloc_new w (.cells #[.int .i64 a, .int .i64 b] 25)) (.cells #[.int .i64 c, .int .i64 d] 25)) (.cells #[.int .i64 0, .int .i64 0] 25)
  have p2 := heapN (heap_new1 w (.cells #[.int .i64 a, .int .i64 b] 25) (.cells #[.int .i64 c, .int .i64 d] 25)) (.cells #[.int .i64 0, .int .i64 0] 25)
  have p3 := heap_new2 w (.cells #[.int .i64 a, .int .i64 b] 25) (.cells #[.int .i64 c, .int .i64 d] 25) (.cells #[.int .i64 0, .int .i64 0] 25)
  have q1 := cellAt p1 0
  have q2 := cellAt p1 1
  have q3 := cellAt p2 0
  have q4 := cellAt p2 1
  unfold mulR
  cases h1 : rvalid a b && rvalid c d
  · rw [h1] at k1
    simp only [Bool.false_eq_true, if_false, noR]
    have Hh1 := Lib.hid h1; clear h1; have Hk1 := Lib.hid k1; clear k1; have Hhb0 := Lib.hid hb0; clear hb0; have Hp1 := Lib.hid p1; clear p1; have Hp2 := Lib.hid p2; clear p2; have Hp3 := Lib.hid p3; clear p3
    go_enter Try.func38, Try.ntmps38
    go_wp2_with ((go_at_call 73; ((with_reducible refine (Hk1.out _).mono ?_); rintro e w' ⟨rfl, hb1⟩; (have y1 := blockB hb1 Hp1.out; have y2 := blockB hb1 Hp2.out; have y3 := blockB hb1 Hp3.out; have u0 := cellAt y1 0; have u1 := cellAt y1 1; have u2 := cellAt y2 0; have u3 := cellAt y2 1; have t0 := cellAt y3 0; have t1 := cellAt y3 1; have f0 := frozen0 (j := 0) y3; have f1 := frozen0 (j := 1) y3; have Hy3 := Lib.hid y3; clear y1 y2 y3))))
    have r0 := setCell_at t0 rfl
    have r1 := setCell_two (u := .bool false) t1
    refine bodyPost_ret (v := .tuple #[ratV 0 0, .bool false]) (by simp [results, Try.results38, go_sem, ratV, r0, r1]) rfl ⟨rfl, ?_⟩
    exact ((below_tr Hhb0.out hb1).setCell (by simp <;> omega) _).setCell (by simp <;> omega) _
  · have R := rvalid_range (Bool.and_eq_true _ _ ▸ h1).1
    have S := rvalid_range (Bool.and_eq_true _ _ ▸ h1).2
    have m1 := mul_range (x := a) (y := d) (by omega) (by omega)
    have m2 := mul_range (x := c) (y := b) (by omega) (by omega)
    have m3 := mul_range (x := b) (y := d) (by omega) (by omega)
    have m4 := mul_range (x := a) (y := c) (by omega) (by omega)
    have m5 := mul_range (x := b) (y := c) (by omega) (by omega)
    rw [h1] at k1
    simp only [if_true]
    have k2 := fun W => NewRational_i (a * c) (b * d) (by omega) W
    obtain ⟨p, q, t, e⟩ := newR_tuple (a * c) (b * d)
    rw [e] at k2 ⊢
    have Hh1 := Lib.hid h1; clear h1; have Hk1 := Lib.hid k1; clear k1; have Hk2 := Lib.hid k2; clear k2; have Hhb0 := Lib.hid hb0; clear hb0; have Hp1 := Lib.hid p1; clear p1; have Hp2 := Lib.hid p2; clear p2; have Hp3 := Lib.hid p3; clear p3; have He := Lib.hid e; clear e; have HR := Lib.hid R; clear R; have HS := Lib.hid S; clear S
    go_enter Try.func38, Try.ntmps38
    go_wp2_with (first | (go_at_call 73; ((with_reducible refine (Hk1.out _).mono ?_); rintro e w' ⟨rfl, hb1⟩; (have y1 := blockB hb1 Hp1.out; have y2 := blockB hb1 Hp2.out; have y3 := blockB hb1 Hp3.out; have u0 := cellAt y1 0; have u1 := cellAt y1 1; have u2 := cellAt y2 0; have u3 := cellAt y2 1; have t0 := cellAt y3 0; have t1 := cellAt y3 1; have f0 := frozen0 (j := 0) y3; have f1 := frozen0 (j := 1) y3; have Hy3 := Lib.hid y3; clear y1 y2 y3))) | (go_at_call 29; ((with_reducible refine (Hk2.out _).mono ?_); rintro e w' ⟨rfl, hb2⟩; (clear u0 u1 u2 u3 t0 t1 f0 f1; have y4 := blockB hb2 Hy3.out; have t0 := cellAt y4 0; have t1 := cellAt y4 1; have f0 := frozen0 (j := 0) y4; have f1 := frozen0 (j := 1) y4; clear y4))))
    have r0 := setCell_at t0 rfl
    have r1 := setCell_two (u := .int .i64 q) t1
    refine bodyPost_ret (v := .tuple #[.agg #[.int .i64 p, .int .i64 q], .bool t]) (by simp [results, Try.results38, go_sem, r0, r1]) rfl ⟨rfl, ?_⟩
    exact ((below_tr (below_tr Hhb0.out hb1) hb2).setCell (by simp <;> omega) _).setCell (by simp <;> omega) _
theorem DivRational_i (a b c d : Int) (w : World) : Calls Try.prog 36 #[.agg #[.int .i64 a, .int .i64 b], .agg #[.int .i64 c, .int .i64 d]] w (RetB (divR a b c d) w) := by
  have k1 := fun W => bothValid_i a b c d W
  have hb0 : Below w.heap.size w (((w.alloc (.cells #[.int .i64 a, .int .i64 b] 25)).alloc (.cells #[.int .i64 c, .int .i64 d] 25)).alloc (.cells #[.int .i64 0, .int .i64 0] 25)) := (((Below.refl _ _).alloc (Nat.le_refl _) _).alloc (by simp) _).alloc (by simp; omega) _
  have p1 := heapN (heapN (heap_alloc_new w (.cells #[.int .i64 a, .int .i64 b] 25)) (.cells #[.int .i64 c, .int .i64 d] 25)) (.cells #[.int .i64 0, .int .i64 0] 25)
  have p2 := heapN (heap_new1 w (.cells #[.int .i64 a, .int .i64 b] 25) (.cells #[.int .i64 c, .int .i64 d] 25)) (.cells #[.int .i64 0, .int .i64 0] 25)
  have p3 := heap_new2 w (.cells #[.int .i64 a, .int .i64 b] 25) (.cells #[.int .i64 c, .int .i64 d] 25) (.cells #[.int .i64 0, .int .i64 0] 25)
  have q1 := cellAt p1 0
  have q2 := cellAt p1 1
  have q3 := cellAt p2 0
  have q4 := cellAt p2 1
  unfold divR
  cases h1 : rvalid a b && rvalid c d
  · rw [h1] at k1
    simp only [Bool.false_eq_true, if_false, noR]
    have Hh1 := Lib.hid h1; clear h1; have Hk1 := Lib.hid k1; clear k1; have Hhb0 := Lib.hid hb0; clear hb0; have Hp1 := Lib.hid p1; clear p1; have Hp2 := Lib.hid p2; clear p2; have Hp3 := Lib.hid p3; clear p3
    go_enter Try.func36, Try.ntmps36
    go_wp2_with ((go_at_call 73; ((with_reducible refine (Hk1.out _).mono ?_); rintro e w' ⟨rfl, hb1⟩; (have y1 := blockB hb1 Hp1.out; have y2 := blockB hb1 Hp2.out; have y3 := blockB hb1 Hp3.out; have u0 := cellAt y1 0; have u1 := cellAt y1 1; have u2 := cellAt y2 0; have u3 := cellAt y2 1; have t0 := cellAt y3 0; have t1 := cellAt y3 1; have f0 := frozen0 (j := 0) y3; have f1 := frozen0 (j := 1) y3; have Hy3 := Lib.hid y3; clear y1 y2 y3))))
    have r0 := setCell_at t0 rfl
    have r1 := setCell_two (u := .bool false) t1
    refine bodyPost_ret (v := .tuple #[ratV 0 0, .bool false]) (by simp [results, Try.results36, go_sem, ratV, r0, r1]) rfl ⟨rfl, ?_⟩
    exact ((below_tr Hhb0.out hb1).setCell (by simp <;> omega) _).setCell (by simp <;> omega) _
  · have R := rvalid_range (Bool.and_eq_true _ _ ▸ h1).1
    have S := rvalid_range (Bool.and_eq_true _ _ ▸ h1).2
    have m1 := mul_range (x := a) (y := d) (by omega) (by omega)
    have m2 := mul_range (x := c) (y := b) (by omega) (by omega)
    have m3 := mul_range (x := b) (y := d) (by omega) (by omega)
    have m4 := mul_range (x := a) (y := c) (by omega) (by omega)
    have m5 := mul_range (x := b) (y := c) (by omega) (by omega)
    rw [h1] at k1
    simp only [if_true]
    by_cases hz : c = 0
    · have dz : (c == 0) = true := by rw [beq_iff_eq]; exact hz
      rw [newR_no (.inl (by rw [hz, Int.mul_zero]))]
      have Hh1 := Lib.hid h1; clear h1; have Hk1 := Lib.hid k1; clear k1; have Hhb0 := Lib.hid hb0; clear hb0; have Hp1 := Lib.hid p1; clear p1; have Hp2 := Lib.hid p2; clear p2; have Hp3 := Lib.hid p3; clear p3; have HR := Lib.hid R; clear R; have HS := Lib.hid S; clear S; have Hhz := Lib.hid hz; clear hz; have Hm1 := Lib.hid m1; clear m1; have Hm2 := Lib.hid m2; clear m2; have Hm3 := Lib.hid m3; clear m3; have Hm4 := Lib.hid m4; clear m4; have Hm5 := Lib.hid m5; clear m5
      go_enter Try.func36, Try.ntmps36
      go_wp2_with ((go_at_call 73; ((with_reducible refine (Hk1.out _).mono ?_); rintro e w' ⟨rfl, hb1⟩; (have y1 := blockB hb1 Hp1.out; have y2 := blockB hb1 Hp2.out; have y3 := blockB hb1 Hp3.out; have u0 := cellAt y1 0; have u1 := cellAt y1 1; have u2 := cellAt y2 0; have u3 := cellAt y2 1; have t0 := cellAt y3 0; have t1 := cellAt y3 1; have f0 := frozen0 (j := 0) y3; have f1 := frozen0 (j := 1) y3; have Hy3 := Lib.hid y3; clear y1 y2 y3))))
      have r0 := setCell_at t0 rfl
      have r1 := setCell_two (u := .bool false) t1
      refine bodyPost_ret (v := .tuple #[ratV 0 0, .bool false]) (by simp [results, Try.results36, go_sem, ratV, r0, r1]) rfl ⟨rfl, ?_⟩
      exact ((below_tr Hhb0.out hb1).setCell (by simp <;> omega) _).setCell (by simp <;> omega) _
    have dz : (c == 0) = false := by rw [beq_eq_false_iff_ne]; exact hz
    have k2 := fun W => NewRational_i (a * d) (b * c) (by omega) W
    obtain ⟨p, q, t, e⟩ := newR_tuple (a * d) (b * c)
    rw [e] at k2 ⊢
    have Hh1 := Lib.hid h1; clear h1; have Hk1 := Lib.hid k1; clear k1; have Hk2 := Lib.hid k2; clear k2; have Hhb0 := Lib.hid hb0; clear hb0; have Hp1 := Lib.hid p1; clear p1; have Hp2 := Lib.hid p2; clear p2; have Hp3 := Lib.hid p3; clear p3; have He := Lib.hid e; clear e; have HR := Lib.hid R; clear R; have HS := Lib.hid S; clear S
    clear hz
    go_enter Try.func36, Try.ntmps36
    go_wp2_with (first | (go_at_call 73; ((with_reducible refine (Hk1.out _).mono ?_); rintro e w' ⟨rfl, hb1⟩; (have y1 := blockB hb1 Hp1.out; have y2 := blockB hb1 Hp2.out; have y3 := blockB hb1 Hp3.out; have u0 := cellAt y1 0; have u1 := cellAt y1 1; have u2 := cellAt y2 0; have u3 := cellAt y2 1; have t0 := cellAt y3 0; have t1 := cellAt y3 1; have f0 := frozen0 (j := 0) y3; have f1 := frozen0 (j := 1) y3; have Hy3 := Lib.hid y3; clear y1 y2 y3))) | (go_at_call 29; ((with_reducible refine (Hk2.out _).mono ?_); rintro e w' ⟨rfl, hb2⟩; (clear u0 u1 u2 u3 t0 t1 f0 f1; have y4 := blockB hb2 Hy3.out; have t0 := cellAt y4 0; have t1 := cellAt y4 1; have f0 := frozen0 (j := 0) y4; have f1 := frozen0 (j := 1) y4; clear y4))))
    have r0 := setCell_at t0 rfl
    have r1 := setCell_two (u := .int .i64 q) t1
    refine bodyPost_ret (v := .tuple #[.agg #[.int .i64 p, .int .i64 q], .bool t]) (by simp [results, Try.results36, go_sem, r0, r1]) rfl ⟨rfl, ?_⟩
    exact ((below_tr (below_tr Hhb0.out hb1) hb2).setCell (by simp <;> omega) _).setCell (by simp <;> omega) _
theorem CompareRationals_i (a b c d : Int) (w : World) : Calls Try.prog 27 #[.agg #[.int .i64 a, .int .i64 b], .agg #[.int .i64 c, .int .i64 d]] w (RetB (.int .i64 (cmpR a b c d)) w) := by
  have k1 := fun W => bothValid_i a b c d W
  have hb0 : Below w.heap.size w ((w.alloc (.cells #[.int .i64 a, .int .i64 b] 25)).alloc (.cells #[.int .i64 c, .int .i64 d] 25)) := ((Below.refl _ _).alloc (Nat.le_refl _) _).alloc (by simp) _
  have p1 := heapN (heap_alloc_new w (.cells #[.int .i64 a, .int .i64 b] 25)) (.cells #[.int .i64 c, .int .i64 d] 25)
  have p2 := heap_new1 w (.cells #[.int .i64 a, .int .i64 b] 25) (.cells #[.int .i64 c, .int .i64 d] 25)
  have q1 := cellAt p1 0
  have q2 := cellAt p1 1
  have q3 := cellAt p2 0
  have q4 := cellAt p2 1
  unfold cmpR
  cases h1 : rvalid a b && rvalid c d
  · rw [h1] at k1
    simp only [Bool.false_eq_true, if_false]
    have Hh1 := Lib.hid h1; clear h1; have Hk1 := Lib.hid k1; clear k1; have Hhb0 := Lib.hid hb0; clear hb0; have Hp1 := Lib.hid p1; clear p1; have Hp2 := Lib.hid p2; clear p2
    go_enter Try.func27, Try.ntmps27
    go_wp2_with ((go_at_call 73; ((with_reducible refine (Hk1.out _).mono ?_); rintro e w' ⟨rfl, hb1⟩)))
    go_ret
    exact ⟨rfl, below_tr Hhb0.out hb1⟩
  · have R := rvalid_range (Bool.and_eq_true _ _ ▸ h1).1
    have S := rvalid_range (Bool.and_eq_true _ _ ▸ h1).2
    have m1 := mul_range (x := a) (y := d) (by omega) (by omega)
    have m2 := mul_range (x := c) (y := b) (by omega) (by omega)
    rw [h1] at k1
    simp only [if_true]
    have k2 := fun W => compareInts_any (a * d) (c * b) W
    have Hh1 := Lib.hid h1; clear h1; have Hk1 := Lib.hid k1; clear k1; have Hk2 := Lib.hid k2; clear k2; have Hhb0 := Lib.hid hb0; clear hb0; have Hp1 := Lib.hid p1; clear p1; have Hp2 := Lib.hid p2; clear p2; have HR := Lib.hid R; clear R; have HS := Lib.hid S; clear S
    go_enter Try.func27, Try.ntmps27
    go_wp2_with (first | (go_at_call 73; ((with_reducible refine (Hk1.out _).mono ?_); rintro e w' ⟨rfl, hb1⟩; (have y1 := blockB hb1 Hp1.out; have y2 := blockB hb1 Hp2.out; have u0 := cellAt y1 0; have u1 := cellAt y1 1; have u2 := cellAt y2 0; have u3 := cellAt y2 1; clear y1 y2))) | (go_at_call 74; ((with_reducible refine (Hk2.out _).mono ?_); rintro e w' ⟨rfl, rfl⟩)))
    go_ret
    exact ⟨rfl, below_tr Hhb0.out hb1⟩
theorem SubRational_i (a b c d : Int) (w : World) : Calls Try.prog 42 #[.agg #[.int .i64 a, .int .i64 b], .agg #[.int .i64 c, .int .i64 d]] w (RetB (addR a b (wrap64 (-c)) d) w) := by
  have k2 := fun W => AddRational_i a b (wrap64 (-c)) d W
  obtain ⟨p, q, t, e⟩ := addR_tuple a b (wrap64 (-c)) d
  rw [e] at k2 ⊢
  have hb0 : Below w.heap.size w (((w.alloc (.cells #[.int .i64 a, .int .i64 b] 25)).alloc (.cells #[.int .i64 (wrap64 (-c)), .int .i64 d] 25)).alloc (.cells #[.int .i64 0, .int .i64 0] 25)) := (((Below.refl _ _).alloc (Nat.le_refl _) _).alloc (by simp) _).alloc (by simp; omega) _
  have p3 := heap_new2 w (.cells #[.int .i64 a, .int .i64 b] 25) (.cells #[.int .i64 (wrap64 (-c)), .int .i64 d] 25) (.cells #[.int .i64 0, .int .i64 0] 25)
  have Hk2 := Lib.hid k2; clear k2; have Hhb0 := Lib.hid hb0; clear hb0; have Hp3 := Lib.hid p3; clear p3; have He := Lib.hid e; clear e
  go_enter Try.func42, Try.ntmps42
  go_wp2_with ((go_at_call 34; ((with_reducible refine (Hk2.out _).mono ?_); rintro e w' ⟨rfl, hb2⟩; (have y3 := blockB hb2 Hp3.out; have t0 := cellAt y3 0; have t1 := cellAt y3 1; have f0 := frozen0 (j := 0) y3; have f1 := frozen0 (j := 1) y3; clear y3))))
  have r0 := setCell_at t0 rfl
  have r1 := setCell_two (u := .int .i64 q) t1
  refine bodyPost_ret (v := .tuple #[.agg #[.int .i64 p, .int .i64 q], .bool t]) (by simp [results, Try.results42, go_sem, r0, r1]) rfl ⟨rfl, ?_⟩
  exact ((below_tr Hhb0.out hb2).setCell (by simp <;> omega) _).setCell (by simp <;> omega) _
theorem AddRational_s (a b c d : Int) (w : World) : Calls Try.prog 33 #[.agg #[.int .i64 a, .int .i64 b], .agg #[.int .i64 c, .int .i64 d]] w (RetB (addR a b c d) w) := by
  have k1 := fun W => IsValidRational_s a b W
  have k2 := fun W => IsValidRational_s c d W
  have hb0 : Below w.heap.size w (((w.alloc (.cells #[.int .i64 a, .int .i64 b] 25)).alloc (.cells #[.int .i64 c, .int .i64 d] 25)).alloc (.cells #[.int .i64 0, .int .i64 0] 25)) := (((Below.refl _ _).alloc (Nat.le_refl _) _).alloc (by simp) _).alloc (by simp; omega) _
  have p1 := heapN (heapN (heap_alloc_new w (.cells #[.int .i64 a, .int .i64 b] 25)) (.cells #[.int .i64 c, .int .i64 d] 25)) (.cells #[.int .i64 0, .int .i64 0] 25)
  have p2 := heapN (heap_new1 w (.cells #[.int .i64 a, .int .i64 b] 25) (.cells #[.int .i64 c, .int .i64 d] 25)) (.cells #[.int .i64 0, .int .i64 0] 25)
  have p3 := heap_new2 w (.cells #[.int .i64 a, .int .i64 b] 25) (.cells #[.int .i64 c, .int .i64 d] 25) (.cells #[.int .i64 0, .int .i64 0] 25)
  have q1 := cellAt p1 0
  have q2 := cellAt p1 1
  have q3 := cellAt p2 0
  have q4 := cellAt p2 1
  unfold addR
  cases h1 : rvalid a b
  · rw [h1] at k1
    simp only [Bool.false_and, Bool.false_eq_true, if_false, noR]
    have Hh1 := Lib.hid h1; clear h1; have Hk1 := Lib.hid k1; clear k1; have Hk2 := Lib.hid k2; clear k2; have Hhb0 := Lib.hid hb0; clear hb0; have Hp1 := Lib.hid p1; clear p1; have Hp2 := Lib.hid p2; clear p2; have Hp3 := Lib.hid p3; clear p3
    go_enter Try.func33, Try.ntmps33
    go_wp2_with ((go_at_call 23; ((with_reducible refine (Hk1.out _).mono ?_); rintro e w' ⟨rfl, hb1⟩; (have y1 := blockB hb1 Hp1.out; have y2 := blockB hb1 Hp2.out; have y3 := blockB hb1 Hp3.out; have u0 := cellAt y1 0; have u1 := cellAt y1 1; have u2 := cellAt y2 0; have u3 := cellAt y2 1; have t0 := cellAt y3 0; have t1 := cellAt y3 1; have f0 := frozen0 (j := 0) y3; have f1 := frozen0 (j := 1) y3; have Hy1 := Lib.hid y1; have Hy2 := Lib.hid y2; have Hy3 := Lib.hid y3; clear y1 y2 y3))))
    have r0 := setCell_at t0 rfl
    have r1 := setCell_two (u := .bool false) t1
    refine bodyPost_ret (v := .tuple #[ratV 0 0, .bool false]) (by simp [results, Try.results33, go_sem, ratV, r0, r1]) rfl ⟨rfl, ?_⟩
    exact ((below_tr Hhb0.out hb1).setCell (by simp <;> omega) _).setCell (by simp <;> omega) _
  · rw [h1] at k1
    cases h2 : rvalid c d
    · rw [h2] at k2
      simp only [Bool.and_false, Bool.false_eq_true, if_false, noR]
      have Hh1 := Lib.hid h1; clear h1; have Hh2 := Lib.hid h2; clear h2; have Hk1 := Lib.hid k1; clear k1; have Hk2 := Lib.hid k2; clear k2; have Hhb0 := Lib.hid hb0; clear hb0; have Hp1 := Lib.hid p1; clear p1; have Hp2 := Lib.hid p2; clear p2; have Hp3 := Lib.hid p3; clear p3
      go_enter Try.func33, Try.ntmps33
      go_wp2_with (first | (go_at_call 23; ((with_reducible refine (Hk1.out _).mono ?_); rintro e w' ⟨rfl, hb1⟩; (have y1 := blockB hb1 Hp1.out; have y2 := blockB hb1 Hp2.out; have y3 := blockB hb1 Hp3.out; have u0 := cellAt y1 0; have u1 := cellAt y1 1; have u2 := cellAt y2 0; have u3 := cellAt y2 1; have t0 := cellAt y3 0; have t1 := cellAt y3 1; have f0 := frozen0 (j := 0) y3; have f1 := frozen0 (j := 1) y3; have Hy1 := Lib.hid y1; have Hy2 := Lib.hid y2; have Hy3 := Lib.hid y3; clear y1 y2 y3))) | (go_at_call 23; ((with_reducible refine (Hk2.out _).mono ?_); rintro e w' ⟨rfl, hb2⟩; (clear u0 u1 u2 u3 t0 t1 f0 f1; have y1 := blockB hb2 Hy1.out; have y2 := blockB hb2 Hy2.out; have y3 := blockB hb2 Hy3.out; have u0 := cellAt y1 0; have u1 := cellAt y1 1; have u2 := cellAt y2 0; have u3 := cellAt y2 1; have t0 := cellAt y3 0; have t1 := cellAt y3 1; have f0 := frozen0 (j := 0) y3; have f1 := frozen0 (j := 1) y3; have Hz1 := Lib.hid y1; have Hz2 := Lib.hid y2; have Hz3 := Lib.hid y3; clear y1 y2 y3))))
      have r0 := setCell_at t0 rfl
      have r1 := setCell_two (u := .bool false) t1
      refine bodyPost_ret (v := .tuple #[ratV 0 0, .bool false]) (by simp [results, Try.results33, go_sem, ratV, r0, r1]) rfl ⟨rfl, ?_⟩
      exact ((below_tr (below_tr Hhb0.out hb1) hb2).setCell (by simp <;> omega) _).setCell (by simp <;> omega) _
    · have R := rvalid_range h1
      have S := rvalid_range h2
      have m1 := mul_range (x := a) (y := d) (by omega) (by omega)
      have m2 := mul_range (x := c) (y := b) (by omega) (by omega)
      have m3 := mul_range (x := b) (y := d) (by omega) (by omega)
      have m4 := mul_range (x := a) (y := c) (by omega) (by omega)
      have m5 := mul_range (x := b) (y := c) (by omega) (by omega)
      rw [h2] at k2
      simp only [Bool.and_self, if_true]
      have k3 := fun W => NewRational_s (a * d + c * b) (b * d) (by omega) W
      obtain ⟨p, q, t, e⟩ := newR_tuple (a * d + c * b) (b * d)
      rw [e] at k3 ⊢
      have Hh1 := Lib.hid h1; clear h1; have Hh2 := Lib.hid h2; clear h2; have Hk1 := Lib.hid k1; clear k1; have Hk2 := Lib.hid k2; clear k2; have Hk3 := Lib.hid k3; clear k3; have Hhb0 := Lib.hid hb0; clear hb0; have Hp1 := Lib.hid p1; clear p1; have Hp2 := Lib.hid p2; clear p2; have Hp3 := Lib.hid p3; clear p3; have He := Lib.hid e; clear e; have HR := Lib.hid R; clear R; have HS := Lib.hid S; clear S
      go_enter Try.func33, Try.ntmps33
      go_wp2_with (first | (go_at_call 23; ((with_reducible refine (Hk1.out _).mono ?_); rintro e w' ⟨rfl, hb1⟩; (have y1 := blockB hb1 Hp1.out; have y2 := blockB hb1 Hp2.out; have y3 := blockB hb1 Hp3.out; have u0 := cellAt y1 0; have u1 := cellAt y1 1; have u2 := cellAt y2 0; have u3 := cellAt y2 1; have t0 := cellAt y3 0; have t1 := cellAt y3 1; have f0 := frozen0 (j := 0) y3; have f1 := frozen0 (j := 1) y3; have Hy1 := Lib.hid y1; have Hy2 := Lib.hid y2; have Hy3 := Lib.hid y3; clear y1 y2 y3))) | (go_at_call 23; ((with_reducible refine (Hk2.out _).mono ?_); rintro e w' ⟨rfl, hb2⟩; (clear u0 u1 u2 u3 t0 t1 f0 f1; have y1 := blockB hb2 Hy1.out; have y2 := blockB hb2 Hy2.out; have y3 := blockB hb2 Hy3.out; have u0 := cellAt y1 0; have u1 := cellAt y1 1; have u2 := cellAt y2 0; have u3 := cellAt y2 1; have t0 := cellAt y3 0; have t1 := cellAt y3 1; have f0 := frozen0 (j := 0) y3; have f1 := frozen0 (j := 1) y3; have Hz1 := Lib.hid y1; have Hz2 := Lib.hid y2; have Hz3 := Lib.hid y3; clear y1 y2 y3))) | (go_at_call 28; ((with_reducible refine (Hk3.out _).mono ?_); rintro e w' ⟨rfl, hb3⟩; (clear u0 u1 u2 u3 t0 t1 f0 f1; have y3 := blockB hb3 Hz3.out; replace y3 := heapN y3 (.cells #[.int .i64 p, .int .i64 q] 25); have t0 := cellAt y3 0; have t1 := cellAt y3 1; have f0 := frozen0 (j := 0) y3; have f1 := frozen0 (j := 1) y3; clear y3))))
      have r0 := setCell_at t0 rfl
      have r1 := setCell_two (u := .int .i64 q) t1
      refine bodyPost_ret (v := .tuple #[.agg #[.int .i64 p, .int .i64 q], .bool t]) (by simp [results, Try.results33, go_sem, r0, r1]) rfl ⟨rfl, ?_⟩
      exact (((below_tr (below_tr (below_tr Hhb0.out hb1) hb2) hb3).alloc (below_tr (below_tr (below_tr Hhb0.out hb1) hb2) hb3).size _).setCell (by simp <;> omega) _).setCell (by simp <;> omega) _
theorem MulRational_s (a b c d : Int) (w : World) : Calls Try.prog 37 #[.agg #[.int .i64 a, .int .i64 b], .agg #[.int .i64 c, .int .i64 d]] w (RetB (mulR a b c d) w) := by
  have k1 := fun W => IsValidRational_s a b W
  have k2 := fun W => IsValidRational_s c d W
  have hb0 : Below w.heap.size w (((w.alloc (.cells #[.int .i64 a, .int .i64 b] 25)).alloc (.cells #[.int .i64 c, .int .i64 d] 25)).alloc (.cells #[.int .i64 0, .int .i64 0] 25)) := (((Below.refl _ _).alloc (Nat.le_refl _) _).alloc (by simp) _).alloc (by simp; omega) _
  have p1 := heapN (heapN (heap_alloc_new w (.cells #[.int .i64 a, .int .i64 b] 25)) (.cells #[.int .i64 c, .int .i64 d] 25)) (.cells #[.int .i64 0, .int .i64 0] 25)
  have p2 := heapN (heap_new1 w (.cells #[.int .i64 a, .int .i64 b] 25) (.cells #[.int .i64 c, .int .i64 d] 25)) (.cells #[.int .i64 0, .int .i64 0] 25)
  have p3 := heap_new2 w (.cells #[.int .i64 a, .int .i64 b] 25) (.cells #[.int .i64 c, .int .i64 d] 25) (.cells #[.int .i64 0, .int .i64 0] 25)
  have q1 := cellAt p1 0
  have q2 := cellAt p1 1
  have q3 := cellAt p2 0
  have q4 := cellAt p2 1
  unfold mulR
  cases h1 : rvalid a b
  · rw [h1] at k1
    simp only [Bool.false_and, Bool.false_eq_true, if_false, noR]
    have Hh1 := Lib.hid h1; clear h1; have Hk1 := Lib.hid k1; clear k1; have Hk2 := Lib.hid k2; clear k2; have Hhb0 := Lib.hid hb0; clear hb0; have Hp1 := Lib.hid p1; clear p1; have Hp2 := Lib.hid p2; clear p2; have Hp3 := Lib.hid p3; clear p3
    go_enter Try.func37, Try.ntmps37
    go_wp2_with ((go_at_call 23; ((with_reducible refine (Hk1.out _).mono ?_); rintro e w' ⟨rfl, hb1⟩; (have y1 := blockB hb1 Hp1.out; have y2 := blockB hb1 Hp2.out; have y3 := blockB hb1 Hp3.out; have u0 := cellAt y1 0; have u1 := cellAt y1 1; have u2 := cellAt y2 0; have u3 := cellAt y2 1; have t0 := cellAt y3 0; have t1 := cellAt y3 1; have f0 := frozen0 (j := 0) y3; have f1 := frozen0 (j := 1) y3; have Hy1 := Lib.hid y1; have Hy2 := Lib.hid y2; have Hy3 := Lib.hid y3; clear y1 y2 y3))))
    have r0 := setCell_at t0 rfl
    have r1 := setCell_two (u := .bool false) t1
    refine bodyPost_ret (v := .tuple #[ratV 0 0, .bool false]) (by simp [results, Try.results37, go_sem, ratV, r0, r1]) rfl ⟨rfl, ?_⟩
    exact ((below_tr Hhb0.out hb1).setCell (by simp <;> omega) _).setCell (by simp <;> omega) _
  · rw [h1] at k1
    cases h2 : rvalid c d
    · rw [h2] at k2
      simp only [Bool.and_false, Bool.false_eq_true, if_false, noR]
      have Hh1 := Lib.hid h1; clear h1; have Hh2 := Lib.hid h2; clear h2; have Hk1 := Lib.hid k1; clear k1; have Hk2 := Lib.hid k2; clear k2; have Hhb0 := Lib.hid hb0; clear hb0; have Hp1 := Lib.hid p1; clear p1; have Hp2 := Lib.hid p2; clear p2; have Hp3 := Lib.hid p3; clear p3
      go_enter Try.func37, Try.ntmps37
      go_wp2_with (first | (go_at_call 23; ((with_reducible refine (Hk1.out _).mono ?_); rintro e w' ⟨rfl, hb1⟩; (have y1 := blockB hb1 Hp1.out; have y2 := blockB hb1 Hp2.out; have y3 := blockB hb1 Hp3.out; have u0 := cellAt y1 0; have u1 := cellAt y1 1; have u2 := cellAt y2 0; have u3 := cellAt y2 1; have t0 := cellAt y3 0; have t1 := cellAt y3 1; have f0 := frozen0 (j := 0) y3; have f1 := frozen0 (j := 1) y3; have Hy1 := Lib.hid y1; have Hy2 := Lib.hid y2; have Hy3 := Lib.hid y3; clear y1 y2 y3))) | (go_at_call 23; ((with_reducible refine (Hk2.out _).mono ?_); rintro e w' ⟨rfl, hb2⟩; (clear u0 u1 u2 u3 t0 t1 f0 f1; have y1 := blockB hb2 Hy1.out; have y2 := blockB hb2 Hy2.out; have y3 := blockB hb2 Hy3.out; have u0 := cellAt y1 0; have u1 := cellAt y1 1; have u2 := cellAt y2 0; have u3 := cellAt y2 1; have t0 := cellAt y3 0; have t1 := cellAt y3 1; have f0 := frozen0 (j := 0) y3; have f1 := frozen0 (j := 1) y3; have Hz1 := Lib.hid y1; have Hz2 := Lib.hid y2; have Hz3 := Lib.hid y3; clear y1 y2 y3))))
      have r0 := setCell_at t0 rfl
      have r1 := setCell_two (u := .bool false) t1
      refine bodyPost_ret (v := .tuple #[ratV 0 0, .bool false]) (by simp [results, Try.results37, go_sem, ratV, r0, r1]) rfl ⟨rfl, ?_⟩
      exact ((below_tr (below_tr Hhb0.out hb1) hb2).setCell (by simp <;> omega) _).setCell (by simp <;> omega) _
    · have R := rvalid_range h1
      have S := rvalid_range h2
      have m1 := mul_range (x := a) (y := d) (by omega) (by omega)
      have m2 := mul_range (x := c) (y := b) (by omega) (by omega)
      have m3 := mul_range (x := b) (y := d) (by omega) (by omega)
      have m4 := mul_range (x := a) (y := c) (by omega) (by omega)
      have m5 := mul_range (x := b) (y := c) (by omega) (by omega)
      rw [h2] at k2
      simp only [Bool.and_self, if_true]
      have k3 := fun W => NewRational_s (a * c) (b * d) (by omega) W
      obtain ⟨p, q, t, e⟩ := newR_tuple (a * c) (b * d)
      rw [e] at k3 ⊢
      have Hh1 := Lib.hid h1; clear h1; have Hh2 := Lib.hid h2; clear h2; have Hk1 := Lib.hid k1; clear k1; have Hk2 := Lib.hid k2; clear k2; have Hk3 := Lib.hid k3; clear k3; have Hhb0 := Lib.hid hb0; clear hb0; have Hp1 := Lib.hid p1; clear p1; have Hp2 := Lib.hid p2; clear p2; have Hp3 := Lib.hid p3; clear p3; have He := Lib.hid e; clear e; have HR := Lib.hid R; clear R; have HS := Lib.hid S; clear S
      go_enter Try.func37, Try.ntmps37
      go_wp2_with (first | (go_at_call 23; ((with_reducible refine (Hk1.out _).mono ?_); rintro e w' ⟨rfl, hb1⟩; (have y1 := blockB hb1 Hp1.out; have y2 := blockB hb1 Hp2.out; have y3 := blockB hb1 Hp3.out; have u0 := cellAt y1 0; have u1 := cellAt y1 1; have u2 := cellAt y2 0; have u3 := cellAt y2 1; have t0 := cellAt y3 0; have t1 := cellAt y3 1; have f0 := frozen0 (j := 0) y3; have f1 := frozen0 (j := 1) y3; have Hy1 := Lib.hid y1; have Hy2 := Lib.hid y2; have Hy3 := Lib.hid y3; clear y1 y2 y3))) | (go_at_call 23; ((with_reducible refine (Hk2.out _).mono ?_); rintro e w' ⟨rfl, hb2⟩; (clear u0 u1 u2 u3 t0 t1 f0 f1; have y1 := blockB hb2 Hy1.out; have y2 := blockB hb2 Hy2.out; have y3 := blockB hb2 Hy3.out; have u0 := cellAt y1 0; have u1 := cellAt y1 1; have u2 := cellAt y2 0; have u3 := cellAt y2 1; have t0 := cellAt y3 0; have t1 := cellAt y3 1; have f0 := frozen0 (j := 0) y3; have f1 := frozen0 (j := 1) y3; have Hz1 := Lib.hid y1; have Hz2 := Lib.hid y2; have Hz3 := Lib.hid y3; clear y1 y2 y3))) | (go_at_call 28; ((with_reducible refine (Hk3.out _).mono ?_); rintro e w' ⟨rfl, hb3⟩; (clear u0 u1 u2 u3 t0 t1 f0 f1; have y3 := blockB hb3 Hz3.out; replace y3 := heapN y3 (.cells #[.int .i64 p, .int .i64 q] 25); have t0 := cellAt y3 0; have t1 := cellAt y3 1; have f0 := frozen0 (j := 0) y3; have f1 := frozen0 (j := 1) y3; clear y3))))
      have r0 := setCell_at t0 rfl
      have r1 := setCell_two (u := .int .i64 q) t1
      refine bodyPost_ret (v := .tuple #[.agg #[.int .i64 p, .int .i64 q], .bool t]) (by simp [results, Try.results37, go_sem, r0, r1]) rfl ⟨rfl, ?_⟩
      exact (((below_tr (below_tr (below_tr Hhb0.out hb1) hb2) hb3).alloc (below_tr (below_tr (below_tr Hhb0.out hb1) hb2) hb3).size _).setCell (by simp <;> omega) _).setCell (by simp <;> omega) _
theorem DivRational_s (a b c d : Int) (w : World) : Calls Try.prog 35 #[.agg #[.int .i64 a, .int .i64 b], .agg #[.int .i64 c, .int .i64 d]] w (RetB (divR a b c d) w) := by
  have k1 := fun W => IsValidRational_s a b W
  have k2 := fun W => IsValidRational_s c d W
  have hb0 : Below w.heap.size w (((w.alloc (.cells #[.int .i64 a, .int .i64 b] 25)).alloc (.cells #[.int .i64 c, .int .i64 d] 25)).alloc (.cells #[.int .i64 0, .int .i64 0] 25)) := (((Below.refl _ _).alloc (Nat.le_refl _) _).alloc (by simp) _).alloc (by simp; omega) _
  have p1 := heapN (heapN (heap_alloc_new w (.cells #[.int .i64 a, .int .i64 b] 25)) (.cells #[.int .i64 c, .int .i64 d] 25)) (.cells #[.int .i64 0, .int .i64 0] 25)
  have p2 := heapN (heap_new1 w (.cells #[.int .i64 a, .int .i64 b] 25) (.cells #[.int .i64 c, .int .i64 d] 25)) (.cells #[.int .i64 0, .int .i64 0] 25)
  have p3 := heap_new2 w (.cells #[.int .i64 a, .int .i64 b] 25) (.cells #[.int .i64 c, .int .i64 d] 25) (.cells #[.int .i64 0, .int .i64 0] 25)
  have q1 := cellAt p1 0
  have q2 := cellAt p1 1
  have q3 := cellAt p2 0
  have q4 := cellAt p2 1
  unfold divR
  cases h1 : rvalid a b
  · rw [h1] at k1
    simp only [Bool.false_and, Bool.false_eq_true, if_false, noR]
    have Hh1 := Lib.hid h1; clear h1; have Hk1 := Lib.hid k1; clear k1; have Hk2 := Lib.hid k2; clear k2; have Hhb0 := Lib.hid hb0; clear hb0; have Hp1 := Lib.hid p1; clear p1; have Hp2 := Lib.hid p2; clear p2; have Hp3 := Lib.hid p3; clear p3
    go_enter Try.func35, Try.ntmps35
    go_wp2_with ((go_at_call 23; ((with_reducible refine (Hk1.out _).mono ?_); rintro e w' ⟨rfl, hb1⟩; (have y1 := blockB hb1 Hp1.out; have y2 := blockB hb1 Hp2.out; have y3 := blockB hb1 Hp3.out; have u0 := cellAt y1 0; have u1 := cellAt y1 1; have u2 := cellAt y2 0; have u3 := cellAt y2 1; have t0 := cellAt y3 0; have t1 := cellAt y3 1; have f0 := frozen0 (j := 0) y3; have f1 := frozen0 (j := 1) y3; have Hy1 := Lib.hid y1; have Hy2 := Lib.hid y2; have Hy3 := Lib.hid y3; clear y1 y2 y3))))
    have r0 := setCell_at t0 rfl
    have r1 := setCell_two (u := .bool false) t1
    refine bodyPost_ret (v := .tuple #[ratV 0 0, .bool false]) (by simp [results, Try.results35, go_sem, ratV, r0, r1]) rfl ⟨rfl, ?_⟩
    exact ((below_tr Hhb0.out hb1).setCell (by simp <;> omega) _).setCell (by simp <;> omega) _
  · rw [h1] at k1
    cases h2 : rvalid c d
    · rw [h2] at k2
      simp only [Bool.and_false, Bool.false_eq_true, if_false, noR]
      have Hh1 := Lib.hid h1; clear h1; have Hh2 := Lib.hid h2; clear h2; have Hk1 := Lib.hid k1; clear k1; have Hk2 := Lib.hid k2; clear k2; have Hhb0 := Lib.hid hb0; clear hb0; have Hp1 := Lib.hid p1; clear p1; have Hp2 := Lib.hid p2; clear p2; have Hp3 := Lib.hid p3; clear p3
      go_enter Try.func35, Try.ntmps35
      go_wp2_with (first | (go_at_call 23; ((with_reducible refine (Hk1.out _).mono ?_); rintro e w' ⟨rfl, hb1⟩; (have y1 := blockB hb1 Hp1.out; have y2 := blockB hb1 Hp2.out; have y3 := blockB hb1 Hp3.out; have u0 := cellAt y1 0; have u1 := cellAt y1 1; have u2 := cellAt y2 0; have u3 := cellAt y2 1; have t0 := cellAt y3 0; have t1 := cellAt y3 1; have f0 := frozen0 (j := 0) y3; have f1 := frozen0 (j := 1) y3; have Hy1 := Lib.hid y1; have Hy2 := Lib.hid y2; have Hy3 := Lib.hid y3; clear y1 y2 y3))) | (go_at_call 23; ((with_reducible refine (Hk2.out _).mono ?_); rintro e w' ⟨rfl, hb2⟩; (clear u0 u1 u2 u3 t0 t1 f0 f1; have y1 := blockB hb2 Hy1.out; have y2 := blockB hb2 Hy2.out; have y3 := blockB hb2 Hy3.out; have u0 := cellAt y1 0; have u1 := cellAt y1 1; have u2 := cellAt y2 0; have u3 := cellAt y2 1; have t0 := cellAt y3 0; have t1 := cellAt y3 1; have f0 := frozen0 (j := 0) y3; have f1 := frozen0 (j := 1) y3; have Hz1 := Lib.hid y1; have Hz2 := Lib.hid y2; have Hz3 := Lib.hid y3; clear y1 y2 y3))))
      have r0 := setCell_at t0 rfl
      have r1 := setCell_two (u := .bool false) t1
      refine bodyPost_ret (v := .tuple #[ratV 0 0, .bool false]) (by simp [results, Try.results35, go_sem, ratV, r0, r1]) rfl ⟨rfl, ?_⟩
      exact ((below_tr (below_tr Hhb0.out hb1) hb2).setCell (by simp <;> omega) _).setCell (by simp <;> omega) _
    · have R := rvalid_range h1
      have S := rvalid_range h2
      have m1 := mul_range (x := a) (y := d) (by omega) (by omega)
      have m2 := mul_range (x := c) (y := b) (by omega) (by omega)
      have m3 := mul_range (x := b) (y := d) (by omega) (by omega)
      have m4 := mul_range (x := a) (y := c) (by omega) (by omega)
      have m5 := mul_range (x := b) (y := c) (by omega) (by omega)
      rw [h2] at k2
      simp only [Bool.and_self, if_true]
      have k3 := fun W => NewRational_s (a * d) (b * c) (by omega) W
      obtain ⟨p, q, t, e⟩ := newR_tuple (a * d) (b * c)
      rw [e] at k3 ⊢
      have Hh1 := Lib.hid h1; clear h1; have Hh2 := Lib.hid h2; clear h2; have Hk1 := Lib.hid k1; clear k1; have Hk2 := Lib.hid k2; clear k2; have Hk3 := Lib.hid k3; clear k3; have Hhb0 := Lib.hid hb0; clear hb0; have Hp1 := Lib.hid p1; clear p1; have Hp2 := Lib.hid p2; clear p2; have Hp3 := Lib.hid p3; clear p3; have He := Lib.hid e; clear e; have HR := Lib.hid R; clear R; have HS := Lib.hid S; clear S
      go_enter Try.func35, Try.ntmps35
      go_wp2_with (first | (go_at_call 23; ((with_reducible refine (Hk1.out _).mono ?_); rintro e w' ⟨rfl, hb1⟩; (have y1 := blockB hb1 Hp1.out; have y2 := blockB hb1 Hp2.out; have y3 := blockB hb1 Hp3.out; have u0 := cellAt y1 0; have u1 := cellAt y1 1; have u2 := cellAt y2 0; have u3 := cellAt y2 1; have t0 := cellAt y3 0; have t1 := cellAt y3 1; have f0 := frozen0 (j := 0) y3; have f1 := frozen0 (j := 1) y3; have Hy1 := Lib.hid y1; have Hy2 := Lib.hid y2; have Hy3 := Lib.hid y3; clear y1 y2 y3))) | (go_at_call 23; ((with_reducible refine (Hk2.out _).mono ?_); rintro e w' ⟨rfl, hb2⟩; (clear u0 u1 u2 u3 t0 t1 f0 f1; have y1 := blockB hb2 Hy1.out; have y2 := blockB hb2 Hy2.out; have y3 := blockB hb2 Hy3.out; have u0 := cellAt y1 0; have u1 := cellAt y1 1; have u2 := cellAt y2 0; have u3 := cellAt y2 1; have t0 := cellAt y3 0; have t1 := cellAt y3 1; have f0 := frozen0 (j := 0) y3; have f1 := frozen0 (j := 1) y3; have Hz1 := Lib.hid y1; have Hz2 := Lib.hid y2; have Hz3 := Lib.hid y3; clear y1 y2 y3))) | (go_at_call 28; ((with_reducible refine (Hk3.out _).mono ?_); rintro e w' ⟨rfl, hb3⟩; (clear u0 u1 u2 u3 t0 t1 f0 f1; have y3 := blockB hb3 Hz3.out; replace y3 := heapN y3 (.cells #[.int .i64 p, .int .i64 q] 25); have t0 := cellAt y3 0; have t1 := cellAt y3 1; have f0 := frozen0 (j := 0) y3; have f1 := frozen0 (j := 1) y3; clear y3))))
      have r0 := setCell_at t0 rfl
      have r1 := setCell_two (u := .int .i64 q) t1
      refine bodyPost_ret (v := .tuple #[.agg #[.int .i64 p, .int .i64 q], .bool t]) (by simp [results, Try.results35, go_sem, r0, r1]) rfl ⟨rfl, ?_⟩
      exact (((below_tr (below_tr (below_tr Hhb0.out hb1) hb2) hb3).alloc (below_tr (below_tr (below_tr Hhb0.out hb1) hb2) hb3).size _).setCell (by simp <;> omega) _).setCell (by simp <;> omega) _
theorem subR_eq (a b c d : Int) (hc : -9223372036854775808 ≤ c ∧ c ≤ 9223372036854775807) : addR a b (wrap64 (-c)) d = if rvalid c d then addR a b (-c) d else noR := by
  by_cases hm : c = -9223372036854775808
  · subst hm
    have h1 : rvalid (-9223372036854775808) d = false := by
      unfold rvalid; rw [inR_no (n := -9223372036854775808) (by omega)]; simp
    have h2 : wrap64 (-(-9223372036854775808)) = -9223372036854775808 := by unfold wrap64; decide
    rw [h2, h1]
    simp only [Bool.false_eq_true, if_false]
    unfold addR
    rw [h1]
    simp
  · rw [IntWalk.wrap64_in _ (by omega)]
    split
    · rfl
    · rename_i h
      unfold addR
      rw [rvalid_neg, Bool.eq_false_iff.2 h]
      simp
theorem SubRational_s (a b c d : Int) (w : World) : Calls Try.prog 41 #[.agg #[.int .i64 a, .int .i64 b], .agg #[.int .i64 c, .int .i64 d]] w (RetB (if rvalid c d then addR a b (-c) d else noR) w) := by
  have k1 := fun W => IsValidRational_s c d W
  have hb0 : Below w.heap.size w (((w.alloc (.cells #[.int .i64 a, .int .i64 b] 25)).alloc (.cells #[.int .i64 c, .int .i64 d] 25)).alloc (.cells #[.int .i64 0, .int .i64 0] 25)) := (((Below.refl _ _).alloc (Nat.le_refl _) _).alloc (by simp) _).alloc (by simp; omega) _
  have p1 := heapN (heapN (heap_alloc_new w (.cells #[.int .i64 a, .int .i64 b] 25)) (.cells #[.int .i64 c, .int .i64 d] 25)) (.cells #[.int .i64 0, .int .i64 0] 25)
  have p2 := heapN (heap_new1 w (.cells #[.int .i64 a, .int .i64 b] 25) (.cells #[.int .i64 c, .int .i64 d] 25)) (.cells #[.int .i64 0, .int .i64 0] 25)
  have p3 := heap_new2 w (.cells #[.int .i64 a, .int .i64 b] 25) (.cells #[.int .i64 c, .int .i64 d] 25) (.cells #[.int .i64 0, .int .i64 0] 25)
  have q1 := cellAt p1 0
  have q2 := cellAt p1 1
  have q3 := cellAt p2 0
  have q4 := cellAt p2 1
  cases h1 : rvalid c d
  · rw [h1] at k1
    simp only [Bool.false_eq_true, if_false, noR]
    have Hh1 := Lib.hid h1; clear h1; have Hk1 := Lib.hid k1; clear k1; have Hhb0 := Lib.hid hb0; clear hb0; have Hp1 := Lib.hid p1; clear p1; have Hp2 := Lib.hid p2; clear p2; have Hp3 := Lib.hid p3; clear p3
    go_enter Try.func41, Try.ntmps41
    go_wp2_with ((go_at_call 23; ((with_reducible refine (Hk1.out _).mono ?_); rintro e w' ⟨rfl, hb1⟩; (have y1 := blockB hb1 Hp1.out; have y2 := blockB hb1 Hp2.out; have y3 := blockB hb1 Hp3.out; have u0 := cellAt y1 0; have u1 := cellAt y1 1; have u2 := cellAt y2 0; have u3 := cellAt y2 1; have t0 := cellAt y3 0; have t1 := cellAt y3 1; have f0 := frozen0 (j := 0) y3; have f1 := frozen0 (j := 1) y3; have Hy1 := Lib.hid y1; have Hy2 := Lib.hid y2; have Hy3 := Lib.hid y3; clear y1 y2 y3))))
    have r0 := setCell_at t0 rfl
    have r1 := setCell_two (u := .bool false) t1
    refine bodyPost_ret (v := .tuple #[ratV 0 0, .bool false]) (by simp [results, Try.results41, go_sem, ratV, r0, r1]) rfl ⟨rfl, ?_⟩
    exact ((below_tr Hhb0.out hb1).setCell (by simp <;> omega) _).setCell (by simp <;> omega) _
  · have S := rvalid_range h1
    have k3 := fun W => AddRational_s a b (-c) d W
    obtain ⟨p, q, t, e⟩ := addR_tuple a b (-c) d
    rw [h1] at k1
    simp only [if_true]
    rw [e] at k3 ⊢
    have Hh1 := Lib.hid h1; clear h1; have Hk1 := Lib.hid k1; clear k1; have Hk3 := Lib.hid k3; clear k3; have Hhb0 := Lib.hid hb0; clear hb0; have Hp1 := Lib.hid p1; clear p1; have Hp2 := Lib.hid p2; clear p2; have Hp3 := Lib.hid p3; clear p3; have He := Lib.hid e; clear e
    go_enter Try.func41, Try.ntmps41
    go_wp2_with (first | (go_at_call 23; ((with_reducible refine (Hk1.out _).mono ?_); rintro e w' ⟨rfl, hb1⟩; (have y1 := blockB hb1 Hp1.out; have y2 := blockB hb1 Hp2.out; have y3 := blockB hb1 Hp3.out; have u0 := cellAt y1 0; have u1 := cellAt y1 1; have u2 := cellAt y2 0; have u3 := cellAt y2 1; have t0 := cellAt y3 0; have t1 := cellAt y3 1; have f0 := frozen0 (j := 0) y3; have f1 := frozen0 (j := 1) y3; have Hy1 := Lib.hid y1; have Hy2 := Lib.hid y2; have Hy3 := Lib.hid y3; clear y1 y2 y3))) | (go_at_call 33; ((with_reducible refine (Hk3.out _).mono ?_); rintro e w' ⟨rfl, hb3⟩; (clear u0 u1 u2 u3 t0 t1 f0 f1; have y3 := blockB hb3 Hy3.out; replace y3 := heapN y3 (.cells #[.int .i64 p, .int .i64 q] 25); have t0 := cellAt y3 0; have t1 := cellAt y3 1; have f0 := frozen0 (j := 0) y3; have f1 := frozen0 (j := 1) y3; clear y3))))
    have r0 := setCell_at t0 rfl
    have r1 := setCell_two (u := .int .i64 q) t1
    refine bodyPost_ret (v := .tuple #[.agg #[.int .i64 p, .int .i64 q], .bool t]) (by simp [results, Try.results41, go_sem, r0, r1]) rfl ⟨rfl, ?_⟩
    exact (((below_tr (below_tr Hhb0.out hb1) hb3).alloc (below_tr (below_tr Hhb0.out hb1) hb3).size _).setCell (by simp <;> omega) _).setCell (by simp <;> omega) _
theorem CompareRationals_s (a b c d : Int) (w : World) : Calls Try.prog 26 #[.agg #[.int .i64 a, .int .i64 b], .agg #[.int .i64 c, .int .i64 d]] w (RetB (.int .i64 (cmpR a b c d)) w) := by
  have k1 := fun W => IsValidRational_s a b W
  have k2 := fun W => IsValidRational_s c d W
  have hb0 : Below w.heap.size w ((w.alloc (.cells #[.int .i64 a, .int .i64 b] 25)).alloc (.cells #[.int .i64 c, .int .i64 d] 25)) := ((Below.refl _ _).alloc (Nat.le_refl _) _).alloc (by simp) _
  have p1 := heapN (heap_alloc_new w (.cells #[.int .i64 a, .int .i64 b] 25)) (.cells #[.int .i64 c, .int .i64 d] 25)
  have p2 := heap_new1 w (.cells #[.int .i64 a, .int .i64 b] 25) (.cells #[.int .i64 c, .int .i64 d] 25)
  have q1 := cellAt p1 0
  have q2 := cellAt p1 1
  have q3 := cellAt p2 0
  have q4 := cellAt p2 1
  unfold cmpR
  cases h1 : rvalid a b
  · rw [h1] at k1
    simp only [Bool.false_and, Bool.false_eq_true, if_false]
    have Hh1 := Lib.hid h1; clear h1; have Hk1 := Lib.hid k1; clear k1; have Hk2 := Lib.hid k2; clear k2; have Hhb0 := Lib.hid hb0; clear hb0; have Hp1 := Lib.hid p1; clear p1; have Hp2 := Lib.hid p2; clear p2
    go_enter Try.func26, Try.ntmps26
    go_wp2_with ((go_at_call 23; ((with_reducible refine (Hk1.out _).mono ?_); rintro e w' ⟨rfl, hb1⟩; (have y1 := blockB hb1 Hp1.out; have y2 := blockB hb1 Hp2.out; have u0 := cellAt y1 0; have u1 := cellAt y1 1; have u2 := cellAt y2 0; have u3 := cellAt y2 1; have Hy1 := Lib.hid y1; have Hy2 := Lib.hid y2; clear y1 y2))))
    go_ret
    exact ⟨rfl, below_tr Hhb0.out hb1⟩
  · rw [h1] at k1
    cases h2 : rvalid c d
    · rw [h2] at k2
      simp only [Bool.and_false, Bool.false_eq_true, if_false]
      have Hh1 := Lib.hid h1; clear h1; have Hh2 := Lib.hid h2; clear h2; have Hk1 := Lib.hid k1; clear k1; have Hk2 := Lib.hid k2; clear k2; have Hhb0 := Lib.hid hb0; clear hb0; have Hp1 := Lib.hid p1; clear p1; have Hp2 := Lib.hid p2; clear p2
      go_enter Try.func26, Try.ntmps26
      go_wp2_with (first | (go_at_call 23; ((with_reducible refine (Hk1.out _).mono ?_); rintro e w' ⟨rfl, hb1⟩; (have y1 := blockB hb1 Hp1.out; have y2 := blockB hb1 Hp2.out; have u0 := cellAt y1 0; have u1 := cellAt y1 1; have u2 := cellAt y2 0; have u3 := cellAt y2 1; have Hy1 := Lib.hid y1; have Hy2 := Lib.hid y2; clear y1 y2))) | (go_at_call 23; ((with_reducible refine (Hk2.out _).mono ?_); rintro e w' ⟨rfl, hb2⟩; (clear u0 u1 u2 u3; have y1 := blockB hb2 Hy1.out; have y2 := blockB hb2 Hy2.out; have u0 := cellAt y1 0; have u1 := cellAt y1 1; have u2 := cellAt y2 0; have u3 := cellAt y2 1; clear y1 y2))))
      go_ret
      exact ⟨rfl, below_tr (below_tr Hhb0.out hb1) hb2⟩
    · have R := rvalid_range h1
      have S := rvalid_range h2
      have m1 := mul_range (x := a) (y := d) (by omega) (by omega)
      have m2 := mul_range (x := c) (y := b) (by omega) (by omega)
      rw [h2] at k2
      simp only [Bool.and_self, if_true]
      unfold cmpI
      have Hh1 := Lib.hid h1; clear h1; have Hh2 := Lib.hid h2; clear h2; have Hk1 := Lib.hid k1; clear k1; have Hk2 := Lib.hid k2; clear k2; have Hhb0 := Lib.hid hb0; clear hb0; have Hp1 := Lib.hid p1; clear p1; have Hp2 := Lib.hid p2; clear p2; have HR := Lib.hid R; clear R; have HS := Lib.hid S; clear S
      by_cases hl : a * d < c * b
      · rw [if_pos hl]
        have dl : decide (a * d < c * b) = true := by rw [decide_eq_true_eq]; exact hl
        go_enter Try.func26, Try.ntmps26
        go_wp2_with (first | (go_at_call 23; ((with_reducible refine (Hk1.out _).mono ?_); rintro e w' ⟨rfl, hb1⟩; (have y1 := blockB hb1 Hp1.out; have y2 := blockB hb1 Hp2.out; have u0 := cellAt y1 0; have u1 := cellAt y1 1; have u2 := cellAt y2 0; have u3 := cellAt y2 1; have Hy1 := Lib.hid y1; have Hy2 := Lib.hid y2; clear y1 y2))) | (go_at_call 23; ((with_reducible refine (Hk2.out _).mono ?_); rintro e w' ⟨rfl, hb2⟩; (clear u0 u1 u2 u3; have y1 := blockB hb2 Hy1.out; have y2 := blockB hb2 Hy2.out; have u0 := cellAt y1 0; have u1 := cellAt y1 1; have u2 := cellAt y2 0; have u3 := cellAt y2 1; clear y1 y2))))
        go_ret
        exact ⟨rfl, below_tr (below_tr Hhb0.out hb1) hb2⟩
      · rw [if_neg hl]
        have dl : decide (a * d < c * b) = false := by rw [decide_eq_false_iff_not]; exact hl
        by_cases hg : c * b < a * d
        · rw [if_pos hg]
          have dg : decide (c * b < a * d) = true := by rw [decide_eq_true_eq]; exact hg
          go_enter Try.func26, Try.ntmps26
          go_wp2_with (first | (go_at_call 23; ((with_reducible refine (Hk1.out _).mono ?_); rintro e w' ⟨rfl, hb1⟩; (have y1 := blockB hb1 Hp1.out; have y2 := blockB hb1 Hp2.out; have u0 := cellAt y1 0; have u1 := cellAt y1 1; have u2 := cellAt y2 0; have u3 := cellAt y2 1; have Hy1 := Lib.hid y1; have Hy2 := Lib.hid y2; clear y1 y2))) | (go_at_call 23; ((with_reducible refine (Hk2.out _).mono ?_); rintro e w' ⟨rfl, hb2⟩; (clear u0 u1 u2 u3; have y1 := blockB hb2 Hy1.out; have y2 := blockB hb2 Hy2.out; have u0 := cellAt y1 0; have u1 := cellAt y1 1; have u2 := cellAt y2 0; have u3 := cellAt y2 1; clear y1 y2))))
          go_ret
          exact ⟨rfl, below_tr (below_tr Hhb0.out hb1) hb2⟩
        · rw [if_neg hg]
          have dg : decide (c * b < a * d) = false := by rw [decide_eq_false_iff_not]; exact hg
          go_enter Try.func26, Try.ntmps26
          go_wp2_with (first | (go_at_call 23; ((with_reducible refine (Hk1.out _).mono ?_); rintro e w' ⟨rfl, hb1⟩; (have y1 := blockB hb1 Hp1.out; have y2 := blockB hb1 Hp2.out; have u0 := cellAt y1 0; have u1 := cellAt y1 1; have u2 := cellAt y2 0; have u3 := cellAt y2 1; have Hy1 := Lib.hid y1; have Hy2 := Lib.hid y2; clear y1 y2))) | (go_at_call 23; ((with_reducible refine (Hk2.out _).mono ?_); rintro e w' ⟨rfl, hb2⟩; (clear u0 u1 u2 u3; have y1 := blockB hb2 Hy1.out; have y2 := blockB hb2 Hy2.out; have u0 := cellAt y1 0; have u1 := cellAt y1 1; have u2 := cellAt y2 0; have u3 := cellAt y2 1; clear y1 y2))))
          go_ret
          exact ⟨rfl, below_tr (below_tr Hhb0.out hb1) hb2⟩
end Go.Proofs.Ytkhphjapefijbaa
