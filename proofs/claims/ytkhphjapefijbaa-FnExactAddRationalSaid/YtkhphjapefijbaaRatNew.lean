/- NewRational, both: the quotient's normal form. (Written by mkratnew.py.) -/
import Derived.Test.YtkhphjapefijbaaRatS
namespace Go.Proofs.Ytkhphjapefijbaa
open Go.RowKit Go.Sort
set_option maxHeartbeats 2000000
set_option maxRecDepth 100000

def rG (n d : Int) : Nat := Nat.gcd n.natAbs d.natAbs
def rN (n d : Int) : Int := (if d < 0 then -n else n).tdiv (rG n d)
def rD (n d : Int) : Int := (if d < 0 then -d else d).tdiv (rG n d)
def rOk (n d : Int) : Bool := decide (d ≠ 0) && (inR n (-4000000000000000000) 4000000000000000000 && inR d (-4000000000000000000) 4000000000000000000) && rvalid (rN n d) (rD n d)
def ratV (a b : Int) : Value := .agg #[.int .i64 a, .int .i64 b]
def newR (n d : Int) : Value := if rOk n d then .tuple #[ratV (rN n d) (rD n d), .bool true] else .tuple #[ratV 0 0, .bool false]

theorem tdiv_range (n : Int) (g : Nat) (M : Int) (h : -M ≤ n ∧ n ≤ M) : -M ≤ n.tdiv g ∧ n.tdiv g ≤ M := by
  have h1 := Int.natAbs_tdiv_le_natAbs n (g : Int)
  omega
theorem newR_no {n d : Int} (h : d = 0 ∨ ¬ (-4000000000000000000 ≤ n ∧ n ≤ 4000000000000000000) ∨ ¬ (-4000000000000000000 ≤ d ∧ d ≤ 4000000000000000000)) : newR n d = .tuple #[ratV 0 0, .bool false] := by
  unfold newR rOk
  rcases h with h | h | h
  · simp [h]
  · rw [inR_no h]; simp
  · rw [inR_no h]; simp
theorem newR_in {n d : Int} (h0 : ¬ d = 0) (h1 : -4000000000000000000 ≤ n ∧ n ≤ 4000000000000000000) (h2 : -4000000000000000000 ≤ d ∧ d ≤ 4000000000000000000) :
    newR n d = if rvalid (rN n d) (rD n d) then .tuple #[ratV (rN n d) (rD n d), .bool true] else .tuple #[ratV 0 0, .bool false] := by
  unfold newR rOk
  rw [inR_yes h1, inR_yes h2]
  simp [h0]
theorem NewRational_i (n d : Int) (hd : -9223372036854775808 ≤ d ∧ d ≤ 9223372036854775807) (w : World) : Calls Try.prog 29 #[.int .i64 n, .int .i64 d] w (RetB (newR n d) w) := by
  by_cases h0 : d = 0
  · subst h0
    rw [newR_no (.inl rfl)]
    clear hd
    go_enter Try.func29, Try.ntmps29
    go_wp2_with fail
    exact bodyPost_ret (v := .tuple #[ratV 0 0, .bool false]) (by simp [results, Try.results29, go_sem, ratV]) rfl ⟨rfl, (Below.refl _ _).alloc (Nat.le_refl _) _⟩
  have d0 : (d == 0) = false := by rw [beq_eq_false_iff_ne]; exact h0
  by_cases h1 : -4000000000000000000 ≤ n ∧ n ≤ 4000000000000000000
  rotate_left
  · rw [newR_no (.inr (.inl h1))]
    have k1 := fun W => within_no n (-4000000000000000000) 4000000000000000000 h1 W
    clear hd
    have Hh0 := Lib.hid h0; clear h0; have Hh1 := Lib.hid h1; clear h1; have Hk1 := Lib.hid k1; clear k1
    go_enter Try.func29, Try.ntmps29
    go_wp2_with ((go_at_call 70; ((with_reducible refine (Hk1.out _).mono ?_); rintro e w' ⟨rfl, rfl⟩)))
    exact bodyPost_ret (v := .tuple #[ratV 0 0, .bool false]) (by simp [results, Try.results29, go_sem, ratV]) rfl ⟨rfl, (Below.refl _ _).alloc (Nat.le_refl _) _⟩
  by_cases h2 : -4000000000000000000 ≤ d ∧ d ≤ 4000000000000000000
  rotate_left
  · rw [newR_no (.inr (.inr h2))]
    have k1 := fun W => within_yes n (-4000000000000000000) 4000000000000000000 h1 W
    have k2 := fun W => within_no d (-4000000000000000000) 4000000000000000000 h2 W
    clear hd
    have Hh0 := Lib.hid h0; clear h0; have Hh1 := Lib.hid h1; clear h1; have Hh2 := Lib.hid h2; clear h2; have Hk1 := Lib.hid k1; clear k1; have Hk2 := Lib.hid k2; clear k2
    go_enter Try.func29, Try.ntmps29
    go_wp2_with (first | (go_at_call 70; ((with_reducible refine (Hk1.out _).mono ?_); rintro e w' ⟨rfl, rfl⟩)) | (go_at_call 70; ((with_reducible refine (Hk2.out _).mono ?_); rintro e w' ⟨rfl, rfl⟩)))
    exact bodyPost_ret (v := .tuple #[ratV 0 0, .bool false]) (by simp [results, Try.results29, go_sem, ratV]) rfl ⟨rfl, (Below.refl _ _).alloc (Nat.le_refl _) _⟩
  rw [newR_in h0 h1 h2]
  have k1 := fun W => within_yes n (-4000000000000000000) 4000000000000000000 h1 W
  have k2 := fun W => within_yes d (-4000000000000000000) 4000000000000000000 h2 W
  clear hd
  have b1 : -4000000000000000000 ≤ n := h1.1
  have b2 : n ≤ 4000000000000000000 := h1.2
  have b3 : -4000000000000000000 ≤ d := h2.1
  have b4 : d ≤ 4000000000000000000 := h2.2
  have hG : (rG n d : Int) ≠ 0 := by
    unfold rG
    have := Nat.gcd_pos_of_pos_right n.natAbs (show 0 < d.natAbs by omega)
    omega
  have c1 : -4000000000000000000 ≤ rN n d ∧ rN n d ≤ 4000000000000000000 := tdiv_range _ _ _ (by split <;> omega)
  have c2 : -4000000000000000000 ≤ rD n d ∧ rD n d ≤ 4000000000000000000 := tdiv_range _ _ _ (by split <;> omega)
  have k5 := fun W => IsValidRational_i (rN n d) (rD n d) W
  by_cases hs : d < 0
  · have ds : decide (d < 0) = true := by rw [decide_eq_true_eq]; exact hs
    obtain ⟨m, hm⟩ := Int.eq_ofNat_of_zero_le (show 0 ≤ (-d) by omega)
    have hdm : d.natAbs = m := by omega
    have eG : n.natAbs.gcd m = rG n d := by unfold rG; rw [hdm]
    have en : ((-n)).tdiv (rG n d : Int) = rN n d := by unfold rN; rw [if_pos hs]
    have ed : (m : Int).tdiv (rG n d : Int) = rD n d := by unfold rD; rw [if_pos hs, hm]
    have k3 := fun W => abs_i (-n) (by omega) W
    rw [Int.natAbs_neg] at k3
    have k4 := fun W => gcd_i n.natAbs m (by omega) (by omega) W
    rw [eG] at k4
    have Hh0 := Lib.hid h0; clear h0; have Hh1 := Lib.hid h1; clear h1; have Hh2 := Lib.hid h2; clear h2; have Hk1 := Lib.hid k1; clear k1; have Hk2 := Lib.hid k2; clear k2; have Hk3 := Lib.hid k3; clear k3; have Hk4 := Lib.hid k4; clear k4; have Hhs := Lib.hid hs; clear hs; have HeG := Lib.hid eG; clear eG; have Hhdm := Lib.hid hdm; clear hdm
    cases hv : rvalid (rN n d) (rD n d)
    · rw [hv] at k5
      simp only [Bool.false_eq_true, if_false]
      have Hhv := Lib.hid hv; clear hv; have Hk5 := Lib.hid k5; clear k5
      go_enter Try.func29, Try.ntmps29
      go_wp2_with (first | (go_at_call 70; ((with_reducible refine (Hk1.out _).mono ?_); rintro e w' ⟨rfl, rfl⟩)) | (go_at_call 70; ((with_reducible refine (Hk2.out _).mono ?_); rintro e w' ⟨rfl, rfl⟩)) | (go_at_call 72; ((with_reducible refine (Hk3.out _).mono ?_); rintro e w' ⟨rfl, rfl⟩)) | (go_at_call 71; ((with_reducible refine (Hk4.out _).mono ?_); rintro e w' ⟨rfl, hb1⟩)))
      generalize rG n d = G at *
      have yt := blockB hb1 (heap_alloc_new w (.cells #[.int .i64 0, .int .i64 0] 25))
      have lt0 := lt_of_heap yt
      replace hb1 := ((Below.refl w.heap.size w).alloc (Nat.le_refl _) _).trans (hb1.mono (by simp))
      refine wp_region_flow 8 [] [[], [], [0, 1], [], [], [3, 4], [2, 5], []] [Fact.is (.int .i64 (-n)), Fact.is (.int .i64 (G : Int)), Fact.is (.int .i64 (rN n d)), Fact.is (.int .i64 (m : Int)), Fact.is (.int .i64 (G : Int)), Fact.is (.int .i64 (rD n d)), Fact.is (.agg #[.int .i64 (rN n d), .int .i64 (rD n d)]), Fact.new w' 25 #[.int .i64 0, .int .i64 0]] (by kernel_rfl) (by kernel_rfl) (by intro c d v a w h; cases d <;> exact h) (And.intro ?op0_1 (And.intro ?op1_1 (And.intro ?op2_1 (And.intro ?op3_1 (And.intro ?op4_1 (And.intro ?op5_1 (And.intro ?op6_1 (And.intro ?op7_1 trivial)))))))) ?fin_1
      case op0_1 => (change flowStep _ _ _ _ _ _ _ _; intro wf vs hbf hf; obtain ⟨-⟩ := hf; show wpList _ _ _ _ ⟨_, _⟩ _; go_wp2_with (fail); first | exact ⟨rfl, rfl, ⟨_, _, rfl, rfl, rfl⟩, by first | with_reducible exact Below.refl _ _ | assumption | with_reducible exact (Below.refl _ _).drew | with_reducible exact (Below.refl _ _).alloc (Nat.le_refl _) _⟩ | exact ⟨rfl, rfl, ⟨_, _, rfl, rfl, ⟨_, rfl, Below.size (by assumption), heap_alloc_new _ _⟩⟩, (Below.refl _ _).alloc (Nat.le_refl _) _⟩)
      case op1_1 => (change flowStep _ _ _ _ _ _ _ _; intro wf vs hbf hf; obtain ⟨-⟩ := hf; show wpList _ _ _ _ ⟨_, _⟩ _; go_wp2_with (fail); first | exact ⟨rfl, rfl, ⟨_, _, rfl, rfl, rfl⟩, by first | with_reducible exact Below.refl _ _ | assumption | with_reducible exact (Below.refl _ _).drew | with_reducible exact (Below.refl _ _).alloc (Nat.le_refl _) _⟩ | exact ⟨rfl, rfl, ⟨_, _, rfl, rfl, ⟨_, rfl, Below.size (by assumption), heap_alloc_new _ _⟩⟩, (Below.refl _ _).alloc (Nat.le_refl _) _⟩)
      case op2_1 => (change flowStep _ _ _ _ _ _ _ _; intro wf vs hbf hf; obtain ⟨e0, e1, -⟩ := hf; replace e0 : vs 0 = .int .i64 (-n) := e0; replace e1 : vs 1 = .int .i64 (G : Int) := e1; show wpList _ _ _ _ (Act.put (Act.put _ (some 31) (vs 0)) (some 32) (vs 1)) _; rw [e0, e1]; go_wp2_with (fail); first | exact ⟨rfl, rfl, ⟨_, _, rfl, rfl, rfl⟩, by first | with_reducible exact Below.refl _ _ | assumption | with_reducible exact (Below.refl _ _).drew | with_reducible exact (Below.refl _ _).alloc (Nat.le_refl _) _⟩ | exact ⟨rfl, rfl, ⟨_, _, rfl, rfl, ⟨_, rfl, Below.size (by assumption), heap_alloc_new _ _⟩⟩, (Below.refl _ _).alloc (Nat.le_refl _) _⟩)
      case op3_1 => (change flowStep _ _ _ _ _ _ _ _; intro wf vs hbf hf; obtain ⟨-⟩ := hf; show wpList _ _ _ _ ⟨_, _⟩ _; go_wp2_with (fail); first | exact ⟨rfl, rfl, ⟨_, _, rfl, rfl, rfl⟩, by first | with_reducible exact Below.refl _ _ | assumption | with_reducible exact (Below.refl _ _).drew | with_reducible exact (Below.refl _ _).alloc (Nat.le_refl _) _⟩ | exact ⟨rfl, rfl, ⟨_, _, rfl, rfl, ⟨_, rfl, Below.size (by assumption), heap_alloc_new _ _⟩⟩, (Below.refl _ _).alloc (Nat.le_refl _) _⟩)
      case op4_1 => (change flowStep _ _ _ _ _ _ _ _; intro wf vs hbf hf; obtain ⟨-⟩ := hf; show wpList _ _ _ _ ⟨_, _⟩ _; go_wp2_with (fail); first | exact ⟨rfl, rfl, ⟨_, _, rfl, rfl, rfl⟩, by first | with_reducible exact Below.refl _ _ | assumption | with_reducible exact (Below.refl _ _).drew | with_reducible exact (Below.refl _ _).alloc (Nat.le_refl _) _⟩ | exact ⟨rfl, rfl, ⟨_, _, rfl, rfl, ⟨_, rfl, Below.size (by assumption), heap_alloc_new _ _⟩⟩, (Below.refl _ _).alloc (Nat.le_refl _) _⟩)
      case op5_1 => (change flowStep _ _ _ _ _ _ _ _; intro wf vs hbf hf; obtain ⟨e3, e4, -⟩ := hf; replace e3 : vs 3 = .int .i64 (m : Int) := e3; replace e4 : vs 4 = .int .i64 (G : Int) := e4; show wpList _ _ _ _ (Act.put (Act.put _ (some 34) (vs 3)) (some 35) (vs 4)) _; rw [e3, e4]; go_wp2_with (fail); first | exact ⟨rfl, rfl, ⟨_, _, rfl, rfl, rfl⟩, by first | with_reducible exact Below.refl _ _ | assumption | with_reducible exact (Below.refl _ _).drew | with_reducible exact (Below.refl _ _).alloc (Nat.le_refl _) _⟩ | exact ⟨rfl, rfl, ⟨_, _, rfl, rfl, ⟨_, rfl, Below.size (by assumption), heap_alloc_new _ _⟩⟩, (Below.refl _ _).alloc (Nat.le_refl _) _⟩)
      case op6_1 => (change flowStep _ _ _ _ _ _ _ _; intro wf vs hbf hf; obtain ⟨e2, e5, -⟩ := hf; replace e2 : vs 2 = .int .i64 (rN n d) := e2; replace e5 : vs 5 = .int .i64 (rD n d) := e5; show wpList _ _ _ _ (Act.put (Act.put _ (some 33) (vs 2)) (some 36) (vs 5)) _; rw [e2, e5]; go_wp2_with (fail); first | exact ⟨rfl, rfl, ⟨_, _, rfl, rfl, rfl⟩, by first | with_reducible exact Below.refl _ _ | assumption | with_reducible exact (Below.refl _ _).drew | with_reducible exact (Below.refl _ _).alloc (Nat.le_refl _) _⟩ | exact ⟨rfl, rfl, ⟨_, _, rfl, rfl, ⟨_, rfl, Below.size (by assumption), heap_alloc_new _ _⟩⟩, (Below.refl _ _).alloc (Nat.le_refl _) _⟩)
      case op7_1 => (change flowStep _ _ _ _ _ _ _ _; intro wf vs hbf hf; obtain ⟨-⟩ := hf; show wpList _ _ _ _ ⟨_, _⟩ _; go_wp2_with (fail); first | exact ⟨rfl, rfl, ⟨_, _, rfl, rfl, rfl⟩, by first | with_reducible exact Below.refl _ _ | assumption | with_reducible exact (Below.refl _ _).drew | with_reducible exact (Below.refl _ _).alloc (Nat.le_refl _) _⟩ | exact ⟨rfl, rfl, ⟨_, _, rfl, rfl, ⟨_, rfl, Below.size (by assumption), heap_alloc_new _ _⟩⟩, (Below.refl _ _).alloc (Nat.le_refl _) _⟩)
      intro wf vs hbf hf; obtain ⟨e0, e1, e2, e3, e4, e5, e6, ⟨g7, e7, b7, y7⟩, -⟩ := hf; replace e0 : vs 0 = .int .i64 (-n) := e0; replace e1 : vs 1 = .int .i64 (G : Int) := e1; replace e2 : vs 2 = .int .i64 (rN n d) := e2; replace e3 : vs 3 = .int .i64 (m : Int) := e3; replace e4 : vs 4 = .int .i64 (G : Int) := e4; replace e5 : vs 5 = .int .i64 (rD n d) := e5; replace e6 : vs 6 = .agg #[.int .i64 (rN n d), .int .i64 (rD n d)] := e6; show wpList _ _ _ _ (Act.put (Act.put (Act.put (Act.put (Act.put (Act.put (Act.put (Act.put _ (some 31) (vs 0)) (some 32) (vs 1)) (some 33) (vs 2)) (some 34) (vs 3)) (some 35) (vs 4)) (some 36) (vs 5)) (some 37) (vs 6)) (some 7) (vs 7)) _; rw [e0, e1, e2, e3, e4, e5, e6, e7]; simp only [Act.put, List.setIfInBounds_toArray, List.set_cons_succ, List.set_cons_zero, List.drop_succ_cons, List.drop_zero]
      replace yt := blockB hbf yt
      refine wp_store_new rfl 25 (.tmp 7) (.tmp 37) rfl g7 #[.int .i64 (rN n d), .int .i64 (rD n d)] rfl rfl 25 _ y7 (by kernel_rfl) rfl (by simp [Value.oneCell']) ?_
      intro w2 y2 hb2 ho2
      replace yt := (ho2 _ (by omega)).trans yt
      replace hb1 := (hb1.trans (hbf.mono hb1.size)).trans (hb2.mono (by have := hb1.size; omega))
      clear lt0
      have z0 : w2.cell? ⟨g7, 0, none⟩ = some (.int .i64 (rN n d)) := cellAt y2 0
      have z1 : w2.cell? ⟨g7, 1, none⟩ = some (.int .i64 (rD n d)) := cellAt y2 1
      go_wp2_with ((go_at_call 25; ((with_reducible refine (Hk5.out _).mono ?_); rintro e w' ⟨rfl, hb5⟩; (have y3 := blockB hb5 yt; have t0 := cellAt y3 0; have t1 := cellAt y3 1; have f0 := frozen0 (j := 0) y3; have f1 := frozen0 (j := 1) y3; replace z0 := cellB hb5 z0; replace z1 := cellB hb5 z1))))
      have r0 := setCell_at t0 rfl
      have r1 := setCell_two (u := .bool false) t1
      refine bodyPost_ret (v := .tuple #[ratV 0 0, .bool false]) (by simp [results, Try.results29, go_sem, ratV, r0, r1]) rfl ⟨rfl, ?_⟩
      exact ((hb1.trans (hb5.mono hb1.size)).setCell (Nat.le_refl _) _).setCell (Nat.le_refl _) _
    · rw [hv] at k5
      simp only [if_true]
      have Hhv := Lib.hid hv; clear hv; have Hk5 := Lib.hid k5; clear k5
      go_enter Try.func29, Try.ntmps29
      go_wp2_with (first | (go_at_call 70; ((with_reducible refine (Hk1.out _).mono ?_); rintro e w' ⟨rfl, rfl⟩)) | (go_at_call 70; ((with_reducible refine (Hk2.out _).mono ?_); rintro e w' ⟨rfl, rfl⟩)) | (go_at_call 72; ((with_reducible refine (Hk3.out _).mono ?_); rintro e w' ⟨rfl, rfl⟩)) | (go_at_call 71; ((with_reducible refine (Hk4.out _).mono ?_); rintro e w' ⟨rfl, hb1⟩)))
      generalize rG n d = G at *
      have yt := blockB hb1 (heap_alloc_new w (.cells #[.int .i64 0, .int .i64 0] 25))
      have lt0 := lt_of_heap yt
      replace hb1 := ((Below.refl w.heap.size w).alloc (Nat.le_refl _) _).trans (hb1.mono (by simp))
      refine wp_region_flow 8 [] [[], [], [0, 1], [], [], [3, 4], [2, 5], []] [Fact.is (.int .i64 (-n)), Fact.is (.int .i64 (G : Int)), Fact.is (.int .i64 (rN n d)), Fact.is (.int .i64 (m : Int)), Fact.is (.int .i64 (G : Int)), Fact.is (.int .i64 (rD n d)), Fact.is (.agg #[.int .i64 (rN n d), .int .i64 (rD n d)]), Fact.new w' 25 #[.int .i64 0, .int .i64 0]] (by kernel_rfl) (by kernel_rfl) (by intro c d v a w h; cases d <;> exact h) (And.intro ?op0_2 (And.intro ?op1_2 (And.intro ?op2_2 (And.intro ?op3_2 (And.intro ?op4_2 (And.intro ?op5_2 (And.intro ?op6_2 (And.intro ?op7_2 trivial)))))))) ?fin_2
      case op0_2 => (change flowStep _ _ _ _ _ _ _ _; intro wf vs hbf hf; obtain ⟨-⟩ := hf; show wpList _ _ _ _ ⟨_, _⟩ _; go_wp2_with (fail); first | exact ⟨rfl, rfl, ⟨_, _, rfl, rfl, rfl⟩, by first | with_reducible exact Below.refl _ _ | assumption | with_reducible exact (Below.refl _ _).drew | with_reducible exact (Below.refl _ _).alloc (Nat.le_refl _) _⟩ | exact ⟨rfl, rfl, ⟨_, _, rfl, rfl, ⟨_, rfl, Below.size (by assumption), heap_alloc_new _ _⟩⟩, (Below.refl _ _).alloc (Nat.le_refl _) _⟩)
      case op1_2 => (change flowStep _ _ _ _ _ _ _ _; intro wf vs hbf hf; obtain ⟨-⟩ := hf; show wpList _ _ _ _ ⟨_, _⟩ _; go_wp2_with (fail); first | exact ⟨rfl, rfl, ⟨_, _, rfl, rfl, rfl⟩, by first | with_reducible exact Below.refl _ _ | assumption | with_reducible exact (Below.refl _ _).drew | with_reducible exact (Below.refl _ _).alloc (Nat.le_refl _) _⟩ | exact ⟨rfl, rfl, ⟨_, _, rfl, rfl, ⟨_, rfl, Below.size (by assumption), heap_alloc_new _ _⟩⟩, (Below.refl _ _).alloc (Nat.le_refl _) _⟩)
      case op2_2 => (change flowStep _ _ _ _ _ _ _ _; intro wf vs hbf hf; obtain ⟨e0, e1, -⟩ := hf; replace e0 : vs 0 = .int .i64 (-n) := e0; replace e1 : vs 1 = .int .i64 (G : Int) := e1; show wpList _ _ _ _ (Act.put (Act.put _ (some 31) (vs 0)) (some 32) (vs 1)) _; rw [e0, e1]; go_wp2_with (fail); first | exact ⟨rfl, rfl, ⟨_, _, rfl, rfl, rfl⟩, by first | with_reducible exact Below.refl _ _ | assumption | with_reducible exact (Below.refl _ _).drew | with_reducible exact (Below.refl _ _).alloc (Nat.le_refl _) _⟩ | exact ⟨rfl, rfl, ⟨_, _, rfl, rfl, ⟨_, rfl, Below.size (by assumption), heap_alloc_new _ _⟩⟩, (Below.refl _ _).alloc (Nat.le_refl _) _⟩)
      case op3_2 => (change flowStep _ _ _ _ _ _ _ _; intro wf vs hbf hf; obtain ⟨-⟩ := hf; show wpList _ _ _ _ ⟨_, _⟩ _; go_wp2_with (fail); first | exact ⟨rfl, rfl, ⟨_, _, rfl, rfl, rfl⟩, by first | with_reducible exact Below.refl _ _ | assumption | with_reducible exact (Below.refl _ _).drew | with_reducible exact (Below.refl _ _).alloc (Nat.le_refl _) _⟩ | exact ⟨rfl, rfl, ⟨_, _, rfl, rfl, ⟨_, rfl, Below.size (by assumption), heap_alloc_new _ _⟩⟩, (Below.refl _ _).alloc (Nat.le_refl _) _⟩)
      case op4_2 => (change flowStep _ _ _ _ _ _ _ _; intro wf vs hbf hf; obtain ⟨-⟩ := hf; show wpList _ _ _ _ ⟨_, _⟩ _; go_wp2_with (fail); first | exact ⟨rfl, rfl, ⟨_, _, rfl, rfl, rfl⟩, by first | with_reducible exact Below.refl _ _ | assumption | with_reducible exact (Below.refl _ _).drew | with_reducible exact (Below.refl _ _).alloc (Nat.le_refl _) _⟩ | exact ⟨rfl, rfl, ⟨_, _, rfl, rfl, ⟨_, rfl, Below.size (by assumption), heap_alloc_new _ _⟩⟩, (Below.refl _ _).alloc (Nat.le_refl _) _⟩)
      case op5_2 => (change flowStep _ _ _ _ _ _ _ _; intro wf vs hbf hf; obtain ⟨e3, e4, -⟩ := hf; replace e3 : vs 3 = .int .i64 (m : Int) := e3; replace e4 : vs 4 = .int .i64 (G : Int) := e4; show wpList _ _ _ _ (Act.put (Act.put _ (some 34) (vs 3)) (some 35) (vs 4)) _; rw [e3, e4]; go_wp2_with (fail); first | exact ⟨rfl, rfl, ⟨_, _, rfl, rfl, rfl⟩, by first | with_reducible exact Below.refl _ _ | assumption | with_reducible exact (Below.refl _ _).drew | with_reducible exact (Below.refl _ _).alloc (Nat.le_refl _) _⟩ | exact ⟨rfl, rfl, ⟨_, _, rfl, rfl, ⟨_, rfl, Below.size (by assumption), heap_alloc_new _ _⟩⟩, (Below.refl _ _).alloc (Nat.le_refl _) _⟩)
      case op6_2 => (change flowStep _ _ _ _ _ _ _ _; intro wf vs hbf hf; obtain ⟨e2, e5, -⟩ := hf; replace e2 : vs 2 = .int .i64 (rN n d) := e2; replace e5 : vs 5 = .int .i64 (rD n d) := e5; show wpList _ _ _ _ (Act.put (Act.put _ (some 33) (vs 2)) (some 36) (vs 5)) _; rw [e2, e5]; go_wp2_with (fail); first | exact ⟨rfl, rfl, ⟨_, _, rfl, rfl, rfl⟩, by first | with_reducible exact Below.refl _ _ | assumption | with_reducible exact (Below.refl _ _).drew | with_reducible exact (Below.refl _ _).alloc (Nat.le_refl _) _⟩ | exact ⟨rfl, rfl, ⟨_, _, rfl, rfl, ⟨_, rfl, Below.size (by assumption), heap_alloc_new _ _⟩⟩, (Below.refl _ _).alloc (Nat.le_refl _) _⟩)
      case op7_2 => (change flowStep _ _ _ _ _ _ _ _; intro wf vs hbf hf; obtain ⟨-⟩ := hf; show wpList _ _ _ _ ⟨_, _⟩ _; go_wp2_with (fail); first | exact ⟨rfl, rfl, ⟨_, _, rfl, rfl, rfl⟩, by first | with_reducible exact Below.refl _ _ | assumption | with_reducible exact (Below.refl _ _).drew | with_reducible exact (Below.refl _ _).alloc (Nat.le_refl _) _⟩ | exact ⟨rfl, rfl, ⟨_, _, rfl, rfl, ⟨_, rfl, Below.size (by assumption), heap_alloc_new _ _⟩⟩, (Below.refl _ _).alloc (Nat.le_refl _) _⟩)
      intro wf vs hbf hf; obtain ⟨e0, e1, e2, e3, e4, e5, e6, ⟨g7, e7, b7, y7⟩, -⟩ := hf; replace e0 : vs 0 = .int .i64 (-n) := e0; replace e1 : vs 1 = .int .i64 (G : Int) := e1; replace e2 : vs 2 = .int .i64 (rN n d) := e2; replace e3 : vs 3 = .int .i64 (m : Int) := e3; replace e4 : vs 4 = .int .i64 (G : Int) := e4; replace e5 : vs 5 = .int .i64 (rD n d) := e5; replace e6 : vs 6 = .agg #[.int .i64 (rN n d), .int .i64 (rD n d)] := e6; show wpList _ _ _ _ (Act.put (Act.put (Act.put (Act.put (Act.put (Act.put (Act.put (Act.put _ (some 31) (vs 0)) (some 32) (vs 1)) (some 33) (vs 2)) (some 34) (vs 3)) (some 35) (vs 4)) (some 36) (vs 5)) (some 37) (vs 6)) (some 7) (vs 7)) _; rw [e0, e1, e2, e3, e4, e5, e6, e7]; simp only [Act.put, List.setIfInBounds_toArray, List.set_cons_succ, List.set_cons_zero, List.drop_succ_cons, List.drop_zero]
      replace yt := blockB hbf yt
      refine wp_store_new rfl 25 (.tmp 7) (.tmp 37) rfl g7 #[.int .i64 (rN n d), .int .i64 (rD n d)] rfl rfl 25 _ y7 (by kernel_rfl) rfl (by simp [Value.oneCell']) ?_
      intro w2 y2 hb2 ho2
      replace yt := (ho2 _ (by omega)).trans yt
      replace hb1 := (hb1.trans (hbf.mono hb1.size)).trans (hb2.mono (by have := hb1.size; omega))
      clear lt0
      have z0 : w2.cell? ⟨g7, 0, none⟩ = some (.int .i64 (rN n d)) := cellAt y2 0
      have z1 : w2.cell? ⟨g7, 1, none⟩ = some (.int .i64 (rD n d)) := cellAt y2 1
      go_wp2_with ((go_at_call 25; ((with_reducible refine (Hk5.out _).mono ?_); rintro e w' ⟨rfl, hb5⟩; (have y3 := blockB hb5 yt; have t0 := cellAt y3 0; have t1 := cellAt y3 1; have f0 := frozen0 (j := 0) y3; have f1 := frozen0 (j := 1) y3; replace z0 := cellB hb5 z0; replace z1 := cellB hb5 z1))))
      have r0 := setCell_at t0 rfl
      have r1 := setCell_two (u := .bool false) t1
      refine bodyPost_ret (v := .tuple #[ratV (rN n d) (rD n d), .bool true]) (by simp [results, Try.results29, go_sem, ratV, r0, r1]) rfl ⟨rfl, ?_⟩
      exact ((hb1.trans (hb5.mono hb1.size)).setCell (Nat.le_refl _) _).setCell (Nat.le_refl _) _
  · have ds : decide (d < 0) = false := by rw [decide_eq_false_iff_not]; exact hs
    obtain ⟨m, rfl⟩ := Int.eq_ofNat_of_zero_le (show 0 ≤ d by omega)
    have hdm : (m : Int).natAbs = m := by omega
    have eG : n.natAbs.gcd m = rG n (m : Int) := by unfold rG; rw [hdm]
    have en : (n).tdiv (rG n (m : Int) : Int) = rN n (m : Int) := by unfold rN; rw [if_neg hs]
    have ed : (m : Int).tdiv (rG n (m : Int) : Int) = rD n (m : Int) := by unfold rD; rw [if_neg hs]
    have k3 := fun W => abs_i n (by omega) W
    have k4 := fun W => gcd_i n.natAbs m (by omega) (by omega) W
    rw [eG] at k4
    have Hh0 := Lib.hid h0; clear h0; have Hh1 := Lib.hid h1; clear h1; have Hh2 := Lib.hid h2; clear h2; have Hk1 := Lib.hid k1; clear k1; have Hk2 := Lib.hid k2; clear k2; have Hk3 := Lib.hid k3; clear k3; have Hk4 := Lib.hid k4; clear k4; have Hhs := Lib.hid hs; clear hs; have HeG := Lib.hid eG; clear eG; have Hhdm := Lib.hid hdm; clear hdm
    cases hv : rvalid (rN n (m : Int)) (rD n (m : Int))
    · rw [hv] at k5
      simp only [Bool.false_eq_true, if_false]
      have Hhv := Lib.hid hv; clear hv; have Hk5 := Lib.hid k5; clear k5
      go_enter Try.func29, Try.ntmps29
      go_wp2_with (first | (go_at_call 70; ((with_reducible refine (Hk1.out _).mono ?_); rintro e w' ⟨rfl, rfl⟩)) | (go_at_call 70; ((with_reducible refine (Hk2.out _).mono ?_); rintro e w' ⟨rfl, rfl⟩)) | (go_at_call 72; ((with_reducible refine (Hk3.out _).mono ?_); rintro e w' ⟨rfl, rfl⟩)) | (go_at_call 71; ((with_reducible refine (Hk4.out _).mono ?_); rintro e w' ⟨rfl, hb1⟩)))
      generalize rG n (m : Int) = G at *
      have yt := blockB hb1 (heap_alloc_new w (.cells #[.int .i64 0, .int .i64 0] 25))
      have lt0 := lt_of_heap yt
      replace hb1 := ((Below.refl w.heap.size w).alloc (Nat.le_refl _) _).trans (hb1.mono (by simp))
      refine wp_region_flow 8 [] [[], [], [0, 1], [], [], [3, 4], [2, 5], []] [Fact.is (.int .i64 n), Fact.is (.int .i64 (G : Int)), Fact.is (.int .i64 (rN n (m : Int))), Fact.is (.int .i64 (m : Int)), Fact.is (.int .i64 (G : Int)), Fact.is (.int .i64 (rD n (m : Int))), Fact.is (.agg #[.int .i64 (rN n (m : Int)), .int .i64 (rD n (m : Int))]), Fact.new w' 25 #[.int .i64 0, .int .i64 0]] (by kernel_rfl) (by kernel_rfl) (by intro c d v a w h; cases d <;> exact h) (And.intro ?op0_3 (And.intro ?op1_3 (And.intro ?op2_3 (And.intro ?op3_3 (And.intro ?op4_3 (And.intro ?op5_3 (And.intro ?op6_3 (And.intro ?op7_3 trivial)))))))) ?fin_3
      case op0_3 => (change flowStep _ _ _ _ _ _ _ _; intro wf vs hbf hf; obtain ⟨-⟩ := hf; show wpList _ _ _ _ ⟨_, _⟩ _; go_wp2_with (fail); first | exact ⟨rfl, rfl, ⟨_, _, rfl, rfl, rfl⟩, by first | with_reducible exact Below.refl _ _ | assumption | with_reducible exact (Below.refl _ _).drew | with_reducible exact (Below.refl _ _).alloc (Nat.le_refl _) _⟩ | exact ⟨rfl, rfl, ⟨_, _, rfl, rfl, ⟨_, rfl, Below.size (by assumption), heap_alloc_new _ _⟩⟩, (Below.refl _ _).alloc (Nat.le_refl _) _⟩)
      case op1_3 => (change flowStep _ _ _ _ _ _ _ _; intro wf vs hbf hf; obtain ⟨-⟩ := hf; show wpList _ _ _ _ ⟨_, _⟩ _; go_wp2_with (fail); first | exact ⟨rfl, rfl, ⟨_, _, rfl, rfl, rfl⟩, by first | with_reducible exact Below.refl _ _ | assumption | with_reducible exact (Below.refl _ _).drew | with_reducible exact (Below.refl _ _).alloc (Nat.le_refl _) _⟩ | exact ⟨rfl, rfl, ⟨_, _, rfl, rfl, ⟨_, rfl, Below.size (by assumption), heap_alloc_new _ _⟩⟩, (Below.refl _ _).alloc (Nat.le_refl _) _⟩)
      case op2_3 => (change flowStep _ _ _ _ _ _ _ _; intro wf vs hbf hf; obtain ⟨e0, e1, -⟩ := hf; replace e0 : vs 0 = .int .i64 n := e0; replace e1 : vs 1 = .int .i64 (G : Int) := e1; show wpList _ _ _ _ (Act.put (Act.put _ (some 31) (vs 0)) (some 32) (vs 1)) _; rw [e0, e1]; go_wp2_with (fail); first | exact ⟨rfl, rfl, ⟨_, _, rfl, rfl, rfl⟩, by first | with_reducible exact Below.refl _ _ | assumption | with_reducible exact (Below.refl _ _).drew | with_reducible exact (Below.refl _ _).alloc (Nat.le_refl _) _⟩ | exact ⟨rfl, rfl, ⟨_, _, rfl, rfl, ⟨_, rfl, Below.size (by assumption), heap_alloc_new _ _⟩⟩, (Below.refl _ _).alloc (Nat.le_refl _) _⟩)
      case op3_3 => (change flowStep _ _ _ _ _ _ _ _; intro wf vs hbf hf; obtain ⟨-⟩ := hf; show wpList _ _ _ _ ⟨_, _⟩ _; go_wp2_with (fail); first | exact ⟨rfl, rfl, ⟨_, _, rfl, rfl, rfl⟩, by first | with_reducible exact Below.refl _ _ | assumption | with_reducible exact (Below.refl _ _).drew | with_reducible exact (Below.refl _ _).alloc (Nat.le_refl _) _⟩ | exact ⟨rfl, rfl, ⟨_, _, rfl, rfl, ⟨_, rfl, Below.size (by assumption), heap_alloc_new _ _⟩⟩, (Below.refl _ _).alloc (Nat.le_refl _) _⟩)
      case op4_3 => (change flowStep _ _ _ _ _ _ _ _; intro wf vs hbf hf; obtain ⟨-⟩ := hf; show wpList _ _ _ _ ⟨_, _⟩ _; go_wp2_with (fail); first | exact ⟨rfl, rfl, ⟨_, _, rfl, rfl, rfl⟩, by first | with_reducible exact Below.refl _ _ | assumption | with_reducible exact (Below.refl _ _).drew | with_reducible exact (Below.refl _ _).alloc (Nat.le_refl _) _⟩ | exact ⟨rfl, rfl, ⟨_, _, rfl, rfl, ⟨_, rfl, Below.size (by assumption), heap_alloc_new _ _⟩⟩, (Below.refl _ _).alloc (Nat.le_refl _) _⟩)
      case op5_3 => (change flowStep _ _ _ _ _ _ _ _; intro wf vs hbf hf; obtain ⟨e3, e4, -⟩ := hf; replace e3 : vs 3 = .int .i64 (m : Int) := e3; replace e4 : vs 4 = .int .i64 (G : Int) := e4; show wpList _ _ _ _ (Act.put (Act.put _ (some 34) (vs 3)) (some 35) (vs 4)) _; rw [e3, e4]; go_wp2_with (fail); first | exact ⟨rfl, rfl, ⟨_, _, rfl, rfl, rfl⟩, by first | with_reducible exact Below.refl _ _ | assumption | with_reducible exact (Below.refl _ _).drew | with_reducible exact (Below.refl _ _).alloc (Nat.le_refl _) _⟩ | exact ⟨rfl, rfl, ⟨_, _, rfl, rfl, ⟨_, rfl, Below.size (by assumption), heap_alloc_new _ _⟩⟩, (Below.refl _ _).alloc (Nat.le_refl _) _⟩)
      case op6_3 => (change flowStep _ _ _ _ _ _ _ _; intro wf vs hbf hf; obtain ⟨e2, e5, -⟩ := hf; replace e2 : vs 2 = .int .i64 (rN n (m : Int)) := e2; replace e5 : vs 5 = .int .i64 (rD n (m : Int)) := e5; show wpList _ _ _ _ (Act.put (Act.put _ (some 33) (vs 2)) (some 36) (vs 5)) _; rw [e2, e5]; go_wp2_with (fail); first | exact ⟨rfl, rfl, ⟨_, _, rfl, rfl, rfl⟩, by first | with_reducible exact Below.refl _ _ | assumption | with_reducible exact (Below.refl _ _).drew | with_reducible exact (Below.refl _ _).alloc (Nat.le_refl _) _⟩ | exact ⟨rfl, rfl, ⟨_, _, rfl, rfl, ⟨_, rfl, Below.size (by assumption), heap_alloc_new _ _⟩⟩, (Below.refl _ _).alloc (Nat.le_refl _) _⟩)
      case op7_3 => (change flowStep _ _ _ _ _ _ _ _; intro wf vs hbf hf; obtain ⟨-⟩ := hf; show wpList _ _ _ _ ⟨_, _⟩ _; go_wp2_with (fail); first | exact ⟨rfl, rfl, ⟨_, _, rfl, rfl, rfl⟩, by first | with_reducible exact Below.refl _ _ | assumption | with_reducible exact (Below.refl _ _).drew | with_reducible exact (Below.refl _ _).alloc (Nat.le_refl _) _⟩ | exact ⟨rfl, rfl, ⟨_, _, rfl, rfl, ⟨_, rfl, Below.size (by assumption), heap_alloc_new _ _⟩⟩, (Below.refl _ _).alloc (Nat.le_refl _) _⟩)
      intro wf vs hbf hf; obtain ⟨e0, e1, e2, e3, e4, e5, e6, ⟨g7, e7, b7, y7⟩, -⟩ := hf; replace e0 : vs 0 = .int .i64 n := e0; replace e1 : vs 1 = .int .i64 (G : Int) := e1; replace e2 : vs 2 = .int .i64 (rN n (m : Int)) := e2; replace e3 : vs 3 = .int .i64 (m : Int) := e3; replace e4 : vs 4 = .int .i64 (G : Int) := e4; replace e5 : vs 5 = .int .i64 (rD n (m : Int)) := e5; replace e6 : vs 6 = .agg #[.int .i64 (rN n (m : Int)), .int .i64 (rD n (m : Int))] := e6; show wpList _ _ _ _ (Act.put (Act.put (Act.put (Act.put (Act.put (Act.put (Act.put (Act.put _ (some 31) (vs 0)) (some 32) (vs 1)) (some 33) (vs 2)) (some 34) (vs 3)) (some 35) (vs 4)) (some 36) (vs 5)) (some 37) (vs 6)) (some 7) (vs 7)) _; rw [e0, e1, e2, e3, e4, e5, e6, e7]; simp only [Act.put, List.setIfInBounds_toArray, List.set_cons_succ, List.set_cons_zero, List.drop_succ_cons, List.drop_zero]
      replace yt := blockB hbf yt
      refine wp_store_new rfl 25 (.tmp 7) (.tmp 37) rfl g7 #[.int .i64 (rN n (m : Int)), .int .i64 (rD n (m : Int))] rfl rfl 25 _ y7 (by kernel_rfl) rfl (by simp [Value.oneCell']) ?_
      intro w2 y2 hb2 ho2
      replace yt := (ho2 _ (by omega)).trans yt
      replace hb1 := (hb1.trans (hbf.mono hb1.size)).trans (hb2.mono (by have := hb1.size; omega))
      clear lt0
      have z0 : w2.cell? ⟨g7, 0, none⟩ = some (.int .i64 (rN n (m : Int))) := cellAt y2 0
      have z1 : w2.cell? ⟨g7, 1, none⟩ = some (.int .i64 (rD n (m : Int))) := cellAt y2 1
      go_wp2_with ((go_at_call 25; ((with_reducible refine (Hk5.out _).mono ?_); rintro e w' ⟨rfl, hb5⟩; (have y3 := blockB hb5 yt; have t0 := cellAt y3 0; have t1 := cellAt y3 1; have f0 := frozen0 (j := 0) y3; have f1 := frozen0 (j := 1) y3; replace z0 := cellB hb5 z0; replace z1 := cellB hb5 z1))))
      have r0 := setCell_at t0 rfl
      have r1 := setCell_two (u := .bool false) t1
      refine bodyPost_ret (v := .tuple #[ratV 0 0, .bool false]) (by simp [results, Try.results29, go_sem, ratV, r0, r1]) rfl ⟨rfl, ?_⟩
      exact ((hb1.trans (hb5.mono hb1.size)).setCell (Nat.le_refl _) _).setCell (Nat.le_refl _) _
    · rw [hv] at k5
      simp only [if_true]
      have Hhv := Lib.hid hv; clear hv; have Hk5 := Lib.hid k5; clear k5
      go_enter Try.func29, Try.ntmps29
      go_wp2_with (first | (go_at_call 70; ((with_reducible refine (Hk1.out _).mono ?_); rintro e w' ⟨rfl, rfl⟩)) | (go_at_call 70; ((with_reducible refine (Hk2.out _).mono ?_); rintro e w' ⟨rfl, rfl⟩)) | (go_at_call 72; ((with_reducible refine (Hk3.out _).mono ?_); rintro e w' ⟨rfl, rfl⟩)) | (go_at_call 71; ((with_reducible refine (Hk4.out _).mono ?_); rintro e w' ⟨rfl, hb1⟩)))
      generalize rG n (m : Int) = G at *
      have yt := blockB hb1 (heap_alloc_new w (.cells #[.int .i64 0, .int .i64 0] 25))
      have lt0 := lt_of_heap yt
      replace hb1 := ((Below.refl w.heap.size w).alloc (Nat.le_refl _) _).trans (hb1.mono (by simp))
      refine wp_region_flow 8 [] [[], [], [0, 1], [], [], [3, 4], [2, 5], []] [Fact.is (.int .i64 n), Fact.is (.int .i64 (G : Int)), Fact.is (.int .i64 (rN n (m : Int))), Fact.is (.int .i64 (m : Int)), Fact.is (.int .i64 (G : Int)), Fact.is (.int .i64 (rD n (m : Int))), Fact.is (.agg #[.int .i64 (rN n (m : Int)), .int .i64 (rD n (m : Int))]), Fact.new w' 25 #[.int .i64 0, .int .i64 0]] (by kernel_rfl) (by kernel_rfl) (by intro c d v a w h; cases d <;> exact h) (And.intro ?op0_4 (And.intro ?op1_4 (And.intro ?op2_4 (And.intro ?op3_4 (And.intro ?op4_4 (And.intro ?op5_4 (And.intro ?op6_4 (And.intro ?op7_4 trivial)))))))) ?fin_4
      case op0_4 => (change flowStep _ _ _ _ _ _ _ _; intro wf vs hbf hf; obtain ⟨-⟩ := hf; show wpList _ _ _ _ ⟨_, _⟩ _; go_wp2_with (fail); first | exact ⟨rfl, rfl, ⟨_, _, rfl, rfl, rfl⟩, by first | with_reducible exact Below.refl _ _ | assumption | with_reducible exact (Below.refl _ _).drew | with_reducible exact (Below.refl _ _).alloc (Nat.le_refl _) _⟩ | exact ⟨rfl, rfl, ⟨_, _, rfl, rfl, ⟨_, rfl, Below.size (by assumption), heap_alloc_new _ _⟩⟩, (Below.refl _ _).alloc (Nat.le_refl _) _⟩)
      case op1_4 => (change flowStep _ _ _ _ _ _ _ _; intro wf vs hbf hf; obtain ⟨-⟩ := hf; show wpList _ _ _ _ ⟨_, _⟩ _; go_wp2_with (fail); first | exact ⟨rfl, rfl, ⟨_, _, rfl, rfl, rfl⟩, by first | with_reducible exact Below.refl _ _ | assumption | with_reducible exact (Below.refl _ _).drew | with_reducible exact (Below.refl _ _).alloc (Nat.le_refl _) _⟩ | exact ⟨rfl, rfl, ⟨_, _, rfl, rfl, ⟨_, rfl, Below.size (by assumption), heap_alloc_new _ _⟩⟩, (Below.refl _ _).alloc (Nat.le_refl _) _⟩)
      case op2_4 => (change flowStep _ _ _ _ _ _ _ _; intro wf vs hbf hf; obtain ⟨e0, e1, -⟩ := hf; replace e0 : vs 0 = .int .i64 n := e0; replace e1 : vs 1 = .int .i64 (G : Int) := e1; show wpList _ _ _ _ (Act.put (Act.put _ (some 31) (vs 0)) (some 32) (vs 1)) _; rw [e0, e1]; go_wp2_with (fail); first | exact ⟨rfl, rfl, ⟨_, _, rfl, rfl, rfl⟩, by first | with_reducible exact Below.refl _ _ | assumption | with_reducible exact (Below.refl _ _).drew | with_reducible exact (Below.refl _ _).alloc (Nat.le_refl _) _⟩ | exact ⟨rfl, rfl, ⟨_, _, rfl, rfl, ⟨_, rfl, Below.size (by assumption), heap_alloc_new _ _⟩⟩, (Below.refl _ _).alloc (Nat.le_refl _) _⟩)
      case op3_4 => (change flowStep _ _ _ _ _ _ _ _; intro wf vs hbf hf; obtain ⟨-⟩ := hf; show wpList _ _ _ _ ⟨_, _⟩ _; go_wp2_with (fail); first | exact ⟨rfl, rfl, ⟨_, _, rfl, rfl, rfl⟩, by first | with_reducible exact Below.refl _ _ | assumption | with_reducible exact (Below.refl _ _).drew | with_reducible exact (Below.refl _ _).alloc (Nat.le_refl _) _⟩ | exact ⟨rfl, rfl, ⟨_, _, rfl, rfl, ⟨_, rfl, Below.size (by assumption), heap_alloc_new _ _⟩⟩, (Below.refl _ _).alloc (Nat.le_refl _) _⟩)
      case op4_4 => (change flowStep _ _ _ _ _ _ _ _; intro wf vs hbf hf; obtain ⟨-⟩ := hf; show wpList _ _ _ _ ⟨_, _⟩ _; go_wp2_with (fail); first | exact ⟨rfl, rfl, ⟨_, _, rfl, rfl, rfl⟩, by first | with_reducible exact Below.refl _ _ | assumption | with_reducible exact (Below.refl _ _).drew | with_reducible exact (Below.refl _ _).alloc (Nat.le_refl _) _⟩ | exact ⟨rfl, rfl, ⟨_, _, rfl, rfl, ⟨_, rfl, Below.size (by assumption), heap_alloc_new _ _⟩⟩, (Below.refl _ _).alloc (Nat.le_refl _) _⟩)
      case op5_4 => (change flowStep _ _ _ _ _ _ _ _; intro wf vs hbf hf; obtain ⟨e3, e4, -⟩ := hf; replace e3 : vs 3 = .int .i64 (m : Int) := e3; replace e4 : vs 4 = .int .i64 (G : Int) := e4; show wpList _ _ _ _ (Act.put (Act.put _ (some 34) (vs 3)) (some 35) (vs 4)) _; rw [e3, e4]; go_wp2_with (fail); first | exact ⟨rfl, rfl, ⟨_, _, rfl, rfl, rfl⟩, by first | with_reducible exact Below.refl _ _ | assumption | with_reducible exact (Below.refl _ _).drew | with_reducible exact (Below.refl _ _).alloc (Nat.le_refl _) _⟩ | exact ⟨rfl, rfl, ⟨_, _, rfl, rfl, ⟨_, rfl, Below.size (by assumption), heap_alloc_new _ _⟩⟩, (Below.refl _ _).alloc (Nat.le_refl _) _⟩)
      case op6_4 => (change flowStep _ _ _ _ _ _ _ _; intro wf vs hbf hf; obtain ⟨e2, e5, -⟩ := hf; replace e2 : vs 2 = .int .i64 (rN n (m : Int)) := e2; replace e5 : vs 5 = .int .i64 (rD n (m : Int)) := e5; show wpList _ _ _ _ (Act.put (Act.put _ (some 33) (vs 2)) (some 36) (vs 5)) _; rw [e2, e5]; go_wp2_with (fail); first | exact ⟨rfl, rfl, ⟨_, _, rfl, rfl, rfl⟩, by first | with_reducible exact Below.refl _ _ | assumption | with_reducible exact (Below.refl _ _).drew | with_reducible exact (Below.refl _ _).alloc (Nat.le_refl _) _⟩ | exact ⟨rfl, rfl, ⟨_, _, rfl, rfl, ⟨_, rfl, Below.size (by assumption), heap_alloc_new _ _⟩⟩, (Below.refl _ _).alloc (Nat.le_refl _) _⟩)
      case op7_4 => (change flowStep _ _ _ _ _ _ _ _; intro wf vs hbf hf; obtain ⟨-⟩ := hf; show wpList _ _ _ _ ⟨_, _⟩ _; go_wp2_with (fail); first | exact ⟨rfl, rfl, ⟨_, _, rfl, rfl, rfl⟩, by first | with_reducible exact Below.refl _ _ | assumption | with_reducible exact (Below.refl _ _).drew | with_reducible exact (Below.refl _ _).alloc (Nat.le_refl _) _⟩ | exact ⟨rfl, rfl, ⟨_, _, rfl, rfl, ⟨_, rfl, Below.size (by assumption), heap_alloc_new _ _⟩⟩, (Below.refl _ _).alloc (Nat.le_refl _) _⟩)
      intro wf vs hbf hf; obtain ⟨e0, e1, e2, e3, e4, e5, e6, ⟨g7, e7, b7, y7⟩, -⟩ := hf; replace e0 : vs 0 = .int .i64 n := e0; replace e1 : vs 1 = .int .i64 (G : Int) := e1; replace e2 : vs 2 = .int .i64 (rN n (m : Int)) := e2; replace e3 : vs 3 = .int .i64 (m : Int) := e3; replace e4 : vs 4 = .int .i64 (G : Int) := e4; replace e5 : vs 5 = .int .i64 (rD n (m : Int)) := e5; replace e6 : vs 6 = .agg #[.int .i64 (rN n (m : Int)), .int .i64 (rD n (m : Int))] := e6; show wpList _ _ _ _ (Act.put (Act.put (Act.put (Act.put (Act.put (Act.put (Act.put (Act.put _ (some 31) (vs 0)) (some 32) (vs 1)) (some 33) (vs 2)) (some 34) (vs 3)) (some 35) (vs 4)) (some 36) (vs 5)) (some 37) (vs 6)) (some 7) (vs 7)) _; rw [e0, e1, e2, e3, e4, e5, e6, e7]; simp only [Act.put, List.setIfInBounds_toArray, List.set_cons_succ, List.set_cons_zero, List.drop_succ_cons, List.drop_zero]
      replace yt := blockB hbf yt
      refine wp_store_new rfl 25 (.tmp 7) (.tmp 37) rfl g7 #[.int .i64 (rN n (m : Int)), .int .i64 (rD n (m : Int))] rfl rfl 25 _ y7 (by kernel_rfl) rfl (by simp [Value.oneCell']) ?_
      intro w2 y2 hb2 ho2
      replace yt := (ho2 _ (by omega)).trans yt
      replace hb1 := (hb1.trans (hbf.mono hb1.size)).trans (hb2.mono (by have := hb1.size; omega))
      clear lt0
      have z0 : w2.cell? ⟨g7, 0, none⟩ = some (.int .i64 (rN n (m : Int))) := cellAt y2 0
      have z1 : w2.cell? ⟨g7, 1, none⟩ = some (.int .i64 (rD n (m : Int))) := cellAt y2 1
      go_wp2_with ((go_at_call 25; ((with_reducible refine (Hk5.out _).mono ?_); rintro e w' ⟨rfl, hb5⟩; (have y3 := blockB hb5 yt; have t0 := cellAt y3 0; have t1 := cellAt y3 1; have f0 := frozen0 (j := 0) y3; have f1 := frozen0 (j := 1) y3; replace z0 := cellB hb5 z0; replace z1 := cellB hb5 z1))))
      have r0 := setCell_at t0 rfl
      have r1 := setCell_two (u := .bool false) t1
      refine bodyPost_ret (v := .tuple #[ratV (rN n (m : Int)) (rD n (m : Int)), .bool true]) (by simp [results, Try.results29, go_sem, ratV, r0, r1]) rfl ⟨rfl, ?_⟩
      exact ((hb1.trans (hb5.mono hb1.size)).setCell (Nat.le_refl _) _).setCell (Nat.le_refl _) _
theorem NewRational_s (n d : Int) (hd : -9223372036854775808 ≤ d ∧ d ≤ 9223372036854775807) (w : World) : Calls Try.prog 28 #[.int .i64 n, .int .i64 d] w (RetB (newR n d) w) := by
  by_cases h0 : d = 0
  · subst h0
    rw [newR_no (.inl rfl)]
    clear hd
    go_enter Try.func28, Try.ntmps28
    go_wp2_with fail
    exact bodyPost_ret (v := .tuple #[ratV 0 0, .bool false]) (by simp [results, Try.results28, go_sem, ratV]) rfl ⟨rfl, (Below.refl _ _).alloc (Nat.le_refl _) _⟩
  have d0 : (d == 0) = false := by rw [beq_eq_false_iff_ne]; exact h0
  by_cases h1 : -4000000000000000000 ≤ n ∧ n ≤ 4000000000000000000
  rotate_left
  · rw [newR_no (.inr (.inl h1))]
    have k1 := fun W => l1In_no n (-4000000000000000000) 4000000000000000000 h1 W
    clear hd
    have Hh0 := Lib.hid h0; clear h0; have Hh1 := Lib.hid h1; clear h1; have Hk1 := Lib.hid k1; clear k1
    go_enter Try.func28, Try.ntmps28
    go_wp2_with ((go_at_call 68; ((with_reducible refine (Hk1.out _).mono ?_); rintro e w' ⟨rfl, rfl⟩)))
    exact bodyPost_ret (v := .tuple #[ratV 0 0, .bool false]) (by simp [results, Try.results28, go_sem, ratV]) rfl ⟨rfl, (Below.refl _ _).alloc (Nat.le_refl _) _⟩
  by_cases h2 : -4000000000000000000 ≤ d ∧ d ≤ 4000000000000000000
  rotate_left
  · rw [newR_no (.inr (.inr h2))]
    have k1 := fun W => l1In_yes n (-4000000000000000000) 4000000000000000000 h1 W
    have k2 := fun W => l1In_no d (-4000000000000000000) 4000000000000000000 h2 W
    clear hd
    have Hh0 := Lib.hid h0; clear h0; have Hh1 := Lib.hid h1; clear h1; have Hh2 := Lib.hid h2; clear h2; have Hk1 := Lib.hid k1; clear k1; have Hk2 := Lib.hid k2; clear k2
    go_enter Try.func28, Try.ntmps28
    go_wp2_with (first | (go_at_call 68; ((with_reducible refine (Hk1.out _).mono ?_); rintro e w' ⟨rfl, rfl⟩)) | (go_at_call 68; ((with_reducible refine (Hk2.out _).mono ?_); rintro e w' ⟨rfl, rfl⟩)))
    exact bodyPost_ret (v := .tuple #[ratV 0 0, .bool false]) (by simp [results, Try.results28, go_sem, ratV]) rfl ⟨rfl, (Below.refl _ _).alloc (Nat.le_refl _) _⟩
  rw [newR_in h0 h1 h2]
  have k1 := fun W => l1In_yes n (-4000000000000000000) 4000000000000000000 h1 W
  have k2 := fun W => l1In_yes d (-4000000000000000000) 4000000000000000000 h2 W
  clear hd
  have b1 : -4000000000000000000 ≤ n := h1.1
  have b2 : n ≤ 4000000000000000000 := h1.2
  have b3 : -4000000000000000000 ≤ d := h2.1
  have b4 : d ≤ 4000000000000000000 := h2.2
  have hG : (rG n d : Int) ≠ 0 := by
    unfold rG
    have := Nat.gcd_pos_of_pos_right n.natAbs (show 0 < d.natAbs by omega)
    omega
  have c1 : -4000000000000000000 ≤ rN n d ∧ rN n d ≤ 4000000000000000000 := tdiv_range _ _ _ (by split <;> omega)
  have c2 : -4000000000000000000 ≤ rD n d ∧ rD n d ≤ 4000000000000000000 := tdiv_range _ _ _ (by split <;> omega)
  have k5 := fun W => IsValidRational_s (rN n d) (rD n d) W
  by_cases hs : d < 0
  · have ds : decide (d < 0) = true := by rw [decide_eq_true_eq]; exact hs
    obtain ⟨m, hm⟩ := Int.eq_ofNat_of_zero_le (show 0 ≤ (-d) by omega)
    have hdm : d.natAbs = m := by omega
    have eG : n.natAbs.gcd m = rG n d := by unfold rG; rw [hdm]
    have en : ((-n)).tdiv (rG n d : Int) = rN n d := by unfold rN; rw [if_pos hs]
    have ed : (m : Int).tdiv (rG n d : Int) = rD n d := by unfold rD; rw [if_pos hs, hm]
    have k3 : (if -n < n then n else -n) = (n.natAbs : Int) := by split <;> omega
    have k4 := fun W => l2Gcd_s n.natAbs m (by omega) (by omega) W
    rw [eG] at k4
    have Hh0 := Lib.hid h0; clear h0; have Hh1 := Lib.hid h1; clear h1; have Hh2 := Lib.hid h2; clear h2; have Hk1 := Lib.hid k1; clear k1; have Hk2 := Lib.hid k2; clear k2; have Hk4 := Lib.hid k4; clear k4; have Hhs := Lib.hid hs; clear hs; have HeG := Lib.hid eG; clear eG; have Hhdm := Lib.hid hdm; clear hdm
    cases hv : rvalid (rN n d) (rD n d)
    · rw [hv] at k5
      simp only [Bool.false_eq_true, if_false]
      have Hhv := Lib.hid hv; clear hv; have Hk5 := Lib.hid k5; clear k5
      go_enter Try.func28, Try.ntmps28
      go_wp2_with (first | (go_at_call 68; ((with_reducible refine (Hk1.out _).mono ?_); rintro e w' ⟨rfl, rfl⟩)) | (go_at_call 68; ((with_reducible refine (Hk2.out _).mono ?_); rintro e w' ⟨rfl, rfl⟩)) | (go_at_call 69; ((with_reducible refine (Hk4.out _).mono ?_); rintro e w' ⟨rfl, rfl⟩)))
      generalize rG n d = G at *
      have yt := heap_alloc_new w (.cells #[.int .i64 0, .int .i64 0] 25)
      have lt0 := lt_of_heap yt
      have hb1 : Below w.heap.size w (w.alloc (.cells #[.int .i64 0, .int .i64 0] 25)) := (Below.refl w.heap.size w).alloc (Nat.le_refl _) _
      generalize w.alloc (.cells #[.int .i64 0, .int .i64 0] 25) = w1 at *
      refine wp_region_flow 8 [] [[], [], [0, 1], [], [], [3, 4], [2, 5], []] [Fact.is (.int .i64 (-n)), Fact.is (.int .i64 (G : Int)), Fact.is (.int .i64 (rN n d)), Fact.is (.int .i64 (m : Int)), Fact.is (.int .i64 (G : Int)), Fact.is (.int .i64 (rD n d)), Fact.is (.agg #[.int .i64 (rN n d), .int .i64 (rD n d)]), Fact.new w1 25 #[.int .i64 0, .int .i64 0]] (by kernel_rfl) (by kernel_rfl) (by intro c d v a w h; cases d <;> exact h) (And.intro ?op0_5 (And.intro ?op1_5 (And.intro ?op2_5 (And.intro ?op3_5 (And.intro ?op4_5 (And.intro ?op5_5 (And.intro ?op6_5 (And.intro ?op7_5 trivial)))))))) ?fin_5
      case op0_5 => (change flowStep _ _ _ _ _ _ _ _; intro wf vs hbf hf; obtain ⟨-⟩ := hf; show wpList _ _ _ _ ⟨_, _⟩ _; go_wp2_with (fail); first | exact ⟨rfl, rfl, ⟨_, _, rfl, rfl, rfl⟩, by first | with_reducible exact Below.refl _ _ | assumption | with_reducible exact (Below.refl _ _).drew | with_reducible exact (Below.refl _ _).alloc (Nat.le_refl _) _⟩ | exact ⟨rfl, rfl, ⟨_, _, rfl, rfl, ⟨_, rfl, Below.size (by assumption), heap_alloc_new _ _⟩⟩, (Below.refl _ _).alloc (Nat.le_refl _) _⟩)
      case op1_5 => (change flowStep _ _ _ _ _ _ _ _; intro wf vs hbf hf; obtain ⟨-⟩ := hf; show wpList _ _ _ _ ⟨_, _⟩ _; go_wp2_with (fail); first | exact ⟨rfl, rfl, ⟨_, _, rfl, rfl, rfl⟩, by first | with_reducible exact Below.refl _ _ | assumption | with_reducible exact (Below.refl _ _).drew | with_reducible exact (Below.refl _ _).alloc (Nat.le_refl _) _⟩ | exact ⟨rfl, rfl, ⟨_, _, rfl, rfl, ⟨_, rfl, Below.size (by assumption), heap_alloc_new _ _⟩⟩, (Below.refl _ _).alloc (Nat.le_refl _) _⟩)
      case op2_5 => (change flowStep _ _ _ _ _ _ _ _; intro wf vs hbf hf; obtain ⟨e0, e1, -⟩ := hf; replace e0 : vs 0 = .int .i64 (-n) := e0; replace e1 : vs 1 = .int .i64 (G : Int) := e1; show wpList _ _ _ _ (Act.put (Act.put _ (some 40) (vs 0)) (some 41) (vs 1)) _; rw [e0, e1]; go_wp2_with (fail); first | exact ⟨rfl, rfl, ⟨_, _, rfl, rfl, rfl⟩, by first | with_reducible exact Below.refl _ _ | assumption | with_reducible exact (Below.refl _ _).drew | with_reducible exact (Below.refl _ _).alloc (Nat.le_refl _) _⟩ | exact ⟨rfl, rfl, ⟨_, _, rfl, rfl, ⟨_, rfl, Below.size (by assumption), heap_alloc_new _ _⟩⟩, (Below.refl _ _).alloc (Nat.le_refl _) _⟩)
      case op3_5 => (change flowStep _ _ _ _ _ _ _ _; intro wf vs hbf hf; obtain ⟨-⟩ := hf; show wpList _ _ _ _ ⟨_, _⟩ _; go_wp2_with (fail); first | exact ⟨rfl, rfl, ⟨_, _, rfl, rfl, rfl⟩, by first | with_reducible exact Below.refl _ _ | assumption | with_reducible exact (Below.refl _ _).drew | with_reducible exact (Below.refl _ _).alloc (Nat.le_refl _) _⟩ | exact ⟨rfl, rfl, ⟨_, _, rfl, rfl, ⟨_, rfl, Below.size (by assumption), heap_alloc_new _ _⟩⟩, (Below.refl _ _).alloc (Nat.le_refl _) _⟩)
      case op4_5 => (change flowStep _ _ _ _ _ _ _ _; intro wf vs hbf hf; obtain ⟨-⟩ := hf; show wpList _ _ _ _ ⟨_, _⟩ _; go_wp2_with (fail); first | exact ⟨rfl, rfl, ⟨_, _, rfl, rfl, rfl⟩, by first | with_reducible exact Below.refl _ _ | assumption | with_reducible exact (Below.refl _ _).drew | with_reducible exact (Below.refl _ _).alloc (Nat.le_refl _) _⟩ | exact ⟨rfl, rfl, ⟨_, _, rfl, rfl, ⟨_, rfl, Below.size (by assumption), heap_alloc_new _ _⟩⟩, (Below.refl _ _).alloc (Nat.le_refl _) _⟩)
      case op5_5 => (change flowStep _ _ _ _ _ _ _ _; intro wf vs hbf hf; obtain ⟨e3, e4, -⟩ := hf; replace e3 : vs 3 = .int .i64 (m : Int) := e3; replace e4 : vs 4 = .int .i64 (G : Int) := e4; show wpList _ _ _ _ (Act.put (Act.put _ (some 43) (vs 3)) (some 44) (vs 4)) _; rw [e3, e4]; go_wp2_with (fail); first | exact ⟨rfl, rfl, ⟨_, _, rfl, rfl, rfl⟩, by first | with_reducible exact Below.refl _ _ | assumption | with_reducible exact (Below.refl _ _).drew | with_reducible exact (Below.refl _ _).alloc (Nat.le_refl _) _⟩ | exact ⟨rfl, rfl, ⟨_, _, rfl, rfl, ⟨_, rfl, Below.size (by assumption), heap_alloc_new _ _⟩⟩, (Below.refl _ _).alloc (Nat.le_refl _) _⟩)
      case op6_5 => (change flowStep _ _ _ _ _ _ _ _; intro wf vs hbf hf; obtain ⟨e2, e5, -⟩ := hf; replace e2 : vs 2 = .int .i64 (rN n d) := e2; replace e5 : vs 5 = .int .i64 (rD n d) := e5; show wpList _ _ _ _ (Act.put (Act.put _ (some 42) (vs 2)) (some 45) (vs 5)) _; rw [e2, e5]; go_wp2_with (fail); first | exact ⟨rfl, rfl, ⟨_, _, rfl, rfl, rfl⟩, by first | with_reducible exact Below.refl _ _ | assumption | with_reducible exact (Below.refl _ _).drew | with_reducible exact (Below.refl _ _).alloc (Nat.le_refl _) _⟩ | exact ⟨rfl, rfl, ⟨_, _, rfl, rfl, ⟨_, rfl, Below.size (by assumption), heap_alloc_new _ _⟩⟩, (Below.refl _ _).alloc (Nat.le_refl _) _⟩)
      case op7_5 => (change flowStep _ _ _ _ _ _ _ _; intro wf vs hbf hf; obtain ⟨-⟩ := hf; show wpList _ _ _ _ ⟨_, _⟩ _; go_wp2_with (fail); first | exact ⟨rfl, rfl, ⟨_, _, rfl, rfl, rfl⟩, by first | with_reducible exact Below.refl _ _ | assumption | with_reducible exact (Below.refl _ _).drew | with_reducible exact (Below.refl _ _).alloc (Nat.le_refl _) _⟩ | exact ⟨rfl, rfl, ⟨_, _, rfl, rfl, ⟨_, rfl, Below.size (by assumption), heap_alloc_new _ _⟩⟩, (Below.refl _ _).alloc (Nat.le_refl _) _⟩)
      intro wf vs hbf hf; obtain ⟨e0, e1, e2, e3, e4, e5, e6, ⟨g7, e7, b7, y7⟩, -⟩ := hf; replace e0 : vs 0 = .int .i64 (-n) := e0; replace e1 : vs 1 = .int .i64 (G : Int) := e1; replace e2 : vs 2 = .int .i64 (rN n d) := e2; replace e3 : vs 3 = .int .i64 (m : Int) := e3; replace e4 : vs 4 = .int .i64 (G : Int) := e4; replace e5 : vs 5 = .int .i64 (rD n d) := e5; replace e6 : vs 6 = .agg #[.int .i64 (rN n d), .int .i64 (rD n d)] := e6; show wpList _ _ _ _ (Act.put (Act.put (Act.put (Act.put (Act.put (Act.put (Act.put (Act.put _ (some 40) (vs 0)) (some 41) (vs 1)) (some 42) (vs 2)) (some 43) (vs 3)) (some 44) (vs 4)) (some 45) (vs 5)) (some 46) (vs 6)) (some 8) (vs 7)) _; rw [e0, e1, e2, e3, e4, e5, e6, e7]; simp only [Act.put, List.setIfInBounds_toArray, List.set_cons_succ, List.set_cons_zero, List.drop_succ_cons, List.drop_zero]
      replace yt := blockB hbf yt
      refine wp_store_new rfl 25 (.tmp 8) (.tmp 46) rfl g7 #[.int .i64 (rN n d), .int .i64 (rD n d)] rfl rfl 25 _ y7 (by kernel_rfl) rfl (by simp [Value.oneCell']) ?_
      intro w2 y2 hb2 ho2
      replace yt := (ho2 _ (by omega)).trans yt
      replace hb1 := (hb1.trans (hbf.mono hb1.size)).trans (hb2.mono (by have := hb1.size; omega))
      clear lt0
      have z0 : w2.cell? ⟨g7, 0, none⟩ = some (.int .i64 (rN n d)) := cellAt y2 0
      have z1 : w2.cell? ⟨g7, 1, none⟩ = some (.int .i64 (rD n d)) := cellAt y2 1
      go_wp2_with ((go_at_call 23; ((with_reducible refine (Hk5.out _).mono ?_); rintro e w' ⟨rfl, hb5⟩; (have y3 := blockB hb5 yt; have t0 := cellAt y3 0; have t1 := cellAt y3 1; have f0 := frozen0 (j := 0) y3; have f1 := frozen0 (j := 1) y3; replace z0 := cellB hb5 z0; replace z1 := cellB hb5 z1))))
      have r0 := setCell_at t0 rfl
      have r1 := setCell_two (u := .bool false) t1
      refine bodyPost_ret (v := .tuple #[ratV 0 0, .bool false]) (by simp [results, Try.results28, go_sem, ratV, r0, r1]) rfl ⟨rfl, ?_⟩
      exact ((hb1.trans (hb5.mono hb1.size)).setCell (Nat.le_refl _) _).setCell (Nat.le_refl _) _
    · rw [hv] at k5
      simp only [if_true]
      have Hhv := Lib.hid hv; clear hv; have Hk5 := Lib.hid k5; clear k5
      go_enter Try.func28, Try.ntmps28
      go_wp2_with (first | (go_at_call 68; ((with_reducible refine (Hk1.out _).mono ?_); rintro e w' ⟨rfl, rfl⟩)) | (go_at_call 68; ((with_reducible refine (Hk2.out _).mono ?_); rintro e w' ⟨rfl, rfl⟩)) | (go_at_call 69; ((with_reducible refine (Hk4.out _).mono ?_); rintro e w' ⟨rfl, rfl⟩)))
      generalize rG n d = G at *
      have yt := heap_alloc_new w (.cells #[.int .i64 0, .int .i64 0] 25)
      have lt0 := lt_of_heap yt
      have hb1 : Below w.heap.size w (w.alloc (.cells #[.int .i64 0, .int .i64 0] 25)) := (Below.refl w.heap.size w).alloc (Nat.le_refl _) _
      generalize w.alloc (.cells #[.int .i64 0, .int .i64 0] 25) = w1 at *
      refine wp_region_flow 8 [] [[], [], [0, 1], [], [], [3, 4], [2, 5], []] [Fact.is (.int .i64 (-n)), Fact.is (.int .i64 (G : Int)), Fact.is (.int .i64 (rN n d)), Fact.is (.int .i64 (m : Int)), Fact.is (.int .i64 (G : Int)), Fact.is (.int .i64 (rD n d)), Fact.is (.agg #[.int .i64 (rN n d), .int .i64 (rD n d)]), Fact.new w1 25 #[.int .i64 0, .int .i64 0]] (by kernel_rfl) (by kernel_rfl) (by intro c d v a w h; cases d <;> exact h) (And.intro ?op0_6 (And.intro ?op1_6 (And.intro ?op2_6 (And.intro ?op3_6 (And.intro ?op4_6 (And.intro ?op5_6 (And.intro ?op6_6 (And.intro ?op7_6 trivial)))))))) ?fin_6
      case op0_6 => (change flowStep _ _ _ _ _ _ _ _; intro wf vs hbf hf; obtain ⟨-⟩ := hf; show wpList _ _ _ _ ⟨_, _⟩ _; go_wp2_with (fail); first | exact ⟨rfl, rfl, ⟨_, _, rfl, rfl, rfl⟩, by first | with_reducible exact Below.refl _ _ | assumption | with_reducible exact (Below.refl _ _).drew | with_reducible exact (Below.refl _ _).alloc (Nat.le_refl _) _⟩ | exact ⟨rfl, rfl, ⟨_, _, rfl, rfl, ⟨_, rfl, Below.size (by assumption), heap_alloc_new _ _⟩⟩, (Below.refl _ _).alloc (Nat.le_refl _) _⟩)
      case op1_6 => (change flowStep _ _ _ _ _ _ _ _; intro wf vs hbf hf; obtain ⟨-⟩ := hf; show wpList _ _ _ _ ⟨_, _⟩ _; go_wp2_with (fail); first | exact ⟨rfl, rfl, ⟨_, _, rfl, rfl, rfl⟩, by first | with_reducible exact Below.refl _ _ | assumption | with_reducible exact (Below.refl _ _).drew | with_reducible exact (Below.refl _ _).alloc (Nat.le_refl _) _⟩ | exact ⟨rfl, rfl, ⟨_, _, rfl, rfl, ⟨_, rfl, Below.size (by assumption), heap_alloc_new _ _⟩⟩, (Below.refl _ _).alloc (Nat.le_refl _) _⟩)
      case op2_6 => (change flowStep _ _ _ _ _ _ _ _; intro wf vs hbf hf; obtain ⟨e0, e1, -⟩ := hf; replace e0 : vs 0 = .int .i64 (-n) := e0; replace e1 : vs 1 = .int .i64 (G : Int) := e1; show wpList _ _ _ _ (Act.put (Act.put _ (some 40) (vs 0)) (some 41) (vs 1)) _; rw [e0, e1]; go_wp2_with (fail); first | exact ⟨rfl, rfl, ⟨_, _, rfl, rfl, rfl⟩, by first | with_reducible exact Below.refl _ _ | assumption | with_reducible exact (Below.refl _ _).drew | with_reducible exact (Below.refl _ _).alloc (Nat.le_refl _) _⟩ | exact ⟨rfl, rfl, ⟨_, _, rfl, rfl, ⟨_, rfl, Below.size (by assumption), heap_alloc_new _ _⟩⟩, (Below.refl _ _).alloc (Nat.le_refl _) _⟩)
      case op3_6 => (change flowStep _ _ _ _ _ _ _ _; intro wf vs hbf hf; obtain ⟨-⟩ := hf; show wpList _ _ _ _ ⟨_, _⟩ _; go_wp2_with (fail); first | exact ⟨rfl, rfl, ⟨_, _, rfl, rfl, rfl⟩, by first | with_reducible exact Below.refl _ _ | assumption | with_reducible exact (Below.refl _ _).drew | with_reducible exact (Below.refl _ _).alloc (Nat.le_refl _) _⟩ | exact ⟨rfl, rfl, ⟨_, _, rfl, rfl, ⟨_, rfl, Below.size (by assumption), heap_alloc_new _ _⟩⟩, (Below.refl _ _).alloc (Nat.le_refl _) _⟩)
      case op4_6 => (change flowStep _ _ _ _ _ _ _ _; intro wf vs hbf hf; obtain ⟨-⟩ := hf; show wpList _ _ _ _ ⟨_, _⟩ _; go_wp2_with (fail); first | exact ⟨rfl, rfl, ⟨_, _, rfl, rfl, rfl⟩, by first | with_reducible exact Below.refl _ _ | assumption | with_reducible exact (Below.refl _ _).drew | with_reducible exact (Below.refl _ _).alloc (Nat.le_refl _) _⟩ | exact ⟨rfl, rfl, ⟨_, _, rfl, rfl, ⟨_, rfl, Below.size (by assumption), heap_alloc_new _ _⟩⟩, (Below.refl _ _).alloc (Nat.le_refl _) _⟩)
      case op5_6 => (change flowStep _ _ _ _ _ _ _ _; intro wf vs hbf hf; obtain ⟨e3, e4, -⟩ := hf; replace e3 : vs 3 = .int .i64 (m : Int) := e3; replace e4 : vs 4 = .int .i64 (G : Int) := e4; show wpList _ _ _ _ (Act.put (Act.put _ (some 43) (vs 3)) (some 44) (vs 4)) _; rw [e3, e4]; go_wp2_with (fail); first | exact ⟨rfl, rfl, ⟨_, _, rfl, rfl, rfl⟩, by first | with_reducible exact Below.refl _ _ | assumption | with_reducible exact (Below.refl _ _).drew | with_reducible exact (Below.refl _ _).alloc (Nat.le_refl _) _⟩ | exact ⟨rfl, rfl, ⟨_, _, rfl, rfl, ⟨_, rfl, Below.size (by assumption), heap_alloc_new _ _⟩⟩, (Below.refl _ _).alloc (Nat.le_refl _) _⟩)
      case op6_6 => (change flowStep _ _ _ _ _ _ _ _; intro wf vs hbf hf; obtain ⟨e2, e5, -⟩ := hf; replace e2 : vs 2 = .int .i64 (rN n d) := e2; replace e5 : vs 5 = .int .i64 (rD n d) := e5; show wpList _ _ _ _ (Act.put (Act.put _ (some 42) (vs 2)) (some 45) (vs 5)) _; rw [e2, e5]; go_wp2_with (fail); first | exact ⟨rfl, rfl, ⟨_, _, rfl, rfl, rfl⟩, by first | with_reducible exact Below.refl _ _ | assumption | with_reducible exact (Below.refl _ _).drew | with_reducible exact (Below.refl _ _).alloc (Nat.le_refl _) _⟩ | exact ⟨rfl, rfl, ⟨_, _, rfl, rfl, ⟨_, rfl, Below.size (by assumption), heap_alloc_new _ _⟩⟩, (Below.refl _ _).alloc (Nat.le_refl _) _⟩)
      case op7_6 => (change flowStep _ _ _ _ _ _ _ _; intro wf vs hbf hf; obtain ⟨-⟩ := hf; show wpList _ _ _ _ ⟨_, _⟩ _; go_wp2_with (fail); first | exact ⟨rfl, rfl, ⟨_, _, rfl, rfl, rfl⟩, by first | with_reducible exact Below.refl _ _ | assumption | with_reducible exact (Below.refl _ _).drew | with_reducible exact (Below.refl _ _).alloc (Nat.le_refl _) _⟩ | exact ⟨rfl, rfl, ⟨_, _, rfl, rfl, ⟨_, rfl, Below.size (by assumption), heap_alloc_new _ _⟩⟩, (Below.refl _ _).alloc (Nat.le_refl _) _⟩)
      intro wf vs hbf hf; obtain ⟨e0, e1, e2, e3, e4, e5, e6, ⟨g7, e7, b7, y7⟩, -⟩ := hf; replace e0 : vs 0 = .int .i64 (-n) := e0; replace e1 : vs 1 = .int .i64 (G : Int) := e1; replace e2 : vs 2 = .int .i64 (rN n d) := e2; replace e3 : vs 3 = .int .i64 (m : Int) := e3; replace e4 : vs 4 = .int .i64 (G : Int) := e4; replace e5 : vs 5 = .int .i64 (rD n d) := e5; replace e6 : vs 6 = .agg #[.int .i64 (rN n d), .int .i64 (rD n d)] := e6; show wpList _ _ _ _ (Act.put (Act.put (Act.put (Act.put (Act.put (Act.put (Act.put (Act.put _ (some 40) (vs 0)) (some 41) (vs 1)) (some 42) (vs 2)) (some 43) (vs 3)) (some 44) (vs 4)) (some 45) (vs 5)) (some 46) (vs 6)) (some 8) (vs 7)) _; rw [e0, e1, e2, e3, e4, e5, e6, e7]; simp only [Act.put, List.setIfInBounds_toArray, List.set_cons_succ, List.set_cons_zero, List.drop_succ_cons, List.drop_zero]
      replace yt := blockB hbf yt
      refine wp_store_new rfl 25 (.tmp 8) (.tmp 46) rfl g7 #[.int .i64 (rN n d), .int .i64 (rD n d)] rfl rfl 25 _ y7 (by kernel_rfl) rfl (by simp [Value.oneCell']) ?_
      intro w2 y2 hb2 ho2
      replace yt := (ho2 _ (by omega)).trans yt
      replace hb1 := (hb1.trans (hbf.mono hb1.size)).trans (hb2.mono (by have := hb1.size; omega))
      clear lt0
      have z0 : w2.cell? ⟨g7, 0, none⟩ = some (.int .i64 (rN n d)) := cellAt y2 0
      have z1 : w2.cell? ⟨g7, 1, none⟩ = some (.int .i64 (rD n d)) := cellAt y2 1
      go_wp2_with ((go_at_call 23; ((with_reducible refine (Hk5.out _).mono ?_); rintro e w' ⟨rfl, hb5⟩; (have y3 := blockB hb5 yt; have t0 := cellAt y3 0; have t1 := cellAt y3 1; have f0 := frozen0 (j := 0) y3; have f1 := frozen0 (j := 1) y3; replace z0 := cellB hb5 z0; replace z1 := cellB hb5 z1))))
      have r0 := setCell_at t0 rfl
      have r1 := setCell_two (u := .bool false) t1
      refine bodyPost_ret (v := .tuple #[ratV (rN n d) (rD n d), .bool true]) (by simp [results, Try.results28, go_sem, ratV, r0, r1]) rfl ⟨rfl, ?_⟩
      exact ((hb1.trans (hb5.mono hb1.size)).setCell (Nat.le_refl _) _).setCell (Nat.le_refl _) _
  · have ds : decide (d < 0) = false := by rw [decide_eq_false_iff_not]; exact hs
    obtain ⟨m, rfl⟩ := Int.eq_ofNat_of_zero_le (show 0 ≤ d by omega)
    have hdm : (m : Int).natAbs = m := by omega
    have eG : n.natAbs.gcd m = rG n (m : Int) := by unfold rG; rw [hdm]
    have en : (n).tdiv (rG n (m : Int) : Int) = rN n (m : Int) := by unfold rN; rw [if_neg hs]
    have ed : (m : Int).tdiv (rG n (m : Int) : Int) = rD n (m : Int) := by unfold rD; rw [if_neg hs]
    have k3 : (if n < -n then -n else n) = (n.natAbs : Int) := by split <;> omega
    have k4 := fun W => l2Gcd_s n.natAbs m (by omega) (by omega) W
    rw [eG] at k4
    have Hh0 := Lib.hid h0; clear h0; have Hh1 := Lib.hid h1; clear h1; have Hh2 := Lib.hid h2; clear h2; have Hk1 := Lib.hid k1; clear k1; have Hk2 := Lib.hid k2; clear k2; have Hk4 := Lib.hid k4; clear k4; have Hhs := Lib.hid hs; clear hs; have HeG := Lib.hid eG; clear eG; have Hhdm := Lib.hid hdm; clear hdm
    cases hv : rvalid (rN n (m : Int)) (rD n (m : Int))
    · rw [hv] at k5
      simp only [Bool.false_eq_true, if_false]
      have Hhv := Lib.hid hv; clear hv; have Hk5 := Lib.hid k5; clear k5
      go_enter Try.func28, Try.ntmps28
      go_wp2_with (first | (go_at_call 68; ((with_reducible refine (Hk1.out _).mono ?_); rintro e w' ⟨rfl, rfl⟩)) | (go_at_call 68; ((with_reducible refine (Hk2.out _).mono ?_); rintro e w' ⟨rfl, rfl⟩)) | (go_at_call 69; ((with_reducible refine (Hk4.out _).mono ?_); rintro e w' ⟨rfl, rfl⟩)))
      generalize rG n (m : Int) = G at *
      have yt := heap_alloc_new w (.cells #[.int .i64 0, .int .i64 0] 25)
      have lt0 := lt_of_heap yt
      have hb1 : Below w.heap.size w (w.alloc (.cells #[.int .i64 0, .int .i64 0] 25)) := (Below.refl w.heap.size w).alloc (Nat.le_refl _) _
      generalize w.alloc (.cells #[.int .i64 0, .int .i64 0] 25) = w1 at *
      refine wp_region_flow 8 [] [[], [], [0, 1], [], [], [3, 4], [2, 5], []] [Fact.is (.int .i64 n), Fact.is (.int .i64 (G : Int)), Fact.is (.int .i64 (rN n (m : Int))), Fact.is (.int .i64 (m : Int)), Fact.is (.int .i64 (G : Int)), Fact.is (.int .i64 (rD n (m : Int))), Fact.is (.agg #[.int .i64 (rN n (m : Int)), .int .i64 (rD n (m : Int))]), Fact.new w1 25 #[.int .i64 0, .int .i64 0]] (by kernel_rfl) (by kernel_rfl) (by intro c d v a w h; cases d <;> exact h) (And.intro ?op0_7 (And.intro ?op1_7 (And.intro ?op2_7 (And.intro ?op3_7 (And.intro ?op4_7 (And.intro ?op5_7 (And.intro ?op6_7 (And.intro ?op7_7 trivial)))))))) ?fin_7
      case op0_7 => (change flowStep _ _ _ _ _ _ _ _; intro wf vs hbf hf; obtain ⟨-⟩ := hf; show wpList _ _ _ _ ⟨_, _⟩ _; go_wp2_with (fail); first | exact ⟨rfl, rfl, ⟨_, _, rfl, rfl, rfl⟩, by first | with_reducible exact Below.refl _ _ | assumption | with_reducible exact (Below.refl _ _).drew | with_reducible exact (Below.refl _ _).alloc (Nat.le_refl _) _⟩ | exact ⟨rfl, rfl, ⟨_, _, rfl, rfl, ⟨_, rfl, Below.size (by assumption), heap_alloc_new _ _⟩⟩, (Below.refl _ _).alloc (Nat.le_refl _) _⟩)
      case op1_7 => (change flowStep _ _ _ _ _ _ _ _; intro wf vs hbf hf; obtain ⟨-⟩ := hf; show wpList _ _ _ _ ⟨_, _⟩ _; go_wp2_with (fail); first | exact ⟨rfl, rfl, ⟨_, _, rfl, rfl, rfl⟩, by first | with_reducible exact Below.refl _ _ | assumption | with_reducible exact (Below.refl _ _).drew | with_reducible exact (Below.refl _ _).alloc (Nat.le_refl _) _⟩ | exact ⟨rfl, rfl, ⟨_, _, rfl, rfl, ⟨_, rfl, Below.size (by assumption), heap_alloc_new _ _⟩⟩, (Below.refl _ _).alloc (Nat.le_refl _) _⟩)
      case op2_7 => (change flowStep _ _ _ _ _ _ _ _; intro wf vs hbf hf; obtain ⟨e0, e1, -⟩ := hf; replace e0 : vs 0 = .int .i64 n := e0; replace e1 : vs 1 = .int .i64 (G : Int) := e1; show wpList _ _ _ _ (Act.put (Act.put _ (some 40) (vs 0)) (some 41) (vs 1)) _; rw [e0, e1]; go_wp2_with (fail); first | exact ⟨rfl, rfl, ⟨_, _, rfl, rfl, rfl⟩, by first | with_reducible exact Below.refl _ _ | assumption | with_reducible exact (Below.refl _ _).drew | with_reducible exact (Below.refl _ _).alloc (Nat.le_refl _) _⟩ | exact ⟨rfl, rfl, ⟨_, _, rfl, rfl, ⟨_, rfl, Below.size (by assumption), heap_alloc_new _ _⟩⟩, (Below.refl _ _).alloc (Nat.le_refl _) _⟩)
      case op3_7 => (change flowStep _ _ _ _ _ _ _ _; intro wf vs hbf hf; obtain ⟨-⟩ := hf; show wpList _ _ _ _ ⟨_, _⟩ _; go_wp2_with (fail); first | exact ⟨rfl, rfl, ⟨_, _, rfl, rfl, rfl⟩, by first | with_reducible exact Below.refl _ _ | assumption | with_reducible exact (Below.refl _ _).drew | with_reducible exact (Below.refl _ _).alloc (Nat.le_refl _) _⟩ | exact ⟨rfl, rfl, ⟨_, _, rfl, rfl, ⟨_, rfl, Below.size (by assumption), heap_alloc_new _ _⟩⟩, (Below.refl _ _).alloc (Nat.le_refl _) _⟩)
      case op4_7 => (change flowStep _ _ _ _ _ _ _ _; intro wf vs hbf hf; obtain ⟨-⟩ := hf; show wpList _ _ _ _ ⟨_, _⟩ _; go_wp2_with (fail); first | exact ⟨rfl, rfl, ⟨_, _, rfl, rfl, rfl⟩, by first | with_reducible exact Below.refl _ _ | assumption | with_reducible exact (Below.refl _ _).drew | with_reducible exact (Below.refl _ _).alloc (Nat.le_refl _) _⟩ | exact ⟨rfl, rfl, ⟨_, _, rfl, rfl, ⟨_, rfl, Below.size (by assumption), heap_alloc_new _ _⟩⟩, (Below.refl _ _).alloc (Nat.le_refl _) _⟩)
      case op5_7 => (change flowStep _ _ _ _ _ _ _ _; intro wf vs hbf hf; obtain ⟨e3, e4, -⟩ := hf; replace e3 : vs 3 = .int .i64 (m : Int) := e3; replace e4 : vs 4 = .int .i64 (G : Int) := e4; show wpList _ _ _ _ (Act.put (Act.put _ (some 43) (vs 3)) (some 44) (vs 4)) _; rw [e3, e4]; go_wp2_with (fail); first | exact ⟨rfl, rfl, ⟨_, _, rfl, rfl, rfl⟩, by first | with_reducible exact Below.refl _ _ | assumption | with_reducible exact (Below.refl _ _).drew | with_reducible exact (Below.refl _ _).alloc (Nat.le_refl _) _⟩ | exact ⟨rfl, rfl, ⟨_, _, rfl, rfl, ⟨_, rfl, Below.size (by assumption), heap_alloc_new _ _⟩⟩, (Below.refl _ _).alloc (Nat.le_refl _) _⟩)
      case op6_7 => (change flowStep _ _ _ _ _ _ _ _; intro wf vs hbf hf; obtain ⟨e2, e5, -⟩ := hf; replace e2 : vs 2 = .int .i64 (rN n (m : Int)) := e2; replace e5 : vs 5 = .int .i64 (rD n (m : Int)) := e5; show wpList _ _ _ _ (Act.put (Act.put _ (some 42) (vs 2)) (some 45) (vs 5)) _; rw [e2, e5]; go_wp2_with (fail); first | exact ⟨rfl, rfl, ⟨_, _, rfl, rfl, rfl⟩, by first | with_reducible exact Below.refl _ _ | assumption | with_reducible exact (Below.refl _ _).drew | with_reducible exact (Below.refl _ _).alloc (Nat.le_refl _) _⟩ | exact ⟨rfl, rfl, ⟨_, _, rfl, rfl, ⟨_, rfl, Below.size (by assumption), heap_alloc_new _ _⟩⟩, (Below.refl _ _).alloc (Nat.le_refl _) _⟩)
      case op7_7 => (change flowStep _ _ _ _ _ _ _ _; intro wf vs hbf hf; obtain ⟨-⟩ := hf; show wpList _ _ _ _ ⟨_, _⟩ _; go_wp2_with (fail); first | exact ⟨rfl, rfl, ⟨_, _, rfl, rfl, rfl⟩, by first | with_reducible exact Below.refl _ _ | assumption | with_reducible exact (Below.refl _ _).drew | with_reducible exact (Below.refl _ _).alloc (Nat.le_refl _) _⟩ | exact ⟨rfl, rfl, ⟨_, _, rfl, rfl, ⟨_, rfl, Below.size (by assumption), heap_alloc_new _ _⟩⟩, (Below.refl _ _).alloc (Nat.le_refl _) _⟩)
      intro wf vs hbf hf; obtain ⟨e0, e1, e2, e3, e4, e5, e6, ⟨g7, e7, b7, y7⟩, -⟩ := hf; replace e0 : vs 0 = .int .i64 n := e0; replace e1 : vs 1 = .int .i64 (G : Int) := e1; replace e2 : vs 2 = .int .i64 (rN n (m : Int)) := e2; replace e3 : vs 3 = .int .i64 (m : Int) := e3; replace e4 : vs 4 = .int .i64 (G : Int) := e4; replace e5 : vs 5 = .int .i64 (rD n (m : Int)) := e5; replace e6 : vs 6 = .agg #[.int .i64 (rN n (m : Int)), .int .i64 (rD n (m : Int))] := e6; show wpList _ _ _ _ (Act.put (Act.put (Act.put (Act.put (Act.put (Act.put (Act.put (Act.put _ (some 40) (vs 0)) (some 41) (vs 1)) (some 42) (vs 2)) (some 43) (vs 3)) (some 44) (vs 4)) (some 45) (vs 5)) (some 46) (vs 6)) (some 8) (vs 7)) _; rw [e0, e1, e2, e3, e4, e5, e6, e7]; simp only [Act.put, List.setIfInBounds_toArray, List.set_cons_succ, List.set_cons_zero, List.drop_succ_cons, List.drop_zero]
      replace yt := blockB hbf yt
      refine wp_store_new rfl 25 (.tmp 8) (.tmp 46) rfl g7 #[.int .i64 (rN n (m : Int)), .int .i64 (rD n (m : Int))] rfl rfl 25 _ y7 (by kernel_rfl) rfl (by simp [Value.oneCell']) ?_
      intro w2 y2 hb2 ho2
      replace yt := (ho2 _ (by omega)).trans yt
      replace hb1 := (hb1.trans (hbf.mono hb1.size)).trans (hb2.mono (by have := hb1.size; omega))
      clear lt0
      have z0 : w2.cell? ⟨g7, 0, none⟩ = some (.int .i64 (rN n (m : Int))) := cellAt y2 0
      have z1 : w2.cell? ⟨g7, 1, none⟩ = some (.int .i64 (rD n (m : Int))) := cellAt y2 1
      go_wp2_with ((go_at_call 23; ((with_reducible refine (Hk5.out _).mono ?_); rintro e w' ⟨rfl, hb5⟩; (have y3 := blockB hb5 yt; have t0 := cellAt y3 0; have t1 := cellAt y3 1; have f0 := frozen0 (j := 0) y3; have f1 := frozen0 (j := 1) y3; replace z0 := cellB hb5 z0; replace z1 := cellB hb5 z1))))
      have r0 := setCell_at t0 rfl
      have r1 := setCell_two (u := .bool false) t1
      refine bodyPost_ret (v := .tuple #[ratV 0 0, .bool false]) (by simp [results, Try.results28, go_sem, ratV, r0, r1]) rfl ⟨rfl, ?_⟩
      exact ((hb1.trans (hb5.mono hb1.size)).setCell (Nat.le_refl _) _).setCell (Nat.le_refl _) _
    · rw [hv] at k5
      simp only [if_true]
      have Hhv := Lib.hid hv; clear hv; have Hk5 := Lib.hid k5; clear k5
      go_enter Try.func28, Try.ntmps28
      go_wp2_with (first | (go_at_call 68; ((with_reducible refine (Hk1.out _).mono ?_); rintro e w' ⟨rfl, rfl⟩)) | (go_at_call 68; ((with_reducible refine (Hk2.out _).mono ?_); rintro e w' ⟨rfl, rfl⟩)) | (go_at_call 69; ((with_reducible refine (Hk4.out _).mono ?_); rintro e w' ⟨rfl, rfl⟩)))
      generalize rG n (m : Int) = G at *
      have yt := heap_alloc_new w (.cells #[.int .i64 0, .int .i64 0] 25)
      have lt0 := lt_of_heap yt
      have hb1 : Below w.heap.size w (w.alloc (.cells #[.int .i64 0, .int .i64 0] 25)) := (Below.refl w.heap.size w).alloc (Nat.le_refl _) _
      generalize w.alloc (.cells #[.int .i64 0, .int .i64 0] 25) = w1 at *
      refine wp_region_flow 8 [] [[], [], [0, 1], [], [], [3, 4], [2, 5], []] [Fact.is (.int .i64 n), Fact.is (.int .i64 (G : Int)), Fact.is (.int .i64 (rN n (m : Int))), Fact.is (.int .i64 (m : Int)), Fact.is (.int .i64 (G : Int)), Fact.is (.int .i64 (rD n (m : Int))), Fact.is (.agg #[.int .i64 (rN n (m : Int)), .int .i64 (rD n (m : Int))]), Fact.new w1 25 #[.int .i64 0, .int .i64 0]] (by kernel_rfl) (by kernel_rfl) (by intro c d v a w h; cases d <;> exact h) (And.intro ?op0_8 (And.intro ?op1_8 (And.intro ?op2_8 (And.intro ?op3_8 (And.intro ?op4_8 (And.intro ?op5_8 (And.intro ?op6_8 (And.intro ?op7_8 trivial)))))))) ?fin_8
      case op0_8 => (change flowStep _ _ _ _ _ _ _ _; intro wf vs hbf hf; obtain ⟨-⟩ := hf; show wpList _ _ _ _ ⟨_, _⟩ _; go_wp2_with (fail); first | exact ⟨rfl, rfl, ⟨_, _, rfl, rfl, rfl⟩, by first | with_reducible exact Below.refl _ _ | assumption | with_reducible exact (Below.refl _ _).drew | with_reducible exact (Below.refl _ _).alloc (Nat.le_refl _) _⟩ | exact ⟨rfl, rfl, ⟨_, _, rfl, rfl, ⟨_, rfl, Below.size (by assumption), heap_alloc_new _ _⟩⟩, (Below.refl _ _).alloc (Nat.le_refl _) _⟩)
      case op1_8 => (change flowStep _ _ _ _ _ _ _ _; intro wf vs hbf hf; obtain ⟨-⟩ := hf; show wpList _ _ _ _ ⟨_, _⟩ _; go_wp2_with (fail); first | exact ⟨rfl, rfl, ⟨_, _, rfl, rfl, rfl⟩, by first | with_reducible exact Below.refl _ _ | assumption | with_reducible exact (Below.refl _ _).drew | with_reducible exact (Below.refl _ _).alloc (Nat.le_refl _) _⟩ | exact ⟨rfl, rfl, ⟨_, _, rfl, rfl, ⟨_, rfl, Below.size (by assumption), heap_alloc_new _ _⟩⟩, (Below.refl _ _).alloc (Nat.le_refl _) _⟩)
      case op2_8 => (change flowStep _ _ _ _ _ _ _ _; intro wf vs hbf hf; obtain ⟨e0, e1, -⟩ := hf; replace e0 : vs 0 = .int .i64 n := e0; replace e1 : vs 1 = .int .i64 (G : Int) := e1; show wpList _ _ _ _ (Act.put (Act.put _ (some 40) (vs 0)) (some 41) (vs 1)) _; rw [e0, e1]; go_wp2_with (fail); first | exact ⟨rfl, rfl, ⟨_, _, rfl, rfl, rfl⟩, by first | with_reducible exact Below.refl _ _ | assumption | with_reducible exact (Below.refl _ _).drew | with_reducible exact (Below.refl _ _).alloc (Nat.le_refl _) _⟩ | exact ⟨rfl, rfl, ⟨_, _, rfl, rfl, ⟨_, rfl, Below.size (by assumption), heap_alloc_new _ _⟩⟩, (Below.refl _ _).alloc (Nat.le_refl _) _⟩)
      case op3_8 => (change flowStep _ _ _ _ _ _ _ _; intro wf vs hbf hf; obtain ⟨-⟩ := hf; show wpList _ _ _ _ ⟨_, _⟩ _; go_wp2_with (fail); first | exact ⟨rfl, rfl, ⟨_, _, rfl, rfl, rfl⟩, by first | with_reducible exact Below.refl _ _ | assumption | with_reducible exact (Below.refl _ _).drew | with_reducible exact (Below.refl _ _).alloc (Nat.le_refl _) _⟩ | exact ⟨rfl, rfl, ⟨_, _, rfl, rfl, ⟨_, rfl, Below.size (by assumption), heap_alloc_new _ _⟩⟩, (Below.refl _ _).alloc (Nat.le_refl _) _⟩)
      case op4_8 => (change flowStep _ _ _ _ _ _ _ _; intro wf vs hbf hf; obtain ⟨-⟩ := hf; show wpList _ _ _ _ ⟨_, _⟩ _; go_wp2_with (fail); first | exact ⟨rfl, rfl, ⟨_, _, rfl, rfl, rfl⟩, by first | with_reducible exact Below.refl _ _ | assumption | with_reducible exact (Below.refl _ _).drew | with_reducible exact (Below.refl _ _).alloc (Nat.le_refl _) _⟩ | exact ⟨rfl, rfl, ⟨_, _, rfl, rfl, ⟨_, rfl, Below.size (by assumption), heap_alloc_new _ _⟩⟩, (Below.refl _ _).alloc (Nat.le_refl _) _⟩)
      case op5_8 => (change flowStep _ _ _ _ _ _ _ _; intro wf vs hbf hf; obtain ⟨e3, e4, -⟩ := hf; replace e3 : vs 3 = .int .i64 (m : Int) := e3; replace e4 : vs 4 = .int .i64 (G : Int) := e4; show wpList _ _ _ _ (Act.put (Act.put _ (some 43) (vs 3)) (some 44) (vs 4)) _; rw [e3, e4]; go_wp2_with (fail); first | exact ⟨rfl, rfl, ⟨_, _, rfl, rfl, rfl⟩, by first | with_reducible exact Below.refl _ _ | assumption | with_reducible exact (Below.refl _ _).drew | with_reducible exact (Below.refl _ _).alloc (Nat.le_refl _) _⟩ | exact ⟨rfl, rfl, ⟨_, _, rfl, rfl, ⟨_, rfl, Below.size (by assumption), heap_alloc_new _ _⟩⟩, (Below.refl _ _).alloc (Nat.le_refl _) _⟩)
      case op6_8 => (change flowStep _ _ _ _ _ _ _ _; intro wf vs hbf hf; obtain ⟨e2, e5, -⟩ := hf; replace e2 : vs 2 = .int .i64 (rN n (m : Int)) := e2; replace e5 : vs 5 = .int .i64 (rD n (m : Int)) := e5; show wpList _ _ _ _ (Act.put (Act.put _ (some 42) (vs 2)) (some 45) (vs 5)) _; rw [e2, e5]; go_wp2_with (fail); first | exact ⟨rfl, rfl, ⟨_, _, rfl, rfl, rfl⟩, by first | with_reducible exact Below.refl _ _ | assumption | with_reducible exact (Below.refl _ _).drew | with_reducible exact (Below.refl _ _).alloc (Nat.le_refl _) _⟩ | exact ⟨rfl, rfl, ⟨_, _, rfl, rfl, ⟨_, rfl, Below.size (by assumption), heap_alloc_new _ _⟩⟩, (Below.refl _ _).alloc (Nat.le_refl _) _⟩)
      case op7_8 => (change flowStep _ _ _ _ _ _ _ _; intro wf vs hbf hf; obtain ⟨-⟩ := hf; show wpList _ _ _ _ ⟨_, _⟩ _; go_wp2_with (fail); first | exact ⟨rfl, rfl, ⟨_, _, rfl, rfl, rfl⟩, by first | with_reducible exact Below.refl _ _ | assumption | with_reducible exact (Below.refl _ _).drew | with_reducible exact (Below.refl _ _).alloc (Nat.le_refl _) _⟩ | exact ⟨rfl, rfl, ⟨_, _, rfl, rfl, ⟨_, rfl, Below.size (by assumption), heap_alloc_new _ _⟩⟩, (Below.refl _ _).alloc (Nat.le_refl _) _⟩)
      intro wf vs hbf hf; obtain ⟨e0, e1, e2, e3, e4, e5, e6, ⟨g7, e7, b7, y7⟩, -⟩ := hf; replace e0 : vs 0 = .int .i64 n := e0; replace e1 : vs 1 = .int .i64 (G : Int) := e1; replace e2 : vs 2 = .int .i64 (rN n (m : Int)) := e2; replace e3 : vs 3 = .int .i64 (m : Int) := e3; replace e4 : vs 4 = .int .i64 (G : Int) := e4; replace e5 : vs 5 = .int .i64 (rD n (m : Int)) := e5; replace e6 : vs 6 = .agg #[.int .i64 (rN n (m : Int)), .int .i64 (rD n (m : Int))] := e6; show wpList _ _ _ _ (Act.put (Act.put (Act.put (Act.put (Act.put (Act.put (Act.put (Act.put _ (some 40) (vs 0)) (some 41) (vs 1)) (some 42) (vs 2)) (some 43) (vs 3)) (some 44) (vs 4)) (some 45) (vs 5)) (some 46) (vs 6)) (some 8) (vs 7)) _; rw [e0, e1, e2, e3, e4, e5, e6, e7]; simp only [Act.put, List.setIfInBounds_toArray, List.set_cons_succ, List.set_cons_zero, List.drop_succ_cons, List.drop_zero]
      replace yt := blockB hbf yt
      refine wp_store_new rfl 25 (.tmp 8) (.tmp 46) rfl g7 #[.int .i64 (rN n (m : Int)), .int .i64 (rD n (m : Int))] rfl rfl 25 _ y7 (by kernel_rfl) rfl (by simp [Value.oneCell']) ?_
      intro w2 y2 hb2 ho2
      replace yt := (ho2 _ (by omega)).trans yt
      replace hb1 := (hb1.trans (hbf.mono hb1.size)).trans (hb2.mono (by have := hb1.size; omega))
      clear lt0
      have z0 : w2.cell? ⟨g7, 0, none⟩ = some (.int .i64 (rN n (m : Int))) := cellAt y2 0
      have z1 : w2.cell? ⟨g7, 1, none⟩ = some (.int .i64 (rD n (m : Int))) := cellAt y2 1
      go_wp2_with ((go_at_call 23; ((with_reducible refine (Hk5.out _).mono ?_); rintro e w' ⟨rfl, hb5⟩; (have y3 := blockB hb5 yt; have t0 := cellAt y3 0; have t1 := cellAt y3 1; have f0 := frozen0 (j := 0) y3; have f1 := frozen0 (j := 1) y3; replace z0 := cellB hb5 z0; replace z1 := cellB hb5 z1))))
      have r0 := setCell_at t0 rfl
      have r1 := setCell_two (u := .bool false) t1
      refine bodyPost_ret (v := .tuple #[ratV (rN n (m : Int)) (rD n (m : Int)), .bool true]) (by simp [results, Try.results28, go_sem, ratV, r0, r1]) rfl ⟨rfl, ?_⟩
      exact ((hb1.trans (hb5.mono hb1.size)).setCell (Nat.le_refl _) _).setCell (Nat.le_refl _) _
theorem newR_tuple (n d : Int) : ∃ (a b : Int) (t : Bool), newR n d = .tuple #[.agg #[.int .i64 a, .int .i64 b], .bool t] := by
  unfold newR ratV
  split
  · exact ⟨_, _, _, rfl⟩
  · exact ⟨_, _, _, rfl⟩
end Go.Proofs.Ytkhphjapefijbaa
