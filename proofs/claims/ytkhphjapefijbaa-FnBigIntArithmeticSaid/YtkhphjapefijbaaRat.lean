/- Rationals: gcd, validity, NewRational, both. -/
import Derived.Test.YtkhphjapefijbaaNum
import Derived.Test.YtkhphjapefijbaaQuiet
namespace Go.Proofs.Ytkhphjapefijbaa
open Go.RowKit Go.Sort
set_option maxHeartbeats 2000000
set_option maxRecDepth 100000

theorem gcd_step (a b : Nat) : Nat.gcd a b = Nat.gcd b (a % b) := by rw [Nat.gcd_comm a b, Nat.gcd_rec b a, Nat.gcd_comm]

theorem gcd_i (a b : Nat) (ha : a ≤ 9223372036854775807) (hb : b ≤ 9223372036854775807) (w : World) : Calls Try.prog 71 #[.int .i64 (a : Int), .int .i64 (b : Int)] w (RetB (.int .i64 (Nat.gcd a b : Int)) w) := by
  go_enter Try.func71, Try.ntmps71
  go_wp2_with fail
  go_loopw [0, 1] (fun x y wr => ∃ m n : Nat, m ≤ 9223372036854775807 ∧ n ≤ 9223372036854775807 ∧ x = .int .i64 (m : Int) ∧ y = .int .i64 (n : Int) ∧ Nat.gcd m n = Nat.gcd a b ∧ Below w.heap.size w wr) (fun _ y _ => (intOf y).toNat)
  case atStart => exact ⟨a, b, ha, hb, rfl, rfl, rfl, Below.refl _ _⟩
  case round =>
    obtain ⟨m, n, hm, hn, rfl, rfl, hg, hb'⟩ := hrel
    by_cases h0 : n = 0
    · subst h0
      rw [Nat.gcd_zero_right] at hg
      have Hhg := Lib.hid hg; clear hg
      go_wp2_with fail
      go_ret
      exact ⟨ret_int (by rw [Hhg.out]), hb'⟩
    · rw [gcd_step] at hg
      have d1 : (n == 0) = false := by rw [beq_eq_false_iff_ne]; exact h0
      have d2 : ((n : Int) == 0) = false := by rw [beq_eq_false_iff_ne]; omega
      have d3 : ((n : Int) != 0) = true := by rw [bne_iff_ne]; omega
      have hlt : m % n < n := Nat.mod_lt _ (by omega)
      have e0 : ((m % n : Nat) : Int) = (m : Int) % (n : Int) := by rw [Int.natCast_emod]
      have e1 : (m : Int).tmod (n : Int) = (m : Int) % (n : Int) := Int.tmod_eq_emod_of_nonneg (by omega)
      have Hhg := Lib.hid hg; clear hg; have He0 := Lib.hid e0; clear e0
      go_wp2_with fail
      refine wp_region_below (by kernel_rfl) (by kernel_rfl) ?_; (repeat (quiet_step (fail))); refine wpQuiet_nil ?_
      intro w1 hb1
      go_wp2_with fail
      go_roundw
      case rel => exact ⟨n, m % n, hn, by omega, rfl, by rw [He0.out], Hhg.out, below_tr hb' hb1⟩
      case measure => simp [intOf]; have := He0.out; omega

theorem l2Gcd_s (a b : Nat) (ha : a ≤ 9223372036854775807) (hb : b ≤ 9223372036854775807) (w : World) : Calls Try.prog 69 #[.int .i64 (a : Int), .int .i64 (b : Int)] w (Ret (.int .i64 (Nat.gcd a b : Int)) w) := by
  go_enter Try.func69, Try.ntmps69
  go_wp2_with fail
  go_loop [0, 1] (fun x y => ∃ m n : Nat, m ≤ 9223372036854775807 ∧ n ≤ 9223372036854775807 ∧ x = .int .i64 (m : Int) ∧ y = .int .i64 (n : Int) ∧ Nat.gcd m n = Nat.gcd a b) (fun _ y => (intOf y).toNat)
  case atStart => exact ⟨a, b, ha, hb, rfl, rfl, rfl⟩
  case round =>
    obtain ⟨m, n, hm, hn, rfl, rfl, hg⟩ := hrel
    by_cases h0 : n = 0
    · subst h0
      rw [Nat.gcd_zero_right] at hg
      have Hhg := Lib.hid hg; clear hg
      go_wp2_with fail
      go_ret
      exact ⟨ret_int (by rw [Hhg.out]), rfl⟩
    · rw [gcd_step] at hg
      have d1 : (n == 0) = false := by rw [beq_eq_false_iff_ne]; exact h0
      have d2 : ((n : Int) == 0) = false := by rw [beq_eq_false_iff_ne]; omega
      have d3 : ((n : Int) != 0) = true := by rw [bne_iff_ne]; omega
      have hlt : m % n < n := Nat.mod_lt _ (by omega)
      have e0 : ((m % n : Nat) : Int) = (m : Int) % (n : Int) := by rw [Int.natCast_emod]
      have e1 : (m : Int).tmod (n : Int) = (m : Int) % (n : Int) := Int.tmod_eq_emod_of_nonneg (by omega)
      have Hhg := Lib.hid hg; clear hg; have He0 := Lib.hid e0; clear e0
      go_wp2_with fail
      go_round
      case rel => exact ⟨n, m % n, hn, by omega, rfl, by rw [He0.out], Hhg.out⟩
      case measure => simp [intOf]; have := He0.out; omega

theorem abs_i (n : Int) (h : -9223372036854775808 < n ∧ n ≤ 9223372036854775807) (w : World) : Calls Try.prog 72 #[.int .i64 n] w (Ret (.int .i64 (n.natAbs : Int)) w) := by
  have h1 := h.1
  have h2 := h.2
  clear h
  by_cases h0 : 0 ≤ n
  · have hm : max n (-n) = n := by omega
    have hm' : max (-n) n = n := by omega
    go_enter Try.func72, Try.ntmps72
    go_wp2_with fail
    go_ret
    exact ⟨ret_int (by omega), rfl⟩
  · have hm : max n (-n) = -n := by omega
    have hm' : max (-n) n = -n := by omega
    go_enter Try.func72, Try.ntmps72
    go_wp2_with fail
    go_ret
    exact ⟨ret_int (by omega), rfl⟩

def rvalid (n d : Int) : Bool := (inR d 1 1000000000 && inR n (-1000000000) 1000000000) && decide (Nat.gcd n.natAbs d.natAbs = 1)
theorem box_at0 {w : World} {x y : Value} {T : TypeId} : (w.alloc (.cells #[x, y] T)).cell? ⟨w.heap.size, 0, none⟩ = some x := cell_of_row _ _ _ _ _ _ (heap_alloc_new w _)
theorem box_at1 {w : World} {x y : Value} {T : TypeId} : (w.alloc (.cells #[x, y] T)).cell? ⟨w.heap.size, 1, none⟩ = some y := cell_of_row _ _ _ _ _ _ (heap_alloc_new w _)

theorem IsValidRational_i (n d : Int) (w : World) : Calls Try.prog 25 #[.agg #[.int .i64 n, .int .i64 d]] w (RetB (.bool (rvalid n d)) w) := by
  have c0 : ∀ (p : Nat) (os : Array Obj), (grow (redrawn (w.alloc (.cells #[.int .i64 n, .int .i64 d] 25)) p) os).cell? ⟨w.heap.size, 0, none⟩ = some (.int .i64 n) := cell_regrown box_at0
  have c1 : ∀ (p : Nat) (os : Array Obj), (grow (redrawn (w.alloc (.cells #[.int .i64 n, .int .i64 d] 25)) p) os).cell? ⟨w.heap.size, 1, none⟩ = some (.int .i64 d) := cell_regrown box_at1
  by_cases h1 : 1 ≤ d ∧ d ≤ 1000000000
  · by_cases h2 : -1000000000 ≤ n ∧ n ≤ 1000000000
    · have e : rvalid n d = decide (Nat.gcd n.natAbs d.natAbs = 1) := by unfold rvalid; rw [inR_yes h1, inR_yes h2]; rfl
      have e2 : decide (Nat.gcd n.natAbs d.natAbs = 1) = ((Nat.gcd n.natAbs d.natAbs : Int) == 1) := by
        rw [Bool.eq_iff_iff, decide_eq_true_eq, beq_iff_eq]; omega
      rw [e, e2]
      obtain ⟨d, rfl⟩ := Int.eq_ofNat_of_zero_le (show 0 ≤ d by omega)
      rw [Int.natAbs_natCast]
      have q1 : 1 ≤ (d : Int) := h1.1
      have q2 : (d : Int) ≤ 1000000000 := h1.2
      have q3 : -1000000000 ≤ n := h2.1
      have q4 : n ≤ 1000000000 := h2.2
      clear e e2 h1 h2
      go_enter Try.func25, Try.ntmps25
      go_wp2_with fail
      refine wp_region_below (by kernel_rfl) (by kernel_rfl) ?_; (repeat (quiet_step (first | with_reducible exact regR (within_yes (d : Int) 1 _ (by omega) _) | with_reducible exact regR (within_yes n _ _ (by omega) _) | with_reducible exact regR (abs_i n (by omega) _) | with_reducible exact regB (gcd_i n.natAbs d (by omega) (by omega) _)))); refine wpQuiet_nil ?_
      intro w1 hb1
      go_wp2_with fail
      go_ret
      exact ⟨rfl, ((Below.refl _ _).alloc (Nat.le_refl _) _).trans (hb1.mono (by simp))⟩
    · have e : rvalid n d = false := by unfold rvalid; rw [inR_yes h1, inR_no h2]; rfl
      rw [e]
      clear e
      go_enter Try.func25, Try.ntmps25
      go_wp2_with fail
      refine wp_region_below (by kernel_rfl) (by kernel_rfl) ?_; (iterate 9 (quiet_step (first | with_reducible exact regR (within_yes d 1 _ h1 _) | with_reducible exact regR (within_no n _ _ h2 _)))); refine quiet_skip (j := 8) (b := true) (c := false) (d := 11) (d0 := 12) (by kernel_rfl) (by kernel_rfl) (by kernel_rfl) (by kernel_rfl) (by kernel_rfl) (by kernel_rfl) ?_; refine quiet_skip (j := 8) (b := true) (c := false) (d := 11) (d0 := 13) (by kernel_rfl) (by kernel_rfl) (by kernel_rfl) (by kernel_rfl) (by kernel_rfl) (by kernel_rfl) ?_; refine quiet_skip (j := 8) (b := true) (c := false) (d := 11) (d0 := 14) (by kernel_rfl) (by kernel_rfl) (by kernel_rfl) (by kernel_rfl) (by kernel_rfl) (by kernel_rfl) ?_; refine quiet_skip (j := 8) (b := true) (c := false) (d := 11) (d0 := 15) (by kernel_rfl) (by kernel_rfl) (by kernel_rfl) (by kernel_rfl) (by kernel_rfl) (by kernel_rfl) ?_; refine quiet_skip (j := 8) (b := true) (c := false) (d := 11) (d0 := 16) (by kernel_rfl) (by kernel_rfl) (by kernel_rfl) (by kernel_rfl) (by kernel_rfl) (by kernel_rfl) ?_; refine quiet_skip (j := 8) (b := true) (c := false) (d := 11) (d0 := 17) (by kernel_rfl) (by kernel_rfl) (by kernel_rfl) (by kernel_rfl) (by kernel_rfl) (by kernel_rfl) ?_; refine quiet_skip (j := 8) (b := true) (c := false) (d := 11) (d0 := 18) (by kernel_rfl) (by kernel_rfl) (by kernel_rfl) (by kernel_rfl) (by kernel_rfl) (by kernel_rfl) ?_; (iterate 2 (quiet_step (first | with_reducible exact regR (within_yes d 1 _ h1 _) | with_reducible exact regR (within_no n _ _ h2 _)))); refine wpQuiet_nil ?_
      intro w1 hb1
      go_wp2_with fail
      go_ret
      exact ⟨rfl, ((Below.refl _ _).alloc (Nat.le_refl _) _).trans (hb1.mono (by simp))⟩
  · have e : rvalid n d = false := by unfold rvalid; rw [inR_no h1]; rfl
    rw [e]
    clear e
    have k1 := fun W => within_no d 1 1000000000 h1 W
    have Hh1 := Lib.hid h1; clear h1; have Hk1 := Lib.hid k1; clear k1
    go_enter Try.func25, Try.ntmps25
    go_wp2_with fail
    refine wp_region_below (by kernel_rfl) (by kernel_rfl) ?_; (iterate 4 (quiet_step (first | with_reducible exact regR (Hk1.out _)))); refine quiet_skip (j := 3) (b := true) (c := false) (d := 6) (d0 := 7) (by kernel_rfl) (by kernel_rfl) (by kernel_rfl) (by kernel_rfl) (by kernel_rfl) (by kernel_rfl) ?_; refine quiet_skip (j := 3) (b := true) (c := false) (d := 6) (d0 := 8) (by kernel_rfl) (by kernel_rfl) (by kernel_rfl) (by kernel_rfl) (by kernel_rfl) (by kernel_rfl) ?_; refine quiet_skip (j := 3) (b := true) (c := false) (d := 6) (d0 := 9) (by kernel_rfl) (by kernel_rfl) (by kernel_rfl) (by kernel_rfl) (by kernel_rfl) (by kernel_rfl) ?_; (iterate 2 (quiet_step (first | with_reducible exact regR (Hk1.out _)))); refine quiet_skip (j := 8) (b := true) (c := false) (d := 11) (d0 := 12) (by kernel_rfl) (by kernel_rfl) (by kernel_rfl) (by kernel_rfl) (by kernel_rfl) (by kernel_rfl) ?_; refine quiet_skip (j := 8) (b := true) (c := false) (d := 11) (d0 := 13) (by kernel_rfl) (by kernel_rfl) (by kernel_rfl) (by kernel_rfl) (by kernel_rfl) (by kernel_rfl) ?_; refine quiet_skip (j := 8) (b := true) (c := false) (d := 11) (d0 := 14) (by kernel_rfl) (by kernel_rfl) (by kernel_rfl) (by kernel_rfl) (by kernel_rfl) (by kernel_rfl) ?_; refine quiet_skip (j := 8) (b := true) (c := false) (d := 11) (d0 := 15) (by kernel_rfl) (by kernel_rfl) (by kernel_rfl) (by kernel_rfl) (by kernel_rfl) (by kernel_rfl) ?_; refine quiet_skip (j := 8) (b := true) (c := false) (d := 11) (d0 := 16) (by kernel_rfl) (by kernel_rfl) (by kernel_rfl) (by kernel_rfl) (by kernel_rfl) (by kernel_rfl) ?_; refine quiet_skip (j := 8) (b := true) (c := false) (d := 11) (d0 := 17) (by kernel_rfl) (by kernel_rfl) (by kernel_rfl) (by kernel_rfl) (by kernel_rfl) (by kernel_rfl) ?_; refine quiet_skip (j := 8) (b := true) (c := false) (d := 11) (d0 := 18) (by kernel_rfl) (by kernel_rfl) (by kernel_rfl) (by kernel_rfl) (by kernel_rfl) (by kernel_rfl) ?_; (iterate 2 (quiet_step (first | with_reducible exact regR (Hk1.out _)))); refine wpQuiet_nil ?_
    intro w1 hb1
    go_wp2_with fail
    go_ret
    exact ⟨rfl, ((Below.refl _ _).alloc (Nat.le_refl _) _).trans (hb1.mono (by simp))⟩
end Go.Proofs.Ytkhphjapefijbaa
