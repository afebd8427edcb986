/- Rows: validity, comparing, encoding, decoding, both. -/
import Derived.Test.YtbajnecahojcfaaRowP
import Derived.Test.YtbajnecahojcfaaMat
import Derived.Test.YtbajnecahojcfaaValue
namespace Go.Proofs.Ytbajnecahojcfaa
open Go.RowKit Go.Sort
set_option maxHeartbeats 1000000
set_option maxRecDepth 100000

theorem AreValidValues_i (v : Value) (l : List Int) (w : World) (hv : IRow w v l) : Calls Try.prog 29 #[v] w (Ret (.bool (vrow l)) w) := by
  have hlen := VRow.len hv
  rw [List.length_map] at hlen
  obtain ⟨A, c, rfl, -, -, -, hA⟩ := IRow.open hv
  clear hv
  have HhA := Lib.hid hA; clear hA
  go_enter Try.func29, Try.ntmps29
  go_wp2_with fail
  go_loop [7] (fun i => ∃ k : Nat, i = .int .i64 k ∧ k ≤ l.length ∧ (l.take k).all (fun x => inR x 0 99) = true) (fun i => l.length - (intOf i).toNat)
  case atStart => exact ⟨0, rfl, Nat.zero_le _, rfl⟩
  case round =>
    obtain ⟨k, rfl, hk, hall⟩ := hrel
    by_cases hlt : k < l.length
    · have g0 : (k : Int) < (l.length : Int) := by omega
      obtain ⟨b, off, rfl, h1⟩ := HhA.out k hlt
      have c1 := h1 k hlt
      clear h1
      obtain ⟨x, hx⟩ : ∃ x, l[k] = x := ⟨_, rfl⟩
      rw [hx] at c1
      by_cases hd : 0 ≤ x ∧ x ≤ 99
      · have h3 := vrow_step hlt hall (by rw [hx]; exact inR_yes hd)
        have k1 := fun W => within_yes x 0 99 hd W
        have Hh3 := Lib.hid h3; clear h3; have Hhall := Lib.hid hall; clear hall; have Hhx := Lib.hid hx; clear hx; have Hhd := Lib.hid hd; clear hd; have Hk1 := Lib.hid k1; clear k1
        go_wp2_with (go_at_call 96; ((with_reducible refine (Hk1.out _).mono ?_); rintro e w' ⟨rfl, rfl⟩))
        go_round
        case rel => exact ⟨k + 1, by go_num, by omega, Hh3.out⟩
        case measure => simp [intOf] <;> omega
      · have e := vrow_bad hlt (by rw [hx]; exact inR_no hd)
        have k1 := fun W => within_no x 0 99 hd W
        have Hhall := Lib.hid hall; clear hall; have Hhx := Lib.hid hx; clear hx; have Hhd := Lib.hid hd; clear hd; have Hk1 := Lib.hid k1; clear k1; have He := Lib.hid e; clear e
        go_wp2_with (go_at_call 96; ((with_reducible refine (Hk1.out _).mono ?_); rintro e w' ⟨rfl, rfl⟩))
        go_ret
        exact ⟨by rw [He.out]; rfl, rfl⟩
    · obtain rfl : k = l.length := by omega
      have g0 : ¬ (l.length : Int) < (l.length : Int) := by omega
      have e := vrow_end hall
      have Hhall := Lib.hid hall; clear hall; have He := Lib.hid e; clear e
      go_wp2_with fail
      go_ret
      exact ⟨by rw [He.out]; rfl, rfl⟩
theorem AreValidValuesB_i (v : Value) (l : List Int) (w : World) (hv : IRow w v l) : Calls Try.prog 29 #[v] w (RetB (.bool (vrow l)) w) :=
  (AreValidValues_i v l w hv).mono fun _ _ ⟨h1, h2⟩ => ⟨h1, h2 ▸ Below.refl _ _⟩
theorem AreValidValues_s (v : Value) (l : List Int) (w : World) (hv : IRow w v l) : Calls Try.prog 27 #[v] w (Ret (.bool (vrow l)) w) := by
  have hlen := VRow.len hv
  rw [List.length_map] at hlen
  obtain ⟨A, c, rfl, -, -, -, hA⟩ := IRow.open hv
  clear hv
  have HhA := Lib.hid hA; clear hA
  go_enter Try.func27, Try.ntmps27
  go_wp2_with fail
  go_loop [3] (fun i => ∃ k : Nat, i = .int .i64 k ∧ k ≤ l.length ∧ (l.take k).all (fun x => inR x 0 99) = true) (fun i => l.length - (intOf i).toNat)
  case atStart => exact ⟨0, rfl, Nat.zero_le _, rfl⟩
  case round =>
    obtain ⟨k, rfl, hk, hall⟩ := hrel
    by_cases hlt : k < l.length
    · have g0 : (k : Int) < (l.length : Int) := by omega
      obtain ⟨b, off, rfl, h1⟩ := HhA.out k hlt
      have c1 := h1 k hlt
      clear h1
      obtain ⟨x, hx⟩ : ∃ x, l[k] = x := ⟨_, rfl⟩
      rw [hx] at c1
      by_cases hd : 0 ≤ x ∧ x ≤ 99
      · have h3 := vrow_step hlt hall (by rw [hx]; exact inR_yes hd)
        have k1 := fun W => l1In_yes x 0 99 hd W
        have Hh3 := Lib.hid h3; clear h3; have Hhall := Lib.hid hall; clear hall; have Hhx := Lib.hid hx; clear hx; have Hhd := Lib.hid hd; clear hd; have Hk1 := Lib.hid k1; clear k1
        go_wp2_with (go_at_call 95; ((with_reducible refine (Hk1.out _).mono ?_); rintro e w' ⟨rfl, rfl⟩))
        go_round
        case rel => exact ⟨k + 1, by go_num, by omega, Hh3.out⟩
        case measure => simp [intOf] <;> omega
      · have e := vrow_bad hlt (by rw [hx]; exact inR_no hd)
        have k1 := fun W => l1In_no x 0 99 hd W
        have Hhall := Lib.hid hall; clear hall; have Hhx := Lib.hid hx; clear hx; have Hhd := Lib.hid hd; clear hd; have Hk1 := Lib.hid k1; clear k1; have He := Lib.hid e; clear e
        go_wp2_with (go_at_call 95; ((with_reducible refine (Hk1.out _).mono ?_); rintro e w' ⟨rfl, rfl⟩))
        go_ret
        exact ⟨by rw [He.out]; rfl, rfl⟩
    · obtain rfl : k = l.length := by omega
      have g0 : ¬ (l.length : Int) < (l.length : Int) := by omega
      have e := vrow_end hall
      have Hhall := Lib.hid hall; clear hall; have He := Lib.hid e; clear e
      go_wp2_with fail
      go_ret
      exact ⟨by rw [He.out]; rfl, rfl⟩
theorem AreValidValuesB_s (v : Value) (l : List Int) (w : World) (hv : IRow w v l) : Calls Try.prog 27 #[v] w (RetB (.bool (vrow l)) w) :=
  (AreValidValues_s v l w hv).mono fun _ _ ⟨h1, h2⟩ => ⟨h1, h2 ▸ Below.refl _ _⟩

theorem cmpI_lt {a b : Int} (h : a < b) : cmpI a b = -1 := by unfold cmpI; rw [if_pos h]
theorem cmpI_gt {a b : Int} (h : b < a) : cmpI a b = 1 := by unfold cmpI; rw [if_neg (by omega), if_pos h]
theorem CompareRows_i (a b : Value) (l1 l2 : List Int) (w : World) (ha : IRow w a l1) (hb : IRow w b l2) :
    Calls Try.prog 32 #[a, b] w (RetB (.int .i64 (cmpRow l1 l2)) w) := by
  have n1 := VRow.len ha
  have n2 := VRow.len hb
  rw [List.length_map] at n1 n2
  obtain ⟨A, c, rfl, -, -, -, hA⟩ := IRow.open ha
  obtain ⟨A', c', rfl, -, -, -, hC⟩ := IRow.open hb
  clear ha hb
  have HhA := Lib.hid hA; clear hA; have HhC := Lib.hid hC; clear hC
  go_enter Try.func32, Try.ntmps32
  go_wp2_with fail
  go_loopw [5] (fun i wr => ∃ k : Nat, i = .int .i64 k ∧ k ≤ l1.length ∧ k ≤ l2.length ∧ l1.take k = l2.take k ∧ Below w.heap.size w wr) (fun i _ => l1.length - (intOf i).toNat)
  case atStart => exact ⟨0, rfl, Nat.zero_le _, Nat.zero_le _, rfl, Below.refl _ _⟩
  case round =>
    obtain ⟨k, rfl, hk, hk2, ht, hb⟩ := hrel
    by_cases hlt : k < l1.length ∧ k < l2.length
    · obtain ⟨hlt, hlt2⟩ := hlt
      have g0 : (k : Int) < (l1.length : Int) := by omega
      have g1 : (k : Int) < (l2.length : Int) := by omega
      obtain ⟨b, off, rfl, h1⟩ := HhA.out k hlt
      obtain ⟨b', off', rfl, h2⟩ := HhC.out k hlt2
      have c1 := cellB hb (h1 k hlt)
      have c2 := cellB hb (h2 k hlt2)
      clear h1 h2
      obtain ⟨x, hx⟩ : ∃ x, l1[k] = x := ⟨_, rfl⟩
      obtain ⟨y, hy⟩ : ∃ y, l2[k] = y := ⟨_, rfl⟩
      rw [hx] at c1
      rw [hy] at c2
      by_cases he : x = y
      · have h3 := eq_take ht hlt hlt2 (by rw [hx, hy, he])
        have d3 : (x != y) = false := by rw [he]; simp
        have Hh3 := Lib.hid h3; clear h3; have Hht := Lib.hid ht; clear ht; have Hhx := Lib.hid hx; clear hx; have Hhy := Lib.hid hy; clear hy
        go_wp2_with fail
        go_quiet (fail)
        go_wp2_with fail
        go_roundw
        case rel => exact ⟨k + 1, by go_num, by omega, by omega, Hh3.out, below_draws hb _⟩
        case measure => simp [intOf] <;> omega
      · have d3 : (x != y) = true := by rw [bne_iff_ne]; exact he
        have e : cmpRow l1 l2 = cmpI x y := by
          rcases Int.lt_or_gt_of_ne he with hxy | hxy
          · rw [cmpI_lt hxy]; exact cmpRow_lt_at ht hlt hlt2 (by rw [hx, hy]; exact hxy)
          · rw [cmpI_gt hxy]; exact cmpRow_gt_at ht hlt hlt2 (by rw [hx, hy]; exact hxy)
        have k1 := fun W => compareInts_any x y W
        have Hht := Lib.hid ht; clear ht; have Hhx := Lib.hid hx; clear hx; have Hhy := Lib.hid hy; clear hy; have Hhe := Lib.hid he; clear he; have He := Lib.hid e; clear e; have Hk1 := Lib.hid k1; clear k1
        go_wp2_with fail
        go_quiet (fail)
        go_wp2_with fail
        have hb3 := below_draws hb nq
        have c3 := cell_regrown (w := wr.drewN nq) (v := .int .i64 x) c1
        have c4 := cell_regrown (w := wr.drewN nq) (v := .int .i64 y) c2
        clear c1 c2
        generalize wr.drewN nq = w3 at *
        refine wp_region_below (by kernel_rfl) (by kernel_rfl) ?_; (repeat (quiet_step (first | with_reducible exact regR (Hk1.out _)))); refine wpQuiet_nil ?_
        intro w2 hb2
        go_wp2_with fail
        go_ret
        exact ⟨by rw [He.out]; rfl, hb3.trans (hb2.mono hb3.size)⟩
    · have e : cmpRow l1 l2 = cmpI l1.length l2.length := by
        rw [cmpRow_end ht (by omega) hk hk2]
        unfold cmpI
        rcases Nat.lt_trichotomy l1.length l2.length with h | h | h
        · rw [if_pos h, if_pos (by omega)]
        · rw [if_neg (by omega), if_neg (by omega), if_neg (by omega), if_neg (by omega)]
        · rw [if_neg (by omega), if_pos h, if_neg (by omega), if_pos (by omega)]
      have k1 := fun W => compareInts_any l1.length l2.length W
      by_cases h1 : k < l1.length
      · have g0 : (k : Int) < (l1.length : Int) := by omega
        have g1 : ¬ (k : Int) < (l2.length : Int) := by omega
        have Hht := Lib.hid ht; clear ht; have He := Lib.hid e; clear e; have Hhlt := Lib.hid hlt; clear hlt; have Hk1 := Lib.hid k1; clear k1
        go_wp2_with (go_at_call 97; ((with_reducible refine (Hk1.out _).mono ?_); rintro e w' ⟨rfl, rfl⟩))
        go_ret
        exact ⟨by rw [He.out]; rfl, hb⟩
      · have g0 : ¬ (k : Int) < (l1.length : Int) := by omega
        have Hht := Lib.hid ht; clear ht; have He := Lib.hid e; clear e; have Hhlt := Lib.hid hlt; clear hlt; have Hk1 := Lib.hid k1; clear k1
        go_wp2_with (go_at_call 97; ((with_reducible refine (Hk1.out _).mono ?_); rintro e w' ⟨rfl, rfl⟩))
        go_ret
        exact ⟨by rw [He.out]; rfl, hb⟩
theorem CompareRows_s (a b : Value) (l1 l2 : List Int) (w : World) (ha : IRow w a l1) (hb : IRow w b l2) :
    Calls Try.prog 31 #[a, b] w (RetB (.int .i64 (cmpRow l1 l2)) w) := by
  have n1 := VRow.len ha
  have n2 := VRow.len hb
  rw [List.length_map] at n1 n2
  obtain ⟨A, c, rfl, -, -, -, hA⟩ := IRow.open ha
  obtain ⟨A', c', rfl, -, -, -, hC⟩ := IRow.open hb
  clear ha hb
  have HhA := Lib.hid hA; clear hA; have HhC := Lib.hid hC; clear hC
  go_enter Try.func31, Try.ntmps31
  go_wp2_with fail
  go_loopw [5] (fun i wr => ∃ k : Nat, i = .int .i64 k ∧ k ≤ l1.length ∧ k ≤ l2.length ∧ l1.take k = l2.take k ∧ Below w.heap.size w wr) (fun i _ => l1.length - (intOf i).toNat)
  case atStart => exact ⟨0, rfl, Nat.zero_le _, Nat.zero_le _, rfl, Below.refl _ _⟩
  case round =>
    obtain ⟨k, rfl, hk, hk2, ht, hb⟩ := hrel
    by_cases hlt : k < l1.length ∧ k < l2.length
    · obtain ⟨hlt, hlt2⟩ := hlt
      have g0 : (k : Int) < (l1.length : Int) := by omega
      have g1 : (k : Int) < (l2.length : Int) := by omega
      obtain ⟨b, off, rfl, h1⟩ := HhA.out k hlt
      obtain ⟨b', off', rfl, h2⟩ := HhC.out k hlt2
      have c1 := cellB hb (h1 k hlt)
      have c2 := cellB hb (h2 k hlt2)
      clear h1 h2
      obtain ⟨x, hx⟩ : ∃ x, l1[k] = x := ⟨_, rfl⟩
      obtain ⟨y, hy⟩ : ∃ y, l2[k] = y := ⟨_, rfl⟩
      rw [hx] at c1
      rw [hy] at c2
      by_cases hxy : x < y
      · have e := cmpRow_lt_at ht hlt hlt2 (by rw [hx, hy]; exact hxy)
        have Hht := Lib.hid ht; clear ht; have Hhx := Lib.hid hx; clear hx; have Hhy := Lib.hid hy; clear hy; have He := Lib.hid e; clear e
        go_wp2_with fail
        go_quiet (fail)
        go_wp2_with fail
        go_ret
        exact ⟨by rw [He.out]; rfl, below_draws hb _⟩
      by_cases hyx : y < x
      · have e := cmpRow_gt_at ht hlt hlt2 (by rw [hx, hy]; exact hyx)
        have Hht := Lib.hid ht; clear ht; have Hhx := Lib.hid hx; clear hx; have Hhy := Lib.hid hy; clear hy; have He := Lib.hid e; clear e
        go_wp2_with fail
        go_quiet (fail)
        go_wp2_with fail
        go_quiet (fail)
        go_wp2_with fail
        go_ret
        exact ⟨by rw [He.out]; rfl, below_draws (below_draws hb _) _⟩
      have h3 := eq_take ht hlt hlt2 (by rw [hx, hy]; omega)
      have Hh3 := Lib.hid h3; clear h3; have Hht := Lib.hid ht; clear ht; have Hhx := Lib.hid hx; clear hx; have Hhy := Lib.hid hy; clear hy
      go_wp2_with fail
      go_quiet (fail)
      go_wp2_with fail
      go_quiet (fail)
      go_wp2_with fail
      go_roundw
      case rel => exact ⟨k + 1, by go_num, by omega, by omega, Hh3.out, below_draws hb _⟩
      case measure => simp [intOf] <;> omega
    · have e := cmpRow_end ht (by omega) hk hk2
      rcases Nat.lt_trichotomy l1.length l2.length with h | h | h
      · rw [if_pos h] at e
        have g0 : ¬ (k : Int) < (l1.length : Int) := by omega
        have g2 : (l1.length : Int) < (l2.length : Int) := by omega
        have Hht := Lib.hid ht; clear ht; have He := Lib.hid e; clear e; have Hhlt := Lib.hid hlt; clear hlt
        go_wp2_with fail
        go_ret
        exact ⟨by rw [He.out]; rfl, hb⟩
      · rw [if_neg (by omega), if_neg (by omega)] at e
        have g0 : ¬ (k : Int) < (l1.length : Int) := by omega
        have g2 : ¬ (l1.length : Int) < (l2.length : Int) := by omega
        have g3 : ¬ (l2.length : Int) < (l1.length : Int) := by omega
        have Hht := Lib.hid ht; clear ht; have He := Lib.hid e; clear e; have Hhlt := Lib.hid hlt; clear hlt
        go_wp2_with fail
        go_ret
        exact ⟨by rw [He.out]; rfl, hb⟩
      · rw [if_neg (by omega), if_pos h] at e
        have g2 : ¬ (l1.length : Int) < (l2.length : Int) := by omega
        have g3 : (l2.length : Int) < (l1.length : Int) := by omega
        have g1 : ¬ (k : Int) < (l2.length : Int) := by omega
        by_cases h1 : k < l1.length
        · have g0 : (k : Int) < (l1.length : Int) := by omega
          have Hht := Lib.hid ht; clear ht; have He := Lib.hid e; clear e; have Hhlt := Lib.hid hlt; clear hlt
          go_wp2_with fail
          go_ret
          exact ⟨by rw [He.out]; rfl, hb⟩
        · omega
end Go.Proofs.Ytbajnecahojcfaa
