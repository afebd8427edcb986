/- Relations compared, both. -/
import Derived.Test.YtbajnecahojcfaaRow
import Derived.Test.YtbajnecahojcfaaRelL
namespace Go.Proofs.Ytbajnecahojcfaa
open Go.RowKit Go.Sort
set_option maxHeartbeats 2000000
set_option maxRecDepth 100000

theorem eqM_take {l1 l2 : List (List Int)} {k : Nat} (h : l1.take k = l2.take k) (h1 : k < l1.length) (h2 : k < l2.length) (he : l1[k] = l2[k]) : l1.take (k + 1) = l2.take (k + 1) := by
  rw [List.take_succ_eq_append_getElem h1, List.take_succ_eq_append_getElem h2, h, he]
theorem sameInts_i (a b : Value) (l1 l2 : List Int) (w : World) (ha : IRow w a l1) (hb : IRow w b l2) :
    Calls Try.prog 151 #[a, b] w (RetB (.bool (l1 == l2)) w) := by
  have n1 := VRow.len ha
  have n2 := VRow.len hb
  rw [List.length_map] at n1 n2
  obtain ⟨A, c, rfl, -, -, -, hA⟩ := IRow.open ha
  obtain ⟨A', c', rfl, -, -, -, hC⟩ := IRow.open hb
  clear ha hb
  by_cases hn : l1.length = l2.length
  rotate_left
  · have e : (l1 == l2) = false := by rw [beq_eq_false_iff_ne]; intro h; exact hn (by rw [h])
    have d1 : ((l1.length : Int) != (l2.length : Int)) = true := by rw [bne_iff_ne]; omega
    have d2 : (l1.length != l2.length) = true := by rw [bne_iff_ne]; exact hn
    rw [e]
    have Hhn := Lib.hid hn; clear hn; have HhA := Lib.hid hA; clear hA; have HhC := Lib.hid hC; clear hC; have He := Lib.hid e; clear e
    go_enter Try.func151, Try.ntmps151
    go_wp2_with fail
    go_ret
    exact ⟨rfl, Below.refl _ _⟩
  have d1 : ((l1.length : Int) != (l2.length : Int)) = false := by simp [hn]
  have d2 : (l1.length != l2.length) = false := by simp [hn]
  have HhA := Lib.hid hA; clear hA; have HhC := Lib.hid hC; clear hC; have Hhn := Lib.hid hn; clear hn
  go_enter Try.func151, Try.ntmps151
  go_wp2_with fail
  clear d1 d2
  go_loopw [13] (fun i wr => ∃ k : Nat, i = .int .i64 k ∧ k ≤ l1.length ∧ l1.take k = l2.take k ∧ Below w.heap.size w wr) (fun i _ => l1.length - (intOf i).toNat)
  case atStart => exact ⟨0, rfl, Nat.zero_le _, rfl, Below.refl _ _⟩
  case round =>
    obtain ⟨k, rfl, hk, ht, hb⟩ := hrel
    by_cases hlt : k < l1.length
    · have hlt2 : k < l2.length := by rw [← Hhn.out]; exact hlt
      have g0 : (k : Int) < (l1.length : Int) := by omega
      have g1 : (k : Int) < (l2.length : Int) := by omega
      obtain ⟨b, off, rfl, h1⟩ := HhA.out k hlt
      obtain ⟨b', off', rfl, h2⟩ := HhC.out k hlt2
      have c1 := cellB hb (h1 k hlt)
      have c2 := cellB hb (h2 k hlt2)
      clear h1 h2
      obtain ⟨x, hx⟩ : ∃ x, l1[k] = x := ⟨_, rfl⟩
      obtain ⟨y, hy⟩ : ∃ y, l2[k] = y := ⟨_, rfl⟩
      rw [hx] at c1
      rw [hy] at c2
      by_cases he : x = y
      · have h3 := eq_take ht hlt hlt2 (by rw [hx, hy, he])
        have d3 : (x != y) = false := by rw [he]; simp
        have Hh3 := Lib.hid h3; clear h3; have Hht := Lib.hid ht; clear ht; have Hhx := Lib.hid hx; clear hx; have Hhy := Lib.hid hy; clear hy
        go_wp2_with fail
        go_quiet (fail)
        go_wp2_with fail
        go_roundw
        case rel => exact ⟨k + 1, by go_num, by omega, Hh3.out, below_draws hb _⟩
        case measure => simp [intOf] <;> omega
      · have d3 : (x != y) = true := by rw [bne_iff_ne]; exact he
        have e : (l1 == l2) = false := by rw [beq_eq_false_iff_ne]; rintro rfl; exact he (hx.symm.trans hy)
        have Hht := Lib.hid ht; clear ht; have Hhx := Lib.hid hx; clear hx; have Hhy := Lib.hid hy; clear hy; have Hhe := Lib.hid he; clear he; have He := Lib.hid e; clear e
        go_wp2_with fail
        go_quiet (fail)
        go_wp2_with fail
        go_ret
        exact ⟨by rw [He.out]; rfl, below_draws hb _⟩
    · obtain rfl : k = l1.length := by omega
      have g0 : ¬ (l1.length : Int) < (l1.length : Int) := by omega
      have e : (l1 == l2) = true := by
        rw [List.take_length, Hhn.out, List.take_length] at ht
        rw [beq_iff_eq]; exact ht
      have Hht := Lib.hid ht; clear ht; have He := Lib.hid e; clear e
      go_wp2_with fail
      go_ret
      exact ⟨by rw [He.out]; rfl, hb⟩
theorem sameRows_i (a b : Value) (l1 l2 : List (List Int)) (w : World) (ha : MRow w a l1) (hb : MRow w b l2) :
    Calls Try.prog 124 #[a, b] w (RetB (.bool (l1 == l2)) w) := by
  have n1 := MRow.len ha
  have n2 := MRow.len hb
  obtain ⟨A, c, rfl, -, -, -, hA⟩ := MRow.open ha
  obtain ⟨A', c', rfl, -, -, -, hC⟩ := MRow.open hb
  clear ha hb
  by_cases hn : l1.length = l2.length
  rotate_left
  · have e : (l1 == l2) = false := by rw [beq_eq_false_iff_ne]; intro h; exact hn (by rw [h])
    have d1 : ((l1.length : Int) != (l2.length : Int)) = true := by rw [bne_iff_ne]; omega
    have d2 : (l1.length != l2.length) = true := by rw [bne_iff_ne]; exact hn
    rw [e]
    have Hhn := Lib.hid hn; clear hn; have HhA := Lib.hid hA; clear hA; have HhC := Lib.hid hC; clear hC; have He := Lib.hid e; clear e
    go_enter Try.func124, Try.ntmps124
    go_wp2_with fail
    go_ret
    exact ⟨rfl, Below.refl _ _⟩
  have d1 : ((l1.length : Int) != (l2.length : Int)) = false := by simp [hn]
  have d2 : (l1.length != l2.length) = false := by simp [hn]
  have HhA := Lib.hid hA; clear hA; have HhC := Lib.hid hC; clear hC; have Hhn := Lib.hid hn; clear hn
  go_enter Try.func124, Try.ntmps124
  go_wp2_with fail
  clear d1 d2
  go_loopw [13] (fun i wr => ∃ k : Nat, i = .int .i64 k ∧ k ≤ l1.length ∧ l1.take k = l2.take k ∧ Below w.heap.size w wr) (fun i _ => l1.length - (intOf i).toNat)
  case atStart => exact ⟨0, rfl, Nat.zero_le _, rfl, Below.refl _ _⟩
  case round =>
    obtain ⟨k, rfl, hk, ht, hb⟩ := hrel
    by_cases hlt : k < l1.length
    · have hlt2 : k < l2.length := by rw [← Hhn.out]; exact hlt
      have g0 : (k : Int) < (l1.length : Int) := by omega
      have g1 : (k : Int) < (l2.length : Int) := by omega
      obtain ⟨b, off, rfl, h1⟩ := HhA.out k hlt
      obtain ⟨b', off', rfl, h2⟩ := HhC.out k hlt2
      obtain ⟨A1, q1, c1, r1⟩ := h1 k hlt
      obtain ⟨A2, q2, c2, r2⟩ := h2 k hlt2
      replace r1 := r1.below hb
      replace r2 := r2.below hb
      replace c1 := cell_regrown (cellB hb c1)
      replace c2 := cell_regrown (cellB hb c2)
      clear h1 h2
      obtain ⟨x, hx⟩ : ∃ x, l1[k] = x := ⟨_, rfl⟩
      obtain ⟨y, hy⟩ : ∃ y, l2[k] = y := ⟨_, rfl⟩
      rw [hx] at c1 r1
      rw [hy] at c2 r2
      have k1 := fun W h h' => sameInts_i (.slice A1 x.length q1) (.slice A2 y.length q2) x y W h h'
      by_cases he : x = y
      · have h3 := eqM_take ht hlt hlt2 (by rw [hx, hy, he])
        have d3 : (x == y) = true := by rw [he]; simp
        rw [d3] at k1
        have Hh3 := Lib.hid h3; clear h3; have Hht := Lib.hid ht; clear ht; have Hhx := Lib.hid hx; clear hx; have Hhy := Lib.hid hy; clear hy; have Hr1 := Lib.hid r1; clear r1; have Hr2 := Lib.hid r2; clear r2; have Hk1 := Lib.hid k1; clear k1; have Hd3 := Lib.hid d3; clear d3; have Hhe := Lib.hid he; clear he
        go_wp2_with fail
        refine wp_region_below (by kernel_rfl) (by kernel_rfl) ?_; (repeat (quiet_step (first | with_reducible exact regB (Hk1.out _ (Hr1.out.below (below_regrown _ _ _)) (Hr2.out.below (below_regrown _ _ _)))))); refine wpQuiet_nil ?_
        intro w2 hb2
        go_wp2_with fail
        go_roundw
        case rel => exact ⟨k + 1, by go_num, by omega, Hh3.out, hb.trans (hb2.mono hb.size)⟩
        case measure => simp [intOf] <;> omega
      · have d3 : (x == y) = false := by rw [beq_eq_false_iff_ne]; exact he
        rw [d3] at k1
        have e : (l1 == l2) = false := by rw [beq_eq_false_iff_ne]; rintro rfl; exact he (hx.symm.trans hy)
        have Hht := Lib.hid ht; clear ht; have Hhx := Lib.hid hx; clear hx; have Hhy := Lib.hid hy; clear hy; have Hhe := Lib.hid he; clear he; have He := Lib.hid e; clear e; have Hr1 := Lib.hid r1; clear r1; have Hr2 := Lib.hid r2; clear r2; have Hk1 := Lib.hid k1; clear k1; have Hd3 := Lib.hid d3; clear d3
        go_wp2_with fail
        refine wp_region_below (by kernel_rfl) (by kernel_rfl) ?_; (repeat (quiet_step (first | with_reducible exact regB (Hk1.out _ (Hr1.out.below (below_regrown _ _ _)) (Hr2.out.below (below_regrown _ _ _)))))); refine wpQuiet_nil ?_
        intro w2 hb2
        go_wp2_with fail
        go_ret
        exact ⟨by rw [He.out]; rfl, hb.trans (hb2.mono hb.size)⟩
    · obtain rfl : k = l1.length := by omega
      have g0 : ¬ (l1.length : Int) < (l1.length : Int) := by omega
      have e : (l1 == l2) = true := by
        rw [List.take_length, Hhn.out, List.take_length] at ht
        rw [beq_iff_eq]; exact ht
      have Hht := Lib.hid ht; clear ht; have He := Lib.hid e; clear e
      go_wp2_with fail
      go_ret
      exact ⟨by rw [He.out]; rfl, hb⟩
def eqR (x : Int) (a : List (List Int)) (y : Int) (b : List (List Int)) : Bool := decide (x = y) && (a == b)
theorem eqR_self (x : Int) (a : List (List Int)) : eqR x a x a = true := by unfold eqR; simp


theorem EqualRelations_i (a b : Value) (x y : Int) (l1 l2 : List (List Int)) (w : World) (ha : MRow w a l1) (hb : MRow w b l2) :
    Calls Try.prog 66 #[.agg #[.int .i64 x, a], .agg #[.int .i64 y, b]] w (RetB (.bool (eqR x l1 y l2)) w) := by
  have k1 := sameRows_i a b l1 l2 _ ((ha.alloc (.cells #[.int .i64 x, a] 44)).alloc (.cells #[.int .i64 y, b] 44)) ((hb.alloc (.cells #[.int .i64 x, a] 44)).alloc (.cells #[.int .i64 y, b] 44))
  have hB : Below w.heap.size w ((w.alloc (.cells #[.int .i64 x, a] 44)).alloc (.cells #[.int .i64 y, b] 44)) := ((Below.refl _ _).alloc (Nat.le_refl _) _).alloc (by simp) _
  obtain ⟨A, c, rfl⟩ := MRow.opened ha
  obtain ⟨A', c', rfl⟩ := MRow.opened hb
  clear ha hb
  unfold eqR
  generalize (l1 == l2) = z at *
  by_cases h : x = y
  · have d : (x == y) = true := by rw [h]; simp
    rw [show decide (x = y) = true by rw [decide_eq_true_eq]; exact h, Bool.true_and]
    have Hk1 := Lib.hid k1; clear k1; have Hh := Lib.hid h; clear h; have HhB := Lib.hid hB; clear hB
    go_enter Try.func66, Try.ntmps66
    go_wp2_with (go_at_call 124; ((with_reducible refine (Hk1.out).mono ?_); rintro e w1 ⟨rfl, hb1⟩))
    go_ret
    exact ⟨rfl, below_tr HhB.out hb1⟩
  · have d : (x == y) = false := by rw [beq_eq_false_iff_ne]; exact h
    rw [show decide (x = y) = false by rw [decide_eq_false_iff_not]; exact h, Bool.false_and]
    have Hk1 := Lib.hid k1; clear k1; have Hh := Lib.hid h; clear h; have HhB := Lib.hid hB; clear hB
    go_enter Try.func66, Try.ntmps66
    go_wp2_with fail
    go_ret
    exact ⟨rfl, HhB.out⟩
theorem EqualRelations_s (a b : Value) (x y : Int) (l1 l2 : List (List Int)) (w : World) (ha : MRow w a l1) (hb : MRow w b l2) :
    Calls Try.prog 56 #[.agg #[.int .i64 x, a], .agg #[.int .i64 y, b]] w (RetB (.bool (eqR x l1 y l2)) w) := by
  have n1 := MRow.len ha
  have n2 := MRow.len hb
  have hB : Below w.heap.size w ((w.alloc (.cells #[.int .i64 x, a] 44)).alloc (.cells #[.int .i64 y, b] 44)) := ((Below.refl _ _).alloc (Nat.le_refl _) _).alloc (by simp) _
  have y0 := heapN (heap_alloc_new w (.cells #[.int .i64 x, a] 44)) (.cells #[.int .i64 y, b] 44)
  have y1 := heap_new1 w (.cells #[.int .i64 x, a] 44) (.cells #[.int .i64 y, b] 44)
  have ha2 := ha.below hB
  have hb2 := hb.below hB
  obtain ⟨A, c, rfl, -, -, -, hA⟩ := MRow.open ha2
  obtain ⟨A', c', rfl, -, -, -, hC⟩ := MRow.open hb2
  clear ha hb ha2 hb2
  by_cases hxy : x = y
  rotate_left
  · have e : eqR x l1 y l2 = false := by unfold eqR; rw [show decide (x = y) = false by rw [decide_eq_false_iff_not]; exact hxy]; rfl
    have d1 : (x != y) = true := by rw [bne_iff_ne]; exact hxy
    rw [e]
    have HhA := Lib.hid hA; clear hA; have HhC := Lib.hid hC; clear hC; have He := Lib.hid e; clear e; have HhB := Lib.hid hB; clear hB; have Hhxy := Lib.hid hxy; clear hxy; have Hy0 := Lib.hid y0; clear y0; have Hy1 := Lib.hid y1; clear y1
    go_enter Try.func56, Try.ntmps56
    go_wp2_with fail
    go_ret
    exact ⟨rfl, HhB.out⟩
  have d0 : (x != y) = false := by simp [hxy]
  have e0 : eqR x l1 y l2 = (l1 == l2) := by unfold eqR; rw [show decide (x = y) = true by rw [decide_eq_true_eq]; exact hxy]; rfl
  rw [e0]
  by_cases hn : l1.length = l2.length
  rotate_left
  · have e : (l1 == l2) = false := by rw [beq_eq_false_iff_ne]; intro h; exact hn (by rw [h])
    have d1 : ((l1.length : Int) != (l2.length : Int)) = true := by rw [bne_iff_ne]; omega
    have d2 : (l1.length != l2.length) = true := by rw [bne_iff_ne]; exact hn
    rw [e]
    have Hhn := Lib.hid hn; clear hn; have HhA := Lib.hid hA; clear hA; have HhC := Lib.hid hC; clear hC; have He := Lib.hid e; clear e; have HhB := Lib.hid hB; clear hB; have Hhxy := Lib.hid hxy; clear hxy; have Hy0 := Lib.hid y0; clear y0; have Hy1 := Lib.hid y1; clear y1; have He0 := Lib.hid e0; clear e0
    go_enter Try.func56, Try.ntmps56
    go_wp2_with fail
    go_ret
    exact ⟨rfl, HhB.out⟩
  have d1 : ((l1.length : Int) != (l2.length : Int)) = false := by simp [hn]
  have d2 : (l1.length != l2.length) = false := by simp [hn]
  have HhA := Lib.hid hA; clear hA; have HhC := Lib.hid hC; clear hC; have Hhn := Lib.hid hn; clear hn; have HhB := Lib.hid hB; clear hB; have Hhxy := Lib.hid hxy; clear hxy; have Hy0 := Lib.hid y0; clear y0; have Hy1 := Lib.hid y1; clear y1; have He0 := Lib.hid e0; clear e0
  go_enter Try.func56, Try.ntmps56
  go_wp2_with fail
  clear d1 d2 d0
  generalize ((w.alloc (.cells #[.int .i64 x, .slice A l1.length c] 44)).alloc (.cells #[.int .i64 y, .slice A' l2.length c'] 44)) = w0 at *
  go_loopw [5] (fun i wr => ∃ k : Nat, i = .int .i64 k ∧ k ≤ l1.length ∧ l1.take k = l2.take k ∧ Below w0.heap.size w0 wr) (fun i _ => l1.length - (intOf i).toNat)
  case atStart => exact ⟨0, rfl, Nat.zero_le _, rfl, Below.refl _ _⟩
  case round =>
    obtain ⟨k, rfl, hk, ht, hb⟩ := hrel
    have x0 := blockB hb Hy0.out
    have x1 := blockB hb Hy1.out
    have t0 := cellAt x0 1
    by_cases hlt : k < l1.length
    · have hlt2 : k < l2.length := by rw [← Hhn.out]; exact hlt
      have g0 : (k : Int) < (l1.length : Int) := by omega
      have g1 : (k : Int) < (l2.length : Int) := by omega
      obtain ⟨b, off, rfl, h1⟩ := HhA.out k hlt
      obtain ⟨b', off', rfl, h2⟩ := HhC.out k hlt2
      obtain ⟨A1, q1, c1, r1⟩ := h1 k hlt
      obtain ⟨A2, q2, c2, r2⟩ := h2 k hlt2
      replace r1 := r1.below hb
      replace r2 := r2.below hb
      replace c1 := cell_regrown (cellB hb c1)
      replace c2 := cell_regrown (cellB hb c2)
      have u0 := cell_regrown (cellAt x0 1)
      have u1 := cell_regrown (cellAt x1 1)
      clear h1 h2
      obtain ⟨x, hx⟩ : ∃ x, l1[k] = x := ⟨_, rfl⟩
      obtain ⟨y, hy⟩ : ∃ y, l2[k] = y := ⟨_, rfl⟩
      rw [hx] at c1 r1
      rw [hy] at c2 r2
      have k1 := fun W h h' => CompareRows_s (.slice A1 x.length q1) (.slice A2 y.length q2) x y W h h'
      by_cases he : x = y
      · have h3 := eqM_take ht hlt hlt2 (by rw [hx, hy, he])
        have d3 : cmpRow x y = 0 := by rw [he]; exact cmpRow_self y
        rw [d3] at k1
        have Hh3 := Lib.hid h3; clear h3; have Hht := Lib.hid ht; clear ht; have Hhx := Lib.hid hx; clear hx; have Hhy := Lib.hid hy; clear hy; have Hr1 := Lib.hid r1; clear r1; have Hr2 := Lib.hid r2; clear r2; have Hk1 := Lib.hid k1; clear k1; have Hd3 := Lib.hid d3; clear d3; have Hx0 := Lib.hid x0; clear x0; have Hx1 := Lib.hid x1; clear x1; have Hhe := Lib.hid he; clear he
        go_wp2_with fail
        refine wp_region_below (by kernel_rfl) (by kernel_rfl) ?_; (repeat (quiet_step (first | with_reducible exact regB (Hk1.out _ (Hr1.out.below (below_regrown _ _ _)) (Hr2.out.below (below_regrown _ _ _)))))); refine wpQuiet_nil ?_
        intro w2 hb2
        go_wp2_with fail
        go_roundw
        case rel => exact ⟨k + 1, by go_num, by omega, Hh3.out, hb.trans (hb2.mono hb.size)⟩
        case measure => simp [intOf] <;> omega
      · have d3 : (cmpRow x y != 0) = true := by rw [bne_iff_ne]; intro h; exact he (cmpRow_eq h)
        have e : (l1 == l2) = false := by rw [beq_eq_false_iff_ne]; rintro rfl; exact he (hx.symm.trans hy)
        generalize cmpRow x y = z at *
        have Hht := Lib.hid ht; clear ht; have Hhx := Lib.hid hx; clear hx; have Hhy := Lib.hid hy; clear hy; have Hhe := Lib.hid he; clear he; have He := Lib.hid e; clear e; have Hr1 := Lib.hid r1; clear r1; have Hr2 := Lib.hid r2; clear r2; have Hk1 := Lib.hid k1; clear k1; have Hx0 := Lib.hid x0; clear x0; have Hx1 := Lib.hid x1; clear x1
        go_wp2_with fail
        refine wp_region_below (by kernel_rfl) (by kernel_rfl) ?_; (repeat (quiet_step (first | with_reducible exact regB (Hk1.out _ (Hr1.out.below (below_regrown _ _ _)) (Hr2.out.below (below_regrown _ _ _)))))); refine wpQuiet_nil ?_
        intro w2 hb2
        go_wp2_with fail
        go_ret
        exact ⟨by rw [He.out]; rfl, below_tr HhB.out (hb.trans (hb2.mono hb.size))⟩
    · obtain rfl : k = l1.length := by omega
      have g0 : ¬ (l1.length : Int) < (l1.length : Int) := by omega
      have e : (l1 == l2) = true := by
        rw [List.take_length, Hhn.out, List.take_length] at ht
        rw [beq_iff_eq]; exact ht
      have Hht := Lib.hid ht; clear ht; have He := Lib.hid e; clear e; have Hx0 := Lib.hid x0; clear x0; have Hx1 := Lib.hid x1; clear x1
      go_wp2_with fail
      go_ret
      exact ⟨by rw [He.out]; rfl, below_tr HhB.out hb⟩
end Go.Proofs.Ytbajnecahojcfaa
