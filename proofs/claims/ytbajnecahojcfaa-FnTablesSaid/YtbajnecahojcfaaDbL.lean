/- What the laws do with databases: compared, measured. -/
import Derived.Test.YtbajnecahojcfaaDb
import Derived.Test.YtbajnecahojcfaaRelL
namespace Go.Proofs.Ytbajnecahojcfaa
open Go.RowKit Go.Sort
set_option maxHeartbeats 2000000
set_option maxRecDepth 100000
theorem eqTab_law (N : List UInt8) (a b : Value) (ar : Int) (m : List (List Int)) (w : World) (ha : MRow w a m) (hb : MRow w b m) : Calls Try.prog 149 #[.agg #[.string ⟨N.toArray⟩, .int .i64 ar, a], .agg #[.string ⟨N.toArray⟩, .int .i64 ar, b]] w (RetB (.bool true) w) := by
  have k1 := eqRel_law a b ar m _ ((ha.alloc (.cells #[.string ⟨N.toArray⟩, .int .i64 ar, a] 60)).alloc (.cells #[.string ⟨N.toArray⟩, .int .i64 ar, b] 60)) ((hb.alloc (.cells #[.string ⟨N.toArray⟩, .int .i64 ar, a] 60)).alloc (.cells #[.string ⟨N.toArray⟩, .int .i64 ar, b] 60))
  have hB : Below w.heap.size w ((w.alloc (.cells #[.string ⟨N.toArray⟩, .int .i64 ar, a] 60)).alloc (.cells #[.string ⟨N.toArray⟩, .int .i64 ar, b] 60)) := ((Below.refl _ _).alloc (Nat.le_refl _) _).alloc (by simp) _
  have nq2 : (!N == N) = false := by simp
  obtain ⟨A, c, rfl⟩ := MRow.opened ha
  obtain ⟨A', c', rfl⟩ := MRow.opened hb
  clear ha hb
  have Hk1 := Lib.hid k1; clear k1; have HhB := Lib.hid hB; clear hB
  go_enter Try.func149, Try.ntmps149
  go_wp2_with (go_at_call 48; ((with_reducible refine (Hk1.out).mono ?_); rintro e w1 ⟨rfl, hb1⟩))
  go_ret
  exact ⟨rfl, below_tr HhB.out hb1⟩
theorem eqTabs_law (a b : Value) (T : List Tab) (w : World) (ha : TRow w a T) (hb : TRow w b T) : Calls Try.prog 122 #[a, b] w (RetB (.bool true) w) := by
  have hlen := ha.len
  obtain ⟨A, c, rfl⟩ := TRow.opened ha
  obtain ⟨A', c', rfl⟩ := TRow.opened hb
  have Hha := Lib.hid ha; clear ha; have Hhb := Lib.hid hb; clear hb
  go_enter Try.func122, Try.ntmps122
  go_wp2_with fail
  go_loopw [5] (fun i wr => ∃ k : Nat, i = .int .i64 k ∧ k ≤ T.length ∧ Below w.heap.size w wr) (fun i _ => T.length - (intOf i).toNat)
  case atStart => exact ⟨0, rfl, Nat.zero_le _, Below.refl _ _⟩
  case round =>
    obtain ⟨k, rfl, hk, hb⟩ := hrel
    by_cases hlt : k < T.length
    · have g0 : (k : Int) < (T.length : Int) := by omega
      obtain ⟨b, off, rfl, c0, c1, A1, q1, c2, hm1⟩ := TRow.at (Hha.out.below hb) k hlt
      obtain ⟨b', off', rfl, d0, d1, A2, q2, d2, hm2⟩ := TRow.at (Hhb.out.below hb) k hlt
      obtain ⟨t, ht⟩ : ∃ t, T[k] = t := ⟨_, rfl⟩
      rw [ht] at c0 c1 c2 hm1 d0 d1 d2 hm2
      obtain ⟨N, ar, m⟩ := t
      simp only at c0 c1 c2 hm1 d0 d1 d2 hm2
      replace c0 : wr.cell? ⟨b, off + k * 3, none⟩ = some (.string ⟨N.toArray⟩) := c0
      replace d0 : wr.cell? ⟨b', off' + k * 3, none⟩ = some (.string ⟨N.toArray⟩) := d0
      replace c0 := cell_regrown c0
      replace c1 := cell_regrown c1
      replace c2 := cell_regrown c2
      replace d0 := cell_regrown d0
      replace d1 := cell_regrown d1
      replace d2 := cell_regrown d2
      have Hhm1 := Lib.hid hm1; clear hm1; have Hhm2 := Lib.hid hm2; clear hm2; have Hht := Lib.hid ht; clear ht
      go_wp2_with fail
      refine wp_region_below (by kernel_rfl) (by kernel_rfl) ?_; (repeat (quiet_step (first | with_reducible exact regB (eqTab_law _ _ _ _ _ _ (Hhm1.out.below (below_regrown _ _ _)) (Hhm2.out.below (below_regrown _ _ _)))))); refine wpQuiet_nil ?_
      intro w2 hb2
      go_wp2_with fail
      go_roundw
      case rel => exact ⟨k + 1, by go_num, by omega, hb.trans (hb2.mono hb.size)⟩
      case measure => simp [intOf] <;> omega
    · obtain rfl : k = T.length := by omega
      have g0 : ¬ (T.length : Int) < (T.length : Int) := by omega
      go_wp2_with fail
      go_ret
      exact ⟨rfl, hb⟩
theorem eqDb_law (a b : Value) (T : List Tab) (w : World) (ha : TRow w a T) (hb : TRow w b T) : Calls Try.prog 62 #[.agg #[a], .agg #[b]] w (RetB (.bool true) w) := by
  have k1 := eqTabs_law a b T _ ((ha.alloc (.cells #[a] 52)).alloc (.cells #[b] 52)) ((hb.alloc (.cells #[a] 52)).alloc (.cells #[b] 52))
  have hB : Below w.heap.size w ((w.alloc (.cells #[a] 52)).alloc (.cells #[b] 52)) := ((Below.refl _ _).alloc (Nat.le_refl _) _).alloc (by simp) _
  obtain ⟨A, c, rfl⟩ := TRow.opened ha
  obtain ⟨A', c', rfl⟩ := TRow.opened hb
  have Hk1 := Lib.hid k1; clear k1; have HhB := Lib.hid hB; clear hB; have Hha := Lib.hid ha; clear ha; have Hhb := Lib.hid hb; clear hb
  go_enter Try.func62, Try.ntmps62
  go_wp2_with (go_at_call 122; ((with_reducible refine (Hk1.out).mono ?_); rintro e w1 ⟨rfl, hb1⟩))
  go_ret
  exact ⟨rfl, below_tr HhB.out hb1⟩
/-! Measured. -/
def tsz1 (t : Tab) : Nat := t.1.length + (t.2.2.length + total t.2.2)
def tsz (T : List Tab) : Nat := (T.map tsz1).sum
def szTab (t : Tab) (left : Int) : Int := if (tsz1 t : Int) ≤ left then left - (tsz1 t : Int) else -1
def szDb (T : List Tab) (left : Int) : Int := if ((T.length + tsz T : Nat) : Int) ≤ left then left - ((T.length + tsz T : Nat) : Int) else -1
theorem tsz_take {T : List Tab} {k : Nat} (h : k < T.length) : tsz (T.take (k + 1)) = tsz (T.take k) + tsz1 T[k] := by
  unfold tsz
  rw [List.take_succ_eq_append_getElem h, List.map_append, List.sum_append]; simp
theorem tsz_take_le (T : List Tab) (k : Nat) : tsz (T.take k) ≤ tsz T := by
  have : tsz (T.take k) + tsz (T.drop k) = tsz T := by
    unfold tsz
    rw [← List.sum_append, ← List.map_append, List.take_append_drop]
  omega
theorem szTab_law (N : List UInt8) (ar : Int) (u : Value) (m : List (List Int)) (left : Int) (w : World) (hn : N.length ≤ 9223372036854775807) (hu : MRow w u m) (hl : 0 ≤ left ∧ left ≤ 1048576) :
    Calls Try.prog 147 #[.agg #[.string ⟨N.toArray⟩, .int .i64 ar, u], .int .i64 left] w (RetB (.int .i64 (szTab (N, ar, m) left)) w) := by
  have hB : Below w.heap.size w (w.alloc (.cells #[.string ⟨N.toArray⟩, .int .i64 ar, u] 128)) := (Below.refl _ _).alloc (Nat.le_refl _) _
  have hu2 := hu.alloc (.cells #[.string ⟨N.toArray⟩, .int .i64 ar, u] 128)
  obtain ⟨A, c, rfl⟩ := MRow.opened hu
  clear hu
  obtain ⟨Z, hZ⟩ : ∃ Z, szTab (N, ar, m) left = Z := ⟨_, rfl⟩
  rw [hZ]
  unfold szTab tsz1 at hZ
  simp only at hZ
  by_cases h0 : (N.length : Int) ≤ left
  rotate_left
  · rw [if_neg (by omega)] at hZ
    have d1 : decide (left - (N.length : Int) < 0) = true := by rw [decide_eq_true_eq]; omega
    have d2 : decide (left < (N.length : Int)) = true := by rw [decide_eq_true_eq]; omega
    have Hhu2 := Lib.hid hu2; clear hu2; have HhB := Lib.hid hB; clear hB; have HhZ := Lib.hid hZ; clear hZ
    go_enter Try.func147, Try.ntmps147
    go_wp2_with fail
    go_ret
    exact ⟨by rw [← HhZ.out]; rfl, HhB.out⟩
  have d1 : decide (left - (N.length : Int) < 0) = false := by rw [decide_eq_false_iff_not]; omega
  have d2 : decide (left < (N.length : Int)) = false := by rw [decide_eq_false_iff_not]; omega
  obtain ⟨z, hz⟩ : ∃ z : Int, left - (N.length : Int) = z := ⟨_, rfl⟩
  by_cases h1 : ((m.length : Int) + (total m : Int)) ≤ z
  · rw [if_pos (by omega)] at hZ
    have hZ2 : Z = z - ((m.length : Int) + (total m : Int)) := by omega
    have k1 := fun W h => szRel_yes (.slice A m.length c) ar m z W h (by omega) h1
    obtain ⟨x, hx⟩ : ∃ x : Int, z - ((m.length : Int) + (total m : Int)) = x := ⟨_, rfl⟩
    rw [hx] at k1 hZ2
    subst hZ2
    have d3 : ¬ Z < 0 := by omega
    have d4 := decide_eq_false d3
    clear hx hZ
    have Hhu2 := Lib.hid hu2; clear hu2; have HhB := Lib.hid hB; clear hB; have Hk1 := Lib.hid k1; clear k1
    go_enter Try.func147, Try.ntmps147
    go_wp2_with (go_at_call 64; ((with_reducible refine (Hk1.out _ Hhu2.out).mono ?_); rintro e w1 ⟨rfl, hb1⟩))
    go_ret
    exact ⟨rfl, below_tr HhB.out hb1⟩
  · rw [if_neg (by omega)] at hZ
    have k1 := fun W h => szRel_no (.slice A m.length c) ar m z W h (by omega) h1
    have Hhu2 := Lib.hid hu2; clear hu2; have HhB := Lib.hid hB; clear hB; have Hk1 := Lib.hid k1; clear k1; have HhZ := Lib.hid hZ; clear hZ
    go_enter Try.func147, Try.ntmps147
    go_wp2_with (go_at_call 64; ((with_reducible refine (Hk1.out _ Hhu2.out).mono ?_); rintro e w1 ⟨rfl, hb1⟩))
    go_ret
    exact ⟨by rw [← HhZ.out]; rfl, below_tr HhB.out hb1⟩
theorem szTabs_law (v : Value) (T : List Tab) (left : Int) (w : World) (hn : ∀ t ∈ T, t.1.length ≤ 9223372036854775807) (hv : TRow w v T) (hl : 0 ≤ left ∧ left ≤ 1048576) :
    Calls Try.prog 119 #[v, .int .i64 left] w (RetB (.int .i64 (szDb T left)) w) := by
  have hlen := hv.len
  obtain ⟨A, c, rfl⟩ := TRow.opened hv
  obtain ⟨Z, hZ⟩ : ∃ Z, szDb T left = Z := ⟨_, rfl⟩
  rw [hZ]
  unfold szDb at hZ
  by_cases h0 : (T.length : Int) ≤ left
  rotate_left
  · rw [if_neg (by omega)] at hZ
    have d1 : decide (left - (T.length : Int) < 0) = true := by rw [decide_eq_true_eq]; omega
    have d2 : decide (left < (T.length : Int)) = true := by rw [decide_eq_true_eq]; omega
    have Hhv := Lib.hid hv; clear hv; have HhZ := Lib.hid hZ; clear hZ; have Hhn := Lib.hid hn; clear hn
    go_enter Try.func119, Try.ntmps119
    go_wp2_with fail
    go_ret
    exact ⟨by rw [← HhZ.out]; rfl, Below.refl _ _⟩
  have d1 : decide (left - (T.length : Int) < 0) = false := by rw [decide_eq_false_iff_not]; omega
  have d2 : decide (left < (T.length : Int)) = false := by rw [decide_eq_false_iff_not]; omega
  have Hhv := Lib.hid hv; clear hv; have HhZ := Lib.hid hZ; clear hZ; have Hhn := Lib.hid hn; clear hn
  go_enter Try.func119, Try.ntmps119
  go_wp2_with fail
  clear d1 d2
  go_loopw [1, 5] (fun x i wr => ∃ (k : Nat) (y : Int), i = .int .i64 k ∧ x = .int .i64 y ∧ k ≤ T.length ∧ y = left - (T.length : Int) - (tsz (T.take k) : Int) ∧ 0 ≤ y ∧ Below w.heap.size w wr) (fun _ i _ => T.length - (intOf i).toNat)
  case atStart => exact ⟨0, _, rfl, rfl, Nat.zero_le _, by simp [tsz], by omega, Below.refl _ _⟩
  case round =>
    obtain ⟨k, y, rfl, rfl, hk, hy, hy0, hb⟩ := hrel
    by_cases hlt : k < T.length
    · have g0 : (k : Int) < (T.length : Int) := by omega
      obtain ⟨b, off, rfl, c0, c1, A1, q1, c2, hm1⟩ := TRow.at (Hhv.out.below hb) k hlt
      have hnl := Hhn.out T[k] (List.getElem_mem hlt)
      have ht1 := tsz_take hlt
      have ht2 := tsz_take_le T (k + 1)
      obtain ⟨t, ht⟩ : ∃ t, T[k] = t := ⟨_, rfl⟩
      rw [ht] at c0 c1 c2 hm1 hnl ht1
      obtain ⟨N, ar, m⟩ := t
      simp only at c0 c1 c2 hm1 hnl
      replace c0 : wr.cell? ⟨b, off + k * 3, none⟩ = some (.string ⟨N.toArray⟩) := c0
      have k1 := fun W h => szTab_law N ar (.slice A1 m.length q1) m y W hnl h (by omega)
      by_cases hc : (tsz1 (N, ar, m) : Int) ≤ y
      · have e : szTab (N, ar, m) y = y - (tsz1 (N, ar, m) : Int) := if_pos hc
        obtain ⟨x, hx⟩ : ∃ x : Int, y - (tsz1 (N, ar, m) : Int) = x := ⟨_, rfl⟩
        rw [e, hx] at k1
        have d3 : ¬ x < 0 := by omega
        have d4 := decide_eq_false d3
        have hy2 : x = left - (T.length : Int) - (tsz (T.take (k + 1)) : Int) := by omega
        clear e
        have Hhm1 := Lib.hid hm1; clear hm1; have Hhy := Lib.hid hy; clear hy; have Hk1 := Lib.hid k1; clear k1; have Hht := Lib.hid ht; clear ht; have Hht1 := Lib.hid ht1; clear ht1; have Hht2 := Lib.hid ht2; clear ht2; have Hhy2 := Lib.hid hy2; clear hy2; have Hhx := Lib.hid hx; clear hx; have Hhc := Lib.hid hc; clear hc; have Hhnl := Lib.hid hnl; clear hnl
        go_wp2_with (go_at_call 147; ((with_reducible refine (Hk1.out _ Hhm1.out).mono ?_); rintro e w2 ⟨rfl, hb2⟩))
        go_roundw
        case rel => exact ⟨k + 1, _, by go_num, rfl, by omega, Hhy2.out, by omega, hb.trans (hb2.mono hb.size)⟩
        case measure => simp [intOf] <;> omega
      · have e : szTab (N, ar, m) y = -1 := if_neg hc
        rw [e] at k1
        have hZ2 := HhZ.out
        rw [if_neg (by omega)] at hZ2
        clear e
        have HhZ2 := Lib.hid hZ2; clear hZ2; have Hhm1 := Lib.hid hm1; clear hm1; have Hhy := Lib.hid hy; clear hy; have Hk1 := Lib.hid k1; clear k1; have Hht := Lib.hid ht; clear ht; have Hht1 := Lib.hid ht1; clear ht1; have Hht2 := Lib.hid ht2; clear ht2; have Hhc := Lib.hid hc; clear hc; have Hhnl := Lib.hid hnl; clear hnl
        go_wp2_with (go_at_call 147; ((with_reducible refine (Hk1.out _ Hhm1.out).mono ?_); rintro e w2 ⟨rfl, hb2⟩))
        go_ret
        exact ⟨by rw [← HhZ2.out]; rfl, hb.trans (hb2.mono hb.size)⟩
    · obtain rfl : k = T.length := by omega
      have g0 : ¬ (T.length : Int) < (T.length : Int) := by omega
      rw [List.take_length] at hy
      have hZ2 := HhZ.out
      rw [if_pos (by omega), show left - ((T.length + tsz T : Nat) : Int) = y by omega] at hZ2
      have Hhy := Lib.hid hy; clear hy; have HhZ2 := Lib.hid hZ2; clear hZ2
      go_wp2_with fail
      go_ret
      exact ⟨by rw [← HhZ2.out]; rfl, hb⟩
theorem szDb_l (v : Value) (T : List Tab) (left : Int) (w : World) (hn : ∀ t ∈ T, t.1.length ≤ 9223372036854775807) (hv : TRow w v T) (hl : 0 ≤ left ∧ left ≤ 1048576) :
    Calls Try.prog 59 #[.agg #[v], .int .i64 left] w (RetB (.int .i64 (szDb T left)) w) := by
  have k1 := szTabs_law v T left _ hn (hv.alloc (.cells #[v] 64)) hl
  have hB : Below w.heap.size w (w.alloc (.cells #[v] 64)) := (Below.refl _ _).alloc (Nat.le_refl _) _
  obtain ⟨A, c, rfl⟩ := TRow.opened hv
  clear hv
  by_cases h : ((T.length + tsz T : Nat) : Int) ≤ left
  · have e : szDb T left = left - ((T.length + tsz T : Nat) : Int) := if_pos h
    obtain ⟨x, hx⟩ : ∃ x : Int, left - ((T.length + tsz T : Nat) : Int) = x := ⟨_, rfl⟩
    rw [e, hx] at k1 ⊢
    have d3 : ¬ x < 0 := by omega
    have d4 := decide_eq_false d3
    have Hk1 := Lib.hid k1; clear k1; have He := Lib.hid e; clear e; have Hhx := Lib.hid hx; clear hx; have HhB := Lib.hid hB; clear hB; have Hhn := Lib.hid hn; clear hn
    go_enter Try.func59, Try.ntmps59
    go_wp2_with (go_at_call 119; ((with_reducible refine (Hk1.out).mono ?_); rintro e w1 ⟨rfl, hb1⟩))
    go_ret
    exact ⟨rfl, below_tr HhB.out hb1⟩
  · have e : szDb T left = -1 := if_neg h
    rw [e] at k1 ⊢
    have Hk1 := Lib.hid k1; clear k1; have He := Lib.hid e; clear e; have HhB := Lib.hid hB; clear hB; have Hhn := Lib.hid hn; clear hn
    go_enter Try.func59, Try.ntmps59
    go_wp2_with (go_at_call 119; ((with_reducible refine (Hk1.out).mono ?_); rintro e w1 ⟨rfl, hb1⟩))
    go_ret
    exact ⟨rfl, below_tr HhB.out hb1⟩
theorem szDb_yes (v : Value) (T : List Tab) (left : Int) (w : World) (hn : ∀ t ∈ T, t.1.length ≤ 9223372036854775807) (hv : TRow w v T) (hl : 0 ≤ left ∧ left ≤ 1048576) (h : (T.length : Int) + (tsz T : Int) ≤ left) : Calls Try.prog 59 #[.agg #[v], .int .i64 left] w (RetB (.int .i64 (left - ((T.length : Int) + (tsz T : Int)))) w) := by
  have := szDb_l v T left w hn hv hl
  rwa [show szDb T left = left - ((T.length : Int) + (tsz T : Int)) by unfold szDb; rw [if_pos (by omega)]; omega] at this
theorem szDb_no (v : Value) (T : List Tab) (left : Int) (w : World) (hn : ∀ t ∈ T, t.1.length ≤ 9223372036854775807) (hv : TRow w v T) (hl : 0 ≤ left ∧ left ≤ 1048576) (h : ¬ (T.length : Int) + (tsz T : Int) ≤ left) : Calls Try.prog 59 #[.agg #[v], .int .i64 left] w (RetB (.int .i64 (-1)) w) := by
  have := szDb_l v T left w hn hv hl
  rwa [show szDb T left = -1 by unfold szDb; rw [if_neg (by omega)]] at this
end Go.Proofs.Ytbajnecahojcfaa
