/- Big integers: comparison, format. (Written by mkbigfmt.py.) -/
import Derived.Test.YtkhphjapefijbaaBigV
import Derived.Test.YtkhphjapefijbaaRatFmt
namespace Go.Proofs.Ytkhphjapefijbaa
open Go.RowKit Go.Sort
set_option maxHeartbeats 1000000
set_option maxRecDepth 100000

/-- Compared from the highest digit down: the first k digits. -/
def cmpTop (a b : List Int) : Nat → Int
  | 0 => 0
  | k + 1 => if a.getD k 0 = b.getD k 0 then cmpTop a b k else cmpI (a.getD k 0) (b.getD k 0)
def cmpB (a b : List Int) : Int := if bvalid a && bvalid b then (if a.length = b.length then cmpTop a b a.length else cmpI a.length b.length) else 0
theorem CompareBigInts_i (va vb : Value) (a b : List Int) (w : World) (h1 : IRow w va a) (h2 : IRow w vb b) : Calls Try.prog 56 #[.agg #[va], .agg #[vb]] w (RetB (.int .i64 (cmpB a b)) w) := by
  have k1 := fun W h => IsValidBigInt_i va a W h
  have k2 := fun W h => IsValidBigInt_i vb b W h
  obtain ⟨A, c, e1, -⟩ := IRow.open h1
  obtain ⟨A', c', e2, -⟩ := IRow.open h2
  have y1 := heapN (heap_alloc_new w (.cells #[va] 46)) (.cells #[vb] 46)
  have y2 := heap_new1 w (.cells #[va] 46) (.cells #[vb] 46)
  have hB : Below w.heap.size w ((w.alloc (.cells #[va] 46)).alloc (.cells #[vb] 46)) := ((Below.refl _ _).alloc (Nat.le_refl _) _).alloc (by simp) _
  subst e1 e2
  unfold cmpB
  cases g1 : bvalid a
  · rw [g1] at k1
    simp only [Bool.false_and, Bool.false_eq_true, if_false]
    have Hg1 := Lib.hid g1; clear g1; have Hk1 := Lib.hid k1; clear k1; have Hk2 := Lib.hid k2; clear k2
    go_enter Try.func56, Try.ntmps56
    go_wp2_with ((go_at_call 54; ((with_reducible refine (Hk1.out _ ((h1.alloc _).alloc _)).mono ?_); rintro e w1 ⟨rfl, hb⟩; (replace y1 := blockB hb y1; replace y2 := blockB hb y2; replace h1 := ((h1.alloc _).alloc _).below hb; replace h2 := ((h2.alloc _).alloc _).below hb; replace hB := below_tr hB hb; clear hb; have z1 := cellAt y1 0; have z2 := cellAt y2 0))))
    go_ret
    exact ⟨rfl, hB⟩
  rw [g1] at k1
  cases g2 : bvalid b
  · rw [g2] at k2
    simp only [Bool.and_false, Bool.false_eq_true, if_false]
    have Hg1 := Lib.hid g1; clear g1; have Hg2 := Lib.hid g2; clear g2; have Hk1 := Lib.hid k1; clear k1; have Hk2 := Lib.hid k2; clear k2
    go_enter Try.func56, Try.ntmps56
    go_wp2_with (first | (go_at_call 54; ((with_reducible refine (Hk1.out _ ((h1.alloc _).alloc _)).mono ?_); rintro e w1 ⟨rfl, hb⟩; (replace y1 := blockB hb y1; replace y2 := blockB hb y2; replace h1 := ((h1.alloc _).alloc _).below hb; replace h2 := ((h2.alloc _).alloc _).below hb; replace hB := below_tr hB hb; clear hb; have z1 := cellAt y1 0; have z2 := cellAt y2 0))) | (go_at_call 54; ((with_reducible refine (Hk2.out _ h2).mono ?_); rintro e w2 ⟨rfl, hb⟩; (clear z1 z2; replace y1 := blockB hb y1; replace y2 := blockB hb y2; replace h1 := h1.below hb; replace h2 := h2.below hb; replace hB := below_tr hB hb; clear hb; have z1 := cellAt y1 0; have z2 := cellAt y2 0))))
    go_ret
    exact ⟨rfl, hB⟩
  rw [g2] at k2
  simp only [Bool.and_self, if_true]
  have b1 := (bvalid_yes g1).2.1
  have b2 := (bvalid_yes g2).2.1
  by_cases hn : a.length = b.length
  rotate_left
  · rw [if_neg hn]
    have d1 : ((a.length : Int) != (b.length : Int)) = true := by rw [bne_iff_ne]; omega
    have d2 : (a.length != b.length) = true := by rw [bne_iff_ne]; exact hn
    have k3 := fun W => compareInts_any (a.length : Int) (b.length : Int) W
    generalize cmpI (a.length : Int) (b.length : Int) = z at *
    have Hg1 := Lib.hid g1; clear g1; have Hg2 := Lib.hid g2; clear g2; have Hk1 := Lib.hid k1; clear k1; have Hk2 := Lib.hid k2; clear k2; have Hk3 := Lib.hid k3; clear k3; have Hhn := Lib.hid hn; clear hn
    go_enter Try.func56, Try.ntmps56
    go_wp2_with (first | (go_at_call 54; ((with_reducible refine (Hk1.out _ ((h1.alloc _).alloc _)).mono ?_); rintro e w1 ⟨rfl, hb⟩; (replace y1 := blockB hb y1; replace y2 := blockB hb y2; replace h1 := ((h1.alloc _).alloc _).below hb; replace h2 := ((h2.alloc _).alloc _).below hb; replace hB := below_tr hB hb; clear hb; have z1 := cellAt y1 0; have z2 := cellAt y2 0))) | (go_at_call 54; ((with_reducible refine (Hk2.out _ h2).mono ?_); rintro e w2 ⟨rfl, hb⟩; (clear z1 z2; replace y1 := blockB hb y1; replace y2 := blockB hb y2; replace h1 := h1.below hb; replace h2 := h2.below hb; replace hB := below_tr hB hb; clear hb; have z1 := cellAt y1 0; have z2 := cellAt y2 0))) | (go_at_call 74; ((with_reducible refine (Hk3.out _).mono ?_); rintro e w' ⟨rfl, rfl⟩)))
    go_ret
    exact ⟨rfl, hB⟩
  rw [if_pos hn]
  have d1 : ((a.length : Int) != (b.length : Int)) = false := by simp [hn]
  have d2 : (a.length != b.length) = false := by simp [hn]
  have Hg1 := Lib.hid g1; clear g1; have Hg2 := Lib.hid g2; clear g2; have Hk1 := Lib.hid k1; clear k1; have Hk2 := Lib.hid k2; clear k2; have Hhn := Lib.hid hn; clear hn
  go_enter Try.func56, Try.ntmps56
  go_wp2_with (first | (go_at_call 54; ((with_reducible refine (Hk1.out _ ((h1.alloc _).alloc _)).mono ?_); rintro e w1 ⟨rfl, hb⟩; (replace y1 := blockB hb y1; replace y2 := blockB hb y2; replace h1 := ((h1.alloc _).alloc _).below hb; replace h2 := ((h2.alloc _).alloc _).below hb; replace hB := below_tr hB hb; clear hb; have z1 := cellAt y1 0; have z2 := cellAt y2 0))) | (go_at_call 54; ((with_reducible refine (Hk2.out _ h2).mono ?_); rintro e w2 ⟨rfl, hb⟩; (clear z1 z2; replace y1 := blockB hb y1; replace y2 := blockB hb y2; replace h1 := h1.below hb; replace h2 := h2.below hb; replace hB := below_tr hB hb; clear hb; have z1 := cellAt y1 0; have z2 := cellAt y2 0))))
  clear d1 d2 z1 z2
  go_loopw [5] (fun i wr => ∃ k : Nat, i = .int .i64 ((k : Int) - 1) ∧ k ≤ a.length ∧ cmpTop a b a.length = cmpTop a b k ∧ Below w2.heap.size w2 wr) (fun i _ => (intOf i + 1).toNat)
  case atStart => exact ⟨a.length, rfl, Nat.le_refl _, rfl, Below.refl _ _⟩
  case round =>
    obtain ⟨k, rfl, hk, ht, hb⟩ := hrel
    replace hB := hB.trans (hb.mono hB.size)
    have x1 := blockB hb y1
    have x2 := blockB hb y2
    have z1 := cellAt x1 0
    have z2 := cellAt x2 0
    by_cases h0 : k = 0
    · subst h0
      have e : cmpTop a b a.length = 0 := ht
      have Hht := Lib.hid ht; clear ht; have He := Lib.hid e; clear e
      go_wp2_with fail
      go_ret
      exact ⟨by rw [He.out]; rfl, hB⟩
    · obtain ⟨m, rfl⟩ : ∃ m, k = m + 1 := ⟨k - 1, by omega⟩
      have ek : ((m + 1 : Nat) : Int) - 1 = (m : Int) := by omega
      rw [ek]
      clear ek h0
      have hm1 : m < a.length := by omega
      have hm2 : m < b.length := by rw [← Hhn.out]; exact hm1
      obtain ⟨_, _, e1, -, -, -, hA⟩ := IRow.open (h1.below hb)
      obtain ⟨_, _, e2, -, -, -, hC⟩ := IRow.open (h2.below hb)
      simp only [Value.slice.injEq] at e1 e2
      obtain ⟨rfl, -, rfl⟩ := e1
      obtain ⟨rfl, -, rfl⟩ := e2
      obtain ⟨p, off, rfl, q1⟩ := hA m hm1
      obtain ⟨p', off', rfl, q2⟩ := hC m hm2
      have u1 := q1 m hm1
      have u2 := q2 m hm2
      clear q1 q2 hA hC
      have t1 : a.getD m 0 = a[m] := by simp [List.getD, hm1]
      have t2 : b.getD m 0 = b[m] := by simp [List.getD, hm2]
      rw [show cmpTop a b (m + 1) = if a.getD m 0 = b.getD m 0 then cmpTop a b m else cmpI (a.getD m 0) (b.getD m 0) from rfl, t1, t2] at ht
      clear t1 t2
      obtain ⟨x, hx⟩ : ∃ x, a[m] = x := ⟨_, rfl⟩
      obtain ⟨y, hy⟩ : ∃ y, b[m] = y := ⟨_, rfl⟩
      rw [hx] at u1 ht
      rw [hy] at u2 ht
      by_cases he : x = y
      · rw [if_pos he] at ht
        have g3 : (x != y) = false := by rw [he]; simp
        have Hht := Lib.hid ht; clear ht; have Hhx := Lib.hid hx; clear hx; have Hhy := Lib.hid hy; clear hy; have Hhe := Lib.hid he; clear he
        go_wp2_with fail
        go_quiet (fail)
        go_wp2_with fail
        go_roundw
        case rel => exact ⟨m, rfl, by omega, Hht.out, below_draws hb _⟩
        case measure => simp [intOf] <;> omega
      · rw [if_neg he] at ht
        have g3 : (x != y) = true := by rw [bne_iff_ne]; exact he
        have k3 := fun W => compareInts_any x y W
        rw [← ht] at k3
        have Hht := Lib.hid ht; clear ht; have Hhx := Lib.hid hx; clear hx; have Hhy := Lib.hid hy; clear hy; have Hhe := Lib.hid he; clear he; have Hk3 := Lib.hid k3; clear k3
        go_wp2_with fail
        go_quiet (fail)
        go_wp2_with fail
        have v1 : (wr.drewN nq).cell? ⟨w.heap.size, 0, none⟩ = some (.slice (some ⟨p, off, none⟩) a.length c) := z1
        have v2 : (wr.drewN nq).cell? ⟨w.heap.size + 1, 0, none⟩ = some (.slice (some ⟨p', off', none⟩) b.length c') := z2
        have v3 : (wr.drewN nq).cell? ⟨p, off + m, none⟩ = some (.int .i64 x) := u1
        have v4 : (wr.drewN nq).cell? ⟨p', off' + m, none⟩ = some (.int .i64 y) := u2
        refine wp_region_flow 12 [] [[], [0], [], [1, 2], [3], [], [5], [], [6, 7], [8], [4, 9], [10]] [Fact.is (.pointer (some ⟨w.heap.size, 0, none⟩)), Fact.is (.slice (some ⟨p, off, none⟩) a.length c), Fact.is (.int .i64 (m : Int)), Fact.is (.pointer (some ⟨p, off + m, none⟩)), Fact.is (.int .i64 x), Fact.is (.pointer (some ⟨w.heap.size + 1, 0, none⟩)), Fact.is (.slice (some ⟨p', off', none⟩) b.length c'), Fact.is (.int .i64 (m : Int)), Fact.is (.pointer (some ⟨p', off' + m, none⟩)), Fact.is (.int .i64 y), Fact.is (.int .i64 (cmpTop a b a.length)), Fact.is (.int .i64 (cmpTop a b a.length))] (by kernel_rfl) (by kernel_rfl) (by intro c d v a w h; cases d <;> exact h) (And.intro ?op0_1 (And.intro ?op1_1 (And.intro ?op2_1 (And.intro ?op3_1 (And.intro ?op4_1 (And.intro ?op5_1 (And.intro ?op6_1 (And.intro ?op7_1 (And.intro ?op8_1 (And.intro ?op9_1 (And.intro ?op10_1 (And.intro ?op11_1 trivial)))))))))))) ?fin_1
        case op0_1 => (change flowStep _ _ _ _ _ _ _ _; intro wf vs hbf hf; have v1 := cellB hbf v1; have v2 := cellB hbf v2; have v3 := cellB hbf v3; have v4 := cellB hbf v4; obtain ⟨-⟩ := hf; show wpList _ _ _ _ ⟨_, _⟩ _; go_wp2_with (first | (go_at_call 74; ((with_reducible refine (Hk3.out _).mono ?_); rintro e w' ⟨rfl, rfl⟩))); first | exact ⟨rfl, rfl, ⟨_, _, rfl, rfl, rfl⟩, by first | with_reducible exact Below.refl _ _ | assumption | with_reducible exact (Below.refl _ _).drew | with_reducible exact (Below.refl _ _).alloc (Nat.le_refl _) _⟩ | exact ⟨rfl, rfl, ⟨_, _, rfl, rfl, (by show _ = _; rfl)⟩, by first | with_reducible exact Below.refl _ _ | assumption | with_reducible exact (Below.refl _ _).drew | with_reducible exact (Below.refl _ _).alloc (Nat.le_refl _) _⟩ | exact ⟨rfl, rfl, ⟨_, _, rfl, rfl, ⟨_, rfl, Below.size (by assumption), heap_alloc_new _ _⟩⟩, (Below.refl _ _).alloc (Nat.le_refl _) _⟩ | exact ⟨rfl, rfl, ⟨_, _, rfl, rfl, ⟨_, rfl, World.ownsRow_lit _ _ _ (Below.size (by assumption)) (by decide) rfl⟩⟩, (Below.refl _ _).alloc (Nat.le_refl _) _⟩ | exact ⟨rfl, rfl, ⟨_, _, rfl, rfl, ⟨_, _, rfl, by assumption⟩⟩, by first | with_reducible exact Below.refl _ _ | assumption⟩)
        case op1_1 => (change flowStep _ _ _ _ _ _ _ _; intro wf vs hbf hf; have v1 := cellB hbf v1; have v2 := cellB hbf v2; have v3 := cellB hbf v3; have v4 := cellB hbf v4; obtain ⟨e0, -⟩ := hf; replace e0 : vs 0 = .pointer (some ⟨w.heap.size, 0, none⟩) := e0; show wpList _ _ _ _ (Act.put _ (some 47) (vs 0)) _; rw [e0]; go_wp2_with (first | (go_at_call 74; ((with_reducible refine (Hk3.out _).mono ?_); rintro e w' ⟨rfl, rfl⟩))); first | exact ⟨rfl, rfl, ⟨_, _, rfl, rfl, rfl⟩, by first | with_reducible exact Below.refl _ _ | assumption | with_reducible exact (Below.refl _ _).drew | with_reducible exact (Below.refl _ _).alloc (Nat.le_refl _) _⟩ | exact ⟨rfl, rfl, ⟨_, _, rfl, rfl, (by show _ = _; rfl)⟩, by first | with_reducible exact Below.refl _ _ | assumption | with_reducible exact (Below.refl _ _).drew | with_reducible exact (Below.refl _ _).alloc (Nat.le_refl _) _⟩ | exact ⟨rfl, rfl, ⟨_, _, rfl, rfl, ⟨_, rfl, Below.size (by assumption), heap_alloc_new _ _⟩⟩, (Below.refl _ _).alloc (Nat.le_refl _) _⟩ | exact ⟨rfl, rfl, ⟨_, _, rfl, rfl, ⟨_, rfl, World.ownsRow_lit _ _ _ (Below.size (by assumption)) (by decide) rfl⟩⟩, (Below.refl _ _).alloc (Nat.le_refl _) _⟩ | exact ⟨rfl, rfl, ⟨_, _, rfl, rfl, ⟨_, _, rfl, by assumption⟩⟩, by first | with_reducible exact Below.refl _ _ | assumption⟩)
        case op2_1 => (change flowStep _ _ _ _ _ _ _ _; intro wf vs hbf hf; have v1 := cellB hbf v1; have v2 := cellB hbf v2; have v3 := cellB hbf v3; have v4 := cellB hbf v4; obtain ⟨-⟩ := hf; show wpList _ _ _ _ ⟨_, _⟩ _; go_wp2_with (first | (go_at_call 74; ((with_reducible refine (Hk3.out _).mono ?_); rintro e w' ⟨rfl, rfl⟩))); first | exact ⟨rfl, rfl, ⟨_, _, rfl, rfl, rfl⟩, by first | with_reducible exact Below.refl _ _ | assumption | with_reducible exact (Below.refl _ _).drew | with_reducible exact (Below.refl _ _).alloc (Nat.le_refl _) _⟩ | exact ⟨rfl, rfl, ⟨_, _, rfl, rfl, (by show _ = _; rfl)⟩, by first | with_reducible exact Below.refl _ _ | assumption | with_reducible exact (Below.refl _ _).drew | with_reducible exact (Below.refl _ _).alloc (Nat.le_refl _) _⟩ | exact ⟨rfl, rfl, ⟨_, _, rfl, rfl, ⟨_, rfl, Below.size (by assumption), heap_alloc_new _ _⟩⟩, (Below.refl _ _).alloc (Nat.le_refl _) _⟩ | exact ⟨rfl, rfl, ⟨_, _, rfl, rfl, ⟨_, rfl, World.ownsRow_lit _ _ _ (Below.size (by assumption)) (by decide) rfl⟩⟩, (Below.refl _ _).alloc (Nat.le_refl _) _⟩ | exact ⟨rfl, rfl, ⟨_, _, rfl, rfl, ⟨_, _, rfl, by assumption⟩⟩, by first | with_reducible exact Below.refl _ _ | assumption⟩)
        case op3_1 => (change flowStep _ _ _ _ _ _ _ _; intro wf vs hbf hf; have v1 := cellB hbf v1; have v2 := cellB hbf v2; have v3 := cellB hbf v3; have v4 := cellB hbf v4; obtain ⟨e1, e2, -⟩ := hf; replace e1 : vs 1 = .slice (some ⟨p, off, none⟩) a.length c := e1; replace e2 : vs 2 = .int .i64 (m : Int) := e2; show wpList _ _ _ _ (Act.put (Act.put _ (some 48) (vs 1)) (some 49) (vs 2)) _; rw [e1, e2]; go_wp2_with (first | (go_at_call 74; ((with_reducible refine (Hk3.out _).mono ?_); rintro e w' ⟨rfl, rfl⟩))); first | exact ⟨rfl, rfl, ⟨_, _, rfl, rfl, rfl⟩, by first | with_reducible exact Below.refl _ _ | assumption | with_reducible exact (Below.refl _ _).drew | with_reducible exact (Below.refl _ _).alloc (Nat.le_refl _) _⟩ | exact ⟨rfl, rfl, ⟨_, _, rfl, rfl, (by show _ = _; rfl)⟩, by first | with_reducible exact Below.refl _ _ | assumption | with_reducible exact (Below.refl _ _).drew | with_reducible exact (Below.refl _ _).alloc (Nat.le_refl _) _⟩ | exact ⟨rfl, rfl, ⟨_, _, rfl, rfl, ⟨_, rfl, Below.size (by assumption), heap_alloc_new _ _⟩⟩, (Below.refl _ _).alloc (Nat.le_refl _) _⟩ | exact ⟨rfl, rfl, ⟨_, _, rfl, rfl, ⟨_, rfl, World.ownsRow_lit _ _ _ (Below.size (by assumption)) (by decide) rfl⟩⟩, (Below.refl _ _).alloc (Nat.le_refl _) _⟩ | exact ⟨rfl, rfl, ⟨_, _, rfl, rfl, ⟨_, _, rfl, by assumption⟩⟩, by first | with_reducible exact Below.refl _ _ | assumption⟩)
        case op4_1 => (change flowStep _ _ _ _ _ _ _ _; intro wf vs hbf hf; have v1 := cellB hbf v1; have v2 := cellB hbf v2; have v3 := cellB hbf v3; have v4 := cellB hbf v4; obtain ⟨e3, -⟩ := hf; replace e3 : vs 3 = .pointer (some ⟨p, off + m, none⟩) := e3; show wpList _ _ _ _ (Act.put _ (some 50) (vs 3)) _; rw [e3]; go_wp2_with (first | (go_at_call 74; ((with_reducible refine (Hk3.out _).mono ?_); rintro e w' ⟨rfl, rfl⟩))); first | exact ⟨rfl, rfl, ⟨_, _, rfl, rfl, rfl⟩, by first | with_reducible exact Below.refl _ _ | assumption | with_reducible exact (Below.refl _ _).drew | with_reducible exact (Below.refl _ _).alloc (Nat.le_refl _) _⟩ | exact ⟨rfl, rfl, ⟨_, _, rfl, rfl, (by show _ = _; rfl)⟩, by first | with_reducible exact Below.refl _ _ | assumption | with_reducible exact (Below.refl _ _).drew | with_reducible exact (Below.refl _ _).alloc (Nat.le_refl _) _⟩ | exact ⟨rfl, rfl, ⟨_, _, rfl, rfl, ⟨_, rfl, Below.size (by assumption), heap_alloc_new _ _⟩⟩, (Below.refl _ _).alloc (Nat.le_refl _) _⟩ | exact ⟨rfl, rfl, ⟨_, _, rfl, rfl, ⟨_, rfl, World.ownsRow_lit _ _ _ (Below.size (by assumption)) (by decide) rfl⟩⟩, (Below.refl _ _).alloc (Nat.le_refl _) _⟩ | exact ⟨rfl, rfl, ⟨_, _, rfl, rfl, ⟨_, _, rfl, by assumption⟩⟩, by first | with_reducible exact Below.refl _ _ | assumption⟩)
        case op5_1 => (change flowStep _ _ _ _ _ _ _ _; intro wf vs hbf hf; have v1 := cellB hbf v1; have v2 := cellB hbf v2; have v3 := cellB hbf v3; have v4 := cellB hbf v4; obtain ⟨-⟩ := hf; show wpList _ _ _ _ ⟨_, _⟩ _; go_wp2_with (first | (go_at_call 74; ((with_reducible refine (Hk3.out _).mono ?_); rintro e w' ⟨rfl, rfl⟩))); first | exact ⟨rfl, rfl, ⟨_, _, rfl, rfl, rfl⟩, by first | with_reducible exact Below.refl _ _ | assumption | with_reducible exact (Below.refl _ _).drew | with_reducible exact (Below.refl _ _).alloc (Nat.le_refl _) _⟩ | exact ⟨rfl, rfl, ⟨_, _, rfl, rfl, (by show _ = _; rfl)⟩, by first | with_reducible exact Below.refl _ _ | assumption | with_reducible exact (Below.refl _ _).drew | with_reducible exact (Below.refl _ _).alloc (Nat.le_refl _) _⟩ | exact ⟨rfl, rfl, ⟨_, _, rfl, rfl, ⟨_, rfl, Below.size (by assumption), heap_alloc_new _ _⟩⟩, (Below.refl _ _).alloc (Nat.le_refl _) _⟩ | exact ⟨rfl, rfl, ⟨_, _, rfl, rfl, ⟨_, rfl, World.ownsRow_lit _ _ _ (Below.size (by assumption)) (by decide) rfl⟩⟩, (Below.refl _ _).alloc (Nat.le_refl _) _⟩ | exact ⟨rfl, rfl, ⟨_, _, rfl, rfl, ⟨_, _, rfl, by assumption⟩⟩, by first | with_reducible exact Below.refl _ _ | assumption⟩)
        case op6_1 => (change flowStep _ _ _ _ _ _ _ _; intro wf vs hbf hf; have v1 := cellB hbf v1; have v2 := cellB hbf v2; have v3 := cellB hbf v3; have v4 := cellB hbf v4; obtain ⟨e5, -⟩ := hf; replace e5 : vs 5 = .pointer (some ⟨w.heap.size + 1, 0, none⟩) := e5; show wpList _ _ _ _ (Act.put _ (some 52) (vs 5)) _; rw [e5]; go_wp2_with (first | (go_at_call 74; ((with_reducible refine (Hk3.out _).mono ?_); rintro e w' ⟨rfl, rfl⟩))); first | exact ⟨rfl, rfl, ⟨_, _, rfl, rfl, rfl⟩, by first | with_reducible exact Below.refl _ _ | assumption | with_reducible exact (Below.refl _ _).drew | with_reducible exact (Below.refl _ _).alloc (Nat.le_refl _) _⟩ | exact ⟨rfl, rfl, ⟨_, _, rfl, rfl, (by show _ = _; rfl)⟩, by first | with_reducible exact Below.refl _ _ | assumption | with_reducible exact (Below.refl _ _).drew | with_reducible exact (Below.refl _ _).alloc (Nat.le_refl _) _⟩ | exact ⟨rfl, rfl, ⟨_, _, rfl, rfl, ⟨_, rfl, Below.size (by assumption), heap_alloc_new _ _⟩⟩, (Below.refl _ _).alloc (Nat.le_refl _) _⟩ | exact ⟨rfl, rfl, ⟨_, _, rfl, rfl, ⟨_, rfl, World.ownsRow_lit _ _ _ (Below.size (by assumption)) (by decide) rfl⟩⟩, (Below.refl _ _).alloc (Nat.le_refl _) _⟩ | exact ⟨rfl, rfl, ⟨_, _, rfl, rfl, ⟨_, _, rfl, by assumption⟩⟩, by first | with_reducible exact Below.refl _ _ | assumption⟩)
        case op7_1 => (change flowStep _ _ _ _ _ _ _ _; intro wf vs hbf hf; have v1 := cellB hbf v1; have v2 := cellB hbf v2; have v3 := cellB hbf v3; have v4 := cellB hbf v4; obtain ⟨-⟩ := hf; show wpList _ _ _ _ ⟨_, _⟩ _; go_wp2_with (first | (go_at_call 74; ((with_reducible refine (Hk3.out _).mono ?_); rintro e w' ⟨rfl, rfl⟩))); first | exact ⟨rfl, rfl, ⟨_, _, rfl, rfl, rfl⟩, by first | with_reducible exact Below.refl _ _ | assumption | with_reducible exact (Below.refl _ _).drew | with_reducible exact (Below.refl _ _).alloc (Nat.le_refl _) _⟩ | exact ⟨rfl, rfl, ⟨_, _, rfl, rfl, (by show _ = _; rfl)⟩, by first | with_reducible exact Below.refl _ _ | assumption | with_reducible exact (Below.refl _ _).drew | with_reducible exact (Below.refl _ _).alloc (Nat.le_refl _) _⟩ | exact ⟨rfl, rfl, ⟨_, _, rfl, rfl, ⟨_, rfl, Below.size (by assumption), heap_alloc_new _ _⟩⟩, (Below.refl _ _).alloc (Nat.le_refl _) _⟩ | exact ⟨rfl, rfl, ⟨_, _, rfl, rfl, ⟨_, rfl, World.ownsRow_lit _ _ _ (Below.size (by assumption)) (by decide) rfl⟩⟩, (Below.refl _ _).alloc (Nat.le_refl _) _⟩ | exact ⟨rfl, rfl, ⟨_, _, rfl, rfl, ⟨_, _, rfl, by assumption⟩⟩, by first | with_reducible exact Below.refl _ _ | assumption⟩)
        case op8_1 => (change flowStep _ _ _ _ _ _ _ _; intro wf vs hbf hf; have v1 := cellB hbf v1; have v2 := cellB hbf v2; have v3 := cellB hbf v3; have v4 := cellB hbf v4; obtain ⟨e6, e7, -⟩ := hf; replace e6 : vs 6 = .slice (some ⟨p', off', none⟩) b.length c' := e6; replace e7 : vs 7 = .int .i64 (m : Int) := e7; show wpList _ _ _ _ (Act.put (Act.put _ (some 53) (vs 6)) (some 54) (vs 7)) _; rw [e6, e7]; go_wp2_with (first | (go_at_call 74; ((with_reducible refine (Hk3.out _).mono ?_); rintro e w' ⟨rfl, rfl⟩))); first | exact ⟨rfl, rfl, ⟨_, _, rfl, rfl, rfl⟩, by first | with_reducible exact Below.refl _ _ | assumption | with_reducible exact (Below.refl _ _).drew | with_reducible exact (Below.refl _ _).alloc (Nat.le_refl _) _⟩ | exact ⟨rfl, rfl, ⟨_, _, rfl, rfl, (by show _ = _; rfl)⟩, by first | with_reducible exact Below.refl _ _ | assumption | with_reducible exact (Below.refl _ _).drew | with_reducible exact (Below.refl _ _).alloc (Nat.le_refl _) _⟩ | exact ⟨rfl, rfl, ⟨_, _, rfl, rfl, ⟨_, rfl, Below.size (by assumption), heap_alloc_new _ _⟩⟩, (Below.refl _ _).alloc (Nat.le_refl _) _⟩ | exact ⟨rfl, rfl, ⟨_, _, rfl, rfl, ⟨_, rfl, World.ownsRow_lit _ _ _ (Below.size (by assumption)) (by decide) rfl⟩⟩, (Below.refl _ _).alloc (Nat.le_refl _) _⟩ | exact ⟨rfl, rfl, ⟨_, _, rfl, rfl, ⟨_, _, rfl, by assumption⟩⟩, by first | with_reducible exact Below.refl _ _ | assumption⟩)
        case op9_1 => (change flowStep _ _ _ _ _ _ _ _; intro wf vs hbf hf; have v1 := cellB hbf v1; have v2 := cellB hbf v2; have v3 := cellB hbf v3; have v4 := cellB hbf v4; obtain ⟨e8, -⟩ := hf; replace e8 : vs 8 = .pointer (some ⟨p', off' + m, none⟩) := e8; show wpList _ _ _ _ (Act.put _ (some 55) (vs 8)) _; rw [e8]; go_wp2_with (first | (go_at_call 74; ((with_reducible refine (Hk3.out _).mono ?_); rintro e w' ⟨rfl, rfl⟩))); first | exact ⟨rfl, rfl, ⟨_, _, rfl, rfl, rfl⟩, by first | with_reducible exact Below.refl _ _ | assumption | with_reducible exact (Below.refl _ _).drew | with_reducible exact (Below.refl _ _).alloc (Nat.le_refl _) _⟩ | exact ⟨rfl, rfl, ⟨_, _, rfl, rfl, (by show _ = _; rfl)⟩, by first | with_reducible exact Below.refl _ _ | assumption | with_reducible exact (Below.refl _ _).drew | with_reducible exact (Below.refl _ _).alloc (Nat.le_refl _) _⟩ | exact ⟨rfl, rfl, ⟨_, _, rfl, rfl, ⟨_, rfl, Below.size (by assumption), heap_alloc_new _ _⟩⟩, (Below.refl _ _).alloc (Nat.le_refl _) _⟩ | exact ⟨rfl, rfl, ⟨_, _, rfl, rfl, ⟨_, rfl, World.ownsRow_lit _ _ _ (Below.size (by assumption)) (by decide) rfl⟩⟩, (Below.refl _ _).alloc (Nat.le_refl _) _⟩ | exact ⟨rfl, rfl, ⟨_, _, rfl, rfl, ⟨_, _, rfl, by assumption⟩⟩, by first | with_reducible exact Below.refl _ _ | assumption⟩)
        case op10_1 => (change flowStep _ _ _ _ _ _ _ _; intro wf vs hbf hf; have v1 := cellB hbf v1; have v2 := cellB hbf v2; have v3 := cellB hbf v3; have v4 := cellB hbf v4; obtain ⟨e4, e9, -⟩ := hf; replace e4 : vs 4 = .int .i64 x := e4; replace e9 : vs 9 = .int .i64 y := e9; show wpList _ _ _ _ (Act.put (Act.put _ (some 51) (vs 4)) (some 56) (vs 9)) _; rw [e4, e9]; go_wp2_with (first | (go_at_call 74; ((with_reducible refine (Hk3.out _).mono ?_); rintro e w' ⟨rfl, rfl⟩))); first | exact ⟨rfl, rfl, ⟨_, _, rfl, rfl, rfl⟩, by first | with_reducible exact Below.refl _ _ | assumption | with_reducible exact (Below.refl _ _).drew | with_reducible exact (Below.refl _ _).alloc (Nat.le_refl _) _⟩ | exact ⟨rfl, rfl, ⟨_, _, rfl, rfl, (by show _ = _; rfl)⟩, by first | with_reducible exact Below.refl _ _ | assumption | with_reducible exact (Below.refl _ _).drew | with_reducible exact (Below.refl _ _).alloc (Nat.le_refl _) _⟩ | exact ⟨rfl, rfl, ⟨_, _, rfl, rfl, ⟨_, rfl, Below.size (by assumption), heap_alloc_new _ _⟩⟩, (Below.refl _ _).alloc (Nat.le_refl _) _⟩ | exact ⟨rfl, rfl, ⟨_, _, rfl, rfl, ⟨_, rfl, World.ownsRow_lit _ _ _ (Below.size (by assumption)) (by decide) rfl⟩⟩, (Below.refl _ _).alloc (Nat.le_refl _) _⟩ | exact ⟨rfl, rfl, ⟨_, _, rfl, rfl, ⟨_, _, rfl, by assumption⟩⟩, by first | with_reducible exact Below.refl _ _ | assumption⟩)
        case op11_1 => (change flowStep _ _ _ _ _ _ _ _; intro wf vs hbf hf; have v1 := cellB hbf v1; have v2 := cellB hbf v2; have v3 := cellB hbf v3; have v4 := cellB hbf v4; obtain ⟨e10, -⟩ := hf; replace e10 : vs 10 = .int .i64 (cmpTop a b a.length) := e10; show wpList _ _ _ _ (Act.put _ (some 57) (vs 10)) _; rw [e10]; go_wp2_with (first | (go_at_call 74; ((with_reducible refine (Hk3.out _).mono ?_); rintro e w' ⟨rfl, rfl⟩))); first | exact ⟨rfl, rfl, ⟨_, _, rfl, rfl, rfl⟩, by first | with_reducible exact Below.refl _ _ | assumption | with_reducible exact (Below.refl _ _).drew | with_reducible exact (Below.refl _ _).alloc (Nat.le_refl _) _⟩ | exact ⟨rfl, rfl, ⟨_, _, rfl, rfl, (by show _ = _; rfl)⟩, by first | with_reducible exact Below.refl _ _ | assumption | with_reducible exact (Below.refl _ _).drew | with_reducible exact (Below.refl _ _).alloc (Nat.le_refl _) _⟩ | exact ⟨rfl, rfl, ⟨_, _, rfl, rfl, ⟨_, rfl, Below.size (by assumption), heap_alloc_new _ _⟩⟩, (Below.refl _ _).alloc (Nat.le_refl _) _⟩ | exact ⟨rfl, rfl, ⟨_, _, rfl, rfl, ⟨_, rfl, World.ownsRow_lit _ _ _ (Below.size (by assumption)) (by decide) rfl⟩⟩, (Below.refl _ _).alloc (Nat.le_refl _) _⟩ | exact ⟨rfl, rfl, ⟨_, _, rfl, rfl, ⟨_, _, rfl, by assumption⟩⟩, by first | with_reducible exact Below.refl _ _ | assumption⟩)
        intro wz vs hbf hf; obtain ⟨e0, e1, e2, e3, e4, e5, e6, e7, e8, e9, e10, e11, -⟩ := hf; replace e0 : vs 0 = .pointer (some ⟨w.heap.size, 0, none⟩) := e0; replace e1 : vs 1 = .slice (some ⟨p, off, none⟩) a.length c := e1; replace e2 : vs 2 = .int .i64 (m : Int) := e2; replace e3 : vs 3 = .pointer (some ⟨p, off + m, none⟩) := e3; replace e4 : vs 4 = .int .i64 x := e4; replace e5 : vs 5 = .pointer (some ⟨w.heap.size + 1, 0, none⟩) := e5; replace e6 : vs 6 = .slice (some ⟨p', off', none⟩) b.length c' := e6; replace e7 : vs 7 = .int .i64 (m : Int) := e7; replace e8 : vs 8 = .pointer (some ⟨p', off' + m, none⟩) := e8; replace e9 : vs 9 = .int .i64 y := e9; replace e10 : vs 10 = .int .i64 (cmpTop a b a.length) := e10; replace e11 : vs 11 = .int .i64 (cmpTop a b a.length) := e11; show wpList _ _ _ _ (Act.put (Act.put (Act.put (Act.put (Act.put (Act.put (Act.put (Act.put (Act.put (Act.put (Act.put (Act.put _ (some 47) (vs 0)) (some 48) (vs 1)) (some 49) (vs 2)) (some 50) (vs 3)) (some 51) (vs 4)) (some 52) (vs 5)) (some 53) (vs 6)) (some 54) (vs 7)) (some 55) (vs 8)) (some 56) (vs 9)) (some 57) (vs 10)) (some 4) (vs 11)) _; rw [e0, e1, e2, e3, e4, e5, e6, e7, e8, e9, e10, e11]; simp only [Act.put, List.setIfInBounds_toArray, List.set_cons_succ, List.set_cons_zero, List.drop_succ_cons, List.drop_zero]
        refine wpList_nil ?_
        go_wp2_with fail
        go_ret
        exact ⟨rfl, (below_draws hB _).trans (hbf.mono hB.size)⟩

theorem CompareBigInts_s (va vb : Value) (a b : List Int) (w : World) (h1 : IRow w va a) (h2 : IRow w vb b) : Calls Try.prog 55 #[.agg #[va], .agg #[vb]] w (RetB (.int .i64 (cmpB a b)) w) := by
  have k1 := fun W h => IsValidBigInt_s va a W h
  have k2 := fun W h => IsValidBigInt_s vb b W h
  obtain ⟨A, c, e1, -⟩ := IRow.open h1
  obtain ⟨A', c', e2, -⟩ := IRow.open h2
  have y1 := heapN (heap_alloc_new w (.cells #[va] 46)) (.cells #[vb] 46)
  have y2 := heap_new1 w (.cells #[va] 46) (.cells #[vb] 46)
  have hB : Below w.heap.size w ((w.alloc (.cells #[va] 46)).alloc (.cells #[vb] 46)) := ((Below.refl _ _).alloc (Nat.le_refl _) _).alloc (by simp) _
  subst e1 e2
  unfold cmpB
  cases g1 : bvalid a
  · rw [g1] at k1
    simp only [Bool.false_and, Bool.false_eq_true, if_false]
    have Hg1 := Lib.hid g1; clear g1; have Hk1 := Lib.hid k1; clear k1; have Hk2 := Lib.hid k2; clear k2
    go_enter Try.func55, Try.ntmps55
    go_wp2_with ((go_at_call 52; ((with_reducible refine (Hk1.out _ ((h1.alloc _).alloc _)).mono ?_); rintro e w1 ⟨rfl, hb⟩; (replace y1 := blockB hb y1; replace y2 := blockB hb y2; replace h1 := ((h1.alloc _).alloc _).below hb; replace h2 := ((h2.alloc _).alloc _).below hb; replace hB := below_tr hB hb; clear hb; have z1 := cellAt y1 0; have z2 := cellAt y2 0))))
    go_ret
    exact ⟨rfl, hB⟩
  rw [g1] at k1
  cases g2 : bvalid b
  · rw [g2] at k2
    simp only [Bool.and_false, Bool.false_eq_true, if_false]
    have Hg1 := Lib.hid g1; clear g1; have Hg2 := Lib.hid g2; clear g2; have Hk1 := Lib.hid k1; clear k1; have Hk2 := Lib.hid k2; clear k2
    go_enter Try.func55, Try.ntmps55
    go_wp2_with (first | (go_at_call 52; ((with_reducible refine (Hk1.out _ ((h1.alloc _).alloc _)).mono ?_); rintro e w1 ⟨rfl, hb⟩; (replace y1 := blockB hb y1; replace y2 := blockB hb y2; replace h1 := ((h1.alloc _).alloc _).below hb; replace h2 := ((h2.alloc _).alloc _).below hb; replace hB := below_tr hB hb; clear hb; have z1 := cellAt y1 0; have z2 := cellAt y2 0))) | (go_at_call 52; ((with_reducible refine (Hk2.out _ h2).mono ?_); rintro e w2 ⟨rfl, hb⟩; (clear z1 z2; replace y1 := blockB hb y1; replace y2 := blockB hb y2; replace h1 := h1.below hb; replace h2 := h2.below hb; replace hB := below_tr hB hb; clear hb; have z1 := cellAt y1 0; have z2 := cellAt y2 0))))
    go_ret
    exact ⟨rfl, hB⟩
  rw [g2] at k2
  simp only [Bool.and_self, if_true]
  have b1 := (bvalid_yes g1).2.1
  have b2 := (bvalid_yes g2).2.1
  by_cases hn : a.length = b.length
  rotate_left
  · rw [if_neg hn]
    have d1 : ((a.length : Int) != (b.length : Int)) = true := by rw [bne_iff_ne]; omega
    have d2 : (a.length != b.length) = true := by rw [bne_iff_ne]; exact hn
    by_cases hl : a.length < b.length
    · have e : cmpI (a.length : Int) (b.length : Int) = -1 := by unfold cmpI; rw [if_pos (by omega)]
      have d3 : decide ((a.length : Int) < (b.length : Int)) = true := by rw [decide_eq_true_eq]; omega
      have d4 : decide (a.length < b.length) = true := by rw [decide_eq_true_eq]; exact hl
      rw [e]
      have Hg1 := Lib.hid g1; clear g1; have Hg2 := Lib.hid g2; clear g2; have Hk1 := Lib.hid k1; clear k1; have Hk2 := Lib.hid k2; clear k2; have Hhn := Lib.hid hn; clear hn; have He := Lib.hid e; clear e; have Hhl := Lib.hid hl; clear hl
      go_enter Try.func55, Try.ntmps55
      go_wp2_with (first | (go_at_call 52; ((with_reducible refine (Hk1.out _ ((h1.alloc _).alloc _)).mono ?_); rintro e w1 ⟨rfl, hb⟩; (replace y1 := blockB hb y1; replace y2 := blockB hb y2; replace h1 := ((h1.alloc _).alloc _).below hb; replace h2 := ((h2.alloc _).alloc _).below hb; replace hB := below_tr hB hb; clear hb; have z1 := cellAt y1 0; have z2 := cellAt y2 0))) | (go_at_call 52; ((with_reducible refine (Hk2.out _ h2).mono ?_); rintro e w2 ⟨rfl, hb⟩; (clear z1 z2; replace y1 := blockB hb y1; replace y2 := blockB hb y2; replace h1 := h1.below hb; replace h2 := h2.below hb; replace hB := below_tr hB hb; clear hb; have z1 := cellAt y1 0; have z2 := cellAt y2 0))))
      go_ret
      exact ⟨rfl, hB⟩
    · have e : cmpI (a.length : Int) (b.length : Int) = 1 := by unfold cmpI; rw [if_neg (by omega), if_pos (by omega)]
      have d3 : decide ((a.length : Int) < (b.length : Int)) = false := by rw [decide_eq_false_iff_not]; omega
      have d4 : decide (a.length < b.length) = false := by rw [decide_eq_false_iff_not]; exact hl
      rw [e]
      have Hg1 := Lib.hid g1; clear g1; have Hg2 := Lib.hid g2; clear g2; have Hk1 := Lib.hid k1; clear k1; have Hk2 := Lib.hid k2; clear k2; have Hhn := Lib.hid hn; clear hn; have He := Lib.hid e; clear e; have Hhl := Lib.hid hl; clear hl
      go_enter Try.func55, Try.ntmps55
      go_wp2_with (first | (go_at_call 52; ((with_reducible refine (Hk1.out _ ((h1.alloc _).alloc _)).mono ?_); rintro e w1 ⟨rfl, hb⟩; (replace y1 := blockB hb y1; replace y2 := blockB hb y2; replace h1 := ((h1.alloc _).alloc _).below hb; replace h2 := ((h2.alloc _).alloc _).below hb; replace hB := below_tr hB hb; clear hb; have z1 := cellAt y1 0; have z2 := cellAt y2 0))) | (go_at_call 52; ((with_reducible refine (Hk2.out _ h2).mono ?_); rintro e w2 ⟨rfl, hb⟩; (clear z1 z2; replace y1 := blockB hb y1; replace y2 := blockB hb y2; replace h1 := h1.below hb; replace h2 := h2.below hb; replace hB := below_tr hB hb; clear hb; have z1 := cellAt y1 0; have z2 := cellAt y2 0))))
      go_ret
      exact ⟨rfl, hB⟩
  rw [if_pos hn]
  have d1 : ((a.length : Int) != (b.length : Int)) = false := by simp [hn]
  have d2 : (a.length != b.length) = false := by simp [hn]
  have Hg1 := Lib.hid g1; clear g1; have Hg2 := Lib.hid g2; clear g2; have Hk1 := Lib.hid k1; clear k1; have Hk2 := Lib.hid k2; clear k2; have Hhn := Lib.hid hn; clear hn
  go_enter Try.func55, Try.ntmps55
  go_wp2_with (first | (go_at_call 52; ((with_reducible refine (Hk1.out _ ((h1.alloc _).alloc _)).mono ?_); rintro e w1 ⟨rfl, hb⟩; (replace y1 := blockB hb y1; replace y2 := blockB hb y2; replace h1 := ((h1.alloc _).alloc _).below hb; replace h2 := ((h2.alloc _).alloc _).below hb; replace hB := below_tr hB hb; clear hb; have z1 := cellAt y1 0; have z2 := cellAt y2 0))) | (go_at_call 52; ((with_reducible refine (Hk2.out _ h2).mono ?_); rintro e w2 ⟨rfl, hb⟩; (clear z1 z2; replace y1 := blockB hb y1; replace y2 := blockB hb y2; replace h1 := h1.below hb; replace h2 := h2.below hb; replace hB := below_tr hB hb; clear hb; have z1 := cellAt y1 0; have z2 := cellAt y2 0))))
  clear d1 d2 z1 z2
  go_loopw [5] (fun i wr => ∃ k : Nat, i = .int .i64 ((k : Int) - 1) ∧ k ≤ a.length ∧ cmpTop a b a.length = cmpTop a b k ∧ Below w2.heap.size w2 wr) (fun i _ => (intOf i + 1).toNat)
  case atStart => exact ⟨a.length, rfl, Nat.le_refl _, rfl, Below.refl _ _⟩
  case round =>
    obtain ⟨k, rfl, hk, ht, hb⟩ := hrel
    replace hB := hB.trans (hb.mono hB.size)
    have x1 := blockB hb y1
    have x2 := blockB hb y2
    have z1 := cellAt x1 0
    have z2 := cellAt x2 0
    by_cases h0 : k = 0
    · subst h0
      have e : cmpTop a b a.length = 0 := ht
      have Hht := Lib.hid ht; clear ht; have He := Lib.hid e; clear e
      go_wp2_with fail
      go_ret
      exact ⟨by rw [He.out]; rfl, hB⟩
    · obtain ⟨m, rfl⟩ : ∃ m, k = m + 1 := ⟨k - 1, by omega⟩
      have ek : ((m + 1 : Nat) : Int) - 1 = (m : Int) := by omega
      rw [ek]
      clear ek h0
      have hm1 : m < a.length := by omega
      have hm2 : m < b.length := by rw [← Hhn.out]; exact hm1
      obtain ⟨_, _, e1, -, -, -, hA⟩ := IRow.open (h1.below hb)
      obtain ⟨_, _, e2, -, -, -, hC⟩ := IRow.open (h2.below hb)
      simp only [Value.slice.injEq] at e1 e2
      obtain ⟨rfl, -, rfl⟩ := e1
      obtain ⟨rfl, -, rfl⟩ := e2
      obtain ⟨p, off, rfl, q1⟩ := hA m hm1
      obtain ⟨p', off', rfl, q2⟩ := hC m hm2
      have u1 := q1 m hm1
      have u2 := q2 m hm2
      clear q1 q2 hA hC
      have t1 : a.getD m 0 = a[m] := by simp [List.getD, hm1]
      have t2 : b.getD m 0 = b[m] := by simp [List.getD, hm2]
      rw [show cmpTop a b (m + 1) = if a.getD m 0 = b.getD m 0 then cmpTop a b m else cmpI (a.getD m 0) (b.getD m 0) from rfl, t1, t2] at ht
      clear t1 t2
      obtain ⟨x, hx⟩ : ∃ x, a[m] = x := ⟨_, rfl⟩
      obtain ⟨y, hy⟩ : ∃ y, b[m] = y := ⟨_, rfl⟩
      rw [hx] at u1 ht
      rw [hy] at u2 ht
      rcases Int.lt_trichotomy x y with he | he | he
      · rw [if_neg (by omega), show cmpI x y = -1 from if_pos he] at ht
        have g3 : decide (x < y) = true := by rw [decide_eq_true_eq]; exact he
        have Hht := Lib.hid ht; clear ht; have Hhx := Lib.hid hx; clear hx; have Hhy := Lib.hid hy; clear hy; have Hhe := Lib.hid he; clear he
        go_wp2_with fail
        go_quiet (fail)
        go_wp2_with fail
        go_ret
        exact ⟨by rw [Hht.out]; rfl, below_draws hB _⟩
      · rw [if_pos he] at ht
        have g3 : decide (x < y) = false := by rw [decide_eq_false_iff_not]; omega
        have g4 : decide (y < x) = false := by rw [decide_eq_false_iff_not]; omega
        have Hht := Lib.hid ht; clear ht; have Hhx := Lib.hid hx; clear hx; have Hhy := Lib.hid hy; clear hy; have Hhe := Lib.hid he; clear he
        go_wp2_with fail
        go_quiet (fail)
        go_wp2_with fail
        go_quiet (fail)
        go_wp2_with fail
        go_roundw
        case rel => exact ⟨m, rfl, by omega, Hht.out, by first | exact below_draws (below_draws hb _) _ | exact below_draws hb _⟩
        case measure => simp [intOf] <;> omega
      · rw [if_neg (by omega), show cmpI x y = 1 by unfold cmpI; rw [if_neg (by omega), if_pos he]] at ht
        have g3 : decide (x < y) = false := by rw [decide_eq_false_iff_not]; omega
        have g4 : decide (y < x) = true := by rw [decide_eq_true_eq]; exact he
        have Hht := Lib.hid ht; clear ht; have Hhx := Lib.hid hx; clear hx; have Hhy := Lib.hid hy; clear hy; have Hhe := Lib.hid he; clear he
        go_wp2_with fail
        go_quiet (fail)
        go_wp2_with fail
        go_quiet (fail)
        go_wp2_with fail
        go_ret
        exact ⟨by rw [Hht.out]; rfl, by first | exact below_draws (below_draws hB _) _ | exact below_draws hB _⟩

end Go.Proofs.Ytkhphjapefijbaa
