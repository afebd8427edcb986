/- Each decoder returns the encoded value whatever bytes follow, and accepts nothing else. No condition. -/
import Derived.Test.YthbliiimjkkemaaRows
import Derived.Test.YthbliiimjkkemaaOpen
import Derived.Test.YthbliiimjkkemaaBigL
import Derived.Test.YthbliiimjkkemaaDrawY
import Derived.Test.YthbliiimjkkemaaEncL
import Derived.ProofKit
import Derived.OpenShut
import Derived.ChangeOld
namespace Go.Proofs.Ythbliiimjkkemaa.fnEncodings
open Go.ChangeShapes Go.WideShapes Go.ChangeAt Go.RowKit
set_option linter.unusedVariables false
set_option maxHeartbeats 8000000
set_option maxRecDepth 100000
theorem walk (v : Value) (bs : List UInt8) (w : World) (hv : SlB w.heap.size w v bs) : Calls Try.prog 15 #[v] w (RetB (.bool true) w) := by
  by_cases h0 : bs.length ≤ 1048576
  rotate_left
  · have d0 : decide ((1048576 : Int) < (bs.length : Int)) = true := by rw [decide_eq_true_eq]; omega
    go_enter Try.func15, Try.ntmps15
    go_wp2_with (go_at_call 38; ((with_reducible refine (big_l v bs _ hv).mono ?_); rintro e w' ⟨rfl, rfl⟩))
    go_ret
    exact ⟨rfl, Below.refl _ _⟩
  have d0 : decide ((1048576 : Int) < (bs.length : Int)) = false := by rw [decide_eq_false_iff_not]; omega
  obtain ⟨n, hn, c1⟩ := DrawEncodeVarint_f bs h0
  obtain ⟨tl, ht, c2⟩ := DrawEncodeHex_f bs h0
  obtain ⟨D, hD, c3⟩ := DrawDecodeVarint_f bs h0
  replace c1 := fun W (hb : Below w.heap.size w W) => c1 v W ((hv.keep hb).up hb.size)
  replace c2 := fun W (hb : Below w.heap.size w W) => c2 v W ((hv.keep hb).up hb.size)
  replace c3 := fun W (hb : Below w.heap.size w W) => c3 v W ((hv.keep hb).up hb.size)
  have k1 := fun W => EncodeVarint_i n W
  have k2 := fun (l : List UInt8) (h : l.length ≤ 1000) W => DecodeVarint_i l (by omega) W
  have k3 := fun W => EncodeFixed_i n 7 hn.2 W
  have k4 := fun (l : List UInt8) (h : l.length ≤ 1000) W => DecodeFixed_i l (by omega) 7 W
  have k5 := fun W => FormatInt_i n hn W
  have k6 := fun W => ParseInt_i (fmtInt n) (by have := fmt_len n hn; omega) W
  have k7 := fun W => EncodeHex_i tl (by omega) W
  have k8 := fun W => DecodeHex_i (encHex tl) (by rw [encHex_len]; omega) W
  obtain ⟨x1, x2⟩ := law_hex tl
  rw [x1, x2] at k8
  have l1 := law_varint n tl
  have l2 := law_fixed n hn.2 tl
  have l3 := law_parse n
  have l4 := decV_back D
  generalize encHex tl = H at *
  generalize fmtInt n = F at *
  generalize encVarint n = E at *
  generalize encFix n 7 = X at *
  have hEl : E.length ≤ 7 := by
    rcases l1 with ⟨rfl, _⟩ | ⟨_, _, _, h, _⟩
    · simp
    · exact h
  have hXl : X.length ≤ 7 := by
    rcases l2 with ⟨rfl, _⟩ | ⟨_, _, _, h, _⟩
    · simp
    · omega
  have k2a := k2 (E ++ tl) (by rw [List.length_append]; omega)
  have k2b := k2 D hD
  have k4a := k4 (X ++ tl) (by rw [List.length_append]; omega)
  have hs1 : E.length + tl.length ≤ 1000 := by omega
  have hs2 : X.length + tl.length ≤ 1000 := by omega
  clear k2 k4 h0 x1 x2 hEl hXl
  have hcase : (n ≤ -1000000000) ∨ (-1000000000 < n ∧ n < 0) ∨ (0 ≤ n ∧ n < 1000000000) ∨ (1000000000 ≤ n ∧ n ≤ 562949953421311) ∨ (562949953421311 < n ∧ n < 72057594037927936) ∨ (72057594037927936 ≤ n) := by omega
  rcases hcase with b | b | b | b | b | b
  · obtain rfl : E = [] := by
      rcases l1 with ⟨h, _⟩ | ⟨_, h, h', _⟩
      · exact h
      · omega
    generalize decV ([] ++ tl) = dv at *
    obtain rfl : X = [] := by
      rcases l2 with ⟨h, _⟩ | ⟨_, h, h', _⟩
      · exact h
      · omega
    generalize decFixOk ([] ++ tl) 7 = fo at *
    generalize decFix ([] ++ tl) 7 = fv at *
    have hp1 : parseOk F = false := by
      rcases l3 with ⟨_, _, h⟩ | ⟨h, _⟩
      · omega
      · exact h
    rw [hp1] at k6
    generalize parseV F = pv at *
    clear hp1
    have g0 : decide (0 ≤ n) = false := by rw [decide_eq_false_iff_not]; omega
    have g1 : decide (n < 0) = true := by rw [decide_eq_true_eq]; omega
    have g2 : decide (n ≤ 562949953421311) = true := by rw [decide_eq_true_eq]; omega
    have g3 : decide (72057594037927936 ≤ n) = false := by rw [decide_eq_false_iff_not]; omega
    have g4 : decide (-1000000000 < n) = false := by rw [decide_eq_false_iff_not]; omega
    have g5 : decide (n < 1000000000) = true := by rw [decide_eq_true_eq]; omega
    clear l1 l2 l3 b hn
    rcases l4 with l4 | ⟨z, j, l4, hj1, hj2, hz⟩
    · rw [l4] at k2b
      clear l4
      have Hc1 := Lib.hid c1; clear c1; have Hc2 := Lib.hid c2; clear c2; have Hc3 := Lib.hid c3; clear c3; have Hk1 := Lib.hid k1; clear k1; have Hk2a := Lib.hid k2a; clear k2a; have Hk2b := Lib.hid k2b; clear k2b; have Hk3 := Lib.hid k3; clear k3; have Hk4a := Lib.hid k4a; clear k4a; have Hk5 := Lib.hid k5; clear k5; have Hk6 := Lib.hid k6; clear k6; have Hk7 := Lib.hid k7; clear k7; have Hk8 := Lib.hid k8; clear k8; have Hht := Lib.hid ht; clear ht; have HhD := Lib.hid hD; clear hD
      go_enter Try.func15, Try.ntmps15
      go_wp2_with (first
        | (go_at_call 38; ((with_reducible refine (big_l v bs _ hv).mono ?_); rintro e w' ⟨rfl, rfl⟩))
        | (go_at_call 39; ((with_reducible refine (Hc1.out _ (Below.refl _ _)).mono ?_); rintro e w1 ⟨rfl, hB⟩))
        | (go_at_call 40; ((with_reducible refine (Hc2.out _ hB).mono ?_); rintro e w2 ⟨rfl, hb⟩; (replace hB := below_tr hB hb; clear hb)))
        | (go_at_call 27; ((with_reducible refine (Hk1.out _).mono ?_); rintro e w3 ⟨rfl, hb⟩; (replace hB := below_tr hB hb; clear hb)))
        | (rw [bytes_app]; (go_at_call 31; ((with_reducible refine (Hk2a.out _).mono ?_); rintro e w4 ⟨rfl, rfl⟩)))
        | (go_at_call 29; ((with_reducible refine (Hk3.out _).mono ?_); rintro e w5 ⟨rfl, hb⟩; (replace hB := below_tr hB hb; clear hb)))
        | (rw [bytes_app]; (go_at_call 23; ((with_reducible refine (Hk4a.out _).mono ?_); rintro e w6 ⟨rfl, rfl⟩)))
        | (go_at_call 33; ((with_reducible refine (Hk5.out _).mono ?_); rintro e w7 ⟨rfl, hb⟩; (replace hB := below_tr hB hb; clear hb)))
        | (go_at_call 37; ((with_reducible refine (Hk6.out _).mono ?_); rintro e w8 ⟨rfl, hb⟩; (replace hB := below_tr hB hb; clear hb)))
        | (go_at_call 21; ((with_reducible refine (Hk7.out _).mono ?_); rintro e w9 ⟨rfl, hb⟩; (replace hB := below_tr hB hb; clear hb)))
        | (go_at_call 35; ((with_reducible refine (Hk8.out _).mono ?_); rintro e w10 ⟨rfl, hb⟩; (replace hB := below_tr hB hb; clear hb)))
        | (go_at_call 41; ((with_reducible refine (Hc3.out _ hB).mono ?_); rintro e w11 ⟨rfl, hb⟩; (replace hB := below_tr hB hb; clear hb)))
        | (go_at_call 31; ((with_reducible refine (Hk2b.out _).mono ?_); rintro e w12 ⟨rfl, rfl⟩)))
      go_ret
      exact ⟨rfl, hB⟩
    · rw [l4] at k2b
      clear l4
      have kz := fun W => EncodeVarint_i (z : Int) W
      rw [hz] at kz
      clear hz
      have e0 : ((j : Int) == 0) = false := by rw [beq_eq_false_iff_ne]; omega
      have e1 : (j == 0) = false := by rw [beq_eq_false_iff_ne]; omega
      have e2 : decide (0 < (j : Int)) = true := by rw [decide_eq_true_eq]; omega
      have e3 : decide ((j : Int) ≤ (D.length : Int)) = true := by rw [decide_eq_true_eq]; omega
      have e4 : decide (0 < j) = true := by rw [decide_eq_true_eq]; omega
      have e5 : decide (j ≤ D.length) = true := by rw [decide_eq_true_eq]; omega
      have Hc1 := Lib.hid c1; clear c1; have Hc2 := Lib.hid c2; clear c2; have Hc3 := Lib.hid c3; clear c3; have Hk1 := Lib.hid k1; clear k1; have Hk2a := Lib.hid k2a; clear k2a; have Hk2b := Lib.hid k2b; clear k2b; have Hk3 := Lib.hid k3; clear k3; have Hk4a := Lib.hid k4a; clear k4a; have Hk5 := Lib.hid k5; clear k5; have Hk6 := Lib.hid k6; clear k6; have Hk7 := Lib.hid k7; clear k7; have Hk8 := Lib.hid k8; clear k8; have Hht := Lib.hid ht; clear ht; have HhD := Lib.hid hD; clear hD; have Hkz := Lib.hid kz; clear kz; have Hhj1 := Lib.hid hj1; clear hj1
      go_enter Try.func15, Try.ntmps15
      go_wp2_with (first
        | (go_at_call 38; ((with_reducible refine (big_l v bs _ hv).mono ?_); rintro e w' ⟨rfl, rfl⟩))
        | (go_at_call 39; ((with_reducible refine (Hc1.out _ (Below.refl _ _)).mono ?_); rintro e w1 ⟨rfl, hB⟩))
        | (go_at_call 40; ((with_reducible refine (Hc2.out _ hB).mono ?_); rintro e w2 ⟨rfl, hb⟩; (replace hB := below_tr hB hb; clear hb)))
        | (go_at_call 27; ((with_reducible refine (Hk1.out _).mono ?_); rintro e w3 ⟨rfl, hb⟩; (replace hB := below_tr hB hb; clear hb)))
        | (rw [bytes_app]; (go_at_call 31; ((with_reducible refine (Hk2a.out _).mono ?_); rintro e w4 ⟨rfl, rfl⟩)))
        | (go_at_call 29; ((with_reducible refine (Hk3.out _).mono ?_); rintro e w5 ⟨rfl, hb⟩; (replace hB := below_tr hB hb; clear hb)))
        | (rw [bytes_app]; (go_at_call 23; ((with_reducible refine (Hk4a.out _).mono ?_); rintro e w6 ⟨rfl, rfl⟩)))
        | (go_at_call 33; ((with_reducible refine (Hk5.out _).mono ?_); rintro e w7 ⟨rfl, hb⟩; (replace hB := below_tr hB hb; clear hb)))
        | (go_at_call 37; ((with_reducible refine (Hk6.out _).mono ?_); rintro e w8 ⟨rfl, hb⟩; (replace hB := below_tr hB hb; clear hb)))
        | (go_at_call 21; ((with_reducible refine (Hk7.out _).mono ?_); rintro e w9 ⟨rfl, hb⟩; (replace hB := below_tr hB hb; clear hb)))
        | (go_at_call 35; ((with_reducible refine (Hk8.out _).mono ?_); rintro e w10 ⟨rfl, hb⟩; (replace hB := below_tr hB hb; clear hb)))
        | (go_at_call 41; ((with_reducible refine (Hc3.out _ hB).mono ?_); rintro e w11 ⟨rfl, hb⟩; (replace hB := below_tr hB hb; clear hb)))
        | (go_at_call 31; ((with_reducible refine (Hk2b.out _).mono ?_); rintro e w12 ⟨rfl, rfl⟩))
          | (go_at_call 27; ((with_reducible refine (Hkz.out _).mono ?_); rintro e w13 ⟨rfl, hb⟩; (replace hB := below_tr hB hb; clear hb))))
      go_ret
      exact ⟨rfl, hB⟩
  · obtain rfl : E = [] := by
      rcases l1 with ⟨h, _⟩ | ⟨_, h, h', _⟩
      · exact h
      · omega
    generalize decV ([] ++ tl) = dv at *
    obtain rfl : X = [] := by
      rcases l2 with ⟨h, _⟩ | ⟨_, h, h', _⟩
      · exact h
      · omega
    generalize decFixOk ([] ++ tl) 7 = fo at *
    generalize decFix ([] ++ tl) 7 = fv at *
    obtain ⟨hp1, hp2⟩ : parseOk F = true ∧ parseV F = n := by
      rcases l3 with ⟨h, h', _⟩ | ⟨_, h⟩
      · exact ⟨h, h'⟩
      · omega
    rw [hp1, hp2] at k6
    clear hp1 hp2
    have g0 : decide (0 ≤ n) = false := by rw [decide_eq_false_iff_not]; omega
    have g1 : decide (n < 0) = true := by rw [decide_eq_true_eq]; omega
    have g2 : decide (n ≤ 562949953421311) = true := by rw [decide_eq_true_eq]; omega
    have g3 : decide (72057594037927936 ≤ n) = false := by rw [decide_eq_false_iff_not]; omega
    have g4 : decide (-1000000000 < n) = true := by rw [decide_eq_true_eq]; omega
    have g5 : decide (n < 1000000000) = true := by rw [decide_eq_true_eq]; omega
    clear l1 l2 l3 b hn
    rcases l4 with l4 | ⟨z, j, l4, hj1, hj2, hz⟩
    · rw [l4] at k2b
      clear l4
      have Hc1 := Lib.hid c1; clear c1; have Hc2 := Lib.hid c2; clear c2; have Hc3 := Lib.hid c3; clear c3; have Hk1 := Lib.hid k1; clear k1; have Hk2a := Lib.hid k2a; clear k2a; have Hk2b := Lib.hid k2b; clear k2b; have Hk3 := Lib.hid k3; clear k3; have Hk4a := Lib.hid k4a; clear k4a; have Hk5 := Lib.hid k5; clear k5; have Hk6 := Lib.hid k6; clear k6; have Hk7 := Lib.hid k7; clear k7; have Hk8 := Lib.hid k8; clear k8; have Hht := Lib.hid ht; clear ht; have HhD := Lib.hid hD; clear hD
      go_enter Try.func15, Try.ntmps15
      go_wp2_with (first
        | (go_at_call 38; ((with_reducible refine (big_l v bs _ hv).mono ?_); rintro e w' ⟨rfl, rfl⟩))
        | (go_at_call 39; ((with_reducible refine (Hc1.out _ (Below.refl _ _)).mono ?_); rintro e w1 ⟨rfl, hB⟩))
        | (go_at_call 40; ((with_reducible refine (Hc2.out _ hB).mono ?_); rintro e w2 ⟨rfl, hb⟩; (replace hB := below_tr hB hb; clear hb)))
        | (go_at_call 27; ((with_reducible refine (Hk1.out _).mono ?_); rintro e w3 ⟨rfl, hb⟩; (replace hB := below_tr hB hb; clear hb)))
        | (rw [bytes_app]; (go_at_call 31; ((with_reducible refine (Hk2a.out _).mono ?_); rintro e w4 ⟨rfl, rfl⟩)))
        | (go_at_call 29; ((with_reducible refine (Hk3.out _).mono ?_); rintro e w5 ⟨rfl, hb⟩; (replace hB := below_tr hB hb; clear hb)))
        | (rw [bytes_app]; (go_at_call 23; ((with_reducible refine (Hk4a.out _).mono ?_); rintro e w6 ⟨rfl, rfl⟩)))
        | (go_at_call 33; ((with_reducible refine (Hk5.out _).mono ?_); rintro e w7 ⟨rfl, hb⟩; (replace hB := below_tr hB hb; clear hb)))
        | (go_at_call 37; ((with_reducible refine (Hk6.out _).mono ?_); rintro e w8 ⟨rfl, hb⟩; (replace hB := below_tr hB hb; clear hb)))
        | (go_at_call 21; ((with_reducible refine (Hk7.out _).mono ?_); rintro e w9 ⟨rfl, hb⟩; (replace hB := below_tr hB hb; clear hb)))
        | (go_at_call 35; ((with_reducible refine (Hk8.out _).mono ?_); rintro e w10 ⟨rfl, hb⟩; (replace hB := below_tr hB hb; clear hb)))
        | (go_at_call 41; ((with_reducible refine (Hc3.out _ hB).mono ?_); rintro e w11 ⟨rfl, hb⟩; (replace hB := below_tr hB hb; clear hb)))
        | (go_at_call 31; ((with_reducible refine (Hk2b.out _).mono ?_); rintro e w12 ⟨rfl, rfl⟩)))
      go_ret
      exact ⟨rfl, hB⟩
    · rw [l4] at k2b
      clear l4
      have kz := fun W => EncodeVarint_i (z : Int) W
      rw [hz] at kz
      clear hz
      have e0 : ((j : Int) == 0) = false := by rw [beq_eq_false_iff_ne]; omega
      have e1 : (j == 0) = false := by rw [beq_eq_false_iff_ne]; omega
      have e2 : decide (0 < (j : Int)) = true := by rw [decide_eq_true_eq]; omega
      have e3 : decide ((j : Int) ≤ (D.length : Int)) = true := by rw [decide_eq_true_eq]; omega
      have e4 : decide (0 < j) = true := by rw [decide_eq_true_eq]; omega
      have e5 : decide (j ≤ D.length) = true := by rw [decide_eq_true_eq]; omega
      have Hc1 := Lib.hid c1; clear c1; have Hc2 := Lib.hid c2; clear c2; have Hc3 := Lib.hid c3; clear c3; have Hk1 := Lib.hid k1; clear k1; have Hk2a := Lib.hid k2a; clear k2a; have Hk2b := Lib.hid k2b; clear k2b; have Hk3 := Lib.hid k3; clear k3; have Hk4a := Lib.hid k4a; clear k4a; have Hk5 := Lib.hid k5; clear k5; have Hk6 := Lib.hid k6; clear k6; have Hk7 := Lib.hid k7; clear k7; have Hk8 := Lib.hid k8; clear k8; have Hht := Lib.hid ht; clear ht; have HhD := Lib.hid hD; clear hD; have Hkz := Lib.hid kz; clear kz; have Hhj1 := Lib.hid hj1; clear hj1
      go_enter Try.func15, Try.ntmps15
      go_wp2_with (first
        | (go_at_call 38; ((with_reducible refine (big_l v bs _ hv).mono ?_); rintro e w' ⟨rfl, rfl⟩))
        | (go_at_call 39; ((with_reducible refine (Hc1.out _ (Below.refl _ _)).mono ?_); rintro e w1 ⟨rfl, hB⟩))
        | (go_at_call 40; ((with_reducible refine (Hc2.out _ hB).mono ?_); rintro e w2 ⟨rfl, hb⟩; (replace hB := below_tr hB hb; clear hb)))
        | (go_at_call 27; ((with_reducible refine (Hk1.out _).mono ?_); rintro e w3 ⟨rfl, hb⟩; (replace hB := below_tr hB hb; clear hb)))
        | (rw [bytes_app]; (go_at_call 31; ((with_reducible refine (Hk2a.out _).mono ?_); rintro e w4 ⟨rfl, rfl⟩)))
        | (go_at_call 29; ((with_reducible refine (Hk3.out _).mono ?_); rintro e w5 ⟨rfl, hb⟩; (replace hB := below_tr hB hb; clear hb)))
        | (rw [bytes_app]; (go_at_call 23; ((with_reducible refine (Hk4a.out _).mono ?_); rintro e w6 ⟨rfl, rfl⟩)))
        | (go_at_call 33; ((with_reducible refine (Hk5.out _).mono ?_); rintro e w7 ⟨rfl, hb⟩; (replace hB := below_tr hB hb; clear hb)))
        | (go_at_call 37; ((with_reducible refine (Hk6.out _).mono ?_); rintro e w8 ⟨rfl, hb⟩; (replace hB := below_tr hB hb; clear hb)))
        | (go_at_call 21; ((with_reducible refine (Hk7.out _).mono ?_); rintro e w9 ⟨rfl, hb⟩; (replace hB := below_tr hB hb; clear hb)))
        | (go_at_call 35; ((with_reducible refine (Hk8.out _).mono ?_); rintro e w10 ⟨rfl, hb⟩; (replace hB := below_tr hB hb; clear hb)))
        | (go_at_call 41; ((with_reducible refine (Hc3.out _ hB).mono ?_); rintro e w11 ⟨rfl, hb⟩; (replace hB := below_tr hB hb; clear hb)))
        | (go_at_call 31; ((with_reducible refine (Hk2b.out _).mono ?_); rintro e w12 ⟨rfl, rfl⟩))
          | (go_at_call 27; ((with_reducible refine (Hkz.out _).mono ?_); rintro e w13 ⟨rfl, hb⟩; (replace hB := below_tr hB hb; clear hb))))
      go_ret
      exact ⟨rfl, hB⟩
  · obtain ⟨hE, hE7, hdec⟩ : E ≠ [] ∧ E.length ≤ 7 ∧ decV (E ++ tl) = (n.toNat, E.length) := by
      rcases l1 with ⟨_, h⟩ | ⟨h, _, _, h', h''⟩
      · omega
      · exact ⟨h, h', h''⟩
    have hnn : ((n.toNat : Nat) : Int) = n := by omega
    simp only [hdec, hnn] at k2a
    have hE2 : (E == []) = false := by rw [beq_eq_false_iff_ne]; exact hE
    clear hdec hnn
    obtain ⟨hX, hX7, hx1, hx2⟩ : X ≠ [] ∧ X.length = 7 ∧ decFixOk (X ++ tl) 7 = true ∧ decFix (X ++ tl) 7 = n := by
      rcases l2 with ⟨_, h⟩ | ⟨h, _, _, h'⟩
      · omega
      · exact ⟨h, h'⟩
    rw [hx1, hx2] at k4a
    have hX2 : (X == []) = false := by rw [beq_eq_false_iff_ne]; exact hX
    clear hx1 hx2
    obtain ⟨hp1, hp2⟩ : parseOk F = true ∧ parseV F = n := by
      rcases l3 with ⟨h, h', _⟩ | ⟨_, h⟩
      · exact ⟨h, h'⟩
      · omega
    rw [hp1, hp2] at k6
    clear hp1 hp2
    have g0 : decide (0 ≤ n) = true := by rw [decide_eq_true_eq]; omega
    have g1 : decide (n < 0) = false := by rw [decide_eq_false_iff_not]; omega
    have g2 : decide (n ≤ 562949953421311) = true := by rw [decide_eq_true_eq]; omega
    have g3 : decide (72057594037927936 ≤ n) = false := by rw [decide_eq_false_iff_not]; omega
    have g4 : decide (-1000000000 < n) = true := by rw [decide_eq_true_eq]; omega
    have g5 : decide (n < 1000000000) = true := by rw [decide_eq_true_eq]; omega
    clear l1 l2 l3 b hn
    rcases l4 with l4 | ⟨z, j, l4, hj1, hj2, hz⟩
    · rw [l4] at k2b
      clear l4
      have Hc1 := Lib.hid c1; clear c1; have Hc2 := Lib.hid c2; clear c2; have Hc3 := Lib.hid c3; clear c3; have Hk1 := Lib.hid k1; clear k1; have Hk2a := Lib.hid k2a; clear k2a; have Hk2b := Lib.hid k2b; clear k2b; have Hk3 := Lib.hid k3; clear k3; have Hk4a := Lib.hid k4a; clear k4a; have Hk5 := Lib.hid k5; clear k5; have Hk6 := Lib.hid k6; clear k6; have Hk7 := Lib.hid k7; clear k7; have Hk8 := Lib.hid k8; clear k8; have Hht := Lib.hid ht; clear ht; have HhD := Lib.hid hD; clear hD
      go_enter Try.func15, Try.ntmps15
      go_wp2_with (first
        | (go_at_call 38; ((with_reducible refine (big_l v bs _ hv).mono ?_); rintro e w' ⟨rfl, rfl⟩))
        | (go_at_call 39; ((with_reducible refine (Hc1.out _ (Below.refl _ _)).mono ?_); rintro e w1 ⟨rfl, hB⟩))
        | (go_at_call 40; ((with_reducible refine (Hc2.out _ hB).mono ?_); rintro e w2 ⟨rfl, hb⟩; (replace hB := below_tr hB hb; clear hb)))
        | (go_at_call 27; ((with_reducible refine (Hk1.out _).mono ?_); rintro e w3 ⟨rfl, hb⟩; (replace hB := below_tr hB hb; clear hb)))
        | (rw [bytes_app]; (go_at_call 31; ((with_reducible refine (Hk2a.out _).mono ?_); rintro e w4 ⟨rfl, rfl⟩)))
        | (go_at_call 29; ((with_reducible refine (Hk3.out _).mono ?_); rintro e w5 ⟨rfl, hb⟩; (replace hB := below_tr hB hb; clear hb)))
        | (rw [bytes_app]; (go_at_call 23; ((with_reducible refine (Hk4a.out _).mono ?_); rintro e w6 ⟨rfl, rfl⟩)))
        | (go_at_call 33; ((with_reducible refine (Hk5.out _).mono ?_); rintro e w7 ⟨rfl, hb⟩; (replace hB := below_tr hB hb; clear hb)))
        | (go_at_call 37; ((with_reducible refine (Hk6.out _).mono ?_); rintro e w8 ⟨rfl, hb⟩; (replace hB := below_tr hB hb; clear hb)))
        | (go_at_call 21; ((with_reducible refine (Hk7.out _).mono ?_); rintro e w9 ⟨rfl, hb⟩; (replace hB := below_tr hB hb; clear hb)))
        | (go_at_call 35; ((with_reducible refine (Hk8.out _).mono ?_); rintro e w10 ⟨rfl, hb⟩; (replace hB := below_tr hB hb; clear hb)))
        | (go_at_call 41; ((with_reducible refine (Hc3.out _ hB).mono ?_); rintro e w11 ⟨rfl, hb⟩; (replace hB := below_tr hB hb; clear hb)))
        | (go_at_call 31; ((with_reducible refine (Hk2b.out _).mono ?_); rintro e w12 ⟨rfl, rfl⟩)))
      go_ret
      exact ⟨rfl, hB⟩
    · rw [l4] at k2b
      clear l4
      have kz := fun W => EncodeVarint_i (z : Int) W
      rw [hz] at kz
      clear hz
      have e0 : ((j : Int) == 0) = false := by rw [beq_eq_false_iff_ne]; omega
      have e1 : (j == 0) = false := by rw [beq_eq_false_iff_ne]; omega
      have e2 : decide (0 < (j : Int)) = true := by rw [decide_eq_true_eq]; omega
      have e3 : decide ((j : Int) ≤ (D.length : Int)) = true := by rw [decide_eq_true_eq]; omega
      have e4 : decide (0 < j) = true := by rw [decide_eq_true_eq]; omega
      have e5 : decide (j ≤ D.length) = true := by rw [decide_eq_true_eq]; omega
      have Hc1 := Lib.hid c1; clear c1; have Hc2 := Lib.hid c2; clear c2; have Hc3 := Lib.hid c3; clear c3; have Hk1 := Lib.hid k1; clear k1; have Hk2a := Lib.hid k2a; clear k2a; have Hk2b := Lib.hid k2b; clear k2b; have Hk3 := Lib.hid k3; clear k3; have Hk4a := Lib.hid k4a; clear k4a; have Hk5 := Lib.hid k5; clear k5; have Hk6 := Lib.hid k6; clear k6; have Hk7 := Lib.hid k7; clear k7; have Hk8 := Lib.hid k8; clear k8; have Hht := Lib.hid ht; clear ht; have HhD := Lib.hid hD; clear hD; have Hkz := Lib.hid kz; clear kz; have Hhj1 := Lib.hid hj1; clear hj1
      go_enter Try.func15, Try.ntmps15
      go_wp2_with (first
        | (go_at_call 38; ((with_reducible refine (big_l v bs _ hv).mono ?_); rintro e w' ⟨rfl, rfl⟩))
        | (go_at_call 39; ((with_reducible refine (Hc1.out _ (Below.refl _ _)).mono ?_); rintro e w1 ⟨rfl, hB⟩))
        | (go_at_call 40; ((with_reducible refine (Hc2.out _ hB).mono ?_); rintro e w2 ⟨rfl, hb⟩; (replace hB := below_tr hB hb; clear hb)))
        | (go_at_call 27; ((with_reducible refine (Hk1.out _).mono ?_); rintro e w3 ⟨rfl, hb⟩; (replace hB := below_tr hB hb; clear hb)))
        | (rw [bytes_app]; (go_at_call 31; ((with_reducible refine (Hk2a.out _).mono ?_); rintro e w4 ⟨rfl, rfl⟩)))
        | (go_at_call 29; ((with_reducible refine (Hk3.out _).mono ?_); rintro e w5 ⟨rfl, hb⟩; (replace hB := below_tr hB hb; clear hb)))
        | (rw [bytes_app]; (go_at_call 23; ((with_reducible refine (Hk4a.out _).mono ?_); rintro e w6 ⟨rfl, rfl⟩)))
        | (go_at_call 33; ((with_reducible refine (Hk5.out _).mono ?_); rintro e w7 ⟨rfl, hb⟩; (replace hB := below_tr hB hb; clear hb)))
        | (go_at_call 37; ((with_reducible refine (Hk6.out _).mono ?_); rintro e w8 ⟨rfl, hb⟩; (replace hB := below_tr hB hb; clear hb)))
        | (go_at_call 21; ((with_reducible refine (Hk7.out _).mono ?_); rintro e w9 ⟨rfl, hb⟩; (replace hB := below_tr hB hb; clear hb)))
        | (go_at_call 35; ((with_reducible refine (Hk8.out _).mono ?_); rintro e w10 ⟨rfl, hb⟩; (replace hB := below_tr hB hb; clear hb)))
        | (go_at_call 41; ((with_reducible refine (Hc3.out _ hB).mono ?_); rintro e w11 ⟨rfl, hb⟩; (replace hB := below_tr hB hb; clear hb)))
        | (go_at_call 31; ((with_reducible refine (Hk2b.out _).mono ?_); rintro e w12 ⟨rfl, rfl⟩))
          | (go_at_call 27; ((with_reducible refine (Hkz.out _).mono ?_); rintro e w13 ⟨rfl, hb⟩; (replace hB := below_tr hB hb; clear hb))))
      go_ret
      exact ⟨rfl, hB⟩
  · obtain ⟨hE, hE7, hdec⟩ : E ≠ [] ∧ E.length ≤ 7 ∧ decV (E ++ tl) = (n.toNat, E.length) := by
      rcases l1 with ⟨_, h⟩ | ⟨h, _, _, h', h''⟩
      · omega
      · exact ⟨h, h', h''⟩
    have hnn : ((n.toNat : Nat) : Int) = n := by omega
    simp only [hdec, hnn] at k2a
    have hE2 : (E == []) = false := by rw [beq_eq_false_iff_ne]; exact hE
    clear hdec hnn
    obtain ⟨hX, hX7, hx1, hx2⟩ : X ≠ [] ∧ X.length = 7 ∧ decFixOk (X ++ tl) 7 = true ∧ decFix (X ++ tl) 7 = n := by
      rcases l2 with ⟨_, h⟩ | ⟨h, _, _, h'⟩
      · omega
      · exact ⟨h, h'⟩
    rw [hx1, hx2] at k4a
    have hX2 : (X == []) = false := by rw [beq_eq_false_iff_ne]; exact hX
    clear hx1 hx2
    have hp1 : parseOk F = false := by
      rcases l3 with ⟨_, _, h⟩ | ⟨h, _⟩
      · omega
      · exact h
    rw [hp1] at k6
    generalize parseV F = pv at *
    clear hp1
    have g0 : decide (0 ≤ n) = true := by rw [decide_eq_true_eq]; omega
    have g1 : decide (n < 0) = false := by rw [decide_eq_false_iff_not]; omega
    have g2 : decide (n ≤ 562949953421311) = true := by rw [decide_eq_true_eq]; omega
    have g3 : decide (72057594037927936 ≤ n) = false := by rw [decide_eq_false_iff_not]; omega
    have g4 : decide (-1000000000 < n) = true := by rw [decide_eq_true_eq]; omega
    have g5 : decide (n < 1000000000) = false := by rw [decide_eq_false_iff_not]; omega
    clear l1 l2 l3 b hn
    rcases l4 with l4 | ⟨z, j, l4, hj1, hj2, hz⟩
    · rw [l4] at k2b
      clear l4
      have Hc1 := Lib.hid c1; clear c1; have Hc2 := Lib.hid c2; clear c2; have Hc3 := Lib.hid c3; clear c3; have Hk1 := Lib.hid k1; clear k1; have Hk2a := Lib.hid k2a; clear k2a; have Hk2b := Lib.hid k2b; clear k2b; have Hk3 := Lib.hid k3; clear k3; have Hk4a := Lib.hid k4a; clear k4a; have Hk5 := Lib.hid k5; clear k5; have Hk6 := Lib.hid k6; clear k6; have Hk7 := Lib.hid k7; clear k7; have Hk8 := Lib.hid k8; clear k8; have Hht := Lib.hid ht; clear ht; have HhD := Lib.hid hD; clear hD
      go_enter Try.func15, Try.ntmps15
      go_wp2_with (first
        | (go_at_call 38; ((with_reducible refine (big_l v bs _ hv).mono ?_); rintro e w' ⟨rfl, rfl⟩))
        | (go_at_call 39; ((with_reducible refine (Hc1.out _ (Below.refl _ _)).mono ?_); rintro e w1 ⟨rfl, hB⟩))
        | (go_at_call 40; ((with_reducible refine (Hc2.out _ hB).mono ?_); rintro e w2 ⟨rfl, hb⟩; (replace hB := below_tr hB hb; clear hb)))
        | (go_at_call 27; ((with_reducible refine (Hk1.out _).mono ?_); rintro e w3 ⟨rfl, hb⟩; (replace hB := below_tr hB hb; clear hb)))
        | (rw [bytes_app]; (go_at_call 31; ((with_reducible refine (Hk2a.out _).mono ?_); rintro e w4 ⟨rfl, rfl⟩)))
        | (go_at_call 29; ((with_reducible refine (Hk3.out _).mono ?_); rintro e w5 ⟨rfl, hb⟩; (replace hB := below_tr hB hb; clear hb)))
        | (rw [bytes_app]; (go_at_call 23; ((with_reducible refine (Hk4a.out _).mono ?_); rintro e w6 ⟨rfl, rfl⟩)))
        | (go_at_call 33; ((with_reducible refine (Hk5.out _).mono ?_); rintro e w7 ⟨rfl, hb⟩; (replace hB := below_tr hB hb; clear hb)))
        | (go_at_call 37; ((with_reducible refine (Hk6.out _).mono ?_); rintro e w8 ⟨rfl, hb⟩; (replace hB := below_tr hB hb; clear hb)))
        | (go_at_call 21; ((with_reducible refine (Hk7.out _).mono ?_); rintro e w9 ⟨rfl, hb⟩; (replace hB := below_tr hB hb; clear hb)))
        | (go_at_call 35; ((with_reducible refine (Hk8.out _).mono ?_); rintro e w10 ⟨rfl, hb⟩; (replace hB := below_tr hB hb; clear hb)))
        | (go_at_call 41; ((with_reducible refine (Hc3.out _ hB).mono ?_); rintro e w11 ⟨rfl, hb⟩; (replace hB := below_tr hB hb; clear hb)))
        | (go_at_call 31; ((with_reducible refine (Hk2b.out _).mono ?_); rintro e w12 ⟨rfl, rfl⟩)))
      go_ret
      exact ⟨rfl, hB⟩
    · rw [l4] at k2b
      clear l4
      have kz := fun W => EncodeVarint_i (z : Int) W
      rw [hz] at kz
      clear hz
      have e0 : ((j : Int) == 0) = false := by rw [beq_eq_false_iff_ne]; omega
      have e1 : (j == 0) = false := by rw [beq_eq_false_iff_ne]; omega
      have e2 : decide (0 < (j : Int)) = true := by rw [decide_eq_true_eq]; omega
      have e3 : decide ((j : Int) ≤ (D.length : Int)) = true := by rw [decide_eq_true_eq]; omega
      have e4 : decide (0 < j) = true := by rw [decide_eq_true_eq]; omega
      have e5 : decide (j ≤ D.length) = true := by rw [decide_eq_true_eq]; omega
      have Hc1 := Lib.hid c1; clear c1; have Hc2 := Lib.hid c2; clear c2; have Hc3 := Lib.hid c3; clear c3; have Hk1 := Lib.hid k1; clear k1; have Hk2a := Lib.hid k2a; clear k2a; have Hk2b := Lib.hid k2b; clear k2b; have Hk3 := Lib.hid k3; clear k3; have Hk4a := Lib.hid k4a; clear k4a; have Hk5 := Lib.hid k5; clear k5; have Hk6 := Lib.hid k6; clear k6; have Hk7 := Lib.hid k7; clear k7; have Hk8 := Lib.hid k8; clear k8; have Hht := Lib.hid ht; clear ht; have HhD := Lib.hid hD; clear hD; have Hkz := Lib.hid kz; clear kz; have Hhj1 := Lib.hid hj1; clear hj1
      go_enter Try.func15, Try.ntmps15
      go_wp2_with (first
        | (go_at_call 38; ((with_reducible refine (big_l v bs _ hv).mono ?_); rintro e w' ⟨rfl, rfl⟩))
        | (go_at_call 39; ((with_reducible refine (Hc1.out _ (Below.refl _ _)).mono ?_); rintro e w1 ⟨rfl, hB⟩))
        | (go_at_call 40; ((with_reducible refine (Hc2.out _ hB).mono ?_); rintro e w2 ⟨rfl, hb⟩; (replace hB := below_tr hB hb; clear hb)))
        | (go_at_call 27; ((with_reducible refine (Hk1.out _).mono ?_); rintro e w3 ⟨rfl, hb⟩; (replace hB := below_tr hB hb; clear hb)))
        | (rw [bytes_app]; (go_at_call 31; ((with_reducible refine (Hk2a.out _).mono ?_); rintro e w4 ⟨rfl, rfl⟩)))
        | (go_at_call 29; ((with_reducible refine (Hk3.out _).mono ?_); rintro e w5 ⟨rfl, hb⟩; (replace hB := below_tr hB hb; clear hb)))
        | (rw [bytes_app]; (go_at_call 23; ((with_reducible refine (Hk4a.out _).mono ?_); rintro e w6 ⟨rfl, rfl⟩)))
        | (go_at_call 33; ((with_reducible refine (Hk5.out _).mono ?_); rintro e w7 ⟨rfl, hb⟩; (replace hB := below_tr hB hb; clear hb)))
        | (go_at_call 37; ((with_reducible refine (Hk6.out _).mono ?_); rintro e w8 ⟨rfl, hb⟩; (replace hB := below_tr hB hb; clear hb)))
        | (go_at_call 21; ((with_reducible refine (Hk7.out _).mono ?_); rintro e w9 ⟨rfl, hb⟩; (replace hB := below_tr hB hb; clear hb)))
        | (go_at_call 35; ((with_reducible refine (Hk8.out _).mono ?_); rintro e w10 ⟨rfl, hb⟩; (replace hB := below_tr hB hb; clear hb)))
        | (go_at_call 41; ((with_reducible refine (Hc3.out _ hB).mono ?_); rintro e w11 ⟨rfl, hb⟩; (replace hB := below_tr hB hb; clear hb)))
        | (go_at_call 31; ((with_reducible refine (Hk2b.out _).mono ?_); rintro e w12 ⟨rfl, rfl⟩))
          | (go_at_call 27; ((with_reducible refine (Hkz.out _).mono ?_); rintro e w13 ⟨rfl, hb⟩; (replace hB := below_tr hB hb; clear hb))))
      go_ret
      exact ⟨rfl, hB⟩
  · obtain rfl : E = [] := by
      rcases l1 with ⟨h, _⟩ | ⟨_, h, h', _⟩
      · exact h
      · omega
    generalize decV ([] ++ tl) = dv at *
    obtain ⟨hX, hX7, hx1, hx2⟩ : X ≠ [] ∧ X.length = 7 ∧ decFixOk (X ++ tl) 7 = true ∧ decFix (X ++ tl) 7 = n := by
      rcases l2 with ⟨_, h⟩ | ⟨h, _, _, h'⟩
      · omega
      · exact ⟨h, h'⟩
    rw [hx1, hx2] at k4a
    have hX2 : (X == []) = false := by rw [beq_eq_false_iff_ne]; exact hX
    clear hx1 hx2
    have hp1 : parseOk F = false := by
      rcases l3 with ⟨_, _, h⟩ | ⟨h, _⟩
      · omega
      · exact h
    rw [hp1] at k6
    generalize parseV F = pv at *
    clear hp1
    have g0 : decide (0 ≤ n) = true := by rw [decide_eq_true_eq]; omega
    have g1 : decide (n < 0) = false := by rw [decide_eq_false_iff_not]; omega
    have g2 : decide (n ≤ 562949953421311) = false := by rw [decide_eq_false_iff_not]; omega
    have g3 : decide (72057594037927936 ≤ n) = false := by rw [decide_eq_false_iff_not]; omega
    have g4 : decide (-1000000000 < n) = true := by rw [decide_eq_true_eq]; omega
    have g5 : decide (n < 1000000000) = false := by rw [decide_eq_false_iff_not]; omega
    clear l1 l2 l3 b hn
    rcases l4 with l4 | ⟨z, j, l4, hj1, hj2, hz⟩
    · rw [l4] at k2b
      clear l4
      have Hc1 := Lib.hid c1; clear c1; have Hc2 := Lib.hid c2; clear c2; have Hc3 := Lib.hid c3; clear c3; have Hk1 := Lib.hid k1; clear k1; have Hk2a := Lib.hid k2a; clear k2a; have Hk2b := Lib.hid k2b; clear k2b; have Hk3 := Lib.hid k3; clear k3; have Hk4a := Lib.hid k4a; clear k4a; have Hk5 := Lib.hid k5; clear k5; have Hk6 := Lib.hid k6; clear k6; have Hk7 := Lib.hid k7; clear k7; have Hk8 := Lib.hid k8; clear k8; have Hht := Lib.hid ht; clear ht; have HhD := Lib.hid hD; clear hD
      go_enter Try.func15, Try.ntmps15
      go_wp2_with (first
        | (go_at_call 38; ((with_reducible refine (big_l v bs _ hv).mono ?_); rintro e w' ⟨rfl, rfl⟩))
        | (go_at_call 39; ((with_reducible refine (Hc1.out _ (Below.refl _ _)).mono ?_); rintro e w1 ⟨rfl, hB⟩))
        | (go_at_call 40; ((with_reducible refine (Hc2.out _ hB).mono ?_); rintro e w2 ⟨rfl, hb⟩; (replace hB := below_tr hB hb; clear hb)))
        | (go_at_call 27; ((with_reducible refine (Hk1.out _).mono ?_); rintro e w3 ⟨rfl, hb⟩; (replace hB := below_tr hB hb; clear hb)))
        | (rw [bytes_app]; (go_at_call 31; ((with_reducible refine (Hk2a.out _).mono ?_); rintro e w4 ⟨rfl, rfl⟩)))
        | (go_at_call 29; ((with_reducible refine (Hk3.out _).mono ?_); rintro e w5 ⟨rfl, hb⟩; (replace hB := below_tr hB hb; clear hb)))
        | (rw [bytes_app]; (go_at_call 23; ((with_reducible refine (Hk4a.out _).mono ?_); rintro e w6 ⟨rfl, rfl⟩)))
        | (go_at_call 33; ((with_reducible refine (Hk5.out _).mono ?_); rintro e w7 ⟨rfl, hb⟩; (replace hB := below_tr hB hb; clear hb)))
        | (go_at_call 37; ((with_reducible refine (Hk6.out _).mono ?_); rintro e w8 ⟨rfl, hb⟩; (replace hB := below_tr hB hb; clear hb)))
        | (go_at_call 21; ((with_reducible refine (Hk7.out _).mono ?_); rintro e w9 ⟨rfl, hb⟩; (replace hB := below_tr hB hb; clear hb)))
        | (go_at_call 35; ((with_reducible refine (Hk8.out _).mono ?_); rintro e w10 ⟨rfl, hb⟩; (replace hB := below_tr hB hb; clear hb)))
        | (go_at_call 41; ((with_reducible refine (Hc3.out _ hB).mono ?_); rintro e w11 ⟨rfl, hb⟩; (replace hB := below_tr hB hb; clear hb)))
        | (go_at_call 31; ((with_reducible refine (Hk2b.out _).mono ?_); rintro e w12 ⟨rfl, rfl⟩)))
      go_ret
      exact ⟨rfl, hB⟩
    · rw [l4] at k2b
      clear l4
      have kz := fun W => EncodeVarint_i (z : Int) W
      rw [hz] at kz
      clear hz
      have e0 : ((j : Int) == 0) = false := by rw [beq_eq_false_iff_ne]; omega
      have e1 : (j == 0) = false := by rw [beq_eq_false_iff_ne]; omega
      have e2 : decide (0 < (j : Int)) = true := by rw [decide_eq_true_eq]; omega
      have e3 : decide ((j : Int) ≤ (D.length : Int)) = true := by rw [decide_eq_true_eq]; omega
      have e4 : decide (0 < j) = true := by rw [decide_eq_true_eq]; omega
      have e5 : decide (j ≤ D.length) = true := by rw [decide_eq_true_eq]; omega
      have Hc1 := Lib.hid c1; clear c1; have Hc2 := Lib.hid c2; clear c2; have Hc3 := Lib.hid c3; clear c3; have Hk1 := Lib.hid k1; clear k1; have Hk2a := Lib.hid k2a; clear k2a; have Hk2b := Lib.hid k2b; clear k2b; have Hk3 := Lib.hid k3; clear k3; have Hk4a := Lib.hid k4a; clear k4a; have Hk5 := Lib.hid k5; clear k5; have Hk6 := Lib.hid k6; clear k6; have Hk7 := Lib.hid k7; clear k7; have Hk8 := Lib.hid k8; clear k8; have Hht := Lib.hid ht; clear ht; have HhD := Lib.hid hD; clear hD; have Hkz := Lib.hid kz; clear kz; have Hhj1 := Lib.hid hj1; clear hj1
      go_enter Try.func15, Try.ntmps15
      go_wp2_with (first
        | (go_at_call 38; ((with_reducible refine (big_l v bs _ hv).mono ?_); rintro e w' ⟨rfl, rfl⟩))
        | (go_at_call 39; ((with_reducible refine (Hc1.out _ (Below.refl _ _)).mono ?_); rintro e w1 ⟨rfl, hB⟩))
        | (go_at_call 40; ((with_reducible refine (Hc2.out _ hB).mono ?_); rintro e w2 ⟨rfl, hb⟩; (replace hB := below_tr hB hb; clear hb)))
        | (go_at_call 27; ((with_reducible refine (Hk1.out _).mono ?_); rintro e w3 ⟨rfl, hb⟩; (replace hB := below_tr hB hb; clear hb)))
        | (rw [bytes_app]; (go_at_call 31; ((with_reducible refine (Hk2a.out _).mono ?_); rintro e w4 ⟨rfl, rfl⟩)))
        | (go_at_call 29; ((with_reducible refine (Hk3.out _).mono ?_); rintro e w5 ⟨rfl, hb⟩; (replace hB := below_tr hB hb; clear hb)))
        | (rw [bytes_app]; (go_at_call 23; ((with_reducible refine (Hk4a.out _).mono ?_); rintro e w6 ⟨rfl, rfl⟩)))
        | (go_at_call 33; ((with_reducible refine (Hk5.out _).mono ?_); rintro e w7 ⟨rfl, hb⟩; (replace hB := below_tr hB hb; clear hb)))
        | (go_at_call 37; ((with_reducible refine (Hk6.out _).mono ?_); rintro e w8 ⟨rfl, hb⟩; (replace hB := below_tr hB hb; clear hb)))
        | (go_at_call 21; ((with_reducible refine (Hk7.out _).mono ?_); rintro e w9 ⟨rfl, hb⟩; (replace hB := below_tr hB hb; clear hb)))
        | (go_at_call 35; ((with_reducible refine (Hk8.out _).mono ?_); rintro e w10 ⟨rfl, hb⟩; (replace hB := below_tr hB hb; clear hb)))
        | (go_at_call 41; ((with_reducible refine (Hc3.out _ hB).mono ?_); rintro e w11 ⟨rfl, hb⟩; (replace hB := below_tr hB hb; clear hb)))
        | (go_at_call 31; ((with_reducible refine (Hk2b.out _).mono ?_); rintro e w12 ⟨rfl, rfl⟩))
          | (go_at_call 27; ((with_reducible refine (Hkz.out _).mono ?_); rintro e w13 ⟨rfl, hb⟩; (replace hB := below_tr hB hb; clear hb))))
      go_ret
      exact ⟨rfl, hB⟩
  · obtain rfl : E = [] := by
      rcases l1 with ⟨h, _⟩ | ⟨_, h, h', _⟩
      · exact h
      · omega
    generalize decV ([] ++ tl) = dv at *
    obtain rfl : X = [] := by
      rcases l2 with ⟨h, _⟩ | ⟨_, h, h', _⟩
      · exact h
      · omega
    generalize decFixOk ([] ++ tl) 7 = fo at *
    generalize decFix ([] ++ tl) 7 = fv at *
    have hp1 : parseOk F = false := by
      rcases l3 with ⟨_, _, h⟩ | ⟨h, _⟩
      · omega
      · exact h
    rw [hp1] at k6
    generalize parseV F = pv at *
    clear hp1
    have g0 : decide (0 ≤ n) = true := by rw [decide_eq_true_eq]; omega
    have g1 : decide (n < 0) = false := by rw [decide_eq_false_iff_not]; omega
    have g2 : decide (n ≤ 562949953421311) = false := by rw [decide_eq_false_iff_not]; omega
    have g3 : decide (72057594037927936 ≤ n) = true := by rw [decide_eq_true_eq]; omega
    have g4 : decide (-1000000000 < n) = true := by rw [decide_eq_true_eq]; omega
    have g5 : decide (n < 1000000000) = false := by rw [decide_eq_false_iff_not]; omega
    clear l1 l2 l3 b hn
    rcases l4 with l4 | ⟨z, j, l4, hj1, hj2, hz⟩
    · rw [l4] at k2b
      clear l4
      have Hc1 := Lib.hid c1; clear c1; have Hc2 := Lib.hid c2; clear c2; have Hc3 := Lib.hid c3; clear c3; have Hk1 := Lib.hid k1; clear k1; have Hk2a := Lib.hid k2a; clear k2a; have Hk2b := Lib.hid k2b; clear k2b; have Hk3 := Lib.hid k3; clear k3; have Hk4a := Lib.hid k4a; clear k4a; have Hk5 := Lib.hid k5; clear k5; have Hk6 := Lib.hid k6; clear k6; have Hk7 := Lib.hid k7; clear k7; have Hk8 := Lib.hid k8; clear k8; have Hht := Lib.hid ht; clear ht; have HhD := Lib.hid hD; clear hD
      go_enter Try.func15, Try.ntmps15
      go_wp2_with (first
        | (go_at_call 38; ((with_reducible refine (big_l v bs _ hv).mono ?_); rintro e w' ⟨rfl, rfl⟩))
        | (go_at_call 39; ((with_reducible refine (Hc1.out _ (Below.refl _ _)).mono ?_); rintro e w1 ⟨rfl, hB⟩))
        | (go_at_call 40; ((with_reducible refine (Hc2.out _ hB).mono ?_); rintro e w2 ⟨rfl, hb⟩; (replace hB := below_tr hB hb; clear hb)))
        | (go_at_call 27; ((with_reducible refine (Hk1.out _).mono ?_); rintro e w3 ⟨rfl, hb⟩; (replace hB := below_tr hB hb; clear hb)))
        | (rw [bytes_app]; (go_at_call 31; ((with_reducible refine (Hk2a.out _).mono ?_); rintro e w4 ⟨rfl, rfl⟩)))
        | (go_at_call 29; ((with_reducible refine (Hk3.out _).mono ?_); rintro e w5 ⟨rfl, hb⟩; (replace hB := below_tr hB hb; clear hb)))
        | (rw [bytes_app]; (go_at_call 23; ((with_reducible refine (Hk4a.out _).mono ?_); rintro e w6 ⟨rfl, rfl⟩)))
        | (go_at_call 33; ((with_reducible refine (Hk5.out _).mono ?_); rintro e w7 ⟨rfl, hb⟩; (replace hB := below_tr hB hb; clear hb)))
        | (go_at_call 37; ((with_reducible refine (Hk6.out _).mono ?_); rintro e w8 ⟨rfl, hb⟩; (replace hB := below_tr hB hb; clear hb)))
        | (go_at_call 21; ((with_reducible refine (Hk7.out _).mono ?_); rintro e w9 ⟨rfl, hb⟩; (replace hB := below_tr hB hb; clear hb)))
        | (go_at_call 35; ((with_reducible refine (Hk8.out _).mono ?_); rintro e w10 ⟨rfl, hb⟩; (replace hB := below_tr hB hb; clear hb)))
        | (go_at_call 41; ((with_reducible refine (Hc3.out _ hB).mono ?_); rintro e w11 ⟨rfl, hb⟩; (replace hB := below_tr hB hb; clear hb)))
        | (go_at_call 31; ((with_reducible refine (Hk2b.out _).mono ?_); rintro e w12 ⟨rfl, rfl⟩)))
      go_ret
      exact ⟨rfl, hB⟩
    · rw [l4] at k2b
      clear l4
      have kz := fun W => EncodeVarint_i (z : Int) W
      rw [hz] at kz
      clear hz
      have e0 : ((j : Int) == 0) = false := by rw [beq_eq_false_iff_ne]; omega
      have e1 : (j == 0) = false := by rw [beq_eq_false_iff_ne]; omega
      have e2 : decide (0 < (j : Int)) = true := by rw [decide_eq_true_eq]; omega
      have e3 : decide ((j : Int) ≤ (D.length : Int)) = true := by rw [decide_eq_true_eq]; omega
      have e4 : decide (0 < j) = true := by rw [decide_eq_true_eq]; omega
      have e5 : decide (j ≤ D.length) = true := by rw [decide_eq_true_eq]; omega
      have Hc1 := Lib.hid c1; clear c1; have Hc2 := Lib.hid c2; clear c2; have Hc3 := Lib.hid c3; clear c3; have Hk1 := Lib.hid k1; clear k1; have Hk2a := Lib.hid k2a; clear k2a; have Hk2b := Lib.hid k2b; clear k2b; have Hk3 := Lib.hid k3; clear k3; have Hk4a := Lib.hid k4a; clear k4a; have Hk5 := Lib.hid k5; clear k5; have Hk6 := Lib.hid k6; clear k6; have Hk7 := Lib.hid k7; clear k7; have Hk8 := Lib.hid k8; clear k8; have Hht := Lib.hid ht; clear ht; have HhD := Lib.hid hD; clear hD; have Hkz := Lib.hid kz; clear kz; have Hhj1 := Lib.hid hj1; clear hj1
      go_enter Try.func15, Try.ntmps15
      go_wp2_with (first
        | (go_at_call 38; ((with_reducible refine (big_l v bs _ hv).mono ?_); rintro e w' ⟨rfl, rfl⟩))
        | (go_at_call 39; ((with_reducible refine (Hc1.out _ (Below.refl _ _)).mono ?_); rintro e w1 ⟨rfl, hB⟩))
        | (go_at_call 40; ((with_reducible refine (Hc2.out _ hB).mono ?_); rintro e w2 ⟨rfl, hb⟩; (replace hB := below_tr hB hb; clear hb)))
        | (go_at_call 27; ((with_reducible refine (Hk1.out _).mono ?_); rintro e w3 ⟨rfl, hb⟩; (replace hB := below_tr hB hb; clear hb)))
        | (rw [bytes_app]; (go_at_call 31; ((with_reducible refine (Hk2a.out _).mono ?_); rintro e w4 ⟨rfl, rfl⟩)))
        | (go_at_call 29; ((with_reducible refine (Hk3.out _).mono ?_); rintro e w5 ⟨rfl, hb⟩; (replace hB := below_tr hB hb; clear hb)))
        | (rw [bytes_app]; (go_at_call 23; ((with_reducible refine (Hk4a.out _).mono ?_); rintro e w6 ⟨rfl, rfl⟩)))
        | (go_at_call 33; ((with_reducible refine (Hk5.out _).mono ?_); rintro e w7 ⟨rfl, hb⟩; (replace hB := below_tr hB hb; clear hb)))
        | (go_at_call 37; ((with_reducible refine (Hk6.out _).mono ?_); rintro e w8 ⟨rfl, hb⟩; (replace hB := below_tr hB hb; clear hb)))
        | (go_at_call 21; ((with_reducible refine (Hk7.out _).mono ?_); rintro e w9 ⟨rfl, hb⟩; (replace hB := below_tr hB hb; clear hb)))
        | (go_at_call 35; ((with_reducible refine (Hk8.out _).mono ?_); rintro e w10 ⟨rfl, hb⟩; (replace hB := below_tr hB hb; clear hb)))
        | (go_at_call 41; ((with_reducible refine (Hc3.out _ hB).mono ?_); rintro e w11 ⟨rfl, hb⟩; (replace hB := below_tr hB hb; clear hb)))
        | (go_at_call 31; ((with_reducible refine (Hk2b.out _).mono ?_); rintro e w12 ⟨rfl, rfl⟩))
          | (go_at_call 27; ((with_reducible refine (Hkz.out _).mono ?_); rintro e w13 ⟨rfl, hb⟩; (replace hB := below_tr hB hb; clear hb))))
      go_ret
      exact ⟨rfl, hB⟩
theorem own : ownKnob Try.prog.godebug = none := by kernel_rfl
theorem laidOut : laidOutB Try.prog = true := by kernel_rfl
set_option maxRecDepth 100000 in
theorem lifted (os : Os) (started : os.Started) (H : Type) (enc : TypeId × Value → H) :
    ReturnsInHanded {} Try.checked os 15 .any (Rows.fnEncodingsSpec.pre6 enc Try.prog Try.f15 Rows.fnEncodingsRow.domain false) (Rows.fnEncodingsSpec.post enc Try.prog Try.f15 false true false false) := by
  refine returnsInHanded_of_change (C := Try.checked) own started (by kernel_rfl) Try.func15
    (ChangeSpec.witness6 (enc := enc) (C := Try.checked) false ⟨#[], #[.slice none 0 0], []⟩ 8 (by kernel_rfl) (by kernel_rfl) (by kernel_rfl) (by kernel_rfl)) ?_
  intro W base args ds gs before hval0 hW hcnd _
  have hval : ∀ (j : Nat) t v, Try.f15.params[j]? = some t → args[j]? = some v → Value.okWide Try.prog W .any base t v := hval0
  have hW' := hW
  obtain ⟨p, q, hA0, hV, rfl, hfz, hnd⟩ := hW
  have hA : DataW.TrodAll enc Try.prog W 0 (fun _ => true) true Try.f15.params.toList args.toList ds p := hA0
  rw [Try.params15] at hA hval
  obtain ⟨v0, vs0, d0, ds0, p0, q0, hargs, rfl, rfl, h0, r0⟩ := trodAll_cons hA
  obtain ⟨rfl, rfl, rfl⟩ := trodAll_nil r0
  obtain rfl : args = #[v0] := by cases args; simp_all
  obtain ⟨rfl, rfl⟩ := trodVars_none hV
  have k0 := h0
  have lt0 : ∀ x ∈ p0, x.block < W.heap.size := by obtain ⟨m, hm⟩ := k0; exact DataW.trod_lt m _ _ _ hm
  obtain ⟨A0, w0⟩ := open_row_u8 (hval 0 37 v0 rfl rfl) h0
  clear hA0 hval0
  refine (walk v0 A0 W w0).mono fun e W' ⟨he, bel⟩ => ?_
  subst he
  exact ⟨_, rfl, _, _, _, [], _, [], hW', trodAll_mk1 (shut_bool Try.underlying4 _), (trodAll_cons_mk (Below.trod laidOut (by kernel_rfl) (of_decide_eq_true (by kernel_rfl)) k0 bel lt0) trodAll_mk0), rfl, bel.frame _, fun h => by cases h⟩
theorem closed : joinedFacts Try.prog 15 Try.f15 Rows.fnEncodingsSpec Rows.fnEncodingsRow = true := by
  unfold joinedFacts
  simp only [Bool.and_eq_true]
  repeat' apply And.intro
  all_goals first | with_reducible exact mayEnter | (rw [lifts]; kernel_rfl) | (rw [make]; kernel_rfl) | as_aux_lemma => kernel_rfl
theorem over : Rows.fnEncodingsRow.holds Try.pinned (OpenSpec.ofChange Rows.fnEncodingsSpec) :=
  OpenClaim.holds_of_wide 15 Try.f15 rfl rfl rfl rfl rfl rfl rfl ⟨rfl, rfl, rfl, rfl, rfl⟩ rfl rfl rfl rfl rfl (by kernel_rfl) Try.func15 closed
    (of_decide_eq_true (by kernel_rfl)) (by unfold Func.isWrapper; first | (rw [if_pos (by decide +kernel)]; kernel_rfl) | (rw [if_neg (by decide +kernel)]; exact ⟨rfl, rfl⟩))
    (fun os started H enc _ => lifted os started H enc)
theorem proved : Rows.FnEncodingsSaid := over
end Go.Proofs.Ythbliiimjkkemaa.fnEncodings
