/- ParseInt, both. -/
import Derived.Test.YthbliiimjkkemaaDigits
namespace Go.Proofs.Ythbliiimjkkemaa
open Go.RowKit
set_option maxHeartbeats 400000
set_option maxRecDepth 100000

theorem ParseInt_s (l : List UInt8) (hl : l.length ≤ 1048576) (w : World) :
    Calls Try.prog 36 #[.string ⟨l.toArray⟩] w (RetB (.tuple #[.int .i64 (parseV l), .bool (parseOk l)]) w) := by
  go_enter Try.func36, Try.ntmps36
  go_wp2_with fail
  go_loop [4, 5, 6] (fun n c i => ∃ j : Nat, j ≤ l.length ∧ j ≤ 11 ∧ i = .int .i64 j ∧ n = .int .i64 (digVal (l.take j)) ∧ c = .int .i64 (digCnt (l.take j))) (fun _ _ i => l.length - (intOf i).toNat)
  case atStart => exact ⟨0, Nat.zero_le _, Nat.zero_le _, rfl, rfl, rfl⟩
  case round =>
    obtain ⟨j, hj, hj11, rfl, rfl, rfl⟩ := hrel
    by_cases hlt : j < l.length ∧ j < 11
    · have hkl : j < l.length := hlt.1
      have g0 : (j : Int) < (l.length : Int) := by omega
      have g1 : (j : Int) < 11 := by omega
      have hv := digVal_take hkl
      have hc := digCnt_take hkl
      have b1 := digVal_lt 10 (l.take j) (by simp; omega)
      have b2 := digCnt_le (l.take j)
      have b3 : (l.take j).length ≤ 11 := by simp; omega
      obtain ⟨b, hb⟩ : ∃ b, l[j] = b := ⟨_, rfl⟩
      have hb8 := b.toNat_lt
      rw [hb] at hv hc
      generalize hf : digVal (l.take j) = f at *
      generalize hg : digCnt (l.take j) = g at *
      clear hf hg hlt
      by_cases h1 : (48 : Int) ≤ b.toNat
      · by_cases h2 : (b.toNat : Int) ≤ 57
        · have hd := isDig_yes h1 h2
          rw [if_pos hd] at hv hc
          have d1 : decide ((48 : Int) ≤ b.toNat) = true := by rw [decide_eq_true_eq]; omega
          have d2 : decide ((b.toNat : Int) ≤ 57) = true := by rw [decide_eq_true_eq]; omega
          have Hhv := Lib.hid hv; clear hv; have Hhc := Lib.hid hc; clear hc; have Hhd := Lib.hid hd; clear hd
          go_wp2_with fail
          go_round
          case rel => exact ⟨j + 1, by omega, by omega, by go_num, by rw [Hhv.out]; go_num, by rw [Hhc.out]; go_num⟩
          case measure => simp [intOf] <;> omega
        · have hd := isDig_no (b := b) (by omega)
          rw [hd] at hv hc
          have d1 : decide ((48 : Int) ≤ b.toNat) = true := by rw [decide_eq_true_eq]; omega
          have d2 : decide ((b.toNat : Int) ≤ 57) = false := by rw [decide_eq_false_iff_not]; omega
          have Hhv := Lib.hid hv; clear hv; have Hhc := Lib.hid hc; clear hc; have Hhd := Lib.hid hd; clear hd
          go_wp2_with fail
          go_round
          case rel => exact ⟨j + 1, by omega, by omega, by go_num, by rw [Hhv.out]; rfl, by rw [Hhc.out]; rfl⟩
          case measure => simp [intOf] <;> omega
      · have hd := isDig_no (b := b) (by omega)
        rw [hd] at hv hc
        have d1 : decide ((48 : Int) ≤ b.toNat) = false := by rw [decide_eq_false_iff_not]; omega
        have Hhv := Lib.hid hv; clear hv; have Hhc := Lib.hid hc; clear hc; have Hhd := Lib.hid hd; clear hd
        go_wp2_with fail
        go_round
        case rel => exact ⟨j + 1, by omega, by omega, by go_num, by rw [Hhv.out]; rfl, by rw [Hhc.out]; rfl⟩
        case measure => simp [intOf] <;> omega
    · have b1 := digVal_lt 11 (l.take j) (by simp; omega)
      by_cases hlen : l.length ≤ 10
      · obtain rfl : j = l.length := by omega
        rw [List.take_length] at *
        have d5 : decide ((10 : Int) < (l.length : Int)) = false := by rw [decide_eq_false_iff_not]; omega
        have b2 := digVal_lt 10 l hlen
        by_cases h0 : 0 < l.length
        · by_cases hx : l[0] = 45
          · have hp : pInt l = -(digVal l : Int) := pInt_neg0 h0 hx
            have d1 : decide ((0 : Int) < (l.length : Int)) = true := by rw [decide_eq_true_eq]; omega
            have d2 : ((l[0].toNat : Int) == 45) = true := by rw [hx]; rfl
            have Hhx := Lib.hid hx; clear hx
            by_cases hg9 : digCnt l ≤ 9
            · have d3 : decide ((9 : Int) < (digCnt l : Int)) = false := by rw [decide_eq_false_iff_not]; omega
              by_cases he : fmtInt (-(digVal l : Int)) = l
              · have hk := parse_ret_yes (parse_yes hg9 hlen (by rw [hp]; exact he))
                have d4 : (fmtInt (-(digVal l : Int)) == l) = true := by rw [beq_iff_eq]; exact he
                rw [hp] at hk
                have Hhk := Lib.hid hk; clear hk; have Hhp := Lib.hid hp; clear hp; have Hhe := Lib.hid he; clear he
                generalize digCnt l = g at *
                generalize digVal l = f at *
                go_wp2_with (go_at_call 32; ((with_reducible refine (FormatInt_s (-(f : Int)) (by omega) _).mono ?_); rintro e w' ⟨rfl, hb1⟩))
                go_ret2
                exact ⟨Hhk.out, hb1⟩
              · have hk := parse_ret_no (parse_no (l := l) (by rw [hp]; exact fun hh => he hh.2.2))
                have d4 : (fmtInt (-(digVal l : Int)) == l) = false := by rw [beq_eq_false_iff_ne]; exact he
                have Hhk := Lib.hid hk; clear hk; have Hhp := Lib.hid hp; clear hp; have Hhe := Lib.hid he; clear he
                generalize digCnt l = g at *
                generalize digVal l = f at *
                go_wp2_with (go_at_call 32; ((with_reducible refine (FormatInt_s (-(f : Int)) (by omega) _).mono ?_); rintro e w' ⟨rfl, hb1⟩))
                go_ret2
                exact ⟨Hhk.out, hb1⟩
            · have d3 : decide ((9 : Int) < (digCnt l : Int)) = true := by rw [decide_eq_true_eq]; omega
              have hk := parse_ret_no (parse_no (l := l) (fun hh => hg9 hh.1))
              have Hhk := Lib.hid hk; clear hk; have Hhp := Lib.hid hp; clear hp
              generalize digCnt l = g at *
              generalize digVal l = f at *
              go_wp2_with fail
              go_ret2
              exact ⟨Hhk.out, Below.refl _ _⟩
          · have hp : pInt l = (digVal l : Int) := pInt_pos0 h0 hx
            have d1 : decide ((0 : Int) < (l.length : Int)) = true := by rw [decide_eq_true_eq]; omega
            have d2 := u8_ne45 hx
            have Hhx := Lib.hid hx; clear hx
            by_cases hg9 : digCnt l ≤ 9
            · have d3 : decide ((9 : Int) < (digCnt l : Int)) = false := by rw [decide_eq_false_iff_not]; omega
              by_cases he : fmtInt ((digVal l : Int)) = l
              · have hk := parse_ret_yes (parse_yes hg9 hlen (by rw [hp]; exact he))
                have d4 : (fmtInt ((digVal l : Int)) == l) = true := by rw [beq_iff_eq]; exact he
                rw [hp] at hk
                have Hhk := Lib.hid hk; clear hk; have Hhp := Lib.hid hp; clear hp; have Hhe := Lib.hid he; clear he
                generalize digCnt l = g at *
                generalize digVal l = f at *
                go_wp2_with (go_at_call 32; ((with_reducible refine (FormatInt_s ((f : Int)) (by omega) _).mono ?_); rintro e w' ⟨rfl, hb1⟩))
                go_ret2
                exact ⟨Hhk.out, hb1⟩
              · have hk := parse_ret_no (parse_no (l := l) (by rw [hp]; exact fun hh => he hh.2.2))
                have d4 : (fmtInt ((digVal l : Int)) == l) = false := by rw [beq_eq_false_iff_ne]; exact he
                have Hhk := Lib.hid hk; clear hk; have Hhp := Lib.hid hp; clear hp; have Hhe := Lib.hid he; clear he
                generalize digCnt l = g at *
                generalize digVal l = f at *
                go_wp2_with (go_at_call 32; ((with_reducible refine (FormatInt_s ((f : Int)) (by omega) _).mono ?_); rintro e w' ⟨rfl, hb1⟩))
                go_ret2
                exact ⟨Hhk.out, hb1⟩
            · have d3 : decide ((9 : Int) < (digCnt l : Int)) = true := by rw [decide_eq_true_eq]; omega
              have hk := parse_ret_no (parse_no (l := l) (fun hh => hg9 hh.1))
              have Hhk := Lib.hid hk; clear hk; have Hhp := Lib.hid hp; clear hp
              generalize digCnt l = g at *
              generalize digVal l = f at *
              go_wp2_with fail
              go_ret2
              exact ⟨Hhk.out, Below.refl _ _⟩
        · have hp : pInt l = (digVal l : Int) := pInt_nil h0
          have d1 : decide ((0 : Int) < (l.length : Int)) = false := by rw [decide_eq_false_iff_not]; omega
          by_cases hg9 : digCnt l ≤ 9
          · have d3 : decide ((9 : Int) < (digCnt l : Int)) = false := by rw [decide_eq_false_iff_not]; omega
            by_cases he : fmtInt ((digVal l : Int)) = l
            · have hk := parse_ret_yes (parse_yes hg9 hlen (by rw [hp]; exact he))
              have d4 : (fmtInt ((digVal l : Int)) == l) = true := by rw [beq_iff_eq]; exact he
              rw [hp] at hk
              have Hhk := Lib.hid hk; clear hk; have Hhp := Lib.hid hp; clear hp; have Hhe := Lib.hid he; clear he
              generalize digCnt l = g at *
              generalize digVal l = f at *
              go_wp2_with (go_at_call 32; ((with_reducible refine (FormatInt_s ((f : Int)) (by omega) _).mono ?_); rintro e w' ⟨rfl, hb1⟩))
              go_ret2
              exact ⟨Hhk.out, hb1⟩
            · have hk := parse_ret_no (parse_no (l := l) (by rw [hp]; exact fun hh => he hh.2.2))
              have d4 : (fmtInt ((digVal l : Int)) == l) = false := by rw [beq_eq_false_iff_ne]; exact he
              have Hhk := Lib.hid hk; clear hk; have Hhp := Lib.hid hp; clear hp; have Hhe := Lib.hid he; clear he
              generalize digCnt l = g at *
              generalize digVal l = f at *
              go_wp2_with (go_at_call 32; ((with_reducible refine (FormatInt_s ((f : Int)) (by omega) _).mono ?_); rintro e w' ⟨rfl, hb1⟩))
              go_ret2
              exact ⟨Hhk.out, hb1⟩
          · have d3 : decide ((9 : Int) < (digCnt l : Int)) = true := by rw [decide_eq_true_eq]; omega
            have hk := parse_ret_no (parse_no (l := l) (fun hh => hg9 hh.1))
            have Hhk := Lib.hid hk; clear hk; have Hhp := Lib.hid hp; clear hp
            generalize digCnt l = g at *
            generalize digVal l = f at *
            go_wp2_with fail
            go_ret2
            exact ⟨Hhk.out, Below.refl _ _⟩
      · have hk := parse_ret_no (parse_no (l := l) (fun hh => hlen hh.2.1))
        have d5 : decide ((10 : Int) < (l.length : Int)) = true := by rw [decide_eq_true_eq]; omega
        have h0 : 0 < l.length := by omega
        generalize digVal (l.take j) = f at *
        generalize digCnt (l.take j) = g at *
        have Hhk := Lib.hid hk; clear hk
        by_cases hg : (9 : Int) < (g : Int)
        · by_cases hx : l[0] = 45
          · have d1 : decide ((0 : Int) < (l.length : Int)) = true := by rw [decide_eq_true_eq]; omega
            have d2 : ((l[0].toNat : Int) == 45) = true := by rw [hx]; rfl
            have Hhx := Lib.hid hx; clear hx
            have d3 : decide ((9 : Int) < (g : Int)) = true := by rw [decide_eq_true_eq]; omega
            go_wp2_with fail
            all_goals (go_ret2; exact ⟨Hhk.out, Below.refl _ _⟩)
          · have d1 : decide ((0 : Int) < (l.length : Int)) = true := by rw [decide_eq_true_eq]; omega
            have d2 := u8_ne45 hx
            have Hhx := Lib.hid hx; clear hx
            have d3 : decide ((9 : Int) < (g : Int)) = true := by rw [decide_eq_true_eq]; omega
            go_wp2_with fail
            all_goals (go_ret2; exact ⟨Hhk.out, Below.refl _ _⟩)
        · by_cases hx : l[0] = 45
          · have d1 : decide ((0 : Int) < (l.length : Int)) = true := by rw [decide_eq_true_eq]; omega
            have d2 : ((l[0].toNat : Int) == 45) = true := by rw [hx]; rfl
            have Hhx := Lib.hid hx; clear hx
            have d3 : decide ((9 : Int) < (g : Int)) = false := by rw [decide_eq_false_iff_not]; omega
            go_wp2_with fail
            all_goals (go_ret2; exact ⟨Hhk.out, Below.refl _ _⟩)
          · have d1 : decide ((0 : Int) < (l.length : Int)) = true := by rw [decide_eq_true_eq]; omega
            have d2 := u8_ne45 hx
            have Hhx := Lib.hid hx; clear hx
            have d3 : decide ((9 : Int) < (g : Int)) = false := by rw [decide_eq_false_iff_not]; omega
            go_wp2_with fail
            all_goals (go_ret2; exact ⟨Hhk.out, Below.refl _ _⟩)

theorem ParseInt_i_neg (D : List UInt8) (hl : D.length ≤ 1048576) (w : World) :
    Calls Try.prog 37 #[.string ⟨(45 :: D).toArray⟩] w (RetB (.tuple #[.int .i64 (parseV (45 :: D)), .bool (parseOk (45 :: D))]) w) := by
  have hD : DPart (45 :: D) D := .inl rfl
  have hp : pInt (45 :: D) = -(digVal D : Int) := by rw [pInt_neg, digVal_all _ _ (by decide)]
  by_cases hE : D = []
  · subst hE
    have hk := parse_ret_no (parse_D_no hD (fun hh => hh.1 rfl))
    have Hhk := Lib.hid hk; clear hk; have HhD := Lib.hid hD; clear hD; have Hhp := Lib.hid hp; clear hp
    go_enter Try.func37, Try.ntmps37
    go_wp2_with fail
    go_ret2
    exact ⟨Hhk.out, Below.refl _ _⟩
  have e0 : D.isEmpty = false := by cases D with | nil => exact absurd rfl hE | cons a t => rfl
  by_cases h9 : D.length ≤ 9
  · have d9 : decide ((9 : Int) < (D.length : Int)) = false := by rw [decide_eq_false_iff_not]; omega
    have HhD := Lib.hid hD; clear hD; have Hhp := Lib.hid hp; clear hp
    go_enter Try.func37, Try.ntmps37
    go_wp2_with fail
    clear d9 e0
    go_loop [6, 7] (fun n i => ∃ k : Nat, k ≤ D.length ∧ i = .int .i64 k ∧ n = .int .i64 (digVal (D.take k)) ∧ ∀ b ∈ D.take k, isDig b = true) (fun _ i => D.length - (intOf i).toNat)
    case atStart => exact ⟨0, Nat.zero_le _, rfl, rfl, fun b hb => by simp at hb⟩
    case round =>
      obtain ⟨k, hk, rfl, rfl, hall⟩ := hrel
      by_cases hlt : k < D.length
      · have g0 : (k : Int) < (D.length : Int) := by omega
        have hv := digVal_take hlt
        have b1 := digVal_lt 9 (D.take k) (by simp; omega)
        have hnx := dig_of_mem hall hlt
        have hmem : D[k] ∈ D := List.getElem_mem hlt
        obtain ⟨b, hb⟩ : ∃ b, D[k] = b := ⟨_, rfl⟩
        have hb8 := b.toNat_lt
        rw [hb] at hv hnx hmem
        generalize hf : digVal (D.take k) = f at *
        clear hf
        by_cases h1 : (b.toNat : Int) < 48
        · have hk := parse_ret_no (parse_D_no HhD.out (fun hh => absurd (hh.2.2 b hmem) (by rw [isDig_no (by omega)]; decide)))
          have d1 : decide ((b.toNat : Int) < 48) = true := by rw [decide_eq_true_eq]; omega
          have Hhk := Lib.hid hk; clear hk; have Hhv := Lib.hid hv; clear hv; have Hhall := Lib.hid hall; clear hall; have Hhnx := Lib.hid hnx; clear hnx; have Hhmem := Lib.hid hmem; clear hmem
          go_wp2_with fail
          go_ret2
          exact ⟨Hhk.out, Below.refl _ _⟩
        · have d1 : decide ((b.toNat : Int) < 48) = false := by rw [decide_eq_false_iff_not]; omega
          by_cases h2 : (57 : Int) < b.toNat
          · have hk := parse_ret_no (parse_D_no HhD.out (fun hh => absurd (hh.2.2 b hmem) (by rw [isDig_no (by omega)]; decide)))
            have d2 : decide ((57 : Int) < (b.toNat : Int)) = true := by rw [decide_eq_true_eq]; omega
            have Hhk := Lib.hid hk; clear hk; have Hhv := Lib.hid hv; clear hv; have Hhall := Lib.hid hall; clear hall; have Hhnx := Lib.hid hnx; clear hnx; have Hhmem := Lib.hid hmem; clear hmem
            go_wp2_with fail
            go_ret2
            exact ⟨Hhk.out, Below.refl _ _⟩
          · have d2 : decide ((57 : Int) < (b.toNat : Int)) = false := by rw [decide_eq_false_iff_not]; omega
            have hd := isDig_yes (b := b) (by omega) (by omega)
            rw [if_pos hd] at hv
            have hn2 := hnx hd
            have Hhv := Lib.hid hv; clear hv; have Hhall := Lib.hid hall; clear hall; have Hhnx := Lib.hid hnx; clear hnx; have Hhmem := Lib.hid hmem; clear hmem; have Hhd := Lib.hid hd; clear hd; have Hhn2 := Lib.hid hn2; clear hn2
            go_wp2_with fail
            go_round
            case rel => exact ⟨k + 1, by omega, by go_num, by rw [Hhv.out]; go_num, Hhn2.out⟩
            case measure => simp [intOf] <;> omega
      · obtain rfl : k = D.length := by omega
        rw [List.take_length] at *
        have b1 := digVal_lt 9 D h9
        have hp := Hhp.out
        have hyes := parse_D_yes HhD.out h9 hall
        have hno := parse_no (l := (45 :: D))
        generalize hf : digVal D = f at *
        clear hf
        by_cases he : fmtInt (-(f : Int)) = (45 :: D)
        · have hk := parse_ret_yes (hyes (by rw [hp]; exact he))
          have d4 : (fmtInt (-(f : Int)) == (45 :: D)) = true := by rw [beq_iff_eq]; exact he
          rw [hp] at hk
          have Hhk := Lib.hid hk; clear hk; have Hhp := Lib.hid hp; clear hp; have Hhe := Lib.hid he; clear he; have Hhall := Lib.hid hall; clear hall; have Hhyes := Lib.hid hyes; clear hyes; have Hhno := Lib.hid hno; clear hno
          go_wp2_with (go_at_call 33; ((with_reducible refine (FormatInt_i (-(f : Int)) (by omega) _).mono ?_); rintro e w' ⟨rfl, hb1⟩))
          go_ret2
          exact ⟨Hhk.out, hb1⟩
        · have hk := parse_ret_no (hno (by rw [hp]; exact fun hh => he hh.2.2))
          have d4 : (fmtInt (-(f : Int)) == (45 :: D)) = false := by rw [beq_eq_false_iff_ne]; exact he
          have Hhk := Lib.hid hk; clear hk; have Hhp := Lib.hid hp; clear hp; have Hhe := Lib.hid he; clear he; have Hhall := Lib.hid hall; clear hall; have Hhyes := Lib.hid hyes; clear hyes; have Hhno := Lib.hid hno; clear hno
          go_wp2_with (go_at_call 33; ((with_reducible refine (FormatInt_i (-(f : Int)) (by omega) _).mono ?_); rintro e w' ⟨rfl, hb1⟩))
          go_ret2
          exact ⟨Hhk.out, hb1⟩
  · have hk := parse_ret_no (parse_D_no hD (fun hh => h9 hh.2.1))
    have d9 : decide ((9 : Int) < (D.length : Int)) = true := by rw [decide_eq_true_eq]; omega
    have Hhk := Lib.hid hk; clear hk; have HhD := Lib.hid hD; clear hD; have Hhp := Lib.hid hp; clear hp
    go_enter Try.func37, Try.ntmps37
    go_wp2_with fail
    go_ret2
    exact ⟨Hhk.out, Below.refl _ _⟩

theorem ParseInt_i_pos (D : List UInt8) (hl : D.length ≤ 1048576) (h0 : 0 < D.length) (hx : ¬ D[0] = 45) (w : World) :
    Calls Try.prog 37 #[.string ⟨D.toArray⟩] w (RetB (.tuple #[.int .i64 (parseV D), .bool (parseOk D)]) w) := by
  have hD : DPart D D := .inr ⟨rfl, fun h => by
    cases D with
    | nil => simp at h0
    | cons a t => simp at h hx; exact hx h⟩
  have hp : pInt D = (digVal D : Int) := pInt_pos0 h0 hx
  have e0 : D.isEmpty = false := by cases D with | nil => simp at h0 | cons a t => rfl
  have d0 := u8_ne45 hx
  have Hhx := Lib.hid hx; clear hx
  by_cases h9 : D.length ≤ 9
  · have d9 : decide ((9 : Int) < (D.length : Int)) = false := by rw [decide_eq_false_iff_not]; omega
    have HhD := Lib.hid hD; clear hD; have Hhp := Lib.hid hp; clear hp
    go_enter Try.func37, Try.ntmps37
    go_wp2_with fail
    clear d9 e0 d0
    go_loop [6, 7] (fun n i => ∃ k : Nat, k ≤ D.length ∧ i = .int .i64 k ∧ n = .int .i64 (digVal (D.take k)) ∧ ∀ b ∈ D.take k, isDig b = true) (fun _ i => D.length - (intOf i).toNat)
    case atStart => exact ⟨0, Nat.zero_le _, rfl, rfl, fun b hb => by simp at hb⟩
    case round =>
      obtain ⟨k, hk, rfl, rfl, hall⟩ := hrel
      by_cases hlt : k < D.length
      · have g0 : (k : Int) < (D.length : Int) := by omega
        have hv := digVal_take hlt
        have b1 := digVal_lt 9 (D.take k) (by simp; omega)
        have hnx := dig_of_mem hall hlt
        have hmem : D[k] ∈ D := List.getElem_mem hlt
        obtain ⟨b, hb⟩ : ∃ b, D[k] = b := ⟨_, rfl⟩
        have hb8 := b.toNat_lt
        rw [hb] at hv hnx hmem
        generalize hf : digVal (D.take k) = f at *
        clear hf
        by_cases h1 : (b.toNat : Int) < 48
        · have hk := parse_ret_no (parse_D_no HhD.out (fun hh => absurd (hh.2.2 b hmem) (by rw [isDig_no (by omega)]; decide)))
          have d1 : decide ((b.toNat : Int) < 48) = true := by rw [decide_eq_true_eq]; omega
          have Hhk := Lib.hid hk; clear hk; have Hhv := Lib.hid hv; clear hv; have Hhall := Lib.hid hall; clear hall; have Hhnx := Lib.hid hnx; clear hnx; have Hhmem := Lib.hid hmem; clear hmem
          go_wp2_with fail
          go_ret2
          exact ⟨Hhk.out, Below.refl _ _⟩
        · have d1 : decide ((b.toNat : Int) < 48) = false := by rw [decide_eq_false_iff_not]; omega
          by_cases h2 : (57 : Int) < b.toNat
          · have hk := parse_ret_no (parse_D_no HhD.out (fun hh => absurd (hh.2.2 b hmem) (by rw [isDig_no (by omega)]; decide)))
            have d2 : decide ((57 : Int) < (b.toNat : Int)) = true := by rw [decide_eq_true_eq]; omega
            have Hhk := Lib.hid hk; clear hk; have Hhv := Lib.hid hv; clear hv; have Hhall := Lib.hid hall; clear hall; have Hhnx := Lib.hid hnx; clear hnx; have Hhmem := Lib.hid hmem; clear hmem
            go_wp2_with fail
            go_ret2
            exact ⟨Hhk.out, Below.refl _ _⟩
          · have d2 : decide ((57 : Int) < (b.toNat : Int)) = false := by rw [decide_eq_false_iff_not]; omega
            have hd := isDig_yes (b := b) (by omega) (by omega)
            rw [if_pos hd] at hv
            have hn2 := hnx hd
            have Hhv := Lib.hid hv; clear hv; have Hhall := Lib.hid hall; clear hall; have Hhnx := Lib.hid hnx; clear hnx; have Hhmem := Lib.hid hmem; clear hmem; have Hhd := Lib.hid hd; clear hd; have Hhn2 := Lib.hid hn2; clear hn2
            go_wp2_with fail
            go_round
            case rel => exact ⟨k + 1, by omega, by go_num, by rw [Hhv.out]; go_num, Hhn2.out⟩
            case measure => simp [intOf] <;> omega
      · obtain rfl : k = D.length := by omega
        rw [List.take_length] at *
        have b1 := digVal_lt 9 D h9
        have hp := Hhp.out
        have hyes := parse_D_yes HhD.out h9 hall
        have hno := parse_no (l := D)
        generalize hf : digVal D = f at *
        clear hf
        by_cases he : fmtInt ((f : Int)) = D
        · have hk := parse_ret_yes (hyes (by rw [hp]; exact he))
          have d4 : (fmtInt ((f : Int)) == D) = true := by rw [beq_iff_eq]; exact he
          rw [hp] at hk
          have Hhk := Lib.hid hk; clear hk; have Hhp := Lib.hid hp; clear hp; have Hhe := Lib.hid he; clear he; have Hhall := Lib.hid hall; clear hall; have Hhyes := Lib.hid hyes; clear hyes; have Hhno := Lib.hid hno; clear hno
          go_wp2_with (go_at_call 33; ((with_reducible refine (FormatInt_i ((f : Int)) (by omega) _).mono ?_); rintro e w' ⟨rfl, hb1⟩))
          go_ret2
          exact ⟨Hhk.out, hb1⟩
        · have hk := parse_ret_no (hno (by rw [hp]; exact fun hh => he hh.2.2))
          have d4 : (fmtInt ((f : Int)) == D) = false := by rw [beq_eq_false_iff_ne]; exact he
          have Hhk := Lib.hid hk; clear hk; have Hhp := Lib.hid hp; clear hp; have Hhe := Lib.hid he; clear he; have Hhall := Lib.hid hall; clear hall; have Hhyes := Lib.hid hyes; clear hyes; have Hhno := Lib.hid hno; clear hno
          go_wp2_with (go_at_call 33; ((with_reducible refine (FormatInt_i ((f : Int)) (by omega) _).mono ?_); rintro e w' ⟨rfl, hb1⟩))
          go_ret2
          exact ⟨Hhk.out, hb1⟩
  · have hk := parse_ret_no (parse_D_no hD (fun hh => h9 hh.2.1))
    have d9 : decide ((9 : Int) < (D.length : Int)) = true := by rw [decide_eq_true_eq]; omega
    have Hhk := Lib.hid hk; clear hk; have HhD := Lib.hid hD; clear hD; have Hhp := Lib.hid hp; clear hp
    go_enter Try.func37, Try.ntmps37
    go_wp2_with fail
    go_ret2
    exact ⟨Hhk.out, Below.refl _ _⟩

theorem ParseInt_i (l : List UInt8) (hl : l.length ≤ 1048576) (w : World) :
    Calls Try.prog 37 #[.string ⟨l.toArray⟩] w (RetB (.tuple #[.int .i64 (parseV l), .bool (parseOk l)]) w) := by
  rcases l with _ | ⟨x, r⟩
  · have hk := parse_ret_no (l := []) (by unfold parseOk; rw [show (fmtInt (pInt []) == []) = false by rw [beq_eq_false_iff_ne]; intro h; have := digs_pos 0; rw [show fmtInt (pInt []) = digs 0 from fmt_pos 0] at h; rw [h] at this; simp at this]; simp)
    have Hhk := Lib.hid hk; clear hk
    go_enter Try.func37, Try.ntmps37
    go_wp2_with fail
    go_ret2
    exact ⟨Hhk.out, Below.refl _ _⟩
  · by_cases hx : x = 45
    · subst hx; exact ParseInt_i_neg r (by simp at hl; omega) w
    · exact ParseInt_i_pos (x :: r) hl (by simp) hx w
end Go.Proofs.Ythbliiimjkkemaa
