/- readLong and l2Num: decimal texts read. (Written by mkrlong.py.) -/
import Derived.Test.YtkhphjapefijbaaDigits
import Derived.Test.YtkhphjapefijbaaSl
namespace Go.Proofs.Ytkhphjapefijbaa
open Go.RowKit Go.Sort
set_option maxHeartbeats 1000000
set_option maxRecDepth 100000

def okD (m : Nat) (D : List UInt8) : Prop := D ≠ [] ∧ D.length ≤ m ∧ ∀ b ∈ D, isDig b = true
open Classical in
noncomputable def longV (s : Int) (D : List UInt8) : Value := if okD 10 D then .tuple #[.int .i64 (s * digVal D), .bool true] else .tuple #[.int .i64 0, .bool false]
theorem long_no {s : Int} {D : List UInt8} (h : ¬ okD 10 D) : Ending.returned (.tuple #[.int .i64 0, .bool false]) = .returned (longV s D) := by unfold longV; rw [if_neg h]
theorem long_yes {s v : Int} {D : List UInt8} (h : okD 10 D) (hv : v = s * digVal D) : Ending.returned (.tuple #[.int .i64 v, .bool true]) = .returned (longV s D) := by unfold longV; rw [if_pos h, hv]
theorem readLong_i_neg (D : List UInt8) (hl : D.length ≤ 1048576) (w : World) :
    Calls Try.prog 83 #[.string ⟨(45 :: D).toArray⟩] w (RetB (longV (-1) D) w) := by
  by_cases hE : D = []
  · subst hE
    have hk := long_no (s := (-1)) (D := []) (fun hh => hh.1 rfl)
    have Hhk := Lib.hid hk; clear hk
    go_enter Try.func83, Try.ntmps83
    go_wp2_with fail
    go_ret2
    exact ⟨Hhk.out, Below.refl _ _⟩
  have e0 : D.isEmpty = false := by cases D with | nil => exact absurd rfl hE | cons a t => rfl
  have hne : D ≠ [] := hE
  clear hE
  by_cases h9 : D.length ≤ 10
  · have d9 : decide ((10 : Int) < (D.length : Int)) = false := by rw [decide_eq_false_iff_not]; omega
    have Hhne := Lib.hid hne; clear hne
    go_enter Try.func83, Try.ntmps83
    go_wp2_with fail
    clear d9 e0
    go_loop [6, 7] (fun n i => ∃ k : Nat, k ≤ D.length ∧ i = .int .i64 k ∧ n = .int .i64 (digVal (D.take k)) ∧ ∀ b ∈ D.take k, isDig b = true) (fun _ i => D.length - (intOf i).toNat)
    case atStart => exact ⟨0, Nat.zero_le _, rfl, rfl, fun b hb => by simp at hb⟩
    case round =>
      obtain ⟨k, hk, rfl, rfl, hall⟩ := hrel
      by_cases hlt : k < D.length
      · have g0 : (k : Int) < (D.length : Int) := by omega
        have hv := digVal_take hlt
        have b1 := digVal_lt 10 (D.take k) (by simp; omega)
        have hnx := dig_of_mem hall hlt
        have hmem : D[k] ∈ D := List.getElem_mem hlt
        obtain ⟨b, hb⟩ : ∃ b, D[k] = b := ⟨_, rfl⟩
        have hb8 := b.toNat_lt
        rw [hb] at hv hnx hmem
        generalize hf : digVal (D.take k) = f at *
        clear hf
        by_cases h1 : (b.toNat : Int) < 48
        · have hk := long_no (s := (-1)) (D := D) (fun hh => absurd (hh.2.2 b hmem) (by rw [isDig_no (by omega)]; decide))
          have d1 : decide ((b.toNat : Int) < 48) = true := by rw [decide_eq_true_eq]; omega
          have Hhk := Lib.hid hk; clear hk; have Hhv := Lib.hid hv; clear hv; have Hhall := Lib.hid hall; clear hall; have Hhnx := Lib.hid hnx; clear hnx; have Hhmem := Lib.hid hmem; clear hmem
          go_wp2_with fail
          go_ret2
          exact ⟨Hhk.out, Below.refl _ _⟩
        · have d1 : decide ((b.toNat : Int) < 48) = false := by rw [decide_eq_false_iff_not]; omega
          by_cases h2 : (57 : Int) < b.toNat
          · have hk := long_no (s := (-1)) (D := D) (fun hh => absurd (hh.2.2 b hmem) (by rw [isDig_no (by omega)]; decide))
            have d2 : decide ((57 : Int) < (b.toNat : Int)) = true := by rw [decide_eq_true_eq]; omega
            have Hhk := Lib.hid hk; clear hk; have Hhv := Lib.hid hv; clear hv; have Hhall := Lib.hid hall; clear hall; have Hhnx := Lib.hid hnx; clear hnx; have Hhmem := Lib.hid hmem; clear hmem
            go_wp2_with fail
            go_ret2
            exact ⟨Hhk.out, Below.refl _ _⟩
          · have d2 : decide ((57 : Int) < (b.toNat : Int)) = false := by rw [decide_eq_false_iff_not]; omega
            have hd := isDig_yes (b := b) (by omega) (by omega)
            rw [if_pos hd] at hv
            have hn2 := hnx hd
            have Hhv := Lib.hid hv; clear hv; have Hhall := Lib.hid hall; clear hall; have Hhnx := Lib.hid hnx; clear hnx; have Hhmem := Lib.hid hmem; clear hmem; have Hhd := Lib.hid hd; clear hd; have Hhn2 := Lib.hid hn2; clear hn2
            go_wp2_with fail
            go_round
            case rel => exact ⟨k + 1, by omega, by go_num, by rw [Hhv.out]; go_num, Hhn2.out⟩
            case measure => simp [intOf] <;> omega
      · obtain rfl : k = D.length := by omega
        rw [List.take_length] at *
        have b1 := digVal_lt 10 D h9
        have hyes := long_yes (s := (-1)) (D := D) (v := -(digVal D : Int)) ⟨Hhne.out, h9, hall⟩ (by omega)
        generalize hf : digVal D = f at *
        clear hf
        have Hhyes := Lib.hid hyes; clear hyes; have Hhall := Lib.hid hall; clear hall
        go_wp2_with fail
        go_ret2
        exact ⟨Hhyes.out, Below.refl _ _⟩
  · have hk := long_no (s := (-1)) (D := D) (fun hh => h9 hh.2.1)
    have d9 : decide ((10 : Int) < (D.length : Int)) = true := by rw [decide_eq_true_eq]; omega
    have Hhk := Lib.hid hk; clear hk; have Hhne := Lib.hid hne; clear hne
    go_enter Try.func83, Try.ntmps83
    go_wp2_with fail
    go_ret2
    exact ⟨Hhk.out, Below.refl _ _⟩

theorem readLong_i_pos (D : List UInt8) (hl : D.length ≤ 1048576) (h0 : 0 < D.length) (hx : ¬ D[0] = 45) (w : World) :
    Calls Try.prog 83 #[.string ⟨D.toArray⟩] w (RetB (longV 1 D) w) := by
  have e0 : D.isEmpty = false := by cases D with | nil => simp at h0 | cons a t => rfl
  have d0 : ((D[0].toNat : Int) == 45) = false := by
    rw [beq_eq_false_iff_ne]; intro h; exact hx (UInt8.toNat_inj.1 (by simp; omega))
  have hne : D ≠ [] := by intro h; simp [h] at h0
  have Hhx := Lib.hid hx; clear hx
  by_cases h9 : D.length ≤ 10
  · have d9 : decide ((10 : Int) < (D.length : Int)) = false := by rw [decide_eq_false_iff_not]; omega
    have Hhne := Lib.hid hne; clear hne
    go_enter Try.func83, Try.ntmps83
    go_wp2_with fail
    clear d9 e0 d0
    go_loop [6, 7] (fun n i => ∃ k : Nat, k ≤ D.length ∧ i = .int .i64 k ∧ n = .int .i64 (digVal (D.take k)) ∧ ∀ b ∈ D.take k, isDig b = true) (fun _ i => D.length - (intOf i).toNat)
    case atStart => exact ⟨0, Nat.zero_le _, rfl, rfl, fun b hb => by simp at hb⟩
    case round =>
      obtain ⟨k, hk, rfl, rfl, hall⟩ := hrel
      by_cases hlt : k < D.length
      · have g0 : (k : Int) < (D.length : Int) := by omega
        have hv := digVal_take hlt
        have b1 := digVal_lt 10 (D.take k) (by simp; omega)
        have hnx := dig_of_mem hall hlt
        have hmem : D[k] ∈ D := List.getElem_mem hlt
        obtain ⟨b, hb⟩ : ∃ b, D[k] = b := ⟨_, rfl⟩
        have hb8 := b.toNat_lt
        rw [hb] at hv hnx hmem
        generalize hf : digVal (D.take k) = f at *
        clear hf
        by_cases h1 : (b.toNat : Int) < 48
        · have hk := long_no (s := 1) (D := D) (fun hh => absurd (hh.2.2 b hmem) (by rw [isDig_no (by omega)]; decide))
          have d1 : decide ((b.toNat : Int) < 48) = true := by rw [decide_eq_true_eq]; omega
          have Hhk := Lib.hid hk; clear hk; have Hhv := Lib.hid hv; clear hv; have Hhall := Lib.hid hall; clear hall; have Hhnx := Lib.hid hnx; clear hnx; have Hhmem := Lib.hid hmem; clear hmem
          go_wp2_with fail
          go_ret2
          exact ⟨Hhk.out, Below.refl _ _⟩
        · have d1 : decide ((b.toNat : Int) < 48) = false := by rw [decide_eq_false_iff_not]; omega
          by_cases h2 : (57 : Int) < b.toNat
          · have hk := long_no (s := 1) (D := D) (fun hh => absurd (hh.2.2 b hmem) (by rw [isDig_no (by omega)]; decide))
            have d2 : decide ((57 : Int) < (b.toNat : Int)) = true := by rw [decide_eq_true_eq]; omega
            have Hhk := Lib.hid hk; clear hk; have Hhv := Lib.hid hv; clear hv; have Hhall := Lib.hid hall; clear hall; have Hhnx := Lib.hid hnx; clear hnx; have Hhmem := Lib.hid hmem; clear hmem
            go_wp2_with fail
            go_ret2
            exact ⟨Hhk.out, Below.refl _ _⟩
          · have d2 : decide ((57 : Int) < (b.toNat : Int)) = false := by rw [decide_eq_false_iff_not]; omega
            have hd := isDig_yes (b := b) (by omega) (by omega)
            rw [if_pos hd] at hv
            have hn2 := hnx hd
            have Hhv := Lib.hid hv; clear hv; have Hhall := Lib.hid hall; clear hall; have Hhnx := Lib.hid hnx; clear hnx; have Hhmem := Lib.hid hmem; clear hmem; have Hhd := Lib.hid hd; clear hd; have Hhn2 := Lib.hid hn2; clear hn2
            go_wp2_with fail
            go_round
            case rel => exact ⟨k + 1, by omega, by go_num, by rw [Hhv.out]; go_num, Hhn2.out⟩
            case measure => simp [intOf] <;> omega
      · obtain rfl : k = D.length := by omega
        rw [List.take_length] at *
        have b1 := digVal_lt 10 D h9
        have hyes := long_yes (s := 1) (D := D) (v := (digVal D : Int)) ⟨Hhne.out, h9, hall⟩ (by omega)
        generalize hf : digVal D = f at *
        clear hf
        have Hhyes := Lib.hid hyes; clear hyes; have Hhall := Lib.hid hall; clear hall
        go_wp2_with fail
        go_ret2
        exact ⟨Hhyes.out, Below.refl _ _⟩
  · have hk := long_no (s := 1) (D := D) (fun hh => h9 hh.2.1)
    have d9 : decide ((10 : Int) < (D.length : Int)) = true := by rw [decide_eq_true_eq]; omega
    have Hhk := Lib.hid hk; clear hk; have Hhne := Lib.hid hne; clear hne
    go_enter Try.func83, Try.ntmps83
    go_wp2_with fail
    go_ret2
    exact ⟨Hhk.out, Below.refl _ _⟩

noncomputable def longOf (l : List UInt8) : Value := if l.head? = some 45 then longV (-1) l.tail else longV 1 l
theorem readLong_i (l : List UInt8) (hl : l.length ≤ 1048576) (w : World) : Calls Try.prog 83 #[.string ⟨l.toArray⟩] w (RetB (longOf l) w) := by
  rcases l with _ | ⟨x, r⟩
  · have hk : Ending.returned (.tuple #[.int .i64 0, .bool false]) = .returned (longOf []) := long_no (s := 1) (D := []) (fun hh => hh.1 rfl)
    have Hhk := Lib.hid hk; clear hk
    go_enter Try.func83, Try.ntmps83
    go_wp2_with fail
    go_ret2
    exact ⟨Hhk.out, Below.refl _ _⟩
  · by_cases hx : x = 45
    · subst hx; exact readLong_i_neg r (by simp at hl; omega) w
    · have e : longOf (x :: r) = longV 1 (x :: r) := if_neg (by simpa using hx)
      rw [e]
      exact readLong_i_pos (x :: r) hl (by simp) hx w

open Classical in
noncomputable def numV (s : Int) (D : List UInt8) : Int := if D.length < 12 ∧ ∀ b ∈ D, isDig b = true then s * digVal D else 0
theorem num_no {s : Int} {D : List UInt8} (h : ¬ (D.length < 12 ∧ ∀ b ∈ D, isDig b = true)) : Ending.returned (.int .i64 0) = .returned (.int .i64 (numV s D)) := by unfold numV; rw [if_neg h]
theorem num_yes {s v : Int} {D : List UInt8} (h : D.length < 12 ∧ ∀ b ∈ D, isDig b = true) (hv : v = s * digVal D) : Ending.returned (.int .i64 v) = .returned (.int .i64 (numV s D)) := by unfold numV; rw [if_pos h, hv]

theorem l2Num_s_neg (D : List UInt8) (hl : D.length ≤ 1048576) (w : World) :
    Calls Try.prog 81 #[.string ⟨(45 :: D).toArray⟩] w (RetB (.int .i64 (numV (-1) D)) w) := by
  go_enter Try.func81, Try.ntmps81
  go_wp2_with fail
  go_loop [3, 5] (fun n i => ∃ k : Nat, k ≤ D.length ∧ i = .int .i64 k ∧ n = .int .i64 (digVal (D.take k)) ∧ (∀ b ∈ D.take k, isDig b = true) ∧ (0 < k → D.length < 12)) (fun _ i => D.length - (intOf i).toNat)
  case atStart => exact ⟨0, Nat.zero_le _, rfl, rfl, fun b hb => by simp at hb, fun h => by omega⟩
  case round =>
    obtain ⟨k, hk, rfl, rfl, hall, h12⟩ := hrel
    by_cases hlt : k < D.length
    · have g0 : (k : Int) < (D.length : Int) := by omega
      by_cases h9 : D.length < 12
      · have g9 : (D.length : Int) < 12 := by omega
        have hv := digVal_take hlt
        have b1 := digVal_lt 12 (D.take k) (by simp; omega)
        have hnx := dig_of_mem hall hlt
        have hmem : D[k] ∈ D := List.getElem_mem hlt
        obtain ⟨b, hb⟩ : ∃ b, D[k] = b := ⟨_, rfl⟩
        have hb8 := b.toNat_lt
        rw [hb] at hv hnx hmem
        generalize hf : digVal (D.take k) = f at *
        clear hf
        by_cases h1 : (b.toNat : Int) < 48
        · have hk := num_no (s := (-1)) (D := D) (fun hh => absurd (hh.2 b hmem) (by rw [isDig_no (by omega)]; decide))
          have d1 : decide ((b.toNat : Int) < 48) = true := by rw [decide_eq_true_eq]; omega
          have Hhk := Lib.hid hk; clear hk; have Hhv := Lib.hid hv; clear hv; have Hhall := Lib.hid hall; clear hall; have Hhnx := Lib.hid hnx; clear hnx; have Hhmem := Lib.hid hmem; clear hmem; have Hh12 := Lib.hid h12; clear h12
          go_wp2_with fail
          go_ret
          exact ⟨Hhk.out, Below.refl _ _⟩
        · have d1 : decide ((b.toNat : Int) < 48) = false := by rw [decide_eq_false_iff_not]; omega
          by_cases h2 : (57 : Int) < b.toNat
          · have hk := num_no (s := (-1)) (D := D) (fun hh => absurd (hh.2 b hmem) (by rw [isDig_no (by omega)]; decide))
            have d2 : decide ((57 : Int) < (b.toNat : Int)) = true := by rw [decide_eq_true_eq]; omega
            have Hhk := Lib.hid hk; clear hk; have Hhv := Lib.hid hv; clear hv; have Hhall := Lib.hid hall; clear hall; have Hhnx := Lib.hid hnx; clear hnx; have Hhmem := Lib.hid hmem; clear hmem; have Hh12 := Lib.hid h12; clear h12
            go_wp2_with fail
            go_ret
            exact ⟨Hhk.out, Below.refl _ _⟩
          · have d2 : decide ((57 : Int) < (b.toNat : Int)) = false := by rw [decide_eq_false_iff_not]; omega
            have hd := isDig_yes (b := b) (by omega) (by omega)
            rw [if_pos hd] at hv
            have hn2 := hnx hd
            have Hhv := Lib.hid hv; clear hv; have Hhall := Lib.hid hall; clear hall; have Hhnx := Lib.hid hnx; clear hnx; have Hhmem := Lib.hid hmem; clear hmem; have Hhd := Lib.hid hd; clear hd; have Hhn2 := Lib.hid hn2; clear hn2; have Hh12 := Lib.hid h12; clear h12
            go_wp2_with fail
            go_round
            case rel => exact ⟨k + 1, by omega, by go_num, by rw [Hhv.out]; go_num, Hhn2.out, fun _ => h9⟩
            case measure => simp [intOf] <;> omega
      · have g9 : ¬ (D.length : Int) < 12 := by omega
        obtain rfl : k = 0 := by
          rcases Nat.eq_zero_or_pos k with h | h
          · exact h
          · exact absurd (h12 h) h9
        have hk := num_no (s := (-1)) (D := D) (fun hh => h9 hh.1)
        rw [show digVal (D.take 0) = 0 by simp [digVal]] at *
        have Hhk := Lib.hid hk; clear hk; have Hhall := Lib.hid hall; clear hall; have Hh12 := Lib.hid h12; clear h12
        go_wp2_with fail
        go_ret
        exact ⟨Hhk.out, Below.refl _ _⟩
    · obtain rfl : k = D.length := by omega
      have g0 : ¬ (D.length : Int) < (D.length : Int) := by omega
      rw [List.take_length] at *
      have h9 : D.length < 12 := by
        rcases Nat.eq_zero_or_pos D.length with h | h
        · omega
        · exact h12 h
      have b1 := digVal_lt 12 D (by omega)
      have hyes := num_yes (s := (-1)) (D := D) (v := -(digVal D : Int)) ⟨h9, hall⟩ (by omega)
      generalize hf : digVal D = f at *
      clear hf
      have Hhyes := Lib.hid hyes; clear hyes; have Hhall := Lib.hid hall; clear hall; have Hh12 := Lib.hid h12; clear h12
      go_wp2_with fail
      go_ret
      exact ⟨Hhyes.out, Below.refl _ _⟩

theorem l2Num_s_pos (D : List UInt8) (hl : D.length ≤ 1048576) (h0 : 0 < D.length) (hx : ¬ D[0] = 45) (w : World) :
    Calls Try.prog 81 #[.string ⟨D.toArray⟩] w (RetB (.int .i64 (numV 1 D)) w) := by
  have d0 : ((D[0].toNat : Int) == 45) = false := by
    rw [beq_eq_false_iff_ne]; intro h; exact hx (UInt8.toNat_inj.1 (by simp; omega))
  have d01 : (0 : Int) < (D.length : Int) := by omega
  have Hhx := Lib.hid hx; clear hx
  go_enter Try.func81, Try.ntmps81
  go_wp2_with fail
  clear d0 d01
  go_loop [3, 5] (fun n i => ∃ k : Nat, k ≤ D.length ∧ i = .int .i64 k ∧ n = .int .i64 (digVal (D.take k)) ∧ (∀ b ∈ D.take k, isDig b = true) ∧ (0 < k → D.length < 12)) (fun _ i => D.length - (intOf i).toNat)
  case atStart => exact ⟨0, Nat.zero_le _, rfl, rfl, fun b hb => by simp at hb, fun h => by omega⟩
  case round =>
    obtain ⟨k, hk, rfl, rfl, hall, h12⟩ := hrel
    by_cases hlt : k < D.length
    · have g0 : (k : Int) < (D.length : Int) := by omega
      by_cases h9 : D.length < 12
      · have g9 : (D.length : Int) < 12 := by omega
        have hv := digVal_take hlt
        have b1 := digVal_lt 12 (D.take k) (by simp; omega)
        have hnx := dig_of_mem hall hlt
        have hmem : D[k] ∈ D := List.getElem_mem hlt
        obtain ⟨b, hb⟩ : ∃ b, D[k] = b := ⟨_, rfl⟩
        have hb8 := b.toNat_lt
        rw [hb] at hv hnx hmem
        generalize hf : digVal (D.take k) = f at *
        clear hf
        by_cases h1 : (b.toNat : Int) < 48
        · have hk := num_no (s := 1) (D := D) (fun hh => absurd (hh.2 b hmem) (by rw [isDig_no (by omega)]; decide))
          have d1 : decide ((b.toNat : Int) < 48) = true := by rw [decide_eq_true_eq]; omega
          have Hhk := Lib.hid hk; clear hk; have Hhv := Lib.hid hv; clear hv; have Hhall := Lib.hid hall; clear hall; have Hhnx := Lib.hid hnx; clear hnx; have Hhmem := Lib.hid hmem; clear hmem; have Hh12 := Lib.hid h12; clear h12
          go_wp2_with fail
          go_ret
          exact ⟨Hhk.out, Below.refl _ _⟩
        · have d1 : decide ((b.toNat : Int) < 48) = false := by rw [decide_eq_false_iff_not]; omega
          by_cases h2 : (57 : Int) < b.toNat
          · have hk := num_no (s := 1) (D := D) (fun hh => absurd (hh.2 b hmem) (by rw [isDig_no (by omega)]; decide))
            have d2 : decide ((57 : Int) < (b.toNat : Int)) = true := by rw [decide_eq_true_eq]; omega
            have Hhk := Lib.hid hk; clear hk; have Hhv := Lib.hid hv; clear hv; have Hhall := Lib.hid hall; clear hall; have Hhnx := Lib.hid hnx; clear hnx; have Hhmem := Lib.hid hmem; clear hmem; have Hh12 := Lib.hid h12; clear h12
            go_wp2_with fail
            go_ret
            exact ⟨Hhk.out, Below.refl _ _⟩
          · have d2 : decide ((57 : Int) < (b.toNat : Int)) = false := by rw [decide_eq_false_iff_not]; omega
            have hd := isDig_yes (b := b) (by omega) (by omega)
            rw [if_pos hd] at hv
            have hn2 := hnx hd
            have Hhv := Lib.hid hv; clear hv; have Hhall := Lib.hid hall; clear hall; have Hhnx := Lib.hid hnx; clear hnx; have Hhmem := Lib.hid hmem; clear hmem; have Hhd := Lib.hid hd; clear hd; have Hhn2 := Lib.hid hn2; clear hn2; have Hh12 := Lib.hid h12; clear h12
            go_wp2_with fail
            go_round
            case rel => exact ⟨k + 1, by omega, by go_num, by rw [Hhv.out]; go_num, Hhn2.out, fun _ => h9⟩
            case measure => simp [intOf] <;> omega
      · have g9 : ¬ (D.length : Int) < 12 := by omega
        obtain rfl : k = 0 := by
          rcases Nat.eq_zero_or_pos k with h | h
          · exact h
          · exact absurd (h12 h) h9
        have hk := num_no (s := 1) (D := D) (fun hh => h9 hh.1)
        rw [show digVal (D.take 0) = 0 by simp [digVal]] at *
        have Hhk := Lib.hid hk; clear hk; have Hhall := Lib.hid hall; clear hall; have Hh12 := Lib.hid h12; clear h12
        go_wp2_with fail
        go_ret
        exact ⟨Hhk.out, Below.refl _ _⟩
    · obtain rfl : k = D.length := by omega
      have g0 : ¬ (D.length : Int) < (D.length : Int) := by omega
      rw [List.take_length] at *
      have h9 : D.length < 12 := by
        rcases Nat.eq_zero_or_pos D.length with h | h
        · omega
        · exact h12 h
      have b1 := digVal_lt 12 D (by omega)
      have hyes := num_yes (s := 1) (D := D) (v := (digVal D : Int)) ⟨h9, hall⟩ (by omega)
      generalize hf : digVal D = f at *
      clear hf
      have Hhyes := Lib.hid hyes; clear hyes; have Hhall := Lib.hid hall; clear hall; have Hh12 := Lib.hid h12; clear h12
      go_wp2_with fail
      go_ret
      exact ⟨Hhyes.out, Below.refl _ _⟩

noncomputable def numOf (l : List UInt8) : Int := if l.head? = some 45 then numV (-1) l.tail else numV 1 l
theorem l2Num_s (l : List UInt8) (hl : l.length ≤ 1048576) (w : World) : Calls Try.prog 81 #[.string ⟨l.toArray⟩] w (RetB (.int .i64 (numOf l)) w) := by
  rcases l with _ | ⟨x, r⟩
  · have hk : Ending.returned (.int .i64 0) = .returned (.int .i64 (numOf [])) := num_yes (s := 1) (D := []) (v := 0) ⟨by simp, fun b hb => by simp at hb⟩ (by simp [digVal])
    have Hhk := Lib.hid hk; clear hk
    go_enter Try.func81, Try.ntmps81
    go_wp2_with fail
    go_loop [3, 5] (fun n i => n = .int .i64 0 ∧ i = .int .i64 0) (fun _ _ => 0)
    case atStart => exact ⟨rfl, rfl⟩
    case round =>
      obtain ⟨rfl, rfl⟩ := hrel
      go_wp2_with fail
      go_ret
      exact ⟨Hhk.out, Below.refl _ _⟩
  · by_cases hx : x = 45
    · subst hx; exact l2Num_s_neg r (by simp at hl; omega) w
    · have e : numOf (x :: r) = numV 1 (x :: r) := if_neg (by simpa using hx)
      rw [e]
      exact l2Num_s_pos (x :: r) hl (by simp) hx w

end Go.Proofs.Ytkhphjapefijbaa
