/- IsValidName, both. -/
import Derived.Test.YtbajnecahojcfaaNum
namespace Go.Proofs.Ytbajnecahojcfaa
open Go.RowKit
set_option maxHeartbeats 400000
set_option maxRecDepth 100000

def letter (b : UInt8) : Bool := decide (97 ≤ b.toNat) && decide (b.toNat ≤ 122)
def lettersB (l : List UInt8) : Bool := l.all letter
def lenB (l : List UInt8) (m : Int) : Bool := decide (1 ≤ l.length ∧ (l.length : Int) ≤ m)
def nameB (l : List UInt8) (m : Int) : Bool := lenB l m && lettersB l
theorem letters_cons {l : List UInt8} {k : Nat} (h : k < l.length) : lettersB (l.drop k) = (letter l[k] && lettersB (l.drop (k + 1))) := by
  rw [List.drop_eq_getElem_cons h]; rfl
theorem letters_end {l : List UInt8} {k : Nat} (h : l.length ≤ k) : lettersB (l.drop k) = true := by rw [List.drop_of_length_le h]; rfl
theorem letter_lo {b : UInt8} (h : (b.toNat : Int) < 97) : letter b = false := by
  unfold letter; rw [Bool.and_eq_false_iff]; left; rw [decide_eq_false_iff_not]; omega
theorem letter_hi {b : UInt8} (h : (122 : Int) < b.toNat) : letter b = false := by
  unfold letter; rw [Bool.and_eq_false_iff]; right; rw [decide_eq_false_iff_not]; omega
theorem letter_in {b : UInt8} (h : (97 : Int) ≤ b.toNat) (h' : (b.toNat : Int) ≤ 122) : letter b = true := by
  unfold letter; rw [Bool.and_eq_true, decide_eq_true_eq, decide_eq_true_eq]; omega

theorem isLetters_i (l : List UInt8) (hl : l.length ≤ 1048576) (m : Int) (w : World) : Calls Try.prog 118 #[.string ⟨l.toArray⟩, .int .i64 m] w (Ret (.bool (nameB l m)) w) := by
  by_cases h : 1 ≤ l.length ∧ (l.length : Int) ≤ m
  · have e : nameB l m = lettersB l := by unfold nameB; rw [show lenB l m = true by unfold lenB; rw [decide_eq_true_eq]; exact h]; rfl
    rw [e]
    clear e
    have d1 : decide ((l.length : Int) < 1) = false := by rw [decide_eq_false_iff_not]; omega
    have d2 : decide (m < (l.length : Int)) = false := by rw [decide_eq_false_iff_not]; omega
    clear h
    go_enter Try.func118, Try.ntmps118
    go_wp2_with fail
    go_loop [5] (fun i => ∃ k : Nat, k ≤ l.length ∧ i = .int .i64 k ∧ lettersB (l.drop k) = lettersB l) (fun i => l.length - (intOf i).toNat)
    case atStart => exact ⟨0, Nat.zero_le _, rfl, rfl⟩
    case round =>
      obtain ⟨k, hk, rfl, hv⟩ := hrel
      by_cases hlt : k < l.length
      · have hkl' : (k : Int) < (l.length : Int) := by omega
        rw [letters_cons hlt] at hv
        obtain ⟨b, hb⟩ : ∃ b, l[k] = b := ⟨_, rfl⟩
        rw [hb] at hv
        have HV := Lib.hid hv
        clear hv
        by_cases h1 : (b.toNat : Int) < 97
        · have d3 : decide ((b.toNat : Int) < 97) = true := by rw [decide_eq_true_eq]; exact h1
          have HL := Lib.hid (letter_lo h1)
          clear h1
          go_wp2_with fail
          go_ret
          exact ⟨ret_bool (by rw [← HV.out, HL.out]; rfl), rfl⟩
        · have d3 : decide ((b.toNat : Int) < 97) = false := by rw [decide_eq_false_iff_not]; exact h1
          by_cases h2 : (122 : Int) < b.toNat
          · have d4 : decide ((122 : Int) < (b.toNat : Int)) = true := by rw [decide_eq_true_eq]; exact h2
            have HL := Lib.hid (letter_hi h2)
            clear h1 h2
            go_wp2_with fail
            go_ret
            exact ⟨ret_bool (by rw [← HV.out, HL.out]; rfl), rfl⟩
          · have d4 : decide ((122 : Int) < (b.toNat : Int)) = false := by rw [decide_eq_false_iff_not]; exact h2
            have HL := Lib.hid (letter_in (b := b) (by omega) (by omega))
            clear h1 h2
            go_wp2_with fail
            go_round
            case rel => exact ⟨k + 1, by omega, by go_num, by rw [← HV.out, HL.out, Bool.true_and]⟩
            case measure => simp [intOf] <;> omega
      · rw [letters_end (by omega)] at hv
        have HV := Lib.hid hv
        clear hv
        go_wp2_with fail
        go_ret
        exact ⟨ret_bool HV.out, rfl⟩
  · have e : nameB l m = false := by unfold nameB; rw [show lenB l m = false by unfold lenB; rw [decide_eq_false_iff_not]; exact h]; rfl
    rw [e]
    clear e
    by_cases h1 : l.length = 0
    · have d1 : decide ((l.length : Int) < 1) = true := by rw [decide_eq_true_eq]; omega
      clear h h1
      go_enter Try.func118, Try.ntmps118
      go_wp2_with fail
      go_ret
      exact ⟨rfl, rfl⟩
    · have d1 : decide ((l.length : Int) < 1) = false := by rw [decide_eq_false_iff_not]; omega
      have d2 : decide (m < (l.length : Int)) = true := by rw [decide_eq_true_eq]; omega
      clear h h1
      go_enter Try.func118, Try.ntmps118
      go_wp2_with fail
      go_ret
      exact ⟨rfl, rfl⟩

theorem IsValidName_i (l : List UInt8) (hl : l.length ≤ 1048576) (w : World) : Calls Try.prog 58 #[.string ⟨l.toArray⟩] w (Ret (.bool (nameB l 4)) w) := by
  go_enter Try.func58, Try.ntmps58
  go_wp2_with (go_at_call 118; ((with_reducible refine (isLetters_i _ hl _ _).mono ?_); rintro e w' ⟨rfl, rfl⟩))
  go_ret
  exact ⟨rfl, rfl⟩

theorem IsValidName_s (l : List UInt8) (hl : l.length ≤ 1048576) (w : World) : Calls Try.prog 137 #[.string ⟨l.toArray⟩] w (Ret (.bool (nameB l 4)) w) := by
  have hN : nameB l 4 = (inR l.length 1 4 && lettersB l) := by
    unfold nameB lenB inR; congr 1; rw [Bool.eq_iff_iff]; simp; omega
  rw [hN]
  clear hN
  go_enter Try.func137, Try.ntmps137
  go_wp2_with fail
  go_loop [3] (fun i => ∃ k : Nat, k ≤ l.length ∧ i = .int .i64 k ∧ lettersB (l.drop k) = lettersB l) (fun i => l.length - (intOf i).toNat)
  case atStart => exact ⟨0, Nat.zero_le _, rfl, rfl⟩
  case round =>
    obtain ⟨k, hk, rfl, hv⟩ := hrel
    by_cases hlt : k < l.length
    · have hkl' : (k : Int) < (l.length : Int) := by omega
      rw [letters_cons hlt] at hv
      obtain ⟨b, hb⟩ : ∃ b, l[k] = b := ⟨_, rfl⟩
      rw [hb] at hv
      have HV := Lib.hid hv
      clear hv
      by_cases h1 : (b.toNat : Int) < 97
      · have d3 : decide ((b.toNat : Int) < 97) = true := by rw [decide_eq_true_eq]; exact h1
        have HL := Lib.hid (letter_lo h1)
        clear h1
        go_wp2_with fail
        go_ret
        exact ⟨ret_bool (by rw [← HV.out, HL.out, Bool.false_and, Bool.and_false]), rfl⟩
      · have d3 : decide ((b.toNat : Int) < 97) = false := by rw [decide_eq_false_iff_not]; exact h1
        by_cases h2 : (122 : Int) < b.toNat
        · have d4 : decide ((122 : Int) < (b.toNat : Int)) = true := by rw [decide_eq_true_eq]; exact h2
          have HL := Lib.hid (letter_hi h2)
          clear h1 h2
          go_wp2_with fail
          go_ret
          exact ⟨ret_bool (by rw [← HV.out, HL.out, Bool.false_and, Bool.and_false]), rfl⟩
        · have d4 : decide ((122 : Int) < (b.toNat : Int)) = false := by rw [decide_eq_false_iff_not]; exact h2
          have HL := Lib.hid (letter_in (b := b) (by omega) (by omega))
          clear h1 h2
          go_wp2_with fail
          go_round
          case rel => exact ⟨k + 1, by omega, by go_num, by rw [← HV.out, HL.out, Bool.true_and]⟩
          case measure => simp [intOf] <;> omega
    · rw [letters_end (by omega)] at hv
      have HV := Lib.hid hv
      clear hv
      go_wp2_with (go_at_call 95; ((with_reducible refine (l1In_any _ _ _ _).mono ?_); rintro e w' ⟨rfl, rfl⟩))
      go_ret
      exact ⟨ret_bool (by rw [← HV.out, Bool.and_true]), rfl⟩

end Go.Proofs.Ytbajnecahojcfaa
