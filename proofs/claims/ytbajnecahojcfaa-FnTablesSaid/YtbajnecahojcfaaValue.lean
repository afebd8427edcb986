/- EncodeValue, DecodeValue, both. -/
import Derived.Test.YtbajnecahojcfaaNum
namespace Go.Proofs.Ytbajnecahojcfaa
open Go.RowKit
set_option maxHeartbeats 400000
set_option maxRecDepth 100000

def encVal (v : Int) : List UInt8 := if 0 ≤ v ∧ v ≤ 99 then [UInt8.ofNat (v + 1).toNat] else []
def decOk (l : List UInt8) (i : Int) : Bool := decide (0 ≤ i ∧ i < l.length ∧ 1 ≤ (l.getD i.toNat 0).toNat ∧ (l.getD i.toNat 0).toNat ≤ 100)
def decVal (l : List UInt8) (i : Int) : Int := if decOk l i then ((l.getD i.toNat 0).toNat : Int) - 1 else 0
theorem ret_two {k : IntKind} {a b : Int} {x y : Bool} (h : a = b) (h' : x = y) : Ending.returned (.tuple #[.int k a, .bool x]) = .returned (.tuple #[.int k b, .bool y]) := by rw [h, h']

theorem EncodeValue_i (v : Int) (w : World) : Calls Try.prog 45 #[.int .i64 v] w (RetB (.string ⟨(encVal v).toArray⟩) w) := by
  by_cases h : 0 ≤ v ∧ v ≤ 99
  · rw [show encVal v = [UInt8.ofNat (v + 1).toNat] from if_pos h]
    have h1 : 0 ≤ v := h.1
    have h2 : v ≤ 99 := h.2
    clear h
    have hown := World.ownsRow_lit (e := 5) (base := w.heap.size) (size := 1) w #[.int .u8 (v + 1)] 1 (Nat.le_refl _) (by decide) rfl
    have hl : #[Value.int .u8 (v + 1)].toList = [UInt8.ofNat (v + 1).toNat].map byteV := by simp [byteV]; omega
    rw [hl] at hown
    clear hl
    go_enter Try.func45, Try.ntmps45
    go_wp2_with (first
      | (go_at_call 96; ((with_reducible refine (within_yes _ _ _ (by omega) _).mono ?_); rintro e w' ⟨rfl, rfl⟩))
      | ((with_reducible show wpList _ _ _ _ _ _); refine wp_bytes_string hown rfl _ rfl rfl ?_))
    go_ret
    exact ⟨rfl, (Below.refl _ _).alloc (Nat.le_refl _) _⟩
  · rw [show encVal v = [] from if_neg h]
    go_enter Try.func45, Try.ntmps45
    go_wp2_with (go_at_call 96; ((with_reducible refine (within_no _ _ _ h _).mono ?_); rintro e w' ⟨rfl, rfl⟩))
    go_ret
    exact ⟨rfl, Below.refl _ _⟩

theorem DecodeValue_i (l : List UInt8) (hl : l.length ≤ 1048576) (i : Int) (w : World) :
    Calls Try.prog 43 #[.string ⟨l.toArray⟩, .int .i64 i] w (Ret (.tuple #[.int .i64 (decVal l i), .bool (decOk l i)]) w) := by
  by_cases h : 0 ≤ i ∧ i < l.length
  · obtain ⟨k, rfl⟩ := Int.eq_ofNat_of_zero_le h.1
    have hk : k < l.length := by omega
    have hk' : (k : Int) < (l.length : Int) := h.2
    obtain ⟨b, hb⟩ : ∃ b, l[k] = b := ⟨_, rfl⟩
    have hg : l.getD ((k : Nat) : Int).toNat 0 = b := by simp [hk, hb]
    have hb8 := b.toNat_lt
    by_cases h2 : 0 ≤ (b.toNat : Int) - 1 ∧ (b.toNat : Int) - 1 ≤ 99
    · have e1 : decOk l (k : Int) = true := by unfold decOk; rw [hg, decide_eq_true_eq]; omega
      have e2 : decVal l (k : Int) = (b.toNat : Int) - 1 := by unfold decVal; rw [if_pos e1, hg]
      rw [e1, e2]
      clear e1 e2 hg
      go_enter Try.func43, Try.ntmps43
      go_wp2_with (first
        | (go_at_call 96; ((with_reducible refine (within_yes _ _ _ (by omega) _).mono ?_); rintro e w' ⟨rfl, rfl⟩)))
      go_ret2
      exact ⟨rfl, rfl⟩
    · have e1 : decOk l (k : Int) = false := by unfold decOk; rw [hg, decide_eq_false_iff_not]; omega
      have e2 : decVal l (k : Int) = 0 := by unfold decVal; rw [if_neg (by rw [e1]; decide)]
      rw [e1, e2]
      clear e1 e2 hg
      go_enter Try.func43, Try.ntmps43
      go_wp2_with (first
        | (go_at_call 96; ((with_reducible refine (within_yes (k : Int) 0 _ (by omega) _).mono ?_); rintro e w' ⟨rfl, rfl⟩))
        | (go_at_call 96; ((with_reducible refine (within_no _ _ _ h2 _).mono ?_); rintro e w' ⟨rfl, rfl⟩)))
      go_ret2
      exact ⟨rfl, rfl⟩
  · have e1 : decOk l i = false := by unfold decOk; rw [decide_eq_false_iff_not]; omega
    have e2 : decVal l i = 0 := by unfold decVal; rw [if_neg (by rw [e1]; decide)]
    rw [e1, e2]
    clear e1 e2
    go_enter Try.func43, Try.ntmps43
    go_wp2_with (first
      | (go_at_call 96; ((with_reducible refine (within_no _ _ _ (by omega) _).mono ?_); rintro e w' ⟨rfl, rfl⟩)))
    go_ret2
    exact ⟨rfl, rfl⟩
theorem EncodeValue_s (v : Int) (w : World) : Calls Try.prog 98 #[.int .i64 v] w (RetB (.string ⟨(encVal v).toArray⟩) w) := by
  by_cases h : 0 ≤ v ∧ v ≤ 99
  · rw [show encVal v = [UInt8.ofNat (v + 1).toNat] from if_pos h]
    have h1 : 0 ≤ v := h.1
    have h2 : v ≤ 99 := h.2
    clear h
    have hown := World.ownsRow_lit (e := 5) (base := w.heap.size) (size := 1) w #[.int .u8 (v + 1)] 1 (Nat.le_refl _) (by decide) rfl
    have hl : #[Value.int .u8 (v + 1)].toList = [UInt8.ofNat (v + 1).toNat].map byteV := by simp [byteV]; omega
    rw [hl] at hown
    clear hl
    go_enter Try.func98, Try.ntmps98
    go_wp2_with (first
      | (go_at_call 95; ((with_reducible refine (l1In_yes _ _ _ (by omega) _).mono ?_); rintro e w' ⟨rfl, rfl⟩))
      | ((with_reducible show wpList _ _ _ _ _ _); refine wp_bytes_string hown rfl _ rfl rfl ?_))
    go_ret
    exact ⟨rfl, (Below.refl _ _).alloc (Nat.le_refl _) _⟩
  · rw [show encVal v = [] from if_neg h]
    go_enter Try.func98, Try.ntmps98
    go_wp2_with (go_at_call 95; ((with_reducible refine (l1In_no _ _ _ h _).mono ?_); rintro e w' ⟨rfl, rfl⟩))
    go_ret
    exact ⟨rfl, Below.refl _ _⟩

theorem DecodeValue_s (l : List UInt8) (hl : l.length ≤ 1048576) (i : Int) (w : World) :
    Calls Try.prog 99 #[.string ⟨l.toArray⟩, .int .i64 i] w (Ret (.tuple #[.int .i64 (decVal l i), .bool (decOk l i)]) w) := by
  by_cases h : 0 ≤ i ∧ i < l.length
  · obtain ⟨k, rfl⟩ := Int.eq_ofNat_of_zero_le h.1
    have hk : k < l.length := by omega
    have hk' : (k : Int) < (l.length : Int) := h.2
    obtain ⟨b, hb⟩ : ∃ b, l[k] = b := ⟨_, rfl⟩
    have hg : l.getD ((k : Nat) : Int).toNat 0 = b := by simp [hk, hb]
    have hb8 := b.toNat_lt
    by_cases h2 : 0 ≤ (b.toNat : Int) - 1 ∧ (b.toNat : Int) - 1 ≤ 99
    · have e1 : decOk l (k : Int) = true := by unfold decOk; rw [hg, decide_eq_true_eq]; omega
      have e2 : decVal l (k : Int) = (b.toNat : Int) - 1 := by unfold decVal; rw [if_pos e1, hg]
      rw [e1, e2]
      clear e1 e2 hg
      go_enter Try.func99, Try.ntmps99
      go_wp2_with (first
        | (go_at_call 95; ((with_reducible refine (l1In_yes _ _ _ (by omega) _).mono ?_); rintro e w' ⟨rfl, rfl⟩)))
      go_ret2
      exact ⟨rfl, rfl⟩
    · have e1 : decOk l (k : Int) = false := by unfold decOk; rw [hg, decide_eq_false_iff_not]; omega
      have e2 : decVal l (k : Int) = 0 := by unfold decVal; rw [if_neg (by rw [e1]; decide)]
      rw [e1, e2]
      clear e1 e2 hg
      go_enter Try.func99, Try.ntmps99
      go_wp2_with (first
        | (go_at_call 95; ((with_reducible refine (l1In_yes (k : Int) 0 _ (by omega) _).mono ?_); rintro e w' ⟨rfl, rfl⟩))
        | (go_at_call 95; ((with_reducible refine (l1In_no _ _ _ h2 _).mono ?_); rintro e w' ⟨rfl, rfl⟩)))
      go_ret2
      exact ⟨rfl, rfl⟩
  · have e1 : decOk l i = false := by unfold decOk; rw [decide_eq_false_iff_not]; omega
    have e2 : decVal l i = 0 := by unfold decVal; rw [if_neg (by rw [e1]; decide)]
    rw [e1, e2]
    clear e1 e2
    go_enter Try.func99, Try.ntmps99
    go_wp2_with (first
      | (go_at_call 95; ((with_reducible refine (l1In_no _ _ _ (by omega) _).mono ?_); rintro e w' ⟨rfl, rfl⟩)))
    go_ret2
    exact ⟨rfl, rfl⟩
end Go.Proofs.Ytbajnecahojcfaa
