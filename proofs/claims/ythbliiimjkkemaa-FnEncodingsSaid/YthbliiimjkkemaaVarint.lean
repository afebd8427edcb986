/- EncodeVarint, both. -/
import Derived.Test.YthbliiimjkkemaaNum
namespace Go.Proofs.Ythbliiimjkkemaa
open Go.RowKit

def varint (n : Nat) : List UInt8 := if h : n < 128 then [UInt8.ofNat n] else UInt8.ofNat (n % 128 + 128) :: varint (n / 128)
termination_by n

theorem varint_small {n : Nat} (h : n < 128) : varint n = [UInt8.ofNat n] := by rw [varint, dif_pos h]
theorem varint_big {n : Nat} (h : ¬ n < 128) : varint n = UInt8.ofNat (n % 128 + 128) :: varint (n / 128) := by rw [varint, dif_neg h]
theorem varint_pos (n : Nat) : 1 ≤ (varint n).length := by
  rw [varint]; split <;> simp
theorem varint_len : ∀ (k n : Nat), n < 128 ^ (k + 1) → (varint n).length ≤ k + 1 := by
  intro k
  induction k with
  | zero => intro n h; rw [varint_small (by omega)]; simp
  | succ k ih =>
    intro n h
    by_cases hn : n < 128
    · rw [varint_small hn]; simp
    · rw [varint_big hn]
      have := ih (n / 128) (by rw [Nat.pow_succ] at h; omega)
      simp only [List.length_cons]; omega
theorem varint_len7 {n : Nat} (h : n ≤ 562949953421311) : (varint n).length ≤ 7 := varint_len 6 n (by omega)
def encVarint (n : Int) : List UInt8 := if n < 0 ∨ 562949953421311 < n then [] else varint n.toNat

set_option maxHeartbeats 400000
set_option maxRecDepth 100000
theorem EncodeVarint_i (n : Int) (w : World) : Calls Try.prog 27 #[.int .i64 n] w (RetB (.string ⟨(encVarint n).toArray⟩) w) := by
  by_cases h : n < 0
  · have he : encVarint n = [] := by unfold encVarint; rw [if_pos (.inl h)]
    rw [he]
    go_enter Try.func27, Try.ntmps27
    go_wp2_with fail
    go_ret
    exact ⟨rfl, Below.refl _ _⟩
  · by_cases h2 : 562949953421311 < n
    · have he : encVarint n = [] := by unfold encVarint; rw [if_pos (.inr h2)]
      rw [he]
      go_enter Try.func27, Try.ntmps27
      go_wp2_with fail
      go_ret
      exact ⟨rfl, Below.refl _ _⟩
    · have he : encVarint n = varint n.toNat := by unfold encVarint; rw [if_neg (by omega)]
      rw [he]
      obtain ⟨m0, rfl⟩ := Int.eq_ofNat_of_zero_le (show 0 ≤ n by omega)
      rw [Int.toNat_natCast]
      have hm0 : m0 ≤ 562949953421311 := by omega
      clear he
      go_enter Try.func27, Try.ntmps27
      go_wp2_with fail
      go_loopw [0, 3] (fun a v wr => ∃ (m : Nat) (l : List UInt8), m ≤ m0 ∧ a = .int .i64 m ∧ wr.ownsRow w.heap.size 5 1 v l.length (l.map byteV) ∧ l ++ varint m = varint m0 ∧ Below w.heap.size w wr) (fun a _ _ => (intOf a).toNat)
      case atStart => exact ⟨m0, [], Nat.le_refl _, rfl, World.ownsRow_nil _ _ _ _, rfl, Below.refl _ _⟩
      case round =>
        obtain ⟨m, l, hm, rfl, hown, hv, hb⟩ := hrel
        have hlen : l.length ≤ 7 := by
          have h1 := varint_len7 hm0
          rw [← hv, List.length_append] at h1
          omega
        have HV := Lib.hid hv
        clear hv
        by_cases hlt : m < 128
        · go_wp2_with (first
            | (at_builtin; go_must (refine wp_append_bytes rfl _ _ rfl w.heap.size _ _ _ rfl hown _ [UInt8.ofNat m] (by simp [byteV]; omega) _ _ rfl rfl (by simp; omega) hb.size ?_; intro v1 w1 hown1 hb1))
            | ((with_reducible show wpList _ _ _ _ _ _); refine wp_bytes_string hown1 rfl _ rfl rfl ?_))
          go_ret
          exact ⟨ret_str (by rw [← HV.out, varint_small hlt]), hb.trans hb1⟩
        · go_wp2_with (first
            | (at_builtin; go_must (refine wp_append_bytes rfl _ _ rfl w.heap.size _ _ _ rfl hown _ [UInt8.ofNat (m % 128 + 128)] (by simp [byteV]; omega) _ _ rfl rfl (by simp; omega) hb.size ?_; intro v1 w1 hown1 hb1)))
          go_roundw
          case rel => exact ⟨m / 128, l ++ [UInt8.ofNat (m % 128 + 128)], by omega, by go_num, by simpa using hown1, by rw [← HV.out, varint_big hlt]; simp, hb.trans hb1⟩
          case measure => simp [intOf] <;> omega
theorem EncodeVarint_s (n : Int) (w : World) : Calls Try.prog 26 #[.int .i64 n] w (RetB (.string ⟨(encVarint n).toArray⟩) w) := by
  by_cases h : n < 0
  · have he : encVarint n = [] := by unfold encVarint; rw [if_pos (.inl h)]
    rw [he]
    go_enter Try.func26, Try.ntmps26
    go_wp2_with (go_at_call 42; ((with_reducible refine (l1In_no _ _ _ (by omega) _).mono ?_); rintro e w' ⟨rfl, rfl⟩))
    go_ret
    exact ⟨rfl, Below.refl _ _⟩
  · by_cases h2 : 562949953421311 < n
    · have he : encVarint n = [] := by unfold encVarint; rw [if_pos (.inr h2)]
      rw [he]
      go_enter Try.func26, Try.ntmps26
      go_wp2_with (go_at_call 42; ((with_reducible refine (l1In_no _ _ _ (by omega) _).mono ?_); rintro e w' ⟨rfl, rfl⟩))
      go_ret
      exact ⟨rfl, Below.refl _ _⟩
    · have he : encVarint n = varint n.toNat := by unfold encVarint; rw [if_neg (by omega)]
      rw [he]
      obtain ⟨m0, rfl⟩ := Int.eq_ofNat_of_zero_le (show 0 ≤ n by omega)
      rw [Int.toNat_natCast]
      have hm0 : m0 ≤ 562949953421311 := by omega
      clear he
      go_enter Try.func26, Try.ntmps26
      go_wp2_with (go_at_call 42; ((with_reducible refine (l1In_yes _ _ _ (by omega) _).mono ?_); rintro e w' ⟨rfl, rfl⟩))
      go_loopw [0, 3] (fun a v wr => ∃ (m : Nat) (l : List UInt8), m ≤ m0 ∧ a = .int .i64 m ∧ wr.ownsRow w.heap.size 5 1 v l.length (l.map byteV) ∧ l ++ varint m = varint m0 ∧ Below w.heap.size w wr) (fun a _ _ => (intOf a).toNat)
      case atStart => exact ⟨m0, [], Nat.le_refl _, rfl, World.ownsRow_lit _ _ 0 (Nat.le_refl _) (by decide) rfl, rfl, (Below.refl _ _).alloc (Nat.le_refl _) _⟩
      case round =>
        obtain ⟨m, l, hm, rfl, hown, hv, hb⟩ := hrel
        have hlen : l.length ≤ 7 := by
          have h1 := varint_len7 hm0
          rw [← hv, List.length_append] at h1
          omega
        have HV := Lib.hid hv
        clear hv
        by_cases hlt : m < 128
        · go_wp2_with (first
            | (at_builtin; go_must (refine wp_append_bytes rfl _ _ rfl w.heap.size _ _ _ rfl hown _ [UInt8.ofNat m] (by simp [byteV]; omega) _ _ rfl rfl (by simp; omega) hb.size ?_; intro v1 w1 hown1 hb1))
            | ((with_reducible show wpList _ _ _ _ _ _); refine wp_bytes_string hown1 rfl _ rfl rfl ?_))
          go_ret
          exact ⟨ret_str (by rw [← HV.out, varint_small hlt]), hb.trans hb1⟩
        · go_wp2_with (first
            | (at_builtin; go_must (refine wp_append_bytes rfl _ _ rfl w.heap.size _ _ _ rfl hown _ [UInt8.ofNat (m % 128 + 128)] (by simp [byteV]; omega) _ _ rfl rfl (by simp; omega) hb.size ?_; intro v1 w1 hown1 hb1)))
          go_roundw
          case rel => exact ⟨m / 128, l ++ [UInt8.ofNat (m % 128 + 128)], by omega, by go_num, by simpa using hown1, by rw [← HV.out, varint_big hlt]; simp, hb.trans hb1⟩
          case measure => simp [intOf] <;> omega
end Go.Proofs.Ythbliiimjkkemaa
