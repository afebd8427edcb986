/- The laws' 'at': a byte of the code. -/
import Derived.Test.YtkhphjapefijbaaDraw
namespace Go.Proofs.Ytkhphjapefijbaa
open Go.RowKit Go.Sort
set_option maxHeartbeats 1000000
theorem at_l (v : Value) (bs : List UInt8) (i : Int) (hi : 0 ≤ i ∧ i ≤ 1000) (hl : bs.length ≤ 1048576) (g : Nat) (w : World) (hv : SlB g w v bs) : Calls Try.prog 67 #[v, .int .i64 i] w (fun e w' => ∃ x : Int, e = .returned (.int .i64 x) ∧ (0 ≤ x ∧ x ≤ 255) ∧ w' = w) := by
  obtain ⟨A, c, rfl, hA⟩ := hv
  obtain ⟨k, rfl⟩ : ∃ k : Nat, i = (k : Int) := ⟨i.toNat, by omega⟩
  by_cases hlt : k < bs.length
  · have g0 : (k : Int) < (bs.length : Int) := by omega
    obtain ⟨b, off, rfl, -, h1⟩ := hA k hlt
    have u1 := h1 k hlt
    have hw := wrap_byte bs[k]
    have hb := bs[k].toNat_lt
    clear h1 hA
    obtain ⟨x, hx⟩ : ∃ x : Int, (bs[k].toNat : Int) = x := ⟨_, rfl⟩
    have hx2 : 0 ≤ x ∧ x ≤ 255 := by omega
    rw [hx] at u1 hw
    clear hb
    have Hhx := Lib.hid hx; clear hx
    go_enter Try.func67, Try.ntmps67
    go_wp2_with fail
    go_ret
    exact ⟨x, rfl, hx2, rfl⟩
  · have g0 : ¬ (k : Int) < (bs.length : Int) := by omega
    clear hA
    go_enter Try.func67, Try.ntmps67
    go_wp2_with fail
    go_ret
    exact ⟨_, rfl, by omega, rfl⟩
theorem at_b (v : Value) (bs : List UInt8) (i : Int) (hi : 0 ≤ i ∧ i ≤ 1000) (hl : bs.length ≤ 1048576) (g : Nat) (w : World) (hv : SlB g w v bs) : Calls Try.prog 67 #[v, .int .i64 i] w (fun e w' => ∃ x : Int, e = .returned (.int .i64 x) ∧ (0 ≤ x ∧ x ≤ 255) ∧ Below w.heap.size w w') :=
  (at_l v bs i hi hl g w hv).mono fun _ _ ⟨x, h1, h2, h3⟩ => ⟨x, h1, h2, by rw [h3]; exact Below.refl _ _⟩
end Go.Proofs.Ytkhphjapefijbaa
