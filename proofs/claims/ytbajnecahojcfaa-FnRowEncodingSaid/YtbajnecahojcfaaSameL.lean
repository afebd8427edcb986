/- Rows compared by the laws. (Written by mkrowenc.py.) -/
import Derived.Test.YtbajnecahojcfaaRow
import Derived.Test.YtbajnecahojcfaaRelL
namespace Go.Proofs.Ytbajnecahojcfaa
open Go.RowKit Go.Sort
set_option maxHeartbeats 2000000
set_option maxRecDepth 100000
theorem sameInts_l (a b : Value) (l1 l2 : List Int) (w : World) (ha : IRow w a l1) (hb : IRow w b l2) :
    Calls Try.prog 44 #[a, b] w (RetB (.bool (l1 == l2)) w) := by
  have n1 := VRow.len ha
  have n2 := VRow.len hb
  rw [List.length_map] at n1 n2
  obtain ⟨A, c, rfl, -, -, -, hA⟩ := IRow.open ha
  obtain ⟨A', c', rfl, -, -, -, hC⟩ := IRow.open hb
  clear ha hb
  by_cases hn : l1.length = l2.length
  rotate_left
  · have e : (l1 == l2) = false := by rw [beq_eq_false_iff_ne]; intro h; exact hn (by rw [h])
    have d1 : ((l1.length : Int) != (l2.length : Int)) = true := by rw [bne_iff_ne]; omega
    have d2 : (l1.length != l2.length) = true := by rw [bne_iff_ne]; exact hn
    rw [e]
    have Hhn := Lib.hid hn; clear hn; have HhA := Lib.hid hA; clear hA; have HhC := Lib.hid hC; clear hC; have He := Lib.hid e; clear e
    go_enter Try.func44, Try.ntmps44
    go_wp2_with fail
    go_ret
    exact ⟨rfl, Below.refl _ _⟩
  have d1 : ((l1.length : Int) != (l2.length : Int)) = false := by simp [hn]
  have d2 : (l1.length != l2.length) = false := by simp [hn]
  have HhA := Lib.hid hA; clear hA; have HhC := Lib.hid hC; clear hC; have Hhn := Lib.hid hn; clear hn
  go_enter Try.func44, Try.ntmps44
  go_wp2_with fail
  clear d1 d2
  go_loopw [5] (fun i wr => ∃ k : Nat, i = .int .i64 k ∧ k ≤ l1.length ∧ l1.take k = l2.take k ∧ Below w.heap.size w wr) (fun i _ => l1.length - (intOf i).toNat)
  case atStart => exact ⟨0, rfl, Nat.zero_le _, rfl, Below.refl _ _⟩
  case round =>
    obtain ⟨k, rfl, hk, ht, hb⟩ := hrel
    by_cases hlt : k < l1.length
    · have hlt2 : k < l2.length := by rw [← Hhn.out]; exact hlt
      have g0 : (k : Int) < (l1.length : Int) := by omega
      have g1 : (k : Int) < (l2.length : Int) := by omega
      obtain ⟨b, off, rfl, h1⟩ := HhA.out k hlt
      obtain ⟨b', off', rfl, h2⟩ := HhC.out k hlt2
      have c1 := cellB hb (h1 k hlt)
      have c2 := cellB hb (h2 k hlt2)
      clear h1 h2
      obtain ⟨x, hx⟩ : ∃ x, l1[k] = x := ⟨_, rfl⟩
      obtain ⟨y, hy⟩ : ∃ y, l2[k] = y := ⟨_, rfl⟩
      rw [hx] at c1
      rw [hy] at c2
      by_cases he : x = y
      · have h3 := eq_take ht hlt hlt2 (by rw [hx, hy, he])
        have d3 : (x != y) = false := by rw [he]; simp
        have Hh3 := Lib.hid h3; clear h3; have Hht := Lib.hid ht; clear ht; have Hhx := Lib.hid hx; clear hx; have Hhy := Lib.hid hy; clear hy
        go_wp2_with fail
        go_quiet (fail)
        go_wp2_with fail
        go_roundw
        case rel => exact ⟨k + 1, by go_num, by omega, Hh3.out, below_draws hb _⟩
        case measure => simp [intOf] <;> omega
      · have d3 : (x != y) = true := by rw [bne_iff_ne]; exact he
        have e : (l1 == l2) = false := by rw [beq_eq_false_iff_ne]; rintro rfl; exact he (hx.symm.trans hy)
        have Hht := Lib.hid ht; clear ht; have Hhx := Lib.hid hx; clear hx; have Hhy := Lib.hid hy; clear hy; have Hhe := Lib.hid he; clear he; have He := Lib.hid e; clear e
        go_wp2_with fail
        go_quiet (fail)
        go_wp2_with fail
        go_ret
        exact ⟨by rw [He.out]; rfl, below_draws hb _⟩
    · obtain rfl : k = l1.length := by omega
      have g0 : ¬ (l1.length : Int) < (l1.length : Int) := by omega
      have e : (l1 == l2) = true := by
        rw [List.take_length, Hhn.out, List.take_length] at ht
        rw [beq_iff_eq]; exact ht
      have Hht := Lib.hid ht; clear ht; have He := Lib.hid e; clear e
      go_wp2_with fail
      go_ret
      exact ⟨by rw [He.out]; rfl, hb⟩
end Go.Proofs.Ytbajnecahojcfaa
