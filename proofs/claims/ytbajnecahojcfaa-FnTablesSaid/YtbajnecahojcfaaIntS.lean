/- What the laws do with a slice of numbers: copied, measured, compared, marked, held. -/
import Derived.Test.YtbajnecahojcfaaSl
import Derived.BigQuiet
namespace Go.Proofs.Ytbajnecahojcfaa
open Go.RowKit Go.Sort
set_option maxHeartbeats 1000000
set_option maxRecDepth 100000

theorem below_draws {B : Nat} {a w : World} (h : Below B a w) (n : Nat) : Below B a (w.drewN n) := ⟨h.os, h.tape, h.output, h.size, h.block⟩
theorem szIntS_l (v : Value) (l : List Int) (left : Int) (w : World) (hv : IRow w v l) (hl : 0 ≤ left ∧ left ≤ 1048576) :
    Calls Try.prog 138 #[v, .int .i64 left] w (Ret (.int .i64 (if (l.length : Int) ≤ left then left - l.length else -1)) w) := by
  have hlen := VRow.len hv
  rw [List.length_map] at hlen
  obtain ⟨A, c, rfl, -⟩ := IRow.open hv
  by_cases h : (l.length : Int) ≤ left
  · rw [if_pos h]
    have d1 : decide (left - (l.length : Int) < 0) = false := by rw [decide_eq_false_iff_not]; omega
    have d2 : decide (left < (l.length : Int)) = false := by rw [decide_eq_false_iff_not]; omega
    clear hv
    go_enter Try.func138, Try.ntmps138
    go_wp2_with fail
    go_ret
    exact ⟨rfl, rfl⟩
  · rw [if_neg h]
    have d1 : decide (left - (l.length : Int) < 0) = true := by rw [decide_eq_true_eq]; omega
    have d2 : decide (left < (l.length : Int)) = true := by rw [decide_eq_true_eq]; omega
    clear hv
    go_enter Try.func138, Try.ntmps138
    go_wp2_with fail
    go_ret
    exact ⟨rfl, rfl⟩

theorem eq_take {l1 l2 : List Int} {k : Nat} (h : l1.take k = l2.take k) (h1 : k < l1.length) (h2 : k < l2.length) (he : l1[k] = l2[k]) : l1.take (k + 1) = l2.take (k + 1) := by
  rw [List.take_succ_eq_append_getElem h1, List.take_succ_eq_append_getElem h2, h, he]
theorem eqIntS_l (a b : Value) (l1 l2 : List Int) (w : World) (ha : IRow w a l1) (hb : IRow w b l2) :
    Calls Try.prog 30 #[a, b] w (RetB (.bool (l1 == l2)) w) := by
  have n1 := VRow.len ha
  have n2 := VRow.len hb
  rw [List.length_map] at n1 n2
  obtain ⟨A, c, rfl, -, -, -, hA⟩ := IRow.open ha
  obtain ⟨A', c', rfl, -, -, -, hC⟩ := IRow.open hb
  clear ha hb
  by_cases hn : l1.length = l2.length
  rotate_left
  · have e : (l1 == l2) = false := by rw [beq_eq_false_iff_ne]; intro h; exact hn (by rw [h])
    have d1 : ((l1.length : Int) != (l2.length : Int)) = true := by rw [bne_iff_ne]; omega
    have d2 : (l1.length != l2.length) = true := by rw [bne_iff_ne]; exact hn
    rw [e]
    have Hhn := Lib.hid hn; clear hn; have HhA := Lib.hid hA; clear hA; have HhC := Lib.hid hC; clear hC; have He := Lib.hid e; clear e
    go_enter Try.func30, Try.ntmps30
    go_wp2_with fail
    go_ret
    exact ⟨rfl, Below.refl _ _⟩
  have d1 : ((l1.length : Int) != (l2.length : Int)) = false := by simp [hn]
  have d2 : (l1.length != l2.length) = false := by simp [hn]
  have HhA := Lib.hid hA; clear hA; have HhC := Lib.hid hC; clear hC; have Hhn := Lib.hid hn; clear hn
  go_enter Try.func30, Try.ntmps30
  go_wp2_with fail
  clear d1 d2
  go_loopw [5] (fun i wr => ∃ k : Nat, i = .int .i64 k ∧ k ≤ l1.length ∧ l1.take k = l2.take k ∧ Below w.heap.size w wr) (fun i _ => l1.length - (intOf i).toNat)
  case atStart => exact ⟨0, rfl, Nat.zero_le _, rfl, Below.refl _ _⟩
  case round =>
    obtain ⟨k, rfl, hk, ht, hb⟩ := hrel
    by_cases hlt : k < l1.length
    · have hlt2 : k < l2.length := by rw [← Hhn.out]; exact hlt
      have g0 : (k : Int) < (l1.length : Int) := by omega
      have g1 : (k : Int) < (l2.length : Int) := by omega
      obtain ⟨b, off, rfl, h1⟩ := HhA.out k hlt
      obtain ⟨b', off', rfl, h2⟩ := HhC.out k hlt2
      have c1 := cellB hb (h1 k hlt)
      have c2 := cellB hb (h2 k hlt2)
      clear h1 h2
      obtain ⟨x, hx⟩ : ∃ x, l1[k] = x := ⟨_, rfl⟩
      obtain ⟨y, hy⟩ : ∃ y, l2[k] = y := ⟨_, rfl⟩
      rw [hx] at c1
      rw [hy] at c2
      by_cases he : x = y
      · have h3 := eq_take ht hlt hlt2 (by rw [hx, hy, he])
        have d3 : (x != y) = false := by rw [he]; simp
        have Hh3 := Lib.hid h3; clear h3; have Hht := Lib.hid ht; clear ht; have Hhx := Lib.hid hx; clear hx; have Hhy := Lib.hid hy; clear hy
        go_wp2_with fail
        go_quiet (fail)
        go_wp2_with fail
        go_roundw
        case rel => exact ⟨k + 1, by go_num, by omega, Hh3.out, below_draws hb _⟩
        case measure => simp [intOf] <;> omega
      · have d3 : (x != y) = true := by rw [bne_iff_ne]; exact he
        have e : (l1 == l2) = false := by rw [beq_eq_false_iff_ne]; rintro rfl; exact he (hx.symm.trans hy)
        have Hht := Lib.hid ht; clear ht; have Hhx := Lib.hid hx; clear hx; have Hhy := Lib.hid hy; clear hy; have Hhe := Lib.hid he; clear he; have He := Lib.hid e; clear e
        go_wp2_with fail
        go_quiet (fail)
        go_wp2_with fail
        go_ret
        exact ⟨by rw [He.out]; rfl, below_draws hb _⟩
    · obtain rfl : k = l1.length := by omega
      have g0 : ¬ (l1.length : Int) < (l1.length : Int) := by omega
      have e : (l1 == l2) = true := by
        rw [List.take_length, Hhn.out, List.take_length] at ht
        rw [beq_iff_eq]; exact ht
      have Hht := Lib.hid ht; clear ht; have He := Lib.hid e; clear e
      go_wp2_with fail
      go_ret
      exact ⟨by rw [He.out]; rfl, hb⟩

theorem fill_step {l : List Int} {k : Nat} (hk : k < l.length) : (l.take k ++ List.replicate (l.length - k) 0).set k l[k] = l.take (k + 1) ++ List.replicate (l.length - (k + 1)) 0 := by
  rw [List.set_append_right _ _ (by simp; omega), List.length_take, Nat.min_eq_left (by omega), Nat.sub_self, List.take_succ_eq_append_getElem hk, List.append_assoc]
  congr 1
  rw [show l.length - k = (l.length - (k + 1)) + 1 by omega, List.replicate_succ]
  rfl
theorem toIntS_l (a : Value) (l : List Int) (w : World) (ha : IRow w a l) (hl : l.length ≤ 1048576) :
    Calls Try.prog 28 #[a] w (fun e w' => ∃ v, e = .returned v ∧ OwnI w' w.heap.size v l ∧ Below w.heap.size w w') := by
  obtain ⟨A, c, rfl, -, -, -, hA⟩ := IRow.open ha
  clear ha
  have HhA := Lib.hid hA; clear hA
  go_enter Try.func28, Try.ntmps28
  go_wp2_with (at_make; go_must (refine wp_make_ints rfl _ _ rfl w.heap.size .i64 .i64 _ _ l.length rfl rfl rfl rfl (by omega) (Nat.le_refl _) ?_; intro w1 hown hb1))
  have hown : w1.ownsRow w.heap.size 3 1 (.slice (some ⟨w.heap.size, 0, none⟩) l.length l.length) l.length ((l.take 0 ++ List.replicate (l.length - 0) 0).map intV) := by
    have := hown
    unfold OwnI at this
    rw [List.length_replicate] at this
    simpa using this
  go_loopw [4] (fun i wr => ∃ k : Nat, i = .int .i64 k ∧ k ≤ l.length ∧ wr.ownsRow w.heap.size 3 1 (.slice (some ⟨w.heap.size, 0, none⟩) l.length l.length) l.length ((l.take k ++ List.replicate (l.length - k) 0).map intV) ∧ Below w.heap.size w wr) (fun i _ => l.length - (intOf i).toNat)
  case atStart => exact ⟨0, rfl, Nat.zero_le _, hown, hb1⟩
  case round =>
    clear hown
    obtain ⟨k, rfl, hk, hown, hb⟩ := hrel
    by_cases hlt : k < l.length
    · have g0 : (k : Int) < (l.length : Int) := by omega
      obtain ⟨b, off, rfl, h1⟩ := HhA.out k hlt
      have c1 := cellB hb (h1 k hlt)
      clear h1
      have c2 := ownI_cell hown k (by simp; omega)
      have f2 := hown.frozenAt k
      have h3 := ownI_set hown k l[k]
      rw [fill_step hlt] at h3
      have Hh3 := Lib.hid h3; clear h3; have Hhown := Lib.hid hown; clear hown
      go_wp2_with fail
      go_roundw
      case rel => exact ⟨k + 1, by go_num, by omega, Hh3.out, hb.setCell (Nat.le_refl _) _⟩
      case measure => simp [intOf] <;> omega
    · obtain rfl : k = l.length := by omega
      have g0 : ¬ (l.length : Int) < (l.length : Int) := by omega
      rw [List.take_length, Nat.sub_self, List.replicate_zero, List.append_nil] at hown
      have Hhown := Lib.hid hown; clear hown
      go_wp2_with fail
      go_ret
      exact ⟨_, rfl, Hhown.out, hb⟩

/-- The numbers that a marking lays. -/
def marks (k : Nat) (n : Nat) : List Int := (List.range n).map fun i => ((k + i : Nat) : Int)
theorem marks_len (k n : Nat) : (marks k n).length = n := by simp [marks]
theorem marks_get {k n i : Nat} (h : i < (marks k n).length) : (marks k n)[i] = ((k + i : Nat) : Int) := by simp [marks]
theorem mark_step {k n i : Nat} {l : List Int} (hn : l.length = n) (hi : i < n) : ((marks k n).take i ++ l.drop i).set i ((k + i : Nat) : Int) = (marks k n).take (i + 1) ++ l.drop (i + 1) := by
  rw [List.set_append_right _ _ (by simp [marks_len]; omega), List.length_take, marks_len, Nat.min_eq_left (by omega), Nat.sub_self, List.take_succ_eq_append_getElem (by rw [marks_len]; exact hi), marks_get, List.append_assoc]
  congr 1
  rw [List.drop_eq_getElem_cons (by omega)]
  rfl
theorem grown_stored {w w1 : World} {g j : Nat} (h : w.grownBy w1 (some g)) (u : Value) : w.grownBy (w1.setCell ⟨g, j, none⟩ u) (some g) :=
  ⟨h.os, h.tape, h.output, by simpa [World.setCell] using h.size, fun i hi hr => (Below.heap_setCell w1 ⟨g, j, none⟩ u i (by intro e; exact hr (by rw [e]))).trans (h.block i hi hr)⟩
theorem markIntS_l (v : Value) (l : List Int) (k : Nat) (B : Nat) (w : World) (hv : OwnI w B v l) (hk : k ≤ 1099511627776) (hl : l.length ≤ 1099511627776) :
    Calls Try.prog 37 #[v, .int .i64 (k : Int)] w (fun e w' => e = .returned (.int .i64 ((k + l.length : Nat) : Int)) ∧ OwnI w' B v (marks k l.length) ∧ w.grownBy w' v.ownBlock) := by
  by_cases h0 : l = []
  · subst h0
    obtain ⟨A, c, e, -⟩ := IRow.open hv.row
    have hg := World.grownBy.refl w v.ownBlock
    subst e
    have Hhv := Lib.hid hv; clear hv; have Hhg := Lib.hid hg; clear hg
    go_enter Try.func37, Try.ntmps37
    go_wp2_with fail
    go_loop [1, 5] (fun x i => x = .int .i64 k ∧ i = .int .i64 0) (fun _ _ => 0)
    case atStart => exact ⟨rfl, rfl⟩
    case round =>
      obtain ⟨rfl, rfl⟩ := hrel
      go_wp2_with fail
      go_ret
      exact ⟨rfl, Hhv.out, Hhg.out⟩
  have hp : 0 < l.length := by cases l with | nil => exact absurd rfl h0 | cons a t => simp
  obtain ⟨g, cap, rfl, hBg, hgl, hle, hcap, -⟩ := own_open hv (by simpa using hp)
  show Calls _ _ _ _ (fun e w' => _ ∧ _ ∧ w.grownBy w' (some g))
  go_enter Try.func37, Try.ntmps37
  go_wp2_with fail
  go_loopw [1, 5] (fun x i wr => ∃ j : Nat, x = .int .i64 ((k + j : Nat) : Int) ∧ i = .int .i64 j ∧ j ≤ l.length ∧ wr.ownsRow B 3 1 (.slice (some ⟨g, 0, none⟩) l.length cap) l.length (((marks k l.length).take j ++ l.drop j).map intV) ∧ w.grownBy wr (some g)) (fun _ i _ => l.length - (intOf i).toNat)
  case atStart => exact ⟨0, rfl, rfl, Nat.zero_le _, by simpa using hv, World.grownBy.refl _ _⟩
  case round =>
    clear hv
    obtain ⟨j, rfl, rfl, hj, hown, hG⟩ := hrel
    have ek : ((k + j : Nat) : Int) = (k : Int) + (j : Int) := by omega
    by_cases hlt : j < l.length
    · have g0 : (j : Int) < (l.length : Int) := by omega
      have c2 := ownI_cell hown j (by simp [marks_len]; omega)
      have f2 := hown.frozenAt j
      have h3 := ownI_set hown j ((k + j : Nat) : Int)
      rw [mark_step rfl hlt, ek] at h3
      rw [ek]
      clear ek
      have Hh3 := Lib.hid h3; clear h3; have Hhown := Lib.hid hown; clear hown
      go_wp2_with fail
      go_roundw
      case rel => exact ⟨j + 1, by first | (congr 1; done) | (congr 1; omega), by go_num, by omega, Hh3.out, grown_stored hG _⟩
      case measure => simp [intOf] <;> omega
    · obtain rfl : j = l.length := by omega
      have g0 : ¬ (l.length : Int) < (l.length : Int) := by omega
      rw [List.drop_length, List.append_nil, List.take_of_length_le (by rw [marks_len]; exact Nat.le_refl _)] at hown
      clear ek
      have hownf : OwnI wr B (.slice (some ⟨g, 0, none⟩) l.length cap) (marks k l.length) := by unfold OwnI; rw [marks_len]; exact hown
      have Hhown := Lib.hid hown; clear hown
      go_wp2_with fail
      go_ret
      exact ⟨rfl, hownf, hG⟩
theorem heldIntS_l (v : Value) (k n : Nat) (w : World) (hv : IRow w v (marks k n)) (hk : k ≤ 1099511627776) (hl : n ≤ 1099511627776) :
    Calls Try.prog 38 #[v, .int .i64 (k : Int)] w (Ret (.int .i64 ((k + n : Nat) : Int)) w) := by
  obtain ⟨A, c, rfl, -, -, -, hA⟩ := IRow.open hv
  rw [marks_len] at *
  clear hv
  have HhA := Lib.hid hA; clear hA
  go_enter Try.func38, Try.ntmps38
  go_wp2_with fail
  go_loop [1, 5] (fun x i => ∃ j : Nat, x = .int .i64 ((k + j : Nat) : Int) ∧ i = .int .i64 j ∧ j ≤ n) (fun _ i => n - (intOf i).toNat)
  case atStart => exact ⟨0, rfl, rfl, Nat.zero_le _⟩
  case round =>
    obtain ⟨j, rfl, rfl, hj⟩ := hrel
    have ek : ((k + j : Nat) : Int) = (k : Int) + (j : Int) := by omega
    by_cases hlt : j < n
    · have g0 : (j : Int) < (n : Int) := by omega
      obtain ⟨b, off, rfl, h1⟩ := HhA.out j (by rw [marks_len]; exact hlt)
      have c1 := h1 j (by rw [marks_len]; exact hlt)
      rw [marks_get, ek] at c1
      rw [ek]
      clear h1 ek
      go_wp2_with fail
      go_round
      case rel => exact ⟨j + 1, by first | (congr 1; done) | (congr 1; omega), by go_num, by omega⟩
      case measure => simp [intOf] <;> omega
    · obtain rfl : j = n := by omega
      have g0 : ¬ (j : Int) < (j : Int) := by omega
      clear ek
      go_wp2_with fail
      go_ret
      exact ⟨rfl, rfl⟩
end Go.Proofs.Ytbajnecahojcfaa
