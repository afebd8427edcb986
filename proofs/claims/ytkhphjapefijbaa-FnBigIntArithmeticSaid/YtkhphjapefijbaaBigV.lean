/- Big integers: validity; from an int. (Written by mkbigv.py.) -/
import Derived.Test.YtkhphjapefijbaaBig
namespace Go.Proofs.Ytkhphjapefijbaa
open Go.RowKit Go.Sort
set_option maxHeartbeats 1000000
set_option maxRecDepth 100000

def bvalid (l : List Int) : Bool := l.all (fun d => inR d 0 9) && decide (l.length ≤ 60) && (l.getLast? != some 0)
theorem all_take_step {l : List Int} {k : Nat} (hk : k < l.length) (h : (l.take k).all (fun d => inR d 0 9) = true) (hd : inR l[k] 0 9 = true) : (l.take (k + 1)).all (fun d => inR d 0 9) = true := by
  rw [List.take_succ_eq_append_getElem hk, List.all_append, h]
  simp [hd]
theorem bvalid_bad {l : List Int} {k : Nat} (hk : k < l.length) (hd : inR l[k] 0 9 = false) : bvalid l = false := by
  unfold bvalid
  have : l.all (fun d => inR d 0 9) = false := by
    rw [Bool.eq_false_iff]
    intro h
    rw [List.all_eq_true] at h
    rw [h _ (List.getElem_mem hk)] at hd
    cases hd
  rw [this]; rfl
theorem bvalid_long {l : List Int} (h : ¬ l.length ≤ 60) : bvalid l = false := by
  unfold bvalid
  rw [show decide (l.length ≤ 60) = false by rw [decide_eq_false_iff_not]; exact h]
  simp
theorem bvalid_nil : bvalid [] = true := by simp [bvalid]
theorem bvalid_last {l : List Int} (h1 : (l.take l.length).all (fun d => inR d 0 9) = true) (h2 : l.length ≤ 60) (h3 : 0 < l.length) : bvalid l = (l[l.length - 1] != 0) := by
  unfold bvalid
  rw [List.take_length] at h1
  rw [h1, show decide (l.length ≤ 60) = true by rw [decide_eq_true_eq]; exact h2, List.getLast?_eq_getElem?, List.getElem?_eq_getElem (by omega)]
  simp [bne]
theorem bvalid_yes {l : List Int} (h : bvalid l = true) : (∀ d ∈ l, 0 ≤ d ∧ d ≤ 9) ∧ l.length ≤ 60 ∧ l.getLast? ≠ some 0 := by
  unfold bvalid at h
  simp only [Bool.and_eq_true, decide_eq_true_eq, List.all_eq_true, bne_iff_ne] at h
  exact ⟨fun d hd => inR_iff.1 (h.1.1 d hd), h.1.2, h.2⟩

theorem IsValidBigInt_i (v : Value) (l : List Int) (w : World) (hv : IRow w v l) : Calls Try.prog 54 #[.agg #[v]] w (RetB (.bool (bvalid l)) w) := by
  have hlen := VRow.len hv
  rw [List.length_map] at hlen
  have hv2 := hv.alloc (.cells #[v] 46)
  obtain ⟨A, c, rfl, -, -, -, hA⟩ := IRow.open hv2
  have hB : Below w.heap.size w (w.alloc (.cells #[.slice A l.length c] 46)) := (Below.refl _ _).alloc (Nat.le_refl _) _
  clear hv hv2
  have HhA := Lib.hid hA; clear hA; have HhB := Lib.hid hB; clear hB
  go_enter Try.func54, Try.ntmps54
  go_wp2_with fail
  go_loop [12] (fun i => ∃ k : Nat, i = .int .i64 k ∧ k ≤ l.length ∧ (l.take k).all (fun d => inR d 0 9) = true) (fun i => l.length - (intOf i).toNat)
  case atStart => exact ⟨0, rfl, Nat.zero_le _, rfl⟩
  case round =>
    obtain ⟨k, rfl, hk, hall⟩ := hrel
    by_cases hlt : k < l.length
    · have g0 : (k : Int) < (l.length : Int) := by omega
      obtain ⟨b, off, rfl, h1⟩ := HhA.out k hlt
      have c1 := h1 k hlt
      clear h1
      obtain ⟨x, hx⟩ : ∃ x, l[k] = x := ⟨_, rfl⟩
      rw [hx] at c1
      by_cases hd : 0 ≤ x ∧ x ≤ 9
      · have h3 := all_take_step hlt hall (by rw [hx]; exact inR_yes hd)
        have k1 := fun W => within_yes x 0 9 hd W
        have Hh3 := Lib.hid h3; clear h3; have Hhall := Lib.hid hall; clear hall; have Hhx := Lib.hid hx; clear hx; have Hhd := Lib.hid hd; clear hd; have Hk1 := Lib.hid k1; clear k1
        go_wp2_with (go_at_call 70; ((with_reducible refine (Hk1.out _).mono ?_); rintro e w' ⟨rfl, rfl⟩))
        go_round
        case rel => exact ⟨k + 1, by go_num, by omega, Hh3.out⟩
        case measure => simp [intOf] <;> omega
      · have e := bvalid_bad hlt (by rw [hx]; exact inR_no hd)
        have k1 := fun W => within_no x 0 9 hd W
        have Hhall := Lib.hid hall; clear hall; have Hhx := Lib.hid hx; clear hx; have Hhd := Lib.hid hd; clear hd; have Hk1 := Lib.hid k1; clear k1; have He := Lib.hid e; clear e
        go_wp2_with (go_at_call 70; ((with_reducible refine (Hk1.out _).mono ?_); rintro e w' ⟨rfl, rfl⟩))
        go_ret
        exact ⟨by rw [He.out]; rfl, HhB.out⟩
    · obtain rfl : k = l.length := by omega
      have g0 : ¬ (l.length : Int) < (l.length : Int) := by omega
      by_cases h60 : l.length ≤ 60
      rotate_left
      · have e := bvalid_long h60
        have d1 : decide ((l.length : Int) ≤ 60) = false := by rw [decide_eq_false_iff_not]; omega
        have d2 : decide (l.length ≤ 60) = false := by rw [decide_eq_false_iff_not]; exact h60
        have Hhall := Lib.hid hall; clear hall; have He := Lib.hid e; clear e; have Hh60 := Lib.hid h60; clear h60
        go_wp2_with fail
        go_ret
        exact ⟨by rw [He.out]; rfl, HhB.out⟩
      have d1 : decide ((l.length : Int) ≤ 60) = true := by rw [decide_eq_true_eq]; omega
      have d2 : decide (l.length ≤ 60) = true := by rw [decide_eq_true_eq]; exact h60
      by_cases hp : 0 < l.length
      · have e := bvalid_last hall h60 hp
        have d3 : ((l.length : Int) == 0) = false := by rw [beq_eq_false_iff_ne]; omega
        have d4 : (l.length == 0) = false := by rw [beq_eq_false_iff_ne]; omega
        obtain ⟨b, off, rfl, h1⟩ := HhA.out (l.length - 1) (by omega)
        have c1 := h1 (l.length - 1) (by omega)
        have et : ((l.length : Int) - 1).toNat = l.length - 1 := by omega
        obtain ⟨x, hx⟩ : ∃ x, l[l.length - 1] = x := ⟨_, rfl⟩
        rw [hx] at c1 e
        clear h1
        have Hhall := Lib.hid hall; clear hall; have He := Lib.hid e; clear e; have Hhx := Lib.hid hx; clear hx
        go_wp2_with fail
        go_ret
        exact ⟨by rw [He.out]; rfl, HhB.out⟩
      · have hl0 : l = [] := List.length_eq_zero_iff.1 (by omega)
        subst hl0
        have e := bvalid_nil
        have Hhall := Lib.hid hall; clear hall; have He := Lib.hid e; clear e
        go_wp2_with fail
        go_ret
        exact ⟨by rw [He.out]; rfl, HhB.out⟩

theorem IsValidBigInt_s (v : Value) (l : List Int) (w : World) (hv : IRow w v l) : Calls Try.prog 52 #[.agg #[v]] w (RetB (.bool (bvalid l)) w) := by
  have hlen := VRow.len hv
  rw [List.length_map] at hlen
  have hv2 := hv.alloc (.cells #[v] 46)
  obtain ⟨A, c, rfl, -, -, -, hA⟩ := IRow.open hv2
  have hB : Below w.heap.size w (w.alloc (.cells #[.slice A l.length c] 46)) := (Below.refl _ _).alloc (Nat.le_refl _) _
  clear hv hv2
  have HhA := Lib.hid hA; clear hA; have HhB := Lib.hid hB; clear hB
  go_enter Try.func52, Try.ntmps52
  go_wp2_with fail
  go_loop [3] (fun i => ∃ k : Nat, i = .int .i64 k ∧ k ≤ l.length ∧ (l.take k).all (fun d => inR d 0 9) = true) (fun i => l.length - (intOf i).toNat)
  case atStart => exact ⟨0, rfl, Nat.zero_le _, rfl⟩
  case round =>
    obtain ⟨k, rfl, hk, hall⟩ := hrel
    by_cases hlt : k < l.length
    · have g0 : (k : Int) < (l.length : Int) := by omega
      obtain ⟨b, off, rfl, h1⟩ := HhA.out k hlt
      have c1 := h1 k hlt
      clear h1
      obtain ⟨x, hx⟩ : ∃ x, l[k] = x := ⟨_, rfl⟩
      rw [hx] at c1
      by_cases hd : 0 ≤ x ∧ x ≤ 9
      · have h3 := all_take_step hlt hall (by rw [hx]; exact inR_yes hd)
        have k1 := fun W => l1In_yes x 0 9 hd W
        have Hh3 := Lib.hid h3; clear h3; have Hhall := Lib.hid hall; clear hall; have Hhx := Lib.hid hx; clear hx; have Hhd := Lib.hid hd; clear hd; have Hk1 := Lib.hid k1; clear k1
        go_wp2_with (go_at_call 68; ((with_reducible refine (Hk1.out _).mono ?_); rintro e w' ⟨rfl, rfl⟩))
        go_round
        case rel => exact ⟨k + 1, by go_num, by omega, Hh3.out⟩
        case measure => simp [intOf] <;> omega
      · have e := bvalid_bad hlt (by rw [hx]; exact inR_no hd)
        have k1 := fun W => l1In_no x 0 9 hd W
        have Hhall := Lib.hid hall; clear hall; have Hhx := Lib.hid hx; clear hx; have Hhd := Lib.hid hd; clear hd; have Hk1 := Lib.hid k1; clear k1; have He := Lib.hid e; clear e
        go_wp2_with (go_at_call 68; ((with_reducible refine (Hk1.out _).mono ?_); rintro e w' ⟨rfl, rfl⟩))
        go_ret
        exact ⟨by rw [He.out]; rfl, HhB.out⟩
    · obtain rfl : k = l.length := by omega
      have g0 : ¬ (l.length : Int) < (l.length : Int) := by omega
      by_cases h60 : l.length ≤ 60
      rotate_left
      · have e := bvalid_long h60
        have d1 : decide ((l.length : Int) ≤ 60) = false := by rw [decide_eq_false_iff_not]; omega
        have d2 : decide (l.length ≤ 60) = false := by rw [decide_eq_false_iff_not]; exact h60
        have Hhall := Lib.hid hall; clear hall; have He := Lib.hid e; clear e; have Hh60 := Lib.hid h60; clear h60
        go_wp2_with fail
        go_ret
        exact ⟨by rw [He.out]; rfl, HhB.out⟩
      have d1 : decide ((l.length : Int) ≤ 60) = true := by rw [decide_eq_true_eq]; omega
      have d2 : decide (l.length ≤ 60) = true := by rw [decide_eq_true_eq]; exact h60
      by_cases hp : 0 < l.length
      · have e := bvalid_last hall h60 hp
        have d3 : ((l.length : Int) == 0) = false := by rw [beq_eq_false_iff_ne]; omega
        have d4 : (l.length == 0) = false := by rw [beq_eq_false_iff_ne]; omega
        obtain ⟨b, off, rfl, h1⟩ := HhA.out (l.length - 1) (by omega)
        have c1 := h1 (l.length - 1) (by omega)
        have et : ((l.length : Int) - 1).toNat = l.length - 1 := by omega
        obtain ⟨x, hx⟩ : ∃ x, l[l.length - 1] = x := ⟨_, rfl⟩
        rw [hx] at c1 e
        clear h1
        have Hhall := Lib.hid hall; clear hall; have He := Lib.hid e; clear e; have Hhx := Lib.hid hx; clear hx
        go_wp2_with fail
        go_ret
        exact ⟨by rw [He.out]; rfl, HhB.out⟩
      · have hl0 : l = [] := List.length_eq_zero_iff.1 (by omega)
        subst hl0
        have e := bvalid_nil
        have Hhall := Lib.hid hall; clear hall; have He := Lib.hid e; clear e
        go_wp2_with fail
        go_ret
        exact ⟨by rw [He.out]; rfl, HhB.out⟩

end Go.Proofs.Ytkhphjapefijbaa
