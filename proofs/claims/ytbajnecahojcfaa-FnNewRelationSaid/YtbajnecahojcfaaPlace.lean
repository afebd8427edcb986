/- The search, both. -/
import Derived.Test.YtbajnecahojcfaaRow
import Derived.Test.YtbajnecahojcfaaRelL
namespace Go.Proofs.Ytbajnecahojcfaa
open Go.RowKit Go.Sort
set_option maxHeartbeats 2000000
set_option maxRecDepth 100000
theorem half_nat {lo hi : Nat} : ((lo : Int) + (hi : Int)).tdiv 2 = (((lo + hi) / 2 : Nat) : Int) := by
  rw [Int.tdiv_eq_ediv_of_nonneg (by omega)]; omega
theorem plB_short {m : List (List Int)} {row : List Int} (h : ¬ plc m row < m.length) : plB m row = false := by
  unfold plB; rw [show decide (plc m row < m.length) = false by rw [decide_eq_false_iff_not]; exact h]; rfl
theorem plB_at {m : List (List Int)} {row : List Int} (h : plc m row < m.length) : plB m row = (cmpRow m[plc m row] row == 0) := by
  unfold plB; rw [show decide (plc m row < m.length) = true by rw [decide_eq_true_eq]; exact h, getD_at h]
  rw [Bool.eq_iff_iff]; simp
theorem plc_of {m : List (List Int)} {row : List Int} {lo hi : Nat} (h : bs m row lo hi = plc m row) (he : ¬ lo < hi) : plc m row = lo := by rw [← h, bs_end he]

theorem place_i (v u : Value) (m : List (List Int)) (row : List Int) (w : World) (hv : MRow w v m) (hu : IRow w u row) (hm : m.length ≤ 1099511627776) : Calls Try.prog 127 #[v, u] w (RetB (.tuple #[.int .i64 (plc m row), .bool (plB m row)]) w) := by
  obtain ⟨A, c, rfl, -, -, -, hA⟩ := MRow.open hv
  have hu2 := hu
  obtain ⟨A', c', rfl, -⟩ := IRow.open hu
  clear hv hu
  have HhA := Lib.hid hA; clear hA; have Hhu2 := Lib.hid hu2; clear hu2
  go_enter Try.func127, Try.ntmps127
  go_wp2_with fail
  go_loopw [6, 7] (fun x y wr => ∃ lo hi : Nat, x = .int .i64 lo ∧ y = .int .i64 hi ∧ lo ≤ hi ∧ hi ≤ m.length ∧ bs m row lo hi = plc m row ∧ Below w.heap.size w wr) (fun x y _ => (intOf y).toNat - (intOf x).toNat)
  case atStart => exact ⟨0, m.length, rfl, rfl, Nat.zero_le _, Nat.le_refl _, rfl, Below.refl _ _⟩
  case round =>
    obtain ⟨lo, hi, rfl, rfl, hlh, hhi, hbs, hb⟩ := hrel
    have hu3 := Hhu2.out.below hb
    by_cases hlt : lo < hi
    · have g0 : (lo : Int) < (hi : Int) := by omega
      have hk : (lo + hi) / 2 < m.length := by omega
      have hq := half_nat (lo := lo) (hi := hi)
      obtain ⟨b, off, rfl, h1⟩ := HhA.out _ hk
      obtain ⟨A1, q1, c1, r1⟩ := h1 _ hk
      replace r1 := r1.below hb
      replace c1 := cellB hb c1
      clear h1
      by_cases hc : cmpRow m[(lo + hi) / 2] row < 0
      · have e := (bs_up hlt hk hc).symm.trans hbs
        have k1 := fun W (h : IRow W (.slice A1 m[(lo + hi) / 2].length q1) m[(lo + hi) / 2]) h' => CompareRows_i (.slice A1 m[(lo + hi) / 2].length q1) (.slice A' row.length c') m[(lo + hi) / 2] row W h h'
        generalize cmpRow m[(lo + hi) / 2] row = z at *
        generalize m[(lo + hi) / 2] = r at *
        have hk2 : (lo + hi) / 2 + 1 ≤ hi := by omega
        have hk3 : lo < (lo + hi) / 2 + 1 := by omega
        generalize (lo + hi) / 2 = k at *
        have Hr1 := Lib.hid r1; clear r1; have Hhu3 := Lib.hid hu3; clear hu3; have He := Lib.hid e; clear e; have Hhbs := Lib.hid hbs; clear hbs; have Hk1 := Lib.hid k1; clear k1
        go_wp2_with (go_at_call 32; ((with_reducible refine (Hk1.out _ Hr1.out Hhu3.out).mono ?_); rintro e w2 ⟨rfl, hb2⟩))
        go_roundw
        case rel => exact ⟨k + 1, hi, by go_num, rfl, hk2, hhi, He.out, hb.trans (hb2.mono hb.size)⟩
        case measure => simp [intOf] <;> omega
      · have e := (bs_down hlt hk hc).symm.trans hbs
        have k1 := fun W (h : IRow W (.slice A1 m[(lo + hi) / 2].length q1) m[(lo + hi) / 2]) h' => CompareRows_i (.slice A1 m[(lo + hi) / 2].length q1) (.slice A' row.length c') m[(lo + hi) / 2] row W h h'
        generalize cmpRow m[(lo + hi) / 2] row = z at *
        generalize m[(lo + hi) / 2] = r at *
        have hk2 : lo ≤ (lo + hi) / 2 := by omega
        have hk3 : (lo + hi) / 2 < hi := by omega
        generalize (lo + hi) / 2 = k at *
        have Hr1 := Lib.hid r1; clear r1; have Hhu3 := Lib.hid hu3; clear hu3; have He := Lib.hid e; clear e; have Hhbs := Lib.hid hbs; clear hbs; have Hk1 := Lib.hid k1; clear k1
        go_wp2_with (go_at_call 32; ((with_reducible refine (Hk1.out _ Hr1.out Hhu3.out).mono ?_); rintro e w2 ⟨rfl, hb2⟩))
        go_roundw
        case rel => exact ⟨lo, k, rfl, rfl, hk2, by omega, He.out, hb.trans (hb2.mono hb.size)⟩
        case measure => simp [intOf] <;> omega
    · have g0 : ¬ (lo : Int) < (hi : Int) := by omega
      have hp := plc_of hbs hlt
      by_cases hin : lo < m.length
      · have g1 : (lo : Int) < (m.length : Int) := by omega
        have e : plB m row = (cmpRow m[lo] row == 0) := by have := plB_at (m := m) (row := row) (by omega); rw [this]; simp only [hp]
        obtain ⟨b, off, rfl, h1⟩ := HhA.out _ hin
        obtain ⟨A1, q1, c1, r1⟩ := h1 _ hin
        replace r1 := r1.below hb
        replace c1 := cellB hb c1
        clear h1
        have k1 := fun W (h : IRow W (.slice A1 m[lo].length q1) m[lo]) h' => CompareRows_i (.slice A1 m[lo].length q1) (.slice A' row.length c') m[lo] row W h h'
        generalize cmpRow m[lo] row = z at *
        generalize m[lo] = r at *
        have Hr1 := Lib.hid r1; clear r1; have Hhu3 := Lib.hid hu3; clear hu3; have He := Lib.hid e; clear e; have Hhbs := Lib.hid hbs; clear hbs; have Hk1 := Lib.hid k1; clear k1; have Hhp := Lib.hid hp; clear hp
        go_wp2_with (go_at_call 32; ((with_reducible refine (Hk1.out _ Hr1.out Hhu3.out).mono ?_); rintro e w2 ⟨rfl, hb2⟩))
        go_ret2
        exact ⟨by rw [Hhp.out, He.out]; rfl, hb.trans (hb2.mono hb.size)⟩
      · have g1 : ¬ (lo : Int) < (m.length : Int) := by omega
        have e := plB_short (m := m) (row := row) (by omega)
        have Hhu3 := Lib.hid hu3; clear hu3; have He := Lib.hid e; clear e; have Hhbs := Lib.hid hbs; clear hbs; have Hhp := Lib.hid hp; clear hp
        go_wp2_with fail
        go_ret2
        exact ⟨by rw [Hhp.out, He.out]; rfl, hb⟩
theorem l5Place_s (v u : Value) (ar : Int) (m : List (List Int)) (row : List Int) (w : World) (hv : MRow w v m) (hu : IRow w u row) (hm : m.length ≤ 1099511627776) : Calls Try.prog 126 #[.agg #[.int .i64 ar, v], u] w (RetB (.tuple #[.int .i64 (plc m row), .bool (plB m row)]) w) := by
  have y0 := heap_alloc_new w (.cells #[.int .i64 ar, v] 44)
  replace hv := hv.alloc (.cells #[.int .i64 ar, v] 44)
  replace hu := hu.alloc (.cells #[.int .i64 ar, v] 44)
  have hB : Below w.heap.size w (w.alloc (.cells #[.int .i64 ar, v] 44)) := (Below.refl _ _).alloc (Nat.le_refl _) _
  obtain ⟨A, c, rfl, -, -, -, hA⟩ := MRow.open hv
  have hu2 := hu
  obtain ⟨A', c', rfl, -⟩ := IRow.open hu
  clear hv hu
  have HhA := Lib.hid hA; clear hA; have Hhu2 := Lib.hid hu2; clear hu2; have Hy0 := Lib.hid y0; clear y0; have HhB := Lib.hid hB; clear hB
  go_enter Try.func126, Try.ntmps126
  go_wp2_with fail
  generalize w.alloc (.cells #[.int .i64 ar, .slice A m.length c] 44) = w0 at *
  go_loopw [6, 7] (fun x y wr => ∃ lo hi : Nat, x = .int .i64 lo ∧ y = .int .i64 hi ∧ lo ≤ hi ∧ hi ≤ m.length ∧ bs m row lo hi = plc m row ∧ Below w0.heap.size w0 wr) (fun x y _ => (intOf y).toNat - (intOf x).toNat)
  case atStart => exact ⟨0, m.length, rfl, rfl, Nat.zero_le _, Nat.le_refl _, rfl, Below.refl _ _⟩
  case round =>
    obtain ⟨lo, hi, rfl, rfl, hlh, hhi, hbs, hb⟩ := hrel
    have hu3 := Hhu2.out.below hb
    have t1 := cellAt (blockB hb Hy0.out) 1
    by_cases hlt : lo < hi
    · have g0 : (lo : Int) < (hi : Int) := by omega
      have hk : (lo + hi) / 2 < m.length := by omega
      have hq := half_nat (lo := lo) (hi := hi)
      obtain ⟨b, off, rfl, h1⟩ := HhA.out _ hk
      obtain ⟨A1, q1, c1, r1⟩ := h1 _ hk
      replace r1 := r1.below hb
      replace c1 := cellB hb c1
      clear h1
      by_cases hc : cmpRow m[(lo + hi) / 2] row < 0
      · have e := (bs_up hlt hk hc).symm.trans hbs
        have k1 := fun W (h : IRow W (.slice A1 m[(lo + hi) / 2].length q1) m[(lo + hi) / 2]) h' => CompareRows_s (.slice A1 m[(lo + hi) / 2].length q1) (.slice A' row.length c') m[(lo + hi) / 2] row W h h'
        generalize cmpRow m[(lo + hi) / 2] row = z at *
        generalize m[(lo + hi) / 2] = r at *
        have hk2 : (lo + hi) / 2 + 1 ≤ hi := by omega
        have hk3 : lo < (lo + hi) / 2 + 1 := by omega
        generalize (lo + hi) / 2 = k at *
        have Hr1 := Lib.hid r1; clear r1; have Hhu3 := Lib.hid hu3; clear hu3; have He := Lib.hid e; clear e; have Hhbs := Lib.hid hbs; clear hbs; have Hk1 := Lib.hid k1; clear k1
        go_wp2_with (go_at_call 31; ((with_reducible refine (Hk1.out _ Hr1.out Hhu3.out).mono ?_); rintro e w2 ⟨rfl, hb2⟩))
        go_roundw
        case rel => exact ⟨k + 1, hi, by go_num, rfl, hk2, hhi, He.out, hb.trans (hb2.mono hb.size)⟩
        case measure => simp [intOf] <;> omega
      · have e := (bs_down hlt hk hc).symm.trans hbs
        have k1 := fun W (h : IRow W (.slice A1 m[(lo + hi) / 2].length q1) m[(lo + hi) / 2]) h' => CompareRows_s (.slice A1 m[(lo + hi) / 2].length q1) (.slice A' row.length c') m[(lo + hi) / 2] row W h h'
        generalize cmpRow m[(lo + hi) / 2] row = z at *
        generalize m[(lo + hi) / 2] = r at *
        have hk2 : lo ≤ (lo + hi) / 2 := by omega
        have hk3 : (lo + hi) / 2 < hi := by omega
        generalize (lo + hi) / 2 = k at *
        have Hr1 := Lib.hid r1; clear r1; have Hhu3 := Lib.hid hu3; clear hu3; have He := Lib.hid e; clear e; have Hhbs := Lib.hid hbs; clear hbs; have Hk1 := Lib.hid k1; clear k1
        go_wp2_with (go_at_call 31; ((with_reducible refine (Hk1.out _ Hr1.out Hhu3.out).mono ?_); rintro e w2 ⟨rfl, hb2⟩))
        go_roundw
        case rel => exact ⟨lo, k, rfl, rfl, hk2, by omega, He.out, hb.trans (hb2.mono hb.size)⟩
        case measure => simp [intOf] <;> omega
    · have g0 : ¬ (lo : Int) < (hi : Int) := by omega
      have hp := plc_of hbs hlt
      by_cases hin : lo < m.length
      · have g1 : (lo : Int) < (m.length : Int) := by omega
        have e : plB m row = (cmpRow m[lo] row == 0) := by have := plB_at (m := m) (row := row) (by omega); rw [this]; simp only [hp]
        obtain ⟨b, off, rfl, h1⟩ := HhA.out _ hin
        obtain ⟨A1, q1, c1, r1⟩ := h1 _ hin
        replace r1 := r1.below hb
        replace c1 := cellB hb c1
        clear h1
        have k1 := fun W (h : IRow W (.slice A1 m[lo].length q1) m[lo]) h' => CompareRows_s (.slice A1 m[lo].length q1) (.slice A' row.length c') m[lo] row W h h'
        generalize cmpRow m[lo] row = z at *
        generalize m[lo] = r at *
        have Hr1 := Lib.hid r1; clear r1; have Hhu3 := Lib.hid hu3; clear hu3; have He := Lib.hid e; clear e; have Hhbs := Lib.hid hbs; clear hbs; have Hk1 := Lib.hid k1; clear k1; have Hhp := Lib.hid hp; clear hp
        go_wp2_with (go_at_call 31; ((with_reducible refine (Hk1.out _ Hr1.out Hhu3.out).mono ?_); rintro e w2 ⟨rfl, hb2⟩))
        go_ret2
        exact ⟨by rw [Hhp.out, He.out]; rfl, below_tr HhB.out (hb.trans (hb2.mono hb.size))⟩
      · have g1 : ¬ (lo : Int) < (m.length : Int) := by omega
        have e := plB_short (m := m) (row := row) (by omega)
        have Hhu3 := Lib.hid hu3; clear hu3; have He := Lib.hid e; clear e; have Hhbs := Lib.hid hbs; clear hbs; have Hhp := Lib.hid hp; clear hp
        go_wp2_with fail
        go_ret2
        exact ⟨by rw [Hhp.out, He.out]; rfl, below_tr HhB.out (hb)⟩
end Go.Proofs.Ytbajnecahojcfaa
