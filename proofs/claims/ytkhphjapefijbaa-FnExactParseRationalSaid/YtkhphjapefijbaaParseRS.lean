/- ParseRational, the reference's. (Written by mkparsers.py.) -/
import Derived.Test.YtkhphjapefijbaaParseR
namespace Go.Proofs.Ytkhphjapefijbaa
open Go.RowKit Go.Sort
set_option maxHeartbeats 2000000
set_option maxRecDepth 100000

theorem spl_single {c : UInt8} : ∀ (r cur x : List UInt8), spl c cur r = [x] → x = cur ++ r
  | [], cur, x, h => by simp [spl] at h; simp [h]
  | b :: r, cur, x, h => by
    unfold spl at h
    split at h
    · have := (List.cons.inj h).2
      have h2 := spl_pos c r []
      rw [this] at h2; simp at h2
    · have := spl_single r _ x h
      simp [this]
theorem txt_none {l : List UInt8} (hn : ∀ b ∈ l, ¬ b = 47) {n d : Int} (h : IsTxt l n d) : n = numOf l ∧ d = 1 := by
  have R := rvalid_range' h.1
  have hs : splitL 47 l = [l] := spl_none l [] hn
  rcases h.cases with ⟨e1, e, _⟩ | ⟨_, e2⟩
  · exact ⟨by rw [e, numOf_fmt (by omega)], e1⟩
  · have := hs.symm.trans e2; simp at this
theorem txt_cut {a b : List UInt8} (hn : ∀ x ∈ a, ¬ x = 47) {n d : Int} (h : IsTxt (a ++ [47] ++ b) n d) : n = numOf a ∧ d = numOf b := by
  have R := rvalid_range' h.1
  have hs : splitL 47 (a ++ [47] ++ b) = a :: splitL 47 b := spl_one a [] b hn
  rcases h.cases with ⟨_, _, e2⟩ | ⟨_, e2⟩
  · have := (List.cons.inj (hs.symm.trans e2)).2
    have h2 := spl_pos 47 b []
    rw [show spl 47 [] b = [] from this] at h2; simp at h2
  · have h1 := List.cons.inj (hs.symm.trans e2)
    have h2 := spl_single b [] _ h1.2
    rw [h1.1, List.nil_append] at *
    rw [← h2]
    exact ⟨(numOf_fmt (by omega)).symm, (numOf_fmt (by omega)).symm⟩
theorem no47_take {l : List UInt8} {k : Nat} (h : ∀ b ∈ l.take k, ¬ b = 47) (hk : k < l.length) (hb : ¬ l[k] = 47) : ∀ b ∈ l.take (k + 1), ¬ b = 47 := by
  intro b hm
  rw [List.take_succ_eq_append_getElem hk, List.mem_append, List.mem_singleton] at hm
  rcases hm with hm | rfl
  · exact h b hm
  · exact hb
theorem cut_eq {l : List UInt8} {k : Nat} (hk : k < l.length) (hb : l[k] = 47) : l.take k ++ [47] ++ l.drop (k + 1) = l := by
  have : l = l.take k ++ l.drop k := (List.take_append_drop k l).symm
  conv => rhs; rw [this, List.drop_eq_getElem_cons hk, hb]
  simp

theorem ParseRational_s (l : List UInt8) (hl : l.length ≤ 1048576) (w : World) : Calls Try.prog 43 #[.string ⟨l.toArray⟩] w (RetB (parR l) w) := by
  have kf := fun n d W => FormatRational_s n d W
  have Hkf := Lib.hid kf; clear kf
  go_enter Try.func43, Try.ntmps43
  go_wp2_with fail
  go_loop [4] (fun i => ∃ k : Nat, k ≤ l.length ∧ i = .int .i64 k ∧ ∀ b ∈ l.take k, ¬ b = 47) (fun i => l.length - (intOf i).toNat)
  case atStart => exact ⟨0, Nat.zero_le _, rfl, fun b hb => by simp at hb⟩
  case round =>
    obtain ⟨k, hk, rfl, hall⟩ := hrel
    by_cases hlt : k < l.length
    · have g0 : (k : Int) < (l.length : Int) := by omega
      by_cases hb : l[k] = 47
      · -- a slash
        have hcut := cut_eq hlt hb
        have d1 : ((l[k].toNat : Int) != 47) = false := by rw [hb]; rfl
        have d2 : (l[k].toNat != 47) = false := by rw [hb]; rfl
        have k0 := fun W => l2Num_s (l.take k) (by simp; omega) W
        have k1 : ∀ W, Calls Try.prog 81 #[.string ⟨((l.drop (k + 1)).take (l.length - (k + 1))).toArray⟩] W (RetB (.int .i64 (numOf (l.drop (k + 1)))) W) := by
          intro W
          rw [List.take_of_length_le (by simp)]
          exact l2Num_s (l.drop (k + 1)) (by simp; omega) W
        have hx := fun n d (h : IsTxt l n d) => txt_cut (n := n) (d := d) hall (hcut.symm ▸ h)
        have hne : l.isEmpty = false := by cases l with | nil => simp at hlt | cons a b => rfl
        generalize hN : numOf (l.take k) = n at *
        generalize hD : numOf (l.drop (k + 1)) = d at *
        have kf1 := fun W => Hkf.out n d W
        have hlne : l ≠ [] := by rintro rfl; simp at hlt
        clear hN hD
        by_cases he : fmtR n d = l
        · have hk := congrArg Ending.returned (parR_yes (fmtR_valid hlne he)).symm
          have d4 : (fmtR n d == l) = true := by rw [beq_iff_eq]; exact he
          have Hhk := Lib.hid hk; clear hk; have Hkf1 := Lib.hid kf1; clear kf1; have Hk0 := Lib.hid k0; clear k0; have Hk1 := Lib.hid k1; clear k1; have Hhx := Lib.hid hx; clear hx; have Hhe := Lib.hid he; clear he; have Hhcut := Lib.hid hcut; clear hcut; have Hhall := Lib.hid hall; clear hall; have Hhb := Lib.hid hb; clear hb; have Hhlne := Lib.hid hlne; clear hlne
          go_wp2_with (first | (go_at_call 81; ((with_reducible refine (Hk0.out _).mono ?_); rintro e w1 ⟨rfl, hb1⟩; (have yt := blockB hb1 (heapN (heap_alloc_new w (.cells #[.int .i64 0, .int .i64 0] 25)) (.cells #[.int .i64 0, .int .i64 1] 25)); have y5 := blockB hb1 (heap_new1 w (.cells #[.int .i64 0, .int .i64 0] 25) (.cells #[.int .i64 0, .int .i64 1] 25)); have lt := lt_of_heap y5; have u0 := cellAt y5 0; have u1 := cellAt y5 1; have u2 := frozen0 (j := 0) y5; have u3 := frozen0 (j := 1) y5; have y6 := set0 y5 (.int .i64 n); have yz := setO (g := w.heap.size + 1) (j := 0) (by omega) yt (.int .i64 n); have s0 := cellAt y6 0; have s1 := cellAt y6 1; have s2 := frozen0 (j := 0) y6; have s3 := frozen0 (j := 1) y6; have z0 := cellAt yz 0; have z1 := cellAt yz 1; have z2 := frozen0 (j := 0) yz; have z3 := frozen0 (j := 1) yz; have Hy6 := Lib.hid y6; have Hyz := Lib.hid yz; clear y5 y6 yt yz))) | (go_at_call 81; ((with_reducible refine (Hk1.out _).mono ?_); rintro e w3 ⟨rfl, hb3⟩; (clear u0 u1 u2 u3 s0 s1 s2 s3 z0 z1 z2 z3; have y8 := blockB hb3 Hy6.out; have yz8 := blockB hb3 Hyz.out; have u0 := cellAt y8 0; have u1 := cellAt y8 1; have u2 := frozen0 (j := 0) y8; have u3 := frozen0 (j := 1) y8; have y9 := set1 y8 (.int .i64 d); have yz9 := setO (g := w.heap.size + 1) (j := 1) (by omega) yz8 (.int .i64 d); have s0 := cellAt y9 0; have s1 := cellAt y9 1; have s2 := frozen0 (j := 0) y9; have s3 := frozen0 (j := 1) y9; have z0 := cellAt yz9 0; have z1 := cellAt yz9 1; have z2 := frozen0 (j := 0) yz9; have z3 := frozen0 (j := 1) yz9; have Hy9 := Lib.hid y9; have Hyz9 := Lib.hid yz9; clear y8 yz8 y9 yz9))) | (go_at_call 31; ((with_reducible refine (Hkf1.out _).mono ?_); rintro e w4 ⟨rfl, hb4⟩; (clear u0 u1 u2 u3 s0 s1 s2 s3 z0 z1 z2 z3; have y7 := blockB hb4 Hy9.out; have yz7 := blockB hb4 Hyz9.out; have s0 := cellAt y7 0; have s1 := cellAt y7 1; have s2 := frozen0 (j := 0) y7; have s3 := frozen0 (j := 1) y7; have z0 := cellAt yz7 0; have z1 := cellAt yz7 1; have z2 := frozen0 (j := 0) yz7; have z3 := frozen0 (j := 1) yz7; clear y7 yz7))))
          have r0 := setCell_at z0 rfl
          have r1 := setCell_two (u := .int .i64 d) z1
          (try simp only [Exit.inBlock, Exit.then])
          refine bodyPost_ret (v := .tuple #[.agg #[.int .i64 n, .int .i64 d], .bool true]) (by simp [results, Try.results43, go_sem, ratV, r0, r1]) rfl ⟨Hhk.out, ?_⟩
          have hq0 : Below w.heap.size w ((w.alloc (.cells #[.int .i64 0, .int .i64 0] 25)).alloc (.cells #[.int .i64 0, .int .i64 1] 25)) := ((Below.refl _ _).alloc (Nat.le_refl _) _).alloc (by simp) _
          have hq := (hq0.trans (hb1.mono hq0.size)).setCell (p := ⟨w.heap.size + 1, 0, none⟩) (by show w.heap.size ≤ w.heap.size + 1; omega) (.int .i64 n)
          replace hq := hq.trans (hb3.mono hq.size)
          replace hq := hq.setCell (p := ⟨w.heap.size + 1, 1, none⟩) (by show w.heap.size ≤ w.heap.size + 1; omega) (.int .i64 d)
          replace hq := hq.trans (hb4.mono hq.size)
          exact (hq.setCell (Nat.le_refl _) _).setCell (Nat.le_refl _) _
        · have hk := congrArg Ending.returned (parR_no (fun n' d' h => he (by rw [← (hx n' d' h).1, ← (hx n' d' h).2]; exact h.2))).symm
          have d4 : (fmtR n d == l) = false := by rw [beq_eq_false_iff_ne]; exact he
          have Hhk := Lib.hid hk; clear hk; have Hkf1 := Lib.hid kf1; clear kf1; have Hk0 := Lib.hid k0; clear k0; have Hk1 := Lib.hid k1; clear k1; have Hhx := Lib.hid hx; clear hx; have Hhe := Lib.hid he; clear he; have Hhcut := Lib.hid hcut; clear hcut; have Hhall := Lib.hid hall; clear hall; have Hhb := Lib.hid hb; clear hb; have Hhlne := Lib.hid hlne; clear hlne
          go_wp2_with (first | (go_at_call 81; ((with_reducible refine (Hk0.out _).mono ?_); rintro e w1 ⟨rfl, hb1⟩; (have yt := blockB hb1 (heapN (heap_alloc_new w (.cells #[.int .i64 0, .int .i64 0] 25)) (.cells #[.int .i64 0, .int .i64 1] 25)); have y5 := blockB hb1 (heap_new1 w (.cells #[.int .i64 0, .int .i64 0] 25) (.cells #[.int .i64 0, .int .i64 1] 25)); have lt := lt_of_heap y5; have u0 := cellAt y5 0; have u1 := cellAt y5 1; have u2 := frozen0 (j := 0) y5; have u3 := frozen0 (j := 1) y5; have y6 := set0 y5 (.int .i64 n); have yz := setO (g := w.heap.size + 1) (j := 0) (by omega) yt (.int .i64 n); have s0 := cellAt y6 0; have s1 := cellAt y6 1; have s2 := frozen0 (j := 0) y6; have s3 := frozen0 (j := 1) y6; have z0 := cellAt yz 0; have z1 := cellAt yz 1; have z2 := frozen0 (j := 0) yz; have z3 := frozen0 (j := 1) yz; have Hy6 := Lib.hid y6; have Hyz := Lib.hid yz; clear y5 y6 yt yz))) | (go_at_call 81; ((with_reducible refine (Hk1.out _).mono ?_); rintro e w3 ⟨rfl, hb3⟩; (clear u0 u1 u2 u3 s0 s1 s2 s3 z0 z1 z2 z3; have y8 := blockB hb3 Hy6.out; have yz8 := blockB hb3 Hyz.out; have u0 := cellAt y8 0; have u1 := cellAt y8 1; have u2 := frozen0 (j := 0) y8; have u3 := frozen0 (j := 1) y8; have y9 := set1 y8 (.int .i64 d); have yz9 := setO (g := w.heap.size + 1) (j := 1) (by omega) yz8 (.int .i64 d); have s0 := cellAt y9 0; have s1 := cellAt y9 1; have s2 := frozen0 (j := 0) y9; have s3 := frozen0 (j := 1) y9; have z0 := cellAt yz9 0; have z1 := cellAt yz9 1; have z2 := frozen0 (j := 0) yz9; have z3 := frozen0 (j := 1) yz9; have Hy9 := Lib.hid y9; have Hyz9 := Lib.hid yz9; clear y8 yz8 y9 yz9))) | (go_at_call 31; ((with_reducible refine (Hkf1.out _).mono ?_); rintro e w4 ⟨rfl, hb4⟩; (clear u0 u1 u2 u3 s0 s1 s2 s3 z0 z1 z2 z3; have y7 := blockB hb4 Hy9.out; have yz7 := blockB hb4 Hyz9.out; have s0 := cellAt y7 0; have s1 := cellAt y7 1; have s2 := frozen0 (j := 0) y7; have s3 := frozen0 (j := 1) y7; have z0 := cellAt yz7 0; have z1 := cellAt yz7 1; have z2 := frozen0 (j := 0) yz7; have z3 := frozen0 (j := 1) yz7; clear y7 yz7))))
          have r0 := setCell_at z0 rfl
          have r1 := setCell_two (u := .bool false) z1
          (try simp only [Exit.inBlock, Exit.then])
          refine bodyPost_ret (v := .tuple #[ratV 0 0, .bool false]) (by simp [results, Try.results43, go_sem, ratV, r0, r1]) rfl ⟨Hhk.out, ?_⟩
          have hq0 : Below w.heap.size w ((w.alloc (.cells #[.int .i64 0, .int .i64 0] 25)).alloc (.cells #[.int .i64 0, .int .i64 1] 25)) := ((Below.refl _ _).alloc (Nat.le_refl _) _).alloc (by simp) _
          have hq := (hq0.trans (hb1.mono hq0.size)).setCell (p := ⟨w.heap.size + 1, 0, none⟩) (by show w.heap.size ≤ w.heap.size + 1; omega) (.int .i64 n)
          replace hq := hq.trans (hb3.mono hq.size)
          replace hq := hq.setCell (p := ⟨w.heap.size + 1, 1, none⟩) (by show w.heap.size ≤ w.heap.size + 1; omega) (.int .i64 d)
          replace hq := hq.trans (hb4.mono hq.size)
          exact (hq.setCell (Nat.le_refl _) _).setCell (Nat.le_refl _) _
      · have hnx := no47_take hall hlt hb
        have d1 : ((l[k].toNat : Int) != 47) = true := by rw [bne_iff_ne]; intro h; exact hb (UInt8.toNat_inj.1 (by simp; omega))
        have d2 : (l[k].toNat != 47) = true := by rw [bne_iff_ne]; intro h; exact hb (UInt8.toNat_inj.1 (by simp; omega))
        have Hhnx := Lib.hid hnx; clear hnx; have Hhall := Lib.hid hall; clear hall; have Hhb := Lib.hid hb; clear hb
        go_wp2_with fail
        go_round
        case rel => exact ⟨k + 1, by omega, by go_num, Hhnx.out⟩
        case measure => simp [intOf] <;> omega
    · obtain rfl : k = l.length := by omega
      have g0 : ¬ (l.length : Int) < (l.length : Int) := by omega
      rw [List.take_length] at hall
      have k0 := fun W => l2Num_s l hl W
      have hx := fun n d (h : IsTxt l n d) => txt_none (n := n) (d := d) hall h
      have hemp : l = [] → fmtR (numOf l) 1 ≠ l := by
        rintro rfl
        rw [show numOf [] = 0 from by unfold numOf numV; rw [if_neg (by simp), if_pos ⟨by simp, fun b hb => by simp at hb⟩]; simp [digVal]]
        rw [show fmtR 0 1 = fmtInt 0 from by unfold fmtR; rw [if_pos (by decide), if_pos rfl]]
        exact fmt_ne 0
      generalize hN : numOf l = n at *
      have kf1 := fun W => Hkf.out n 1 W
      clear hN
      by_cases he : fmtR n 1 = l
      · have hlne : l ≠ [] := fun h => hemp h he
        have hne : l.isEmpty = false := by cases l with | nil => exact absurd rfl hlne | cons a b => rfl
        have hk := congrArg Ending.returned (parR_yes (fmtR_valid hlne he)).symm
        have d4 : (fmtR n 1 == l) = true := by rw [beq_iff_eq]; exact he
        have Hhk := Lib.hid hk; clear hk; have Hkf1 := Lib.hid kf1; clear kf1; have Hk0 := Lib.hid k0; clear k0; have Hhx := Lib.hid hx; clear hx; have Hhe := Lib.hid he; clear he; have Hhall := Lib.hid hall; clear hall; have Hhlne := Lib.hid hlne; clear hlne; have Hhemp := Lib.hid hemp; clear hemp
        go_wp2_with (first | (go_at_call 81; ((with_reducible refine (Hk0.out _).mono ?_); rintro e w1 ⟨rfl, hb1⟩; (have yt := blockB hb1 (heapN (heap_alloc_new w (.cells #[.int .i64 0, .int .i64 0] 25)) (.cells #[.int .i64 0, .int .i64 1] 25)); have y5 := blockB hb1 (heap_new1 w (.cells #[.int .i64 0, .int .i64 0] 25) (.cells #[.int .i64 0, .int .i64 1] 25)); have lt := lt_of_heap y5; have u0 := cellAt y5 0; have u1 := cellAt y5 1; have u2 := frozen0 (j := 0) y5; have u3 := frozen0 (j := 1) y5; have y6 := set0 y5 (.int .i64 n); have yz := setO (g := w.heap.size + 1) (j := 0) (by omega) yt (.int .i64 n); have s0 := cellAt y6 0; have s1 := cellAt y6 1; have s2 := frozen0 (j := 0) y6; have s3 := frozen0 (j := 1) y6; have z0 := cellAt yz 0; have z1 := cellAt yz 1; have z2 := frozen0 (j := 0) yz; have z3 := frozen0 (j := 1) yz; have Hy6 := Lib.hid y6; have Hyz := Lib.hid yz; clear y5 y6 yt yz))) | (go_at_call 31; ((with_reducible refine (Hkf1.out _).mono ?_); rintro e w3 ⟨rfl, hb3⟩; (clear u0 u1 u2 u3 s0 s1 s2 s3 z0 z1 z2 z3; have y7 := blockB hb3 Hy6.out; have yz7 := blockB hb3 Hyz.out; have s0 := cellAt y7 0; have s1 := cellAt y7 1; have s2 := frozen0 (j := 0) y7; have s3 := frozen0 (j := 1) y7; have z0 := cellAt yz7 0; have z1 := cellAt yz7 1; have z2 := frozen0 (j := 0) yz7; have z3 := frozen0 (j := 1) yz7; clear y7 yz7))))
        have r0 := setCell_at z0 rfl
        have r1 := setCell_two (u := .int .i64 1) z1
        (try simp only [Exit.inBlock, Exit.then])
        refine bodyPost_ret (v := .tuple #[.agg #[.int .i64 n, .int .i64 1], .bool true]) (by simp [results, Try.results43, go_sem, ratV, r0, r1]) rfl ⟨Hhk.out, ?_⟩
        have hq0 : Below w.heap.size w ((w.alloc (.cells #[.int .i64 0, .int .i64 0] 25)).alloc (.cells #[.int .i64 0, .int .i64 1] 25)) := ((Below.refl _ _).alloc (Nat.le_refl _) _).alloc (by simp) _
        have hq := (hq0.trans (hb1.mono hq0.size)).setCell (p := ⟨w.heap.size + 1, 0, none⟩) (by show w.heap.size ≤ w.heap.size + 1; omega) (.int .i64 n)
        replace hq := hq.trans (hb3.mono hq.size)
        exact (hq.setCell (Nat.le_refl _) _).setCell (Nat.le_refl _) _
      · have hk := congrArg Ending.returned (parR_no (fun n' d' h => he (by rw [← (hx n' d' h).1, ← (hx n' d' h).2]; exact h.2))).symm
        have d4 : (fmtR n 1 == l) = false := by rw [beq_eq_false_iff_ne]; exact he
        have Hhk := Lib.hid hk; clear hk; have Hkf1 := Lib.hid kf1; clear kf1; have Hk0 := Lib.hid k0; clear k0; have Hhx := Lib.hid hx; clear hx; have Hhe := Lib.hid he; clear he; have Hhall := Lib.hid hall; clear hall; have Hhemp := Lib.hid hemp; clear hemp
        go_wp2_with (first | (go_at_call 81; ((with_reducible refine (Hk0.out _).mono ?_); rintro e w1 ⟨rfl, hb1⟩; (have yt := blockB hb1 (heapN (heap_alloc_new w (.cells #[.int .i64 0, .int .i64 0] 25)) (.cells #[.int .i64 0, .int .i64 1] 25)); have y5 := blockB hb1 (heap_new1 w (.cells #[.int .i64 0, .int .i64 0] 25) (.cells #[.int .i64 0, .int .i64 1] 25)); have lt := lt_of_heap y5; have u0 := cellAt y5 0; have u1 := cellAt y5 1; have u2 := frozen0 (j := 0) y5; have u3 := frozen0 (j := 1) y5; have y6 := set0 y5 (.int .i64 n); have yz := setO (g := w.heap.size + 1) (j := 0) (by omega) yt (.int .i64 n); have s0 := cellAt y6 0; have s1 := cellAt y6 1; have s2 := frozen0 (j := 0) y6; have s3 := frozen0 (j := 1) y6; have z0 := cellAt yz 0; have z1 := cellAt yz 1; have z2 := frozen0 (j := 0) yz; have z3 := frozen0 (j := 1) yz; have Hy6 := Lib.hid y6; have Hyz := Lib.hid yz; clear y5 y6 yt yz))) | (go_at_call 31; ((with_reducible refine (Hkf1.out _).mono ?_); rintro e w3 ⟨rfl, hb3⟩; (clear u0 u1 u2 u3 s0 s1 s2 s3 z0 z1 z2 z3; have y7 := blockB hb3 Hy6.out; have yz7 := blockB hb3 Hyz.out; have s0 := cellAt y7 0; have s1 := cellAt y7 1; have s2 := frozen0 (j := 0) y7; have s3 := frozen0 (j := 1) y7; have z0 := cellAt yz7 0; have z1 := cellAt yz7 1; have z2 := frozen0 (j := 0) yz7; have z3 := frozen0 (j := 1) yz7; clear y7 yz7))))
        have r0 := setCell_at z0 rfl
        have r1 := setCell_two (u := .bool false) z1
        (try simp only [Exit.inBlock, Exit.then])
        refine bodyPost_ret (v := .tuple #[ratV 0 0, .bool false]) (by simp [results, Try.results43, go_sem, ratV, r0, r1]) rfl ⟨Hhk.out, ?_⟩
        have hq0 : Below w.heap.size w ((w.alloc (.cells #[.int .i64 0, .int .i64 0] 25)).alloc (.cells #[.int .i64 0, .int .i64 1] 25)) := ((Below.refl _ _).alloc (Nat.le_refl _) _).alloc (by simp) _
        have hq := (hq0.trans (hb1.mono hq0.size)).setCell (p := ⟨w.heap.size + 1, 0, none⟩) (by show w.heap.size ≤ w.heap.size + 1; omega) (.int .i64 n)
        replace hq := hq.trans (hb3.mono hq.size)
        exact (hq.setCell (Nat.le_refl _) _).setCell (Nat.le_refl _) _
end Go.Proofs.Ytkhphjapefijbaa
