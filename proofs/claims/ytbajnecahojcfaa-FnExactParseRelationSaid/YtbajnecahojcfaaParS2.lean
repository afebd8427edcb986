/- ParseRelation, the reference's. (Written by mkpars.py.) -/
import Derived.Test.YtbajnecahojcfaaParS
namespace Go.Proofs.Ytbajnecahojcfaa
open Go.RowKit Go.Sort
set_option maxHeartbeats 8000000
set_option maxRecDepth 100000
theorem bodyT_two (a b : List UInt8) : bodyT [a, b] = bodyS b := rfl
theorem bodyT_len {a : List UInt8} {t : List (List UInt8)} (h : (a :: t).length ≠ 2) : bodyT (a :: t) = [] := by
  match t, h with
  | [], _ => rfl
  | [b], h => exact absurd rfl h
  | b :: c :: t, _ => rfl
theorem bodyS_nil : bodyS [] = [] := rfl
theorem bodyS_ne {b : List UInt8} (h : b ≠ []) : bodyS b = (splitL 32 b).map wordS := by unfold bodyS; rw [if_neg h]
theorem ParseRelation_s (l : List UInt8) (hl : l.length ≤ 1048576) (w : World) : Calls Try.prog 46 #[.string ⟨l.toArray⟩] w (RetP l w) := by
  have y0 := heap_alloc_new w (.cells #[.int .i64 0, .slice none 0 0] 44)
  have hB : Below w.heap.size w (w.alloc (.cells #[.int .i64 0, .slice none 0 0] 44)) := (Below.refl _ _).alloc (Nat.le_refl _) _
  have ks : ∀ W, Calls Try.prog 106 #[.string ⟨l.toArray⟩, .int .u8 58] W _ := fun W => l5Cut_s l 58 hl W
  have hel : ∀ x ∈ splitL 58 l, x.length ≤ 1048576 := fun x hx => by have := split_elem hx; omega
  have hp := splitL_ne 58 l
  have hlw : (splitL 58 l).length ≤ 1048577 := by have := spl_len 58 l []; unfold splitL; omega
  obtain ⟨W, hW⟩ : ∃ W, splitL 58 l = W := ⟨_, rfl⟩
  rw [hW] at ks hel hp hlw
  obtain ⟨a, ha⟩ : ∃ a, W[0] = a := ⟨_, rfl⟩
  obtain ⟨t, ht⟩ : ∃ t, W = a :: t := ⟨W.drop 1, by rw [← ha, ← List.drop_eq_getElem_cons hp]; rfl⟩
  have hal : a.length ≤ 1048576 := by rw [← ha]; exact hel _ (List.getElem_mem hp)
  have kp := fun W' => ParseInt_s a hal W'
  have hW : splitL 58 l = a :: t := hW.trans ht
  have kf := fun W h => FormatRelation_s (.slice none 0 0) (parseV a) [] W h
  have hrow : True := trivial
  by_cases h2 : W.length = 2
  rotate_left
  · have eT : bodyT (a :: t) = [] := bodyT_len (by rw [← ht]; exact h2)
    have d2 : ((W.length : Int) == 2) = false := by rw [beq_eq_false_iff_ne]; omega
    have Hks := Lib.hid ks; clear ks; have Hhel := Lib.hid hel; clear hel; have Hhlw := Lib.hid hlw; clear hlw; have HhW := Lib.hid hW; clear hW; have HhB := Lib.hid hB; clear hB; have Hkp := Lib.hid kp; clear kp; have Hhal := Lib.hid hal; clear hal; have HeT := Lib.hid eT; clear eT; have Hht := Lib.hid ht; clear ht
    by_cases hfl : fmtRel (parseV a) [] = l
    · by_cases hl0 : l = []
      · have e : parRel l = (0, [], false) := by rw [hl0]; exact parS_nil
        rw [hfl] at kf
        have d3 : (l == l) = true := by simp
        have d4 : (l != l) = false := by simp
        have d5 : (l == []) = true := by rw [beq_iff_eq]; exact hl0
        have Hkf := Lib.hid kf; clear kf; have He := Lib.hid e; clear e; have Hhfl := Lib.hid hfl; clear hfl; have Hhl0 := Lib.hid hl0; clear hl0; have Hhrow := Lib.hid hrow; clear hrow
        go_enter Try.func46, Try.ntmps46
        go_wp2_with (first
          | (go_at_call 106; ((with_reducible refine (Hks.out _).mono ?_); rintro e w1 ⟨A1, c1, rfl, own1, hb1⟩; (have z0 := blockB hb1 y0; obtain ⟨bk, off, rfl, e0⟩ := strs_open own1 0 hp; rw [Nat.add_zero, ha] at e0; clear own1; have e0a := fun o => cellN e0 o)))
          | (go_at_call 107; ((with_reducible refine (Hkp.out _).mono ?_); rintro e w2 ⟨rfl, hb2⟩; (have x0 := blockB hb2 (heapN z0 _); have x1 := blockB hb2 (heap_alloc_new w1 _); have t0 := cellAt x1 0; have f0 := frozen0 (j := 0) x1; have hB2 := belowA (below_tr HhB.out hb1) hb2; have hlx := lt_of_heap z0; have hly := lt_of_heap x1; have m0 := setO (g := w1.heap.size) (j := 0) (by omega) x0 (.int .i64 (parseV a)); have m1 := set0 x1 (.int .i64 (parseV a)); have s0 := cellAt m1 0; have s1 := cellAt m1 1; have hB4 := hB2.setCell (p := ⟨w1.heap.size, 0, none⟩) (show w.heap.size ≤ w1.heap.size by omega) (.int .i64 (parseV a)); skip)))
          | (go_at_call 72; ((with_reducible refine (Hkf.out _ (MRow.nil _)).mono ?_); rintro e w7 ⟨rfl, hb7⟩; (have r0 := blockB hb7 m0; have r1 := blockB hb7 m1; have q0 := cellAt r0 0; have q1 := cellAt r0 1; have p0 := frozen0 (j := 0) r0; have p1 := frozen0 (j := 1) r0; have u0 := cellAt r1 0; have u1 := cellAt r1 1))))
        refine bodyPost_ret (res_rel_tmp rfl rfl rfl (set1 (set0 r0 _) _)) rfl (retP_no He.out rfl ?_)
        exact ((hB4.trans (hb7.mono hB4.size)).setCell (p := ⟨w.heap.size, 0, none⟩) (Nat.le_refl _) _).setCell (p := ⟨w.heap.size, 1, none⟩) (Nat.le_refl _) _
      · have e := parS_yes (a := a) (t := t) hl0 (by rw [HeT.out]; exact hfl)
        rw [HeT.out] at e
        rw [hfl] at kf
        have d3 : (l == l) = true := by simp
        have d4 : (l != l) = false := by simp
        have d5 : (l == []) = false := by rw [beq_eq_false_iff_ne]; exact hl0
        have Hkf := Lib.hid kf; clear kf; have He := Lib.hid e; clear e; have Hhfl := Lib.hid hfl; clear hfl; have Hhl0 := Lib.hid hl0; clear hl0; have Hhrow := Lib.hid hrow; clear hrow
        go_enter Try.func46, Try.ntmps46
        go_wp2_with (first
          | (go_at_call 106; ((with_reducible refine (Hks.out _).mono ?_); rintro e w1 ⟨A1, c1, rfl, own1, hb1⟩; (have z0 := blockB hb1 y0; obtain ⟨bk, off, rfl, e0⟩ := strs_open own1 0 hp; rw [Nat.add_zero, ha] at e0; clear own1; have e0a := fun o => cellN e0 o)))
          | (go_at_call 107; ((with_reducible refine (Hkp.out _).mono ?_); rintro e w2 ⟨rfl, hb2⟩; (have x0 := blockB hb2 (heapN z0 _); have x1 := blockB hb2 (heap_alloc_new w1 _); have t0 := cellAt x1 0; have f0 := frozen0 (j := 0) x1; have hB2 := belowA (below_tr HhB.out hb1) hb2; have hlx := lt_of_heap z0; have hly := lt_of_heap x1; have m0 := setO (g := w1.heap.size) (j := 0) (by omega) x0 (.int .i64 (parseV a)); have m1 := set0 x1 (.int .i64 (parseV a)); have s0 := cellAt m1 0; have s1 := cellAt m1 1; have hB4 := hB2.setCell (p := ⟨w1.heap.size, 0, none⟩) (show w.heap.size ≤ w1.heap.size by omega) (.int .i64 (parseV a)); skip)))
          | (go_at_call 72; ((with_reducible refine (Hkf.out _ (MRow.nil _)).mono ?_); rintro e w7 ⟨rfl, hb7⟩; (have r0 := blockB hb7 m0; have r1 := blockB hb7 m1; have q0 := cellAt r0 0; have q1 := cellAt r0 1; have p0 := frozen0 (j := 0) r0; have p1 := frozen0 (j := 1) r0; have u0 := cellAt r1 0; have u1 := cellAt r1 1))))
        refine bodyPost_ret (res_rel_tmp rfl rfl rfl (set1 (set0 r0 _) _)) rfl (retP_yes He.out rfl (OwnM.nil _ _) ?_)
        exact ((hB4.trans (hb7.mono hB4.size)).setCell (p := ⟨w.heap.size, 0, none⟩) (Nat.le_refl _) _).setCell (p := ⟨w.heap.size, 1, none⟩) (Nat.le_refl _) _
    · have e := parS_not (a := a) (t := t) HhW.out (by rw [HeT.out]; exact hfl)
      generalize fmtRel (parseV a) [] = F at *
      have d3 : (F == l) = false := by rw [beq_eq_false_iff_ne]; exact hfl
      have d4 : (F != l) = true := by rw [bne_iff_ne]; exact hfl
      have Hkf := Lib.hid kf; clear kf; have He := Lib.hid e; clear e; have Hhfl := Lib.hid hfl; clear hfl; have Hhrow := Lib.hid hrow; clear hrow
      go_enter Try.func46, Try.ntmps46
      go_wp2_with (first
        | (go_at_call 106; ((with_reducible refine (Hks.out _).mono ?_); rintro e w1 ⟨A1, c1, rfl, own1, hb1⟩; (have z0 := blockB hb1 y0; obtain ⟨bk, off, rfl, e0⟩ := strs_open own1 0 hp; rw [Nat.add_zero, ha] at e0; clear own1; have e0a := fun o => cellN e0 o)))
        | (go_at_call 107; ((with_reducible refine (Hkp.out _).mono ?_); rintro e w2 ⟨rfl, hb2⟩; (have x0 := blockB hb2 (heapN z0 _); have x1 := blockB hb2 (heap_alloc_new w1 _); have t0 := cellAt x1 0; have f0 := frozen0 (j := 0) x1; have hB2 := belowA (below_tr HhB.out hb1) hb2; have hlx := lt_of_heap z0; have hly := lt_of_heap x1; have m0 := setO (g := w1.heap.size) (j := 0) (by omega) x0 (.int .i64 (parseV a)); have m1 := set0 x1 (.int .i64 (parseV a)); have s0 := cellAt m1 0; have s1 := cellAt m1 1; have hB4 := hB2.setCell (p := ⟨w1.heap.size, 0, none⟩) (show w.heap.size ≤ w1.heap.size by omega) (.int .i64 (parseV a)); skip)))
        | (go_at_call 72; ((with_reducible refine (Hkf.out _ (MRow.nil _)).mono ?_); rintro e w7 ⟨rfl, hb7⟩; (have r0 := blockB hb7 m0; have r1 := blockB hb7 m1; have q0 := cellAt r0 0; have q1 := cellAt r0 1; have p0 := frozen0 (j := 0) r0; have p1 := frozen0 (j := 1) r0; have u0 := cellAt r1 0; have u1 := cellAt r1 1))))
      refine bodyPost_ret (res_rel_tmp rfl rfl rfl (set1 (set0 r0 _) _)) rfl (retP_no He.out rfl ?_)
      exact ((hB4.trans (hb7.mono hB4.size)).setCell (p := ⟨w.heap.size, 0, none⟩) (Nat.le_refl _) _).setCell (p := ⟨w.heap.size, 1, none⟩) (Nat.le_refl _) _
  have g2 : ((W.length : Int) == 2) = true := by rw [beq_iff_eq]; omega
  have g1 : (1 : Int) < (W.length : Int) := by omega
  obtain ⟨b, hb⟩ : ∃ b, W[1] = b := ⟨_, rfl⟩
  have hbl : b.length ≤ 1048576 := by rw [← hb]; exact hel _ (List.getElem_mem _)
  have htb : a :: t = [a, b] := by
    rw [← ht]
    refine List.ext_getElem (by simp [h2]) fun i h3 h4 => ?_
    match i, h3, h4 with
    | 0, _, _ => exact ha
    | 1, _, _ => exact hb
    | n + 2, h3, _ => omega
  by_cases hb0 : b = []
  · have eT : bodyT (a :: t) = [] := by rw [htb, hb0]; rfl
    subst hb0
    have Hks := Lib.hid ks; clear ks; have Hhel := Lib.hid hel; clear hel; have Hhlw := Lib.hid hlw; clear hlw; have HhW := Lib.hid hW; clear hW; have HhB := Lib.hid hB; clear hB; have Hkp := Lib.hid kp; clear kp; have Hhal := Lib.hid hal; clear hal; have HeT := Lib.hid eT; clear eT; have Hhtb := Lib.hid htb; clear htb; have Hhbl := Lib.hid hbl; clear hbl; have Hht := Lib.hid ht; clear ht
    by_cases hfl : fmtRel (parseV a) [] = l
    · by_cases hl0 : l = []
      · have e : parRel l = (0, [], false) := by rw [hl0]; exact parS_nil
        rw [hfl] at kf
        have d3 : (l == l) = true := by simp
        have d4 : (l != l) = false := by simp
        have d5 : (l == []) = true := by rw [beq_iff_eq]; exact hl0
        have Hkf := Lib.hid kf; clear kf; have He := Lib.hid e; clear e; have Hhfl := Lib.hid hfl; clear hfl; have Hhl0 := Lib.hid hl0; clear hl0; have Hhrow := Lib.hid hrow; clear hrow
        go_enter Try.func46, Try.ntmps46
        go_wp2_with (first
          | (go_at_call 106; ((with_reducible refine (Hks.out _).mono ?_); rintro e w1 ⟨A1, c1, rfl, own1, hb1⟩; (have z0 := blockB hb1 y0; obtain ⟨bk, off, rfl, e0⟩ := strs_open own1 0 hp; rw [Nat.add_zero, ha] at e0; obtain ⟨_, _, eqq, e1⟩ := strs_open own1 1 (by omega); simp only [Option.some.injEq, Addr.mk.injEq, and_true] at eqq; obtain ⟨rfl, rfl⟩ := eqq; rw [hb] at e1; have e1a := fun o => cellN e1 o; clear own1; have e0a := fun o => cellN e0 o)))
          | (go_at_call 107; ((with_reducible refine (Hkp.out _).mono ?_); rintro e w2 ⟨rfl, hb2⟩; (have x0 := blockB hb2 (heapN z0 _); have x1 := blockB hb2 (heap_alloc_new w1 _); have t0 := cellAt x1 0; have f0 := frozen0 (j := 0) x1; have hB2 := belowA (below_tr HhB.out hb1) hb2; have hlx := lt_of_heap z0; have hly := lt_of_heap x1; have m0 := setO (g := w1.heap.size) (j := 0) (by omega) x0 (.int .i64 (parseV a)); have m1 := set0 x1 (.int .i64 (parseV a)); have s0 := cellAt m1 0; have s1 := cellAt m1 1; have hB4 := hB2.setCell (p := ⟨w1.heap.size, 0, none⟩) (show w.heap.size ≤ w1.heap.size by omega) (.int .i64 (parseV a)); replace e1 := setC (a := ⟨bk, off + 1, none⟩) (g := w1.heap.size) (j := 0) (by have := block_lt_of_cell e1; simp at this; show bk ≠ w1.heap.size; omega) (cellB hb2 (e1a _)) (.int .i64 (parseV a)); clear e1a; )))
          | (go_at_call 72; ((with_reducible refine (Hkf.out _ (MRow.nil _)).mono ?_); rintro e w7 ⟨rfl, hb7⟩; (have r0 := blockB hb7 m0; have r1 := blockB hb7 m1; have q0 := cellAt r0 0; have q1 := cellAt r0 1; have p0 := frozen0 (j := 0) r0; have p1 := frozen0 (j := 1) r0; have u0 := cellAt r1 0; have u1 := cellAt r1 1))))
        refine bodyPost_ret (res_rel_tmp rfl rfl rfl (set1 (set0 r0 _) _)) rfl (retP_no He.out rfl ?_)
        exact ((hB4.trans (hb7.mono hB4.size)).setCell (p := ⟨w.heap.size, 0, none⟩) (Nat.le_refl _) _).setCell (p := ⟨w.heap.size, 1, none⟩) (Nat.le_refl _) _
      · have e := parS_yes (a := a) (t := t) hl0 (by rw [HeT.out]; exact hfl)
        rw [HeT.out] at e
        rw [hfl] at kf
        have d3 : (l == l) = true := by simp
        have d4 : (l != l) = false := by simp
        have d5 : (l == []) = false := by rw [beq_eq_false_iff_ne]; exact hl0
        have Hkf := Lib.hid kf; clear kf; have He := Lib.hid e; clear e; have Hhfl := Lib.hid hfl; clear hfl; have Hhl0 := Lib.hid hl0; clear hl0; have Hhrow := Lib.hid hrow; clear hrow
        go_enter Try.func46, Try.ntmps46
        go_wp2_with (first
          | (go_at_call 106; ((with_reducible refine (Hks.out _).mono ?_); rintro e w1 ⟨A1, c1, rfl, own1, hb1⟩; (have z0 := blockB hb1 y0; obtain ⟨bk, off, rfl, e0⟩ := strs_open own1 0 hp; rw [Nat.add_zero, ha] at e0; obtain ⟨_, _, eqq, e1⟩ := strs_open own1 1 (by omega); simp only [Option.some.injEq, Addr.mk.injEq, and_true] at eqq; obtain ⟨rfl, rfl⟩ := eqq; rw [hb] at e1; have e1a := fun o => cellN e1 o; clear own1; have e0a := fun o => cellN e0 o)))
          | (go_at_call 107; ((with_reducible refine (Hkp.out _).mono ?_); rintro e w2 ⟨rfl, hb2⟩; (have x0 := blockB hb2 (heapN z0 _); have x1 := blockB hb2 (heap_alloc_new w1 _); have t0 := cellAt x1 0; have f0 := frozen0 (j := 0) x1; have hB2 := belowA (below_tr HhB.out hb1) hb2; have hlx := lt_of_heap z0; have hly := lt_of_heap x1; have m0 := setO (g := w1.heap.size) (j := 0) (by omega) x0 (.int .i64 (parseV a)); have m1 := set0 x1 (.int .i64 (parseV a)); have s0 := cellAt m1 0; have s1 := cellAt m1 1; have hB4 := hB2.setCell (p := ⟨w1.heap.size, 0, none⟩) (show w.heap.size ≤ w1.heap.size by omega) (.int .i64 (parseV a)); replace e1 := setC (a := ⟨bk, off + 1, none⟩) (g := w1.heap.size) (j := 0) (by have := block_lt_of_cell e1; simp at this; show bk ≠ w1.heap.size; omega) (cellB hb2 (e1a _)) (.int .i64 (parseV a)); clear e1a; )))
          | (go_at_call 72; ((with_reducible refine (Hkf.out _ (MRow.nil _)).mono ?_); rintro e w7 ⟨rfl, hb7⟩; (have r0 := blockB hb7 m0; have r1 := blockB hb7 m1; have q0 := cellAt r0 0; have q1 := cellAt r0 1; have p0 := frozen0 (j := 0) r0; have p1 := frozen0 (j := 1) r0; have u0 := cellAt r1 0; have u1 := cellAt r1 1))))
        refine bodyPost_ret (res_rel_tmp rfl rfl rfl (set1 (set0 r0 _) _)) rfl (retP_yes He.out rfl (OwnM.nil _ _) ?_)
        exact ((hB4.trans (hb7.mono hB4.size)).setCell (p := ⟨w.heap.size, 0, none⟩) (Nat.le_refl _) _).setCell (p := ⟨w.heap.size, 1, none⟩) (Nat.le_refl _) _
    · have e := parS_not (a := a) (t := t) HhW.out (by rw [HeT.out]; exact hfl)
      generalize fmtRel (parseV a) [] = F at *
      have d3 : (F == l) = false := by rw [beq_eq_false_iff_ne]; exact hfl
      have d4 : (F != l) = true := by rw [bne_iff_ne]; exact hfl
      have Hkf := Lib.hid kf; clear kf; have He := Lib.hid e; clear e; have Hhfl := Lib.hid hfl; clear hfl; have Hhrow := Lib.hid hrow; clear hrow
      go_enter Try.func46, Try.ntmps46
      go_wp2_with (first
        | (go_at_call 106; ((with_reducible refine (Hks.out _).mono ?_); rintro e w1 ⟨A1, c1, rfl, own1, hb1⟩; (have z0 := blockB hb1 y0; obtain ⟨bk, off, rfl, e0⟩ := strs_open own1 0 hp; rw [Nat.add_zero, ha] at e0; obtain ⟨_, _, eqq, e1⟩ := strs_open own1 1 (by omega); simp only [Option.some.injEq, Addr.mk.injEq, and_true] at eqq; obtain ⟨rfl, rfl⟩ := eqq; rw [hb] at e1; have e1a := fun o => cellN e1 o; clear own1; have e0a := fun o => cellN e0 o)))
        | (go_at_call 107; ((with_reducible refine (Hkp.out _).mono ?_); rintro e w2 ⟨rfl, hb2⟩; (have x0 := blockB hb2 (heapN z0 _); have x1 := blockB hb2 (heap_alloc_new w1 _); have t0 := cellAt x1 0; have f0 := frozen0 (j := 0) x1; have hB2 := belowA (below_tr HhB.out hb1) hb2; have hlx := lt_of_heap z0; have hly := lt_of_heap x1; have m0 := setO (g := w1.heap.size) (j := 0) (by omega) x0 (.int .i64 (parseV a)); have m1 := set0 x1 (.int .i64 (parseV a)); have s0 := cellAt m1 0; have s1 := cellAt m1 1; have hB4 := hB2.setCell (p := ⟨w1.heap.size, 0, none⟩) (show w.heap.size ≤ w1.heap.size by omega) (.int .i64 (parseV a)); replace e1 := setC (a := ⟨bk, off + 1, none⟩) (g := w1.heap.size) (j := 0) (by have := block_lt_of_cell e1; simp at this; show bk ≠ w1.heap.size; omega) (cellB hb2 (e1a _)) (.int .i64 (parseV a)); clear e1a; )))
        | (go_at_call 72; ((with_reducible refine (Hkf.out _ (MRow.nil _)).mono ?_); rintro e w7 ⟨rfl, hb7⟩; (have r0 := blockB hb7 m0; have r1 := blockB hb7 m1; have q0 := cellAt r0 0; have q1 := cellAt r0 1; have p0 := frozen0 (j := 0) r0; have p1 := frozen0 (j := 1) r0; have u0 := cellAt r1 0; have u1 := cellAt r1 1))))
      refine bodyPost_ret (res_rel_tmp rfl rfl rfl (set1 (set0 r0 _) _)) rfl (retP_no He.out rfl ?_)
      exact ((hB4.trans (hb7.mono hB4.size)).setCell (p := ⟨w.heap.size, 0, none⟩) (Nat.le_refl _) _).setCell (p := ⟨w.heap.size, 1, none⟩) (Nat.le_refl _) _
  have eT : bodyT (a :: t) = (splitL 32 b).map wordS := by rw [htb, bodyT_two, bodyS_ne hb0]
  have ks2 : ∀ W, Calls Try.prog 106 #[.string ⟨b.toArray⟩, .int .u8 32] W _ := fun W => l5Cut_s b 32 hbl W
  have hel2 : ∀ x ∈ splitL 32 b, x.length ≤ 1048576 := fun x hx => by have := split_elem hx; omega
  have hl2 : (splitL 32 b).length ≤ 1048577 := by have := spl_len 32 b []; unfold splitL; omega
  obtain ⟨U, hU⟩ : ∃ U, splitL 32 b = U := ⟨_, rfl⟩
  rw [hU] at ks2 hel2 hl2 eT
  have db : (b == []) = false := by rw [beq_eq_false_iff_ne]; exact hb0
  have db2 : (b != []) = true := by rw [bne_iff_ne]; exact hb0
  clear kf hrow
  have Hks := Lib.hid ks; clear ks; have Hhel := Lib.hid hel; clear hel; have HhW := Lib.hid hW; clear hW; have HhB := Lib.hid hB; clear hB; have Hkp := Lib.hid kp; clear kp; have Hhlw := Lib.hid hlw; clear hlw; have Hhal := Lib.hid hal; clear hal; have Hhtb := Lib.hid htb; clear htb; have Hhbl := Lib.hid hbl; clear hbl; have Hks2 := Lib.hid ks2; clear ks2; have Hhel2 := Lib.hid hel2; clear hel2; have HhU := Lib.hid hU; clear hU; have Hhb0 := Lib.hid hb0; clear hb0; have HeT := Lib.hid eT; clear eT; have Hht := Lib.hid ht; clear ht
  go_enter Try.func46, Try.ntmps46
  go_wp2_with (first
    | (go_at_call 106; ((with_reducible refine (Hks.out _).mono ?_); rintro e w1 ⟨A1, c1, rfl, own1, hb1⟩; (have z0 := blockB hb1 y0; obtain ⟨bk, off, rfl, e0⟩ := strs_open own1 0 hp; rw [Nat.add_zero, ha] at e0; obtain ⟨_, _, eqq, e1⟩ := strs_open own1 1 (by omega); simp only [Option.some.injEq, Addr.mk.injEq, and_true] at eqq; obtain ⟨rfl, rfl⟩ := eqq; rw [hb] at e1; have e1a := fun o => cellN e1 o; clear own1; have e0a := fun o => cellN e0 o)))
    | (go_at_call 107; ((with_reducible refine (Hkp.out _).mono ?_); rintro e w2 ⟨rfl, hb2⟩; (have x0 := blockB hb2 (heapN z0 _); have x1 := blockB hb2 (heap_alloc_new w1 _); have t0 := cellAt x1 0; have f0 := frozen0 (j := 0) x1; have hB2 := belowA (below_tr HhB.out hb1) hb2; have hlx := lt_of_heap z0; have hly := lt_of_heap x1; have m0 := setO (g := w1.heap.size) (j := 0) (by omega) x0 (.int .i64 (parseV a)); have m1 := set0 x1 (.int .i64 (parseV a)); have s0 := cellAt m1 0; have s1 := cellAt m1 1; have hB4 := hB2.setCell (p := ⟨w1.heap.size, 0, none⟩) (show w.heap.size ≤ w1.heap.size by omega) (.int .i64 (parseV a)); replace e1 := setC (a := ⟨bk, off + 1, none⟩) (g := w1.heap.size) (j := 0) (by have := block_lt_of_cell e1; simp at this; show bk ≠ w1.heap.size; omega) (cellB hb2 (e1a _)) (.int .i64 (parseV a)); clear e1a; )))
    | (go_at_call 106; ((with_reducible refine (Hks2.out _).mono ?_); rintro e w3 ⟨A3, c3, rfl, own3, hb3⟩; (have q0 := blockB hb3 m0; have q1 := blockB hb3 m1; have hB3 := hB4.trans (hb3.mono hB4.size)))))
  have hgx : w1.heap.size < (w2.setCell ⟨w1.heap.size, 0, none⟩ (.int .i64 (parseV a))).heap.size := lt_of_heap m1
  have hlo : ∀ wr : World, wr.ownsRow (w2.setCell ⟨w1.heap.size, 0, none⟩ (.int .i64 (parseV a))).heap.size 9 1 (.slice A3 U.length c3) U.length (U.map strV) → wr.ownsRow (w1.heap.size + 1) 9 1 (.slice A3 U.length c3) U.length (U.map strV) := fun wr h => own_mono h hgx
  have own3 := hlo _ own3
  have Hq0 := Lib.hid q0
  have Hq1 := Lib.hid q1
  have Hown3 := Lib.hid own3; clear own3; have HhB3 := Lib.hid hB3; clear hB3
  clear q0 q1 t0 f0 e0 e0a e1 db db2 m0 m1 s0 s1 hlo g1 g2
  go_loopw [7] (fun i wr => ∃ (k : Nat) (D : List (List Int)) (A' : Option Addr) (q' : Nat), i = .int .i64 k ∧ k ≤ U.length ∧ D = (U.take k).map wordS ∧ wr.heap[w.heap.size]? = some (.cells #[.int .i64 0, .slice none 0 0] 44 (0, 0)) ∧
    wr.heap[w1.heap.size]? = some (.cells #[.int .i64 (parseV a), .slice A' D.length q'] 44 (0, 0)) ∧ OwnM wr (w1.heap.size + 1) (.slice A' D.length q') D ∧ Below w.heap.size w wr ∧ wr.ownsRow (w1.heap.size + 1) 9 1 (.slice A3 U.length c3) U.length (U.map strV)) (fun i _ => U.length - (intOf i).toNat)
  case atStart => exact ⟨0, [], none, 0, rfl, Nat.zero_le _, rfl, Hq0.out, Hq1.out, OwnM.nil _ _, HhB3.out, Hown3.out⟩
  case round =>
    obtain ⟨k, D, A', q', rfl, hk, hD, r0, r1, hown, hbw, ow3⟩ := hrel
    have hDl : D.length ≤ k := by rw [hD]; simp; omega
    have hsz := lt_of_heap r1
    by_cases hlt : k < U.length
    · have g0 : (k : Int) < (U.length : Int) := by omega
      obtain ⟨b3, off3, rfl, c2⟩ := strs_open ow3 k hlt
      have hxl := Hhel2.out U[k] (List.getElem_mem hlt)
      have hst : D ++ [wordS U[k]] = (U.take (k + 1)).map wordS := by rw [List.take_succ_eq_append_getElem hlt, List.map_append, hD]; rfl
      obtain ⟨x, hx⟩ : ∃ x, U[k] = x := ⟨_, rfl⟩
      rw [hx] at c2 hxl hst
      have c2a := fun o => cellN c2 o
      have hba : Below wr.heap.size wr (wr.alloc (.cells #[] 3)) := (Below.refl _ _).alloc (Nat.le_refl _) _
      have hsa : wr.heap.size < (wr.alloc (.cells #[] 3)).heap.size := by simp
      have v0 := heapN r0 (.cells #[] 3)
      have v1 := heapN r1 (.cells #[] 3)
      have hownv := SegM.below hown hba
      have ow3v := own_below ow3 hba
      have hbv := hbw.trans (hba.mono hbw.size)
      have row0 : OwnI (wr.alloc (.cells #[] 3)) wr.heap.size (.slice (some ⟨wr.heap.size, 0, none⟩) 0 0) [] := own_nil' wr (Nat.le_refl _)
      clear r0 r1
      by_cases hx2 : 2 < x.length
      · have g2 : (2 : Int) < (x.length : Int) := by omega
        have g3 : ((x.length : Int) - 1).toNat = x.length - 1 := by omega
        have g4 : (1 : Int) ≤ (x.length : Int) - 1 := by omega
        have g5 : (x.length : Int) - 1 ≤ (x.length : Int) := by omega
        have hin : innerT x = x.tail.take (x.length - 1 - 1) := by unfold innerT; rw [List.drop_one]
        have hil : (innerT x).length ≤ 1048576 := by rw [hin]; simp; omega
        have kl : ∀ W, Calls Try.prog 106 #[.string ⟨(innerT x).toArray⟩, .int .u8 44] W _ := fun W => l5Cut_s (innerT x) 44 hil W
        rw [wordS_long hx2] at hst
        have hel3 : ∀ y ∈ splitL 44 (innerT x), y.length ≤ 1048576 := fun y hy => by have := split_elem hy; omega
        have hl3 : (splitL 44 (innerT x)).length ≤ 1048577 := by have := spl_len 44 (innerT x) []; unfold splitL; omega
        obtain ⟨V, hV⟩ : ∃ V, splitL 44 (innerT x) = V := ⟨_, rfl⟩
        rw [hV] at kl hst hel3 hl3
        rw [hin] at kl
        have HhD := Lib.hid hD; clear hD; have Hhx := Lib.hid hx; clear hx; have Hhown := Lib.hid hown; clear hown; have Hhin := Lib.hid hin; clear hin; have Hhst := Lib.hid hst; clear hst; have How3 := Lib.hid ow3; clear ow3; have Hhel3 := Lib.hid hel3; clear hel3; have HhV := Lib.hid hV; clear hV; have Hkl := Lib.hid kl; clear kl; have Hv0 := Lib.hid v0; clear v0; have Hv1 := Lib.hid v1; clear v1; have Hhownv := Lib.hid hownv; clear hownv; have How3v := Lib.hid ow3v; clear ow3v; have Hhbv := Lib.hid hbv; clear hbv; have Hrow0 := Lib.hid row0; clear row0; have HhDl := Lib.hid hDl; clear hDl
        go_wp2_with fail
        have c2d := c2a (.cells #[] 3)
        have v0 := Hv0.out; have v1 := Hv1.out; have hownv := Hhownv.out; have ow3v := How3v.out; have hbv := Hhbv.out; have row0 := Hrow0.out
        generalize wr.alloc (.cells #[] 3) = wq at *
        have Hv0 := Lib.hid v0; clear v0; have Hv1 := Lib.hid v1; clear v1; have Hhownv := Lib.hid hownv; clear hownv; have How3v := Lib.hid ow3v; clear ow3v; have Hhbv := Lib.hid hbv; clear hbv; have Hrow0 := Lib.hid row0; clear row0
        refine wp_region_flow 13 [] [[], [], [0, 1], [2], [], [], [4, 5], [6], [7], [8], [3, 9], [10], [11]] [Fact.is (.slice (some ⟨b3, off3, none⟩) U.length c3), Fact.is (.int .i64 (k : Int)), Fact.is (.pointer (some ⟨b3, off3 + k, none⟩)), Fact.is (strV x), Fact.is (.slice (some ⟨b3, off3, none⟩) U.length c3), Fact.is (.int .i64 (k : Int)), Fact.is (.pointer (some ⟨b3, off3 + k, none⟩)), Fact.is (strV x), Fact.is (.int .i64 (x.length : Int)), Fact.is (.int .i64 ((x.length : Int) - 1)), Fact.is (.string ⟨(x.tail.take (x.length - 1 - 1)).toArray⟩), Fact.strs wq.heap.size V, Fact.strs wq.heap.size V] (by kernel_rfl) (by kernel_rfl) (by intro c d v a w h; cases d <;> exact h) (And.intro ?op0_1 (And.intro ?op1_1 (And.intro ?op2_1 (And.intro ?op3_1 (And.intro ?op4_1 (And.intro ?op5_1 (And.intro ?op6_1 (And.intro ?op7_1 (And.intro ?op8_1 (And.intro ?op9_1 (And.intro ?op10_1 (And.intro ?op11_1 (And.intro ?op12_1 trivial))))))))))))) ?fin_1
        case op0_1 => (change flowStep _ _ _ _ _ _ _ _; intro wf vs hbf hf; have p0 := cellB hbf c2d; obtain ⟨-⟩ := hf; show wpList _ _ _ _ ⟨_, _⟩ _; go_wp2_with (first | (go_at_call 106; ((with_reducible refine (Hkl.out _).mono ?_); rintro e w9 ⟨A9, c9, rfl, own, hb1⟩; (replace own := own_mono own hbf.size)))); first | exact ⟨rfl, rfl, ⟨_, _, rfl, rfl, rfl⟩, by first | with_reducible exact Below.refl _ _ | assumption | with_reducible exact (Below.refl _ _).drew | with_reducible exact (Below.refl _ _).alloc (Nat.le_refl _) _⟩ | exact ⟨rfl, rfl, ⟨_, _, rfl, rfl, (by show _ = _; rfl)⟩, by first | with_reducible exact Below.refl _ _ | assumption | with_reducible exact (Below.refl _ _).drew | with_reducible exact (Below.refl _ _).alloc (Nat.le_refl _) _⟩ | exact ⟨rfl, rfl, ⟨_, _, rfl, rfl, ⟨_, rfl, Below.size (by assumption), heap_alloc_new _ _⟩⟩, (Below.refl _ _).alloc (Nat.le_refl _) _⟩ | exact ⟨rfl, rfl, ⟨_, _, rfl, rfl, ⟨_, rfl, World.ownsRow_lit _ _ _ (Below.size (by assumption)) (by decide) rfl⟩⟩, (Below.refl _ _).alloc (Nat.le_refl _) _⟩ | exact ⟨rfl, rfl, ⟨_, _, rfl, rfl, ⟨_, _, rfl, by assumption⟩⟩, by first | with_reducible exact Below.refl _ _ | assumption⟩ | exact ⟨rfl, rfl, ⟨_, _, rfl, rfl, ⟨_, _, _, rfl, heap_alloc_new _ _, own_below (by assumption) ((Below.refl _ _).alloc (Nat.le_refl _) _)⟩⟩, (Below.refl _ _).alloc (Nat.le_refl _) _⟩)
        case op1_1 => (change flowStep _ _ _ _ _ _ _ _; intro wf vs hbf hf; have p0 := cellB hbf c2d; obtain ⟨-⟩ := hf; show wpList _ _ _ _ ⟨_, _⟩ _; go_wp2_with (first | (go_at_call 106; ((with_reducible refine (Hkl.out _).mono ?_); rintro e w9 ⟨A9, c9, rfl, own, hb1⟩; (replace own := own_mono own hbf.size)))); first | exact ⟨rfl, rfl, ⟨_, _, rfl, rfl, rfl⟩, by first | with_reducible exact Below.refl _ _ | assumption | with_reducible exact (Below.refl _ _).drew | with_reducible exact (Below.refl _ _).alloc (Nat.le_refl _) _⟩ | exact ⟨rfl, rfl, ⟨_, _, rfl, rfl, (by show _ = _; rfl)⟩, by first | with_reducible exact Below.refl _ _ | assumption | with_reducible exact (Below.refl _ _).drew | with_reducible exact (Below.refl _ _).alloc (Nat.le_refl _) _⟩ | exact ⟨rfl, rfl, ⟨_, _, rfl, rfl, ⟨_, rfl, Below.size (by assumption), heap_alloc_new _ _⟩⟩, (Below.refl _ _).alloc (Nat.le_refl _) _⟩ | exact ⟨rfl, rfl, ⟨_, _, rfl, rfl, ⟨_, rfl, World.ownsRow_lit _ _ _ (Below.size (by assumption)) (by decide) rfl⟩⟩, (Below.refl _ _).alloc (Nat.le_refl _) _⟩ | exact ⟨rfl, rfl, ⟨_, _, rfl, rfl, ⟨_, _, rfl, by assumption⟩⟩, by first | with_reducible exact Below.refl _ _ | assumption⟩ | exact ⟨rfl, rfl, ⟨_, _, rfl, rfl, ⟨_, _, _, rfl, heap_alloc_new _ _, own_below (by assumption) ((Below.refl _ _).alloc (Nat.le_refl _) _)⟩⟩, (Below.refl _ _).alloc (Nat.le_refl _) _⟩)
        case op2_1 => (change flowStep _ _ _ _ _ _ _ _; intro wf vs hbf hf; have p0 := cellB hbf c2d; obtain ⟨e0, e1, -⟩ := hf; replace e0 : vs 0 = .slice (some ⟨b3, off3, none⟩) U.length c3 := e0; replace e1 : vs 1 = .int .i64 (k : Int) := e1; show wpList _ _ _ _ (Act.put (Act.put _ (some 50) (vs 0)) (some 51) (vs 1)) _; rw [e0, e1]; go_wp2_with (first | (go_at_call 106; ((with_reducible refine (Hkl.out _).mono ?_); rintro e w9 ⟨A9, c9, rfl, own, hb1⟩; (replace own := own_mono own hbf.size)))); first | exact ⟨rfl, rfl, ⟨_, _, rfl, rfl, rfl⟩, by first | with_reducible exact Below.refl _ _ | assumption | with_reducible exact (Below.refl _ _).drew | with_reducible exact (Below.refl _ _).alloc (Nat.le_refl _) _⟩ | exact ⟨rfl, rfl, ⟨_, _, rfl, rfl, (by show _ = _; rfl)⟩, by first | with_reducible exact Below.refl _ _ | assumption | with_reducible exact (Below.refl _ _).drew | with_reducible exact (Below.refl _ _).alloc (Nat.le_refl _) _⟩ | exact ⟨rfl, rfl, ⟨_, _, rfl, rfl, ⟨_, rfl, Below.size (by assumption), heap_alloc_new _ _⟩⟩, (Below.refl _ _).alloc (Nat.le_refl _) _⟩ | exact ⟨rfl, rfl, ⟨_, _, rfl, rfl, ⟨_, rfl, World.ownsRow_lit _ _ _ (Below.size (by assumption)) (by decide) rfl⟩⟩, (Below.refl _ _).alloc (Nat.le_refl _) _⟩ | exact ⟨rfl, rfl, ⟨_, _, rfl, rfl, ⟨_, _, rfl, by assumption⟩⟩, by first | with_reducible exact Below.refl _ _ | assumption⟩ | exact ⟨rfl, rfl, ⟨_, _, rfl, rfl, ⟨_, _, _, rfl, heap_alloc_new _ _, own_below (by assumption) ((Below.refl _ _).alloc (Nat.le_refl _) _)⟩⟩, (Below.refl _ _).alloc (Nat.le_refl _) _⟩)
        case op3_1 => (change flowStep _ _ _ _ _ _ _ _; intro wf vs hbf hf; have p0 := cellB hbf c2d; obtain ⟨e2, -⟩ := hf; replace e2 : vs 2 = .pointer (some ⟨b3, off3 + k, none⟩) := e2; show wpList _ _ _ _ (Act.put _ (some 52) (vs 2)) _; rw [e2]; go_wp2_with (first | (go_at_call 106; ((with_reducible refine (Hkl.out _).mono ?_); rintro e w9 ⟨A9, c9, rfl, own, hb1⟩; (replace own := own_mono own hbf.size)))); first | exact ⟨rfl, rfl, ⟨_, _, rfl, rfl, rfl⟩, by first | with_reducible exact Below.refl _ _ | assumption | with_reducible exact (Below.refl _ _).drew | with_reducible exact (Below.refl _ _).alloc (Nat.le_refl _) _⟩ | exact ⟨rfl, rfl, ⟨_, _, rfl, rfl, (by show _ = _; rfl)⟩, by first | with_reducible exact Below.refl _ _ | assumption | with_reducible exact (Below.refl _ _).drew | with_reducible exact (Below.refl _ _).alloc (Nat.le_refl _) _⟩ | exact ⟨rfl, rfl, ⟨_, _, rfl, rfl, ⟨_, rfl, Below.size (by assumption), heap_alloc_new _ _⟩⟩, (Below.refl _ _).alloc (Nat.le_refl _) _⟩ | exact ⟨rfl, rfl, ⟨_, _, rfl, rfl, ⟨_, rfl, World.ownsRow_lit _ _ _ (Below.size (by assumption)) (by decide) rfl⟩⟩, (Below.refl _ _).alloc (Nat.le_refl _) _⟩ | exact ⟨rfl, rfl, ⟨_, _, rfl, rfl, ⟨_, _, rfl, by assumption⟩⟩, by first | with_reducible exact Below.refl _ _ | assumption⟩ | exact ⟨rfl, rfl, ⟨_, _, rfl, rfl, ⟨_, _, _, rfl, heap_alloc_new _ _, own_below (by assumption) ((Below.refl _ _).alloc (Nat.le_refl _) _)⟩⟩, (Below.refl _ _).alloc (Nat.le_refl _) _⟩)
        case op4_1 => (change flowStep _ _ _ _ _ _ _ _; intro wf vs hbf hf; have p0 := cellB hbf c2d; obtain ⟨-⟩ := hf; show wpList _ _ _ _ ⟨_, _⟩ _; go_wp2_with (first | (go_at_call 106; ((with_reducible refine (Hkl.out _).mono ?_); rintro e w9 ⟨A9, c9, rfl, own, hb1⟩; (replace own := own_mono own hbf.size)))); first | exact ⟨rfl, rfl, ⟨_, _, rfl, rfl, rfl⟩, by first | with_reducible exact Below.refl _ _ | assumption | with_reducible exact (Below.refl _ _).drew | with_reducible exact (Below.refl _ _).alloc (Nat.le_refl _) _⟩ | exact ⟨rfl, rfl, ⟨_, _, rfl, rfl, (by show _ = _; rfl)⟩, by first | with_reducible exact Below.refl _ _ | assumption | with_reducible exact (Below.refl _ _).drew | with_reducible exact (Below.refl _ _).alloc (Nat.le_refl _) _⟩ | exact ⟨rfl, rfl, ⟨_, _, rfl, rfl, ⟨_, rfl, Below.size (by assumption), heap_alloc_new _ _⟩⟩, (Below.refl _ _).alloc (Nat.le_refl _) _⟩ | exact ⟨rfl, rfl, ⟨_, _, rfl, rfl, ⟨_, rfl, World.ownsRow_lit _ _ _ (Below.size (by assumption)) (by decide) rfl⟩⟩, (Below.refl _ _).alloc (Nat.le_refl _) _⟩ | exact ⟨rfl, rfl, ⟨_, _, rfl, rfl, ⟨_, _, rfl, by assumption⟩⟩, by first | with_reducible exact Below.refl _ _ | assumption⟩ | exact ⟨rfl, rfl, ⟨_, _, rfl, rfl, ⟨_, _, _, rfl, heap_alloc_new _ _, own_below (by assumption) ((Below.refl _ _).alloc (Nat.le_refl _) _)⟩⟩, (Below.refl _ _).alloc (Nat.le_refl _) _⟩)
        case op5_1 => (change flowStep _ _ _ _ _ _ _ _; intro wf vs hbf hf; have p0 := cellB hbf c2d; obtain ⟨-⟩ := hf; show wpList _ _ _ _ ⟨_, _⟩ _; go_wp2_with (first | (go_at_call 106; ((with_reducible refine (Hkl.out _).mono ?_); rintro e w9 ⟨A9, c9, rfl, own, hb1⟩; (replace own := own_mono own hbf.size)))); first | exact ⟨rfl, rfl, ⟨_, _, rfl, rfl, rfl⟩, by first | with_reducible exact Below.refl _ _ | assumption | with_reducible exact (Below.refl _ _).drew | with_reducible exact (Below.refl _ _).alloc (Nat.le_refl _) _⟩ | exact ⟨rfl, rfl, ⟨_, _, rfl, rfl, (by show _ = _; rfl)⟩, by first | with_reducible exact Below.refl _ _ | assumption | with_reducible exact (Below.refl _ _).drew | with_reducible exact (Below.refl _ _).alloc (Nat.le_refl _) _⟩ | exact ⟨rfl, rfl, ⟨_, _, rfl, rfl, ⟨_, rfl, Below.size (by assumption), heap_alloc_new _ _⟩⟩, (Below.refl _ _).alloc (Nat.le_refl _) _⟩ | exact ⟨rfl, rfl, ⟨_, _, rfl, rfl, ⟨_, rfl, World.ownsRow_lit _ _ _ (Below.size (by assumption)) (by decide) rfl⟩⟩, (Below.refl _ _).alloc (Nat.le_refl _) _⟩ | exact ⟨rfl, rfl, ⟨_, _, rfl, rfl, ⟨_, _, rfl, by assumption⟩⟩, by first | with_reducible exact Below.refl _ _ | assumption⟩ | exact ⟨rfl, rfl, ⟨_, _, rfl, rfl, ⟨_, _, _, rfl, heap_alloc_new _ _, own_below (by assumption) ((Below.refl _ _).alloc (Nat.le_refl _) _)⟩⟩, (Below.refl _ _).alloc (Nat.le_refl _) _⟩)
        case op6_1 => (change flowStep _ _ _ _ _ _ _ _; intro wf vs hbf hf; have p0 := cellB hbf c2d; obtain ⟨e4, e5, -⟩ := hf; replace e4 : vs 4 = .slice (some ⟨b3, off3, none⟩) U.length c3 := e4; replace e5 : vs 5 = .int .i64 (k : Int) := e5; show wpList _ _ _ _ (Act.put (Act.put _ (some 54) (vs 4)) (some 55) (vs 5)) _; rw [e4, e5]; go_wp2_with (first | (go_at_call 106; ((with_reducible refine (Hkl.out _).mono ?_); rintro e w9 ⟨A9, c9, rfl, own, hb1⟩; (replace own := own_mono own hbf.size)))); first | exact ⟨rfl, rfl, ⟨_, _, rfl, rfl, rfl⟩, by first | with_reducible exact Below.refl _ _ | assumption | with_reducible exact (Below.refl _ _).drew | with_reducible exact (Below.refl _ _).alloc (Nat.le_refl _) _⟩ | exact ⟨rfl, rfl, ⟨_, _, rfl, rfl, (by show _ = _; rfl)⟩, by first | with_reducible exact Below.refl _ _ | assumption | with_reducible exact (Below.refl _ _).drew | with_reducible exact (Below.refl _ _).alloc (Nat.le_refl _) _⟩ | exact ⟨rfl, rfl, ⟨_, _, rfl, rfl, ⟨_, rfl, Below.size (by assumption), heap_alloc_new _ _⟩⟩, (Below.refl _ _).alloc (Nat.le_refl _) _⟩ | exact ⟨rfl, rfl, ⟨_, _, rfl, rfl, ⟨_, rfl, World.ownsRow_lit _ _ _ (Below.size (by assumption)) (by decide) rfl⟩⟩, (Below.refl _ _).alloc (Nat.le_refl _) _⟩ | exact ⟨rfl, rfl, ⟨_, _, rfl, rfl, ⟨_, _, rfl, by assumption⟩⟩, by first | with_reducible exact Below.refl _ _ | assumption⟩ | exact ⟨rfl, rfl, ⟨_, _, rfl, rfl, ⟨_, _, _, rfl, heap_alloc_new _ _, own_below (by assumption) ((Below.refl _ _).alloc (Nat.le_refl _) _)⟩⟩, (Below.refl _ _).alloc (Nat.le_refl _) _⟩)
        case op7_1 => (change flowStep _ _ _ _ _ _ _ _; intro wf vs hbf hf; have p0 := cellB hbf c2d; obtain ⟨e6, -⟩ := hf; replace e6 : vs 6 = .pointer (some ⟨b3, off3 + k, none⟩) := e6; show wpList _ _ _ _ (Act.put _ (some 56) (vs 6)) _; rw [e6]; go_wp2_with (first | (go_at_call 106; ((with_reducible refine (Hkl.out _).mono ?_); rintro e w9 ⟨A9, c9, rfl, own, hb1⟩; (replace own := own_mono own hbf.size)))); first | exact ⟨rfl, rfl, ⟨_, _, rfl, rfl, rfl⟩, by first | with_reducible exact Below.refl _ _ | assumption | with_reducible exact (Below.refl _ _).drew | with_reducible exact (Below.refl _ _).alloc (Nat.le_refl _) _⟩ | exact ⟨rfl, rfl, ⟨_, _, rfl, rfl, (by show _ = _; rfl)⟩, by first | with_reducible exact Below.refl _ _ | assumption | with_reducible exact (Below.refl _ _).drew | with_reducible exact (Below.refl _ _).alloc (Nat.le_refl _) _⟩ | exact ⟨rfl, rfl, ⟨_, _, rfl, rfl, ⟨_, rfl, Below.size (by assumption), heap_alloc_new _ _⟩⟩, (Below.refl _ _).alloc (Nat.le_refl _) _⟩ | exact ⟨rfl, rfl, ⟨_, _, rfl, rfl, ⟨_, rfl, World.ownsRow_lit _ _ _ (Below.size (by assumption)) (by decide) rfl⟩⟩, (Below.refl _ _).alloc (Nat.le_refl _) _⟩ | exact ⟨rfl, rfl, ⟨_, _, rfl, rfl, ⟨_, _, rfl, by assumption⟩⟩, by first | with_reducible exact Below.refl _ _ | assumption⟩ | exact ⟨rfl, rfl, ⟨_, _, rfl, rfl, ⟨_, _, _, rfl, heap_alloc_new _ _, own_below (by assumption) ((Below.refl _ _).alloc (Nat.le_refl _) _)⟩⟩, (Below.refl _ _).alloc (Nat.le_refl _) _⟩)
        case op8_1 => (change flowStep _ _ _ _ _ _ _ _; intro wf vs hbf hf; have p0 := cellB hbf c2d; obtain ⟨e7, -⟩ := hf; replace e7 : vs 7 = strV x := e7; show wpList _ _ _ _ (Act.put _ (some 57) (vs 7)) _; rw [e7]; go_wp2_with (first | (go_at_call 106; ((with_reducible refine (Hkl.out _).mono ?_); rintro e w9 ⟨A9, c9, rfl, own, hb1⟩; (replace own := own_mono own hbf.size)))); first | exact ⟨rfl, rfl, ⟨_, _, rfl, rfl, rfl⟩, by first | with_reducible exact Below.refl _ _ | assumption | with_reducible exact (Below.refl _ _).drew | with_reducible exact (Below.refl _ _).alloc (Nat.le_refl _) _⟩ | exact ⟨rfl, rfl, ⟨_, _, rfl, rfl, (by show _ = _; rfl)⟩, by first | with_reducible exact Below.refl _ _ | assumption | with_reducible exact (Below.refl _ _).drew | with_reducible exact (Below.refl _ _).alloc (Nat.le_refl _) _⟩ | exact ⟨rfl, rfl, ⟨_, _, rfl, rfl, ⟨_, rfl, Below.size (by assumption), heap_alloc_new _ _⟩⟩, (Below.refl _ _).alloc (Nat.le_refl _) _⟩ | exact ⟨rfl, rfl, ⟨_, _, rfl, rfl, ⟨_, rfl, World.ownsRow_lit _ _ _ (Below.size (by assumption)) (by decide) rfl⟩⟩, (Below.refl _ _).alloc (Nat.le_refl _) _⟩ | exact ⟨rfl, rfl, ⟨_, _, rfl, rfl, ⟨_, _, rfl, by assumption⟩⟩, by first | with_reducible exact Below.refl _ _ | assumption⟩ | exact ⟨rfl, rfl, ⟨_, _, rfl, rfl, ⟨_, _, _, rfl, heap_alloc_new _ _, own_below (by assumption) ((Below.refl _ _).alloc (Nat.le_refl _) _)⟩⟩, (Below.refl _ _).alloc (Nat.le_refl _) _⟩)
        case op9_1 => (change flowStep _ _ _ _ _ _ _ _; intro wf vs hbf hf; have p0 := cellB hbf c2d; obtain ⟨e8, -⟩ := hf; replace e8 : vs 8 = .int .i64 (x.length : Int) := e8; show wpList _ _ _ _ (Act.put _ (some 58) (vs 8)) _; rw [e8]; go_wp2_with (first | (go_at_call 106; ((with_reducible refine (Hkl.out _).mono ?_); rintro e w9 ⟨A9, c9, rfl, own, hb1⟩; (replace own := own_mono own hbf.size)))); first | exact ⟨rfl, rfl, ⟨_, _, rfl, rfl, rfl⟩, by first | with_reducible exact Below.refl _ _ | assumption | with_reducible exact (Below.refl _ _).drew | with_reducible exact (Below.refl _ _).alloc (Nat.le_refl _) _⟩ | exact ⟨rfl, rfl, ⟨_, _, rfl, rfl, (by show _ = _; rfl)⟩, by first | with_reducible exact Below.refl _ _ | assumption | with_reducible exact (Below.refl _ _).drew | with_reducible exact (Below.refl _ _).alloc (Nat.le_refl _) _⟩ | exact ⟨rfl, rfl, ⟨_, _, rfl, rfl, ⟨_, rfl, Below.size (by assumption), heap_alloc_new _ _⟩⟩, (Below.refl _ _).alloc (Nat.le_refl _) _⟩ | exact ⟨rfl, rfl, ⟨_, _, rfl, rfl, ⟨_, rfl, World.ownsRow_lit _ _ _ (Below.size (by assumption)) (by decide) rfl⟩⟩, (Below.refl _ _).alloc (Nat.le_refl _) _⟩ | exact ⟨rfl, rfl, ⟨_, _, rfl, rfl, ⟨_, _, rfl, by assumption⟩⟩, by first | with_reducible exact Below.refl _ _ | assumption⟩ | exact ⟨rfl, rfl, ⟨_, _, rfl, rfl, ⟨_, _, _, rfl, heap_alloc_new _ _, own_below (by assumption) ((Below.refl _ _).alloc (Nat.le_refl _) _)⟩⟩, (Below.refl _ _).alloc (Nat.le_refl _) _⟩)
        case op10_1 => (change flowStep _ _ _ _ _ _ _ _; intro wf vs hbf hf; have p0 := cellB hbf c2d; obtain ⟨e3, e9, -⟩ := hf; replace e3 : vs 3 = strV x := e3; replace e9 : vs 9 = .int .i64 ((x.length : Int) - 1) := e9; show wpList _ _ _ _ (Act.put (Act.put _ (some 53) (vs 3)) (some 59) (vs 9)) _; rw [e3, e9]; go_wp2_with (first | (go_at_call 106; ((with_reducible refine (Hkl.out _).mono ?_); rintro e w9 ⟨A9, c9, rfl, own, hb1⟩; (replace own := own_mono own hbf.size)))); first | exact ⟨rfl, rfl, ⟨_, _, rfl, rfl, rfl⟩, by first | with_reducible exact Below.refl _ _ | assumption | with_reducible exact (Below.refl _ _).drew | with_reducible exact (Below.refl _ _).alloc (Nat.le_refl _) _⟩ | exact ⟨rfl, rfl, ⟨_, _, rfl, rfl, (by show _ = _; rfl)⟩, by first | with_reducible exact Below.refl _ _ | assumption | with_reducible exact (Below.refl _ _).drew | with_reducible exact (Below.refl _ _).alloc (Nat.le_refl _) _⟩ | exact ⟨rfl, rfl, ⟨_, _, rfl, rfl, ⟨_, rfl, Below.size (by assumption), heap_alloc_new _ _⟩⟩, (Below.refl _ _).alloc (Nat.le_refl _) _⟩ | exact ⟨rfl, rfl, ⟨_, _, rfl, rfl, ⟨_, rfl, World.ownsRow_lit _ _ _ (Below.size (by assumption)) (by decide) rfl⟩⟩, (Below.refl _ _).alloc (Nat.le_refl _) _⟩ | exact ⟨rfl, rfl, ⟨_, _, rfl, rfl, ⟨_, _, rfl, by assumption⟩⟩, by first | with_reducible exact Below.refl _ _ | assumption⟩ | exact ⟨rfl, rfl, ⟨_, _, rfl, rfl, ⟨_, _, _, rfl, heap_alloc_new _ _, own_below (by assumption) ((Below.refl _ _).alloc (Nat.le_refl _) _)⟩⟩, (Below.refl _ _).alloc (Nat.le_refl _) _⟩)
        case op11_1 => (change flowStep _ _ _ _ _ _ _ _; intro wf vs hbf hf; have p0 := cellB hbf c2d; obtain ⟨e10, -⟩ := hf; replace e10 : vs 10 = .string ⟨(x.tail.take (x.length - 1 - 1)).toArray⟩ := e10; show wpList _ _ _ _ (Act.put _ (some 60) (vs 10)) _; rw [e10]; go_wp2_with (first | (go_at_call 106; ((with_reducible refine (Hkl.out _).mono ?_); rintro e w9 ⟨A9, c9, rfl, own, hb1⟩; (replace own := own_mono own hbf.size)))); first | exact ⟨rfl, rfl, ⟨_, _, rfl, rfl, rfl⟩, by first | with_reducible exact Below.refl _ _ | assumption | with_reducible exact (Below.refl _ _).drew | with_reducible exact (Below.refl _ _).alloc (Nat.le_refl _) _⟩ | exact ⟨rfl, rfl, ⟨_, _, rfl, rfl, (by show _ = _; rfl)⟩, by first | with_reducible exact Below.refl _ _ | assumption | with_reducible exact (Below.refl _ _).drew | with_reducible exact (Below.refl _ _).alloc (Nat.le_refl _) _⟩ | exact ⟨rfl, rfl, ⟨_, _, rfl, rfl, ⟨_, rfl, Below.size (by assumption), heap_alloc_new _ _⟩⟩, (Below.refl _ _).alloc (Nat.le_refl _) _⟩ | exact ⟨rfl, rfl, ⟨_, _, rfl, rfl, ⟨_, rfl, World.ownsRow_lit _ _ _ (Below.size (by assumption)) (by decide) rfl⟩⟩, (Below.refl _ _).alloc (Nat.le_refl _) _⟩ | exact ⟨rfl, rfl, ⟨_, _, rfl, rfl, ⟨_, _, rfl, by assumption⟩⟩, by first | with_reducible exact Below.refl _ _ | assumption⟩ | exact ⟨rfl, rfl, ⟨_, _, rfl, rfl, ⟨_, _, _, rfl, heap_alloc_new _ _, own_below (by assumption) ((Below.refl _ _).alloc (Nat.le_refl _) _)⟩⟩, (Below.refl _ _).alloc (Nat.le_refl _) _⟩)
        case op12_1 => (change flowStep _ _ _ _ _ _ _ _; intro wf vs hbf hf; have p0 := cellB hbf c2d; obtain ⟨⟨A11, c11, e11, o11⟩, -⟩ := hf; show wpList _ _ _ _ (Act.put _ (some 61) (vs 11)) _; rw [e11]; go_wp2_with (first | (go_at_call 106; ((with_reducible refine (Hkl.out _).mono ?_); rintro e w9 ⟨A9, c9, rfl, own, hb1⟩; (replace own := own_mono own hbf.size)))); first | exact ⟨rfl, rfl, ⟨_, _, rfl, rfl, rfl⟩, by first | with_reducible exact Below.refl _ _ | assumption | with_reducible exact (Below.refl _ _).drew | with_reducible exact (Below.refl _ _).alloc (Nat.le_refl _) _⟩ | exact ⟨rfl, rfl, ⟨_, _, rfl, rfl, (by show _ = _; rfl)⟩, by first | with_reducible exact Below.refl _ _ | assumption | with_reducible exact (Below.refl _ _).drew | with_reducible exact (Below.refl _ _).alloc (Nat.le_refl _) _⟩ | exact ⟨rfl, rfl, ⟨_, _, rfl, rfl, ⟨_, rfl, Below.size (by assumption), heap_alloc_new _ _⟩⟩, (Below.refl _ _).alloc (Nat.le_refl _) _⟩ | exact ⟨rfl, rfl, ⟨_, _, rfl, rfl, ⟨_, rfl, World.ownsRow_lit _ _ _ (Below.size (by assumption)) (by decide) rfl⟩⟩, (Below.refl _ _).alloc (Nat.le_refl _) _⟩ | exact ⟨rfl, rfl, ⟨_, _, rfl, rfl, ⟨_, _, rfl, by assumption⟩⟩, by first | with_reducible exact Below.refl _ _ | assumption⟩ | exact ⟨rfl, rfl, ⟨_, _, rfl, rfl, ⟨_, _, _, rfl, heap_alloc_new _ _, own_below (by assumption) ((Below.refl _ _).alloc (Nat.le_refl _) _)⟩⟩, (Below.refl _ _).alloc (Nat.le_refl _) _⟩)
        intro wf vs hbf hf; obtain ⟨e0, e1, e2, e3, e4, e5, e6, e7, e8, e9, e10, ⟨A11, c11, e11, o11⟩, ⟨A12, c12, e12, o12⟩, -⟩ := hf; replace e0 : vs 0 = .slice (some ⟨b3, off3, none⟩) U.length c3 := e0; replace e1 : vs 1 = .int .i64 (k : Int) := e1; replace e2 : vs 2 = .pointer (some ⟨b3, off3 + k, none⟩) := e2; replace e3 : vs 3 = strV x := e3; replace e4 : vs 4 = .slice (some ⟨b3, off3, none⟩) U.length c3 := e4; replace e5 : vs 5 = .int .i64 (k : Int) := e5; replace e6 : vs 6 = .pointer (some ⟨b3, off3 + k, none⟩) := e6; replace e7 : vs 7 = strV x := e7; replace e8 : vs 8 = .int .i64 (x.length : Int) := e8; replace e9 : vs 9 = .int .i64 ((x.length : Int) - 1) := e9; replace e10 : vs 10 = .string ⟨(x.tail.take (x.length - 1 - 1)).toArray⟩ := e10; show wpList _ _ _ _ (Act.put (Act.put (Act.put (Act.put (Act.put (Act.put (Act.put (Act.put (Act.put (Act.put (Act.put (Act.put (Act.put _ (some 50) (vs 0)) (some 51) (vs 1)) (some 52) (vs 2)) (some 53) (vs 3)) (some 54) (vs 4)) (some 55) (vs 5)) (some 56) (vs 6)) (some 57) (vs 7)) (some 58) (vs 8)) (some 59) (vs 9)) (some 60) (vs 10)) (some 61) (vs 11)) (some 9) (vs 12)) _; rw [e0, e1, e2, e3, e4, e5, e6, e7, e8, e9, e10, e11, e12]; simp only [Act.put, List.setIfInBounds_toArray, List.set_cons_succ, List.set_cons_zero, List.drop_succ_cons, List.drop_zero]
        refine wpList_nil ?_
        have hsf := hbf.size
        have v0 := blockB hbf Hv0.out
        have v1 := blockB hbf Hv1.out
        have hownv := SegM.below Hhownv.out hbf
        have ow3v := own_below How3v.out hbf
        have hbv := Hhbv.out.trans (hbf.mono Hhbv.out.size)
        have row0 := own_below Hrow0.out hbf
        have hsw := hbw.size
        have oV : wf.ownsRow (w1.heap.size + 1) 9 1 (.slice A12 V.length c12) V.length (V.map strV) := own_mono o12 (by omega)
        have Hv0 := Lib.hid v0; clear v0; have Hv1 := Lib.hid v1; clear v1; have Hhownv := Lib.hid hownv; clear hownv; have How3v := Lib.hid ow3v; clear ow3v; have Hhbv := Lib.hid hbv; clear hbv; have Hrow0 := Lib.hid row0; clear row0; have HoV := Lib.hid oV; clear oV
        clear c2 c2a c2d g0 g2 g3 g4 g5 o11 o12 e11
        generalize hB2x : wr.heap.size = B2 at *
        go_wp2_with fail
        go_loopw [8, 10] (fun u j wl => ∃ (i : Nat) (R : List Int), j = .int .i64 i ∧ i ≤ V.length ∧ R = (V.take i).map parseV ∧ wl.heap[w.heap.size]? = some (.cells #[.int .i64 0, .slice none 0 0] 44 (0, 0)) ∧ wl.heap[w1.heap.size]? = some (.cells #[.int .i64 (parseV a), .slice A' D.length q'] 44 (0, 0)) ∧ SegM wl (w1.heap.size + 1) B2 (.slice A' D.length q') D ∧ OwnI wl B2 u R ∧ Below w.heap.size w wl ∧ B2 < wl.heap.size ∧ wl.ownsRow (w1.heap.size + 1) 9 1 (.slice (some ⟨b3, off3, none⟩) U.length c3) U.length (U.map strV) ∧ wl.ownsRow (w1.heap.size + 1) 9 1 (.slice A12 V.length c12) V.length (V.map strV)) (fun _ j _ => V.length - (intOf j).toNat)
        case atStart => exact ⟨0, [], rfl, Nat.zero_le _, rfl, Hv0.out, Hv1.out, Hhownv.out, Hrow0.out, Hhbv.out, by omega, How3v.out, HoV.out⟩
        case round =>
          obtain ⟨i, R, rfl, hi, hR, n0, n1, hownl, rown, hbl2, hszl, ow3l, oVl⟩ := hrel
          have hRl : R.length ≤ i := by rw [hR]; simp; omega
          by_cases hli : i < V.length
          · have g0 : (i : Int) < (V.length : Int) := by omega
            obtain ⟨b4, off4, rfl, c4⟩ := strs_open oVl i hli
            have hyl := Hhel3.out V[i] (List.getElem_mem hli)
            have hRs : R ++ [parseV V[i]] = (V.take (i + 1)).map parseV := by rw [List.take_succ_eq_append_getElem hli, List.map_append, hR]; rfl
            have kq := fun W => ParseInt_s V[i] hyl W
            obtain ⟨y, hy⟩ : ∃ y, V[i] = y := ⟨_, rfl⟩
            rw [hy] at c4 hyl hRs kq
            generalize parseV y = z at *
            generalize parseOk y = zok at *
            have HhR := Lib.hid hR; clear hR; have HhRs := Lib.hid hRs; clear hRs; have Hhy := Lib.hid hy; clear hy; have Hn0 := Lib.hid n0; clear n0; have Hn1 := Lib.hid n1; clear n1; have Hhownl := Lib.hid hownl; clear hownl; have Hrown := Lib.hid rown; clear rown; have How3l := Lib.hid ow3l; clear ow3l; have HoVl := Lib.hid oVl; clear oVl; have Hkq := Lib.hid kq; clear kq
            go_wp2_with (first
              | (go_at_call 107; ((with_reducible refine (Hkq.out _).mono ?_); rintro e w4 ⟨rfl, hb4⟩; (have rown4 := own_below Hrown.out hb4; have hs4 := hb4.size)))
              | (at_builtin; go_must (refine wp_append_one intT rfl _ _ rfl B2 _ R.length (R.map intV) rfl rown4 _ rfl rfl (by omega) (by omega) ?_; intro v5 w5 rown5 hgr5 hb5; have rown6 := own_push rown5)))
            go_roundw
            case rel => exact ⟨i + 1, R ++ [z], by go_num, by omega, HhRs.out, blockL hb5 (by omega) (blockB hb4 Hn0.out), blockL hb5 (by omega) (blockB hb4 Hn1.out), segM_low (SegM.below Hhownl.out hb4) hb5, rown6, (hbl2.trans (hb4.mono hbl2.size)).trans (hb5.mono (by omega)), by have := hb5.size; omega, ints_strs rown4 hgr5 (own_below How3l.out hb4), ints_strs rown4 hgr5 (own_below HoVl.out hb4)⟩
            case measure => simp [intOf] <;> omega
          · obtain rfl : i = V.length := by omega
            have g0 : ¬ (V.length : Int) < (V.length : Int) := by omega
            rw [List.take_length] at hR
            have hst2 := Hhst.out
            rw [← hR] at hst2
            have s1 := cellAt n1 1
            obtain ⟨Au, cu, eu, -⟩ := IRow.open (OwnI.row rown)
            subst eu
            have HhR := Lib.hid hR; clear hR; have Hn0 := Lib.hid n0; clear n0; have Hn1 := Lib.hid n1; clear n1; have Hhownl := Lib.hid hownl; clear hownl; have Hrown := Lib.hid rown; clear rown; have How3l := Lib.hid ow3l; clear ow3l; have HoVl := Lib.hid oVl; clear oVl; have Hhst2 := Lib.hid hst2; clear hst2; have HhRl := Lib.hid hRl; clear hRl
            have hDl := HhDl.out
            go_wp2_with (at_builtin; have hX := Hhownl.out; have rX := Hrown.out; go_must (refine wp_append_rowM rfl _ _ rfl (w1.heap.size + 1) B2 _ D rfl hX _ R rX (by first | rfl | simp [Act.eval]) (by omega) (by omega) (by omega) ?_; intro v5 w5 hown5 hb5 hgr5; obtain ⟨A5, q5, e5⟩ := MRow.opened (SegM.row hown5); subst e5; have m0 := blockL hb5 (by omega) Hn0.out; have m1 := blockL hb5 (by omega) Hn1.out; have u1 := cellAt m1 1; have p1 := frozen0 (j := 1) m1; have ow5 := strs_keep Hhownl.out hgr5 How3l.out))
            go_roundw
            case rel => exact ⟨k + 1, D ++ [R], A5, q5, by go_num, by omega, Hhst2.out, setO (by omega) m0 _, (by rw [show (D ++ [R]).length = D.length + 1 by simp]; exact set1 m1 _), (SegM.setO hown5 m1 (by decide) (by decide) _).wide (Nat.le_refl _) (by simp [World.setCell]), (hbl2.trans (hb5.mono (by omega))).setCell (p := ⟨w1.heap.size, 1, none⟩) (by show w.heap.size ≤ w1.heap.size; omega) _, own_set_other ow5 m1 (by decide) _⟩
            case measure => simp [intOf] <;> omega
      · have g2 : ¬ (2 : Int) < (x.length : Int) := by omega
        rw [wordS_short hx2] at hst
        have s1 := cellAt v1 1
        have hwd := hbw.size
        have HhD := Lib.hid hD; clear hD; have Hhx := Lib.hid hx; clear hx; have Hhown := Lib.hid hown; clear hown; have Hhst := Lib.hid hst; clear hst; have How3 := Lib.hid ow3; clear ow3; have Hv0 := Lib.hid v0; clear v0; have Hhownv := Lib.hid hownv; clear hownv; have How3v := Lib.hid ow3v; clear ow3v; have Hhbv := Lib.hid hbv; clear hbv; have Hrow0 := Lib.hid row0; clear row0; have HhDl := Lib.hid hDl; clear hDl
        go_wp2_with (at_builtin; go_must (refine wp_append_rowM rfl _ _ rfl (w1.heap.size + 1) wr.heap.size _ D rfl Hhownv.out _ [] Hrow0.out (by first | rfl | simp [Act.eval]) (by have := HhDl.out; omega) (by omega) (by omega) ?_; intro v5 w5 hown5 hb5 hgr5; obtain ⟨A5, q5, e5⟩ := MRow.opened (SegM.row hown5); subst e5; have m0 := blockL hb5 (by omega) Hv0.out; have m1 := blockL hb5 (by omega) v1; have u1 := cellAt m1 1; have p1 := frozen0 (j := 1) m1; have ow5 := strs_keep Hhownv.out hgr5 How3v.out))
        go_roundw
        case rel => exact ⟨k + 1, D ++ [([] : List Int)], A5, q5, by go_num, by omega, Hhst.out, setO (by omega) m0 _, (by rw [show (D ++ [([] : List Int)]).length = D.length + 1 by simp]; exact set1 m1 _), (SegM.setO hown5 m1 (by decide) (by decide) _).wide (Nat.le_refl _) (by simp [World.setCell]), (Hhbv.out.trans (hb5.mono (by omega))).setCell (p := ⟨w1.heap.size, 1, none⟩) (by show w.heap.size ≤ w1.heap.size; omega) _, own_set_other ow5 m1 (by decide) _⟩
        case measure => simp [intOf] <;> omega
    · obtain rfl : k = U.length := by omega
      have g0 : ¬ (U.length : Int) < (U.length : Int) := by omega
      rw [List.take_length] at hD
      have heT : bodyT (a :: t) = D := by rw [HeT.out, hD]
      have hrow := SegM.row hown
      have v0 := cellAt r1 0; have v1 := cellAt r1 1
      have kf := fun W h => FormatRelation_s (.slice A' D.length q') (parseV a) D W h
      have hsw := hbw.size
      by_cases hfl : fmtRel (parseV a) D = l
      · by_cases hl0 : l = []
        · have e : parRel l = (0, [], false) := by rw [hl0]; exact parS_nil
          rw [hfl] at kf
          have d3 : (l == l) = true := by simp
          have d4 : (l != l) = false := by simp
          have d5 : (l == []) = true := by rw [beq_iff_eq]; exact hl0
          have Hkf := Lib.hid kf; clear kf; have He := Lib.hid e; clear e; have Hhfl := Lib.hid hfl; clear hfl; have Hhl0 := Lib.hid hl0; clear hl0; have Hhrow := Lib.hid hrow; clear hrow; have Hhown := Lib.hid hown; clear hown; have HhD := Lib.hid hD; clear hD
          go_wp2_with (go_at_call 72; ((with_reducible refine (Hkf.out _ Hhrow.out).mono ?_); rintro e w7 ⟨rfl, hb7⟩; (have n0 := blockB hb7 r0; have n1 := blockB hb7 r1; have s0 := cellAt n0 0; have s1 := cellAt n0 1; have u0 := cellAt n1 0; have u1 := cellAt n1 1; have p0 := frozen0 (j := 0) n0; have p1 := frozen0 (j := 1) n0)))
          refine bodyPost_ret (res_rel_tmp rfl rfl rfl (set1 (set0 n0 _) _)) rfl (retP_no He.out rfl ?_)
          exact ((hbw.trans (hb7.mono hbw.size)).setCell (p := ⟨w.heap.size, 0, none⟩) (Nat.le_refl _) _).setCell (p := ⟨w.heap.size, 1, none⟩) (Nat.le_refl _) _
        · have e := parS_yes (a := a) (t := t) hl0 (by rw [heT]; exact hfl)
          rw [heT] at e
          rw [hfl] at kf
          have d3 : (l == l) = true := by simp
          have d4 : (l != l) = false := by simp
          have d5 : (l == []) = false := by rw [beq_eq_false_iff_ne]; exact hl0
          have Hkf := Lib.hid kf; clear kf; have He := Lib.hid e; clear e; have Hhfl := Lib.hid hfl; clear hfl; have Hhl0 := Lib.hid hl0; clear hl0; have Hhrow := Lib.hid hrow; clear hrow; have Hhown := Lib.hid hown; clear hown; have HhD := Lib.hid hD; clear hD
          go_wp2_with (go_at_call 72; ((with_reducible refine (Hkf.out _ Hhrow.out).mono ?_); rintro e w7 ⟨rfl, hb7⟩; (have n0 := blockB hb7 r0; have n1 := blockB hb7 r1; have s0 := cellAt n0 0; have s1 := cellAt n0 1; have u0 := cellAt n1 0; have u1 := cellAt n1 1; have p0 := frozen0 (j := 0) n0; have p1 := frozen0 (j := 1) n0)))
          have q1 := set0 n0 (.int .i64 (parseV a))
          have oz := SegM.below Hhown.out hb7
          have oa := SegM.setO (j := 0) oz n0 (by decide) (by decide) (.int .i64 (parseV a))
          have ob := SegM.setO (j := 1) oa q1 (by decide) (by decide) (.slice A' D.length q')
          have hs7 := hb7.size
          refine bodyPost_ret (res_rel_tmp rfl rfl rfl (set1 q1 _)) rfl (retP_yes He.out rfl (ob.wide (by omega) (by simp [World.setCell]; omega)) ?_)
          exact ((hbw.trans (hb7.mono hbw.size)).setCell (p := ⟨w.heap.size, 0, none⟩) (Nat.le_refl _) _).setCell (p := ⟨w.heap.size, 1, none⟩) (Nat.le_refl _) _
      · have e := parS_not (a := a) (t := t) HhW.out (by rw [heT]; exact hfl)
        generalize fmtRel (parseV a) D = F at *
        have d3 : (F == l) = false := by rw [beq_eq_false_iff_ne]; exact hfl
        have d4 : (F != l) = true := by rw [bne_iff_ne]; exact hfl
        have Hkf := Lib.hid kf; clear kf; have He := Lib.hid e; clear e; have Hhfl := Lib.hid hfl; clear hfl; have Hhrow := Lib.hid hrow; clear hrow; have Hhown := Lib.hid hown; clear hown; have HhD := Lib.hid hD; clear hD
        go_wp2_with (go_at_call 72; ((with_reducible refine (Hkf.out _ Hhrow.out).mono ?_); rintro e w7 ⟨rfl, hb7⟩; (have n0 := blockB hb7 r0; have n1 := blockB hb7 r1; have s0 := cellAt n0 0; have s1 := cellAt n0 1; have u0 := cellAt n1 0; have u1 := cellAt n1 1; have p0 := frozen0 (j := 0) n0; have p1 := frozen0 (j := 1) n0)))
        refine bodyPost_ret (res_rel_tmp rfl rfl rfl (set1 (set0 n0 _) _)) rfl (retP_no He.out rfl ?_)
        exact ((hbw.trans (hb7.mono hbw.size)).setCell (p := ⟨w.heap.size, 0, none⟩) (Nat.le_refl _) _).setCell (p := ⟨w.heap.size, 1, none⟩) (Nat.le_refl _) _
end Go.Proofs.Ytbajnecahojcfaa
