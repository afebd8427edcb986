/- Every projected row comes from a row, and projecting to all columns returns the relation. No condition. (Written by mkreldraws.py.) -/
import Derived.Test.YtbajnecahojcfaaRows
import Derived.Test.YtbajnecahojcfaaHead
import Derived.Test.YtbajnecahojcfaaOpen
import Derived.Test.YtbajnecahojcfaaFactR
import Derived.Test.YtbajnecahojcfaaBigL
import Derived.Test.YtbajnecahojcfaaDrawP
import Derived.Test.YtbajnecahojcfaaProS
import Derived.Test.YtbajnecahojcfaaEqR
import Derived.Test.YtbajnecahojcfaaRelQ
import Derived.ProofKit
import Derived.OpenShut
import Derived.ChangeOld
namespace Go.Proofs.Ytbajnecahojcfaa.fnProjection
open Go.ChangeShapes Go.WideShapes Go.ChangeAt Go.RowKit
set_option linter.unusedVariables false
set_option maxHeartbeats 8000000
set_option maxRecDepth 100000
theorem walk (v : Value) (bs : List UInt8) (w : World) (hv : SlB w.heap.size w v bs) : Calls Try.prog 25 #[v] w (RetB (.bool true) w) := by
  by_cases h0 : bs.length ≤ 1048576
  rotate_left
  · have d0 : decide ((1048576 : Int) < (bs.length : Int)) = true := by rw [decide_eq_true_eq]; omega
    go_enter Try.func25, Try.ntmps25
    go_wp2_with (go_at_call 39; ((with_reducible refine (big_l v bs _ hv).mono ?_); rintro e w' ⟨rfl, rfl⟩))
    go_ret
    exact ⟨rfl, Below.refl _ _⟩
  have d0 : decide ((1048576 : Int) < (bs.length : Int)) = false := by rw [decide_eq_false_iff_not]; omega
  go_enter Try.func25, Try.ntmps25
  go_wp2_with (first | (go_at_call 39; ((with_reducible refine (big_l v bs _ hv).mono ?_); rintro e w' ⟨rfl, rfl⟩)) | (go_at_call 92; ((with_reducible refine (DrawProject_s v bs _ h0 hv).mono ?_); rintro e wd ⟨a0, m0, A0, c0, l1, A1, c1, rfl, hany, hl1, own0, own1, hB⟩)))
  have n0 := hB.size
  have ht0 := any_total hany
  replace own1 := SegI.of own1
  have k1 : ∀ v u W, MRow W v m0 → IRow W u l1 → Calls Try.prog 93 #[.agg #[.int .i64 a0, v], u] W (RetMB (proA a0 m0 l1) (proM a0 m0 l1) (proOk a0 m0 l1) W) := fun v u W h h' => Project_i v u a0 m0 l1 W h h' (by omega)
  have k2 : ∀ v u W, MRow W v m0 → IRow W u l1 → Calls Try.prog 94 #[.agg #[.int .i64 a0, v], u] W (RetMB (proA a0 m0 l1) (proM a0 m0 l1) (proOk a0 m0 l1) W) := fun v u W h h' => Project_s v u a0 m0 l1 W h h' (by omega)
  have hpl := fun h => pro_law (ar := a0) (m := m0) (cols := l1) h
  obtain ⟨PA, hPA⟩ : ∃ P, proA a0 m0 l1 = P := ⟨_, rfl⟩
  obtain ⟨PM, hPM⟩ : ∃ P, proM a0 m0 l1 = P := ⟨_, rfl⟩
  rw [hPA, hPM] at k1 k2
  rw [hPM] at hpl
  have k3 := fun u v W h h' => EqualRelations_s u v PA PA PM PM W h h'
  rw [eqR_self] at k3
  have k4 := fun u v W h h' => EqualRelations_s u v a0 a0 m0 m0 W h h'
  rw [eqR_self] at k4
  cases hi : proOk a0 m0 l1 with
  | false =>
    rw [hi] at k1 k2
    have Hk1 := Lib.hid k1; clear k1; have Hk2 := Lib.hid k2; clear k2; have Hk3 := Lib.hid k3; clear k3; have Hk4 := Lib.hid k4; clear k4; have Hhi := Lib.hid hi; clear hi; have Hhpl := Lib.hid hpl; clear hpl; have HhPA := Lib.hid hPA; clear hPA; have HhPM := Lib.hid hPM; clear hPM; have Hhany := Lib.hid hany; clear hany
    go_wp2_with (first 
    | (go_at_call 93; ((with_reducible refine (Hk1.out _ _ _ (SegM.row (SegM.alloc own0 _)) (SegI.row (SegI.alloc own1 _))).mono ?_); rintro e w1 ⟨Ax2, cx2, rfl, own, hb⟩; (have y3 := blockB hb (heap_alloc_new _ (.cells #[.int .i64 a0, .slice A0 m0.length c0] 44)); replace own0 := SegM.below (SegM.alloc own0 _) hb; replace own1 := SegI.below (SegI.alloc own1 _) hb; have n4 : wd.heap.size + 1 ≤ w1.heap.size := (by have := hb.size; simp only [size_alloc] at this; exact this); replace hB := belowA hB hb; clear hb; simp only [size_alloc] at own; have r5 := SegM.of own; clear own; have y3c0 := cellAt y3 0; have y3a0 := fun o => cellAt (heapN y3 o) 0; have y3c1 := cellAt y3 1; have y3a1 := fun o => cellAt (heapN y3 o) 1))) 
    | (go_at_call 94; ((with_reducible refine (Hk2.out _ _ _ (SegM.row (SegM.alloc own0 _)) (SegI.row (SegI.alloc own1 _))).mono ?_); rintro e w6 ⟨Ax7, cx7, rfl, own, hb⟩; (replace y3 := blockB hb (heapN y3 _); have y8 := blockB hb (heap_alloc_new _ (.cells #[.int .i64 PA, .slice Ax2 PM.length cx2] 44)); replace own0 := SegM.below (SegM.alloc own0 _) hb; replace own1 := SegI.below (SegI.alloc own1 _) hb; replace r5 := SegM.below (SegM.alloc r5 _) hb; have n9 : w1.heap.size + 1 ≤ w6.heap.size := (by have := hb.size; simp only [size_alloc] at this; exact this); replace hB := belowA hB hb; clear hb; simp only [size_alloc] at own; have r10 := SegM.of own; clear own; clear y3c0 y3a0 y3c1 y3a1; have y3c0 := cellAt y3 0; have y3a0 := fun o => cellAt (heapN y3 o) 0; have y3c1 := cellAt y3 1; have y3a1 := fun o => cellAt (heapN y3 o) 1; have y8c0 := cellAt y8 0; have y8a0 := fun o => cellAt (heapN y8 o) 0; have y8c1 := cellAt y8 1; have y8a1 := fun o => cellAt (heapN y8 o) 1))) 
    | (go_at_call 56; ((with_reducible refine (Hk3.out _ _ _ (SegM.row (SegM.alloc r5 _)) (SegM.row (SegM.alloc r10 _))).mono ?_); rintro e w11 ⟨rfl, hb⟩; (replace y3 := blockB hb (heapN y3 _); replace y8 := blockB hb (heapN y8 _); have y12 := blockB hb (heap_alloc_new _ (.cells #[.int .i64 PA, .slice Ax7 PM.length cx7] 44)); replace own0 := SegM.below (SegM.alloc own0 _) hb; replace own1 := SegI.below (SegI.alloc own1 _) hb; replace r5 := SegM.below (SegM.alloc r5 _) hb; replace r10 := SegM.below (SegM.alloc r10 _) hb; have n13 : w6.heap.size + 1 ≤ w11.heap.size := (by have := hb.size; simp only [size_alloc] at this; exact this); replace hB := belowA hB hb; clear hb; clear y3c0 y3a0 y3c1 y3a1 y8c0 y8a0 y8c1 y8a1; have y3c0 := cellAt y3 0; have y3a0 := fun o => cellAt (heapN y3 o) 0; have y3c1 := cellAt y3 1; have y3a1 := fun o => cellAt (heapN y3 o) 1; have y8c0 := cellAt y8 0; have y8a0 := fun o => cellAt (heapN y8 o) 0; have y8c1 := cellAt y8 1; have y8a1 := fun o => cellAt (heapN y8 o) 1; have y12c0 := cellAt y12 0; have y12a0 := fun o => cellAt (heapN y12 o) 0; have y12c1 := cellAt y12 1; have y12a1 := fun o => cellAt (heapN y12 o) 1))))
    go_ret
    exact ⟨rfl, hB⟩
  | true =>
    rw [hi] at k1 k2
    obtain ⟨q1, q2, q3⟩ := hpl hi
    obtain ⟨q4, q5, q6⟩ := all_law q3
    have har := (relOk_iff.1 q3).1
    obtain ⟨n, hn⟩ := Int.eq_ofNat_of_zero_le har.1
    have hnt : a0.toNat = n := by omega
    rw [hnt] at q4 q5 q6
    have hdl := idx_len n
    have k5 : ∀ v u W, MRow W v m0 → IRow W u (idx n) → Calls Try.prog 93 #[.agg #[.int .i64 a0, v], u] W (RetMB (proA a0 m0 (idx n)) (proM a0 m0 (idx n)) (proOk a0 m0 (idx n)) W) := fun v u W h h' => Project_i v u a0 m0 (idx n) W h h' (by omega)
    rw [q4, q5, q6] at k5
    obtain ⟨DD, hDD⟩ : ∃ D, idx n = D := ⟨_, rfl⟩
    rw [hDD] at k5
    obtain ⟨G, hG⟩ : ∃ G, ((m0.length : Int) == 0) = G := ⟨_, rfl⟩
    have hG2 : ((PM.length : Int) == 0) = G := by
      rw [← hG, Bool.eq_iff_iff, beq_iff_eq, beq_iff_eq]
      constructor
      · intro h; have := q2.1 (by omega); omega
      · intro h; have := q2.2 (by omega); omega
    have hG3 : (m0.length == 0) = G := by rw [← hG, Bool.eq_iff_iff, beq_iff_eq, beq_iff_eq]; omega
    have hG4 : (PM.length == 0) = G := by rw [← hG2, Bool.eq_iff_iff, beq_iff_eq, beq_iff_eq]; omega
    have dle : (PM.length : Int) ≤ (m0.length : Int) := by omega
    have hn5 : n ≤ 5 := by omega
    obtain ⟨ha5, ha6⟩ := har
    clear q4 q5 q6 hnt hdl
    have Hk1 := Lib.hid k1; clear k1; have Hk2 := Lib.hid k2; clear k2; have Hk3 := Lib.hid k3; clear k3; have Hk4 := Lib.hid k4; clear k4; have Hk5 := Lib.hid k5; clear k5; have Hhi := Lib.hid hi; clear hi; have Hhpl := Lib.hid hpl; clear hpl; have HhPA := Lib.hid hPA; clear hPA; have HhPM := Lib.hid hPM; clear hPM; have Hhany := Lib.hid hany; clear hany; have Hq1 := Lib.hid q1; clear q1; have Hq2 := Lib.hid q2; clear q2; have Hq3 := Lib.hid q3; clear q3; have HhDD := Lib.hid hDD; clear hDD; have HhG := Lib.hid hG; clear hG; have HhG2 := Lib.hid hG2; clear hG2; have HhG3 := Lib.hid hG3; clear hG3; have HhG4 := Lib.hid hG4; clear hG4; have Hdle := Lib.hid dle; clear dle; have Hhn := Lib.hid hn; clear hn
    go_wp2_with (first 
    | (go_at_call 93; ((with_reducible refine (Hk1.out _ _ _ (SegM.row (SegM.alloc own0 _)) (SegI.row (SegI.alloc own1 _))).mono ?_); rintro e w1 ⟨Ax2, cx2, rfl, own, hb⟩; (have y3 := blockB hb (heap_alloc_new _ (.cells #[.int .i64 a0, .slice A0 m0.length c0] 44)); replace own0 := SegM.below (SegM.alloc own0 _) hb; replace own1 := SegI.below (SegI.alloc own1 _) hb; have n4 : wd.heap.size + 1 ≤ w1.heap.size := (by have := hb.size; simp only [size_alloc] at this; exact this); replace hB := belowA hB hb; clear hb; simp only [size_alloc] at own; have r5 := SegM.of own; clear own; have y3c0 := cellAt y3 0; have y3a0 := fun o => cellAt (heapN y3 o) 0; have y3c1 := cellAt y3 1; have y3a1 := fun o => cellAt (heapN y3 o) 1))) 
    | (go_at_call 94; ((with_reducible refine (Hk2.out _ _ _ (SegM.row (SegM.alloc own0 _)) (SegI.row (SegI.alloc own1 _))).mono ?_); rintro e w6 ⟨Ax7, cx7, rfl, own, hb⟩; (replace y3 := blockB hb (heapN y3 _); have y8 := blockB hb (heap_alloc_new _ (.cells #[.int .i64 PA, .slice Ax2 PM.length cx2] 44)); replace own0 := SegM.below (SegM.alloc own0 _) hb; replace own1 := SegI.below (SegI.alloc own1 _) hb; replace r5 := SegM.below (SegM.alloc r5 _) hb; have n9 : w1.heap.size + 1 ≤ w6.heap.size := (by have := hb.size; simp only [size_alloc] at this; exact this); replace hB := belowA hB hb; clear hb; simp only [size_alloc] at own; have r10 := SegM.of own; clear own; clear y3c0 y3a0 y3c1 y3a1; have y3c0 := cellAt y3 0; have y3a0 := fun o => cellAt (heapN y3 o) 0; have y3c1 := cellAt y3 1; have y3a1 := fun o => cellAt (heapN y3 o) 1; have y8c0 := cellAt y8 0; have y8a0 := fun o => cellAt (heapN y8 o) 0; have y8c1 := cellAt y8 1; have y8a1 := fun o => cellAt (heapN y8 o) 1))) 
    | (go_at_call 56; ((with_reducible refine (Hk3.out _ _ _ (SegM.row (SegM.alloc r5 _)) (SegM.row (SegM.alloc r10 _))).mono ?_); rintro e w11 ⟨rfl, hb⟩; (replace y3 := blockB hb (heapN y3 _); replace y8 := blockB hb (heapN y8 _); have y12 := blockB hb (heap_alloc_new _ (.cells #[.int .i64 PA, .slice Ax7 PM.length cx7] 44)); replace own0 := SegM.below (SegM.alloc own0 _) hb; replace own1 := SegI.below (SegI.alloc own1 _) hb; replace r5 := SegM.below (SegM.alloc r5 _) hb; replace r10 := SegM.below (SegM.alloc r10 _) hb; have n13 : w6.heap.size + 1 ≤ w11.heap.size := (by have := hb.size; simp only [size_alloc] at this; exact this); replace hB := belowA hB hb; clear hb; clear y3c0 y3a0 y3c1 y3a1 y8c0 y8a0 y8c1 y8a1; have y3c0 := cellAt y3 0; have y3a0 := fun o => cellAt (heapN y3 o) 0; have y3c1 := cellAt y3 1; have y3a1 := fun o => cellAt (heapN y3 o) 1; have y8c0 := cellAt y8 0; have y8a0 := fun o => cellAt (heapN y8 o) 0; have y8c1 := cellAt y8 1; have y8a1 := fun o => cellAt (heapN y8 o) 1; have y12c0 := cellAt y12 0; have y12a0 := fun o => cellAt (heapN y12 o) 0; have y12c1 := cellAt y12 1; have y12a1 := fun o => cellAt (heapN y12 o) 1))))
    clear y3c0 y3a0 y3c1 y3a1 y8c0 y8a0 y8c1 y8a1 y12c0 y12a0 y12c1 y12a1
    have hl0 : OwnI (w11.alloc (.cells #[] 3)) w11.heap.size (.slice (some ⟨w11.heap.size, 0, none⟩) 0 0) [] := World.ownsRow_lit w11 #[] 0 (Nat.le_refl _) (by decide) rfl
    have hba : Below w11.heap.size w11 (w11.alloc (.cells #[] 3)) := (Below.refl _ _).alloc (Nat.le_refl _) _
    have Hy3 := Lib.hid y3; clear y3; have Hy8 := Lib.hid y8; clear y8; have Hy12 := Lib.hid y12; clear y12; have Hown0 := Lib.hid own0; clear own0; have Hown1 := Lib.hid own1; clear own1; have Hr5 := Lib.hid r5; clear r5; have Hr10 := Lib.hid r10; clear r10; have HhB := Lib.hid hB; clear hB; have Hhl0 := Lib.hid hl0; clear hl0; have Hhba := Lib.hid hba; clear hba
    go_loopw [9, 10] (fun u i wr => ∃ (k : Nat) (D : List Int) (A2 : Option Addr) (q : Nat), u = .slice A2 D.length q ∧ i = .int .i64 k ∧ k ≤ n ∧ D = idx k ∧ OwnI wr w11.heap.size (.slice A2 D.length q) D ∧ Below w11.heap.size w11 wr) (fun _ i _ => n - (intOf i).toNat)
    case atStart => exact ⟨0, [], some ⟨w11.heap.size, 0, none⟩, 0, rfl, rfl, Nat.zero_le _, rfl, Hhl0.out, Hhba.out⟩
    case round =>
      obtain ⟨k, D, A2, qd, rfl, rfl, hk, hD, hown, hbl⟩ := hrel
      have y3 := blockB hbl Hy3.out
      have y8 := blockB hbl Hy8.out
      have y12 := blockB hbl Hy12.out
      have own0 := SegM.below Hown0.out hbl
      have own1 := SegI.below Hown1.out hbl
      have r5 := SegM.below Hr5.out hbl
      have r10 := SegM.below Hr10.out hbl
      have hB := HhB.out.trans (hbl.mono HhB.out.size)
      have hDl : D.length ≤ k := by rw [hD, idx_len]; omega
      have tA := cellAt y3 0
      by_cases hlt : k < n
      · have g0 : (k : Int) < a0 := by have := Hhn.out; omega
        have hst := idx_step k
        rw [← hD] at hst
        have Hhown := Lib.hid hown; clear hown; have HhD := Lib.hid hD; clear hD; have Hhst := Lib.hid hst; clear hst
        go_wp2_with (at_builtin; go_must (refine wp_append_one intT rfl _ _ rfl w11.heap.size _ D.length (D.map intV) rfl Hhown.out _ rfl rfl (by omega) hbl.size ?_; intro v5 w5 own5 hgr5 hb5; replace own5 := own_push own5; obtain ⟨A5, q5, e5⟩ := own_int_open own5; subst e5))
        go_roundw
        case rel => exact ⟨k + 1, D ++ [(k : Int)], A5, q5, by rw [List.length_append]; rfl, by go_num, by omega, Hhst.out, own5, hbl.trans hb5⟩
        case measure => simp [intOf] <;> omega
      · obtain rfl : k = n := by omega
        have g0 : ¬ (k : Int) < a0 := by have := Hhn.out; omega
        rw [HhDD.out] at hD
        subst hD
        have hown := SegI.of hown
        have hG := HhG.out; have hG2 := HhG2.out; have hG3 := HhG3.out; have hG4 := HhG4.out; have dle := Hdle.out
        have y3c0 := cellAt y3 0; have y3a0 := fun o => cellAt (heapN y3 o) 0; have y3c1 := cellAt y3 1; have y3a1 := fun o => cellAt (heapN y3 o) 1; have y8c0 := cellAt y8 0; have y8a0 := fun o => cellAt (heapN y8 o) 0; have y8c1 := cellAt y8 1; have y8a1 := fun o => cellAt (heapN y8 o) 1; have y12c0 := cellAt y12 0; have y12a0 := fun o => cellAt (heapN y12 o) 0; have y12c1 := cellAt y12 1; have y12a1 := fun o => cellAt (heapN y12 o) 1
        go_wp2_with (first 
    | (go_at_call 93; ((with_reducible refine (Hk5.out _ _ _ (SegM.row own0) (SegI.row hown)).mono ?_); rintro e w14 ⟨Ax15, cx15, rfl, own, hb⟩; (replace y3 := blockB hb y3; replace y8 := blockB hb y8; replace y12 := blockB hb y12; replace own0 := SegM.below own0 hb; replace own1 := SegI.below own1 hb; replace r5 := SegM.below r5 hb; replace r10 := SegM.below r10 hb; replace hown := SegI.below hown hb; have n16 : wr.heap.size ≤ w14.heap.size := hb.size; replace hB := hB.trans (hb.mono hB.size); clear hb; have r17 := SegM.of own; clear own; clear y3c0 y3a0 y3c1 y3a1 y8c0 y8a0 y8c1 y8a1 y12c0 y12a0 y12c1 y12a1; have y3c0 := cellAt y3 0; have y3a0 := fun o => cellAt (heapN y3 o) 0; have y3c1 := cellAt y3 1; have y3a1 := fun o => cellAt (heapN y3 o) 1; have y8c0 := cellAt y8 0; have y8a0 := fun o => cellAt (heapN y8 o) 0; have y8c1 := cellAt y8 1; have y8a1 := fun o => cellAt (heapN y8 o) 1; have y12c0 := cellAt y12 0; have y12a0 := fun o => cellAt (heapN y12 o) 0; have y12c1 := cellAt y12 1; have y12a1 := fun o => cellAt (heapN y12 o) 1))) 
    | (go_at_call 56; ((with_reducible refine (Hk4.out _ _ _ (SegM.row (SegM.alloc r17 _)) (SegM.row (SegM.alloc own0 _))).mono ?_); rintro e w18 ⟨rfl, hb⟩; (replace y3 := blockB hb (heapN y3 _); replace y8 := blockB hb (heapN y8 _); replace y12 := blockB hb (heapN y12 _); have y19 := blockB hb (heap_alloc_new _ (.cells #[.int .i64 a0, .slice Ax15 m0.length cx15] 44)); replace own0 := SegM.below (SegM.alloc own0 _) hb; replace own1 := SegI.below (SegI.alloc own1 _) hb; replace r5 := SegM.below (SegM.alloc r5 _) hb; replace r10 := SegM.below (SegM.alloc r10 _) hb; replace hown := SegI.below (SegI.alloc hown _) hb; replace r17 := SegM.below (SegM.alloc r17 _) hb; have n20 : w14.heap.size + 1 ≤ w18.heap.size := (by have := hb.size; simp only [size_alloc] at this; exact this); replace hB := belowA hB hb; clear hb; clear y3c0 y3a0 y3c1 y3a1 y8c0 y8a0 y8c1 y8a1 y12c0 y12a0 y12c1 y12a1; have y3c0 := cellAt y3 0; have y3a0 := fun o => cellAt (heapN y3 o) 0; have y3c1 := cellAt y3 1; have y3a1 := fun o => cellAt (heapN y3 o) 1; have y8c0 := cellAt y8 0; have y8a0 := fun o => cellAt (heapN y8 o) 0; have y8c1 := cellAt y8 1; have y8a1 := fun o => cellAt (heapN y8 o) 1; have y12c0 := cellAt y12 0; have y12a0 := fun o => cellAt (heapN y12 o) 0; have y12c1 := cellAt y12 1; have y12a1 := fun o => cellAt (heapN y12 o) 1; have y19c0 := cellAt y19 0; have y19a0 := fun o => cellAt (heapN y19 o) 0; have y19c1 := cellAt y19 1; have y19a1 := fun o => cellAt (heapN y19 o) 1))))
        go_ret
        exact ⟨rfl, hB⟩
theorem own : ownKnob Try.prog.godebug = none := by kernel_rfl
theorem laidOut : laidOutB Try.prog = true := by kernel_rfl
set_option maxRecDepth 100000 in
theorem lifted (os : Os) (started : os.Started) (H : Type) (enc : TypeId × Value → H) :
    ReturnsInHanded {} Try.checked os 25 .any (Rows.fnProjectionSpec.pre6 enc Try.prog Try.f25 Rows.fnProjectionRow.domain false) (Rows.fnProjectionSpec.post enc Try.prog Try.f25 false true false false) := by
  refine returnsInHanded_of_change (C := Try.checked) own started (by kernel_rfl) Try.func25
    (ChangeSpec.witness6 (enc := enc) (C := Try.checked) false ⟨#[], #[.slice none 0 0], []⟩ 8 (by kernel_rfl) (by kernel_rfl) (by kernel_rfl) (by kernel_rfl)) ?_
  intro W base args ds gs before hval0 hW hcnd _
  have hval : ∀ (j : Nat) t v, Try.f25.params[j]? = some t → args[j]? = some v → Value.okWide Try.prog W .any base t v := hval0
  have hW' := hW
  obtain ⟨p, q, hA0, hV, rfl, hfz, hnd⟩ := hW
  have hA : DataW.TrodAll enc Try.prog W 0 (fun _ => true) true Try.f25.params.toList args.toList ds p := hA0
  rw [Try.params25] at hA hval
  obtain ⟨v0, vs0, d0, ds0, p0, q0, hargs, rfl, rfl, h0, r0⟩ := trodAll_cons hA
  obtain ⟨rfl, rfl, rfl⟩ := trodAll_nil r0
  obtain rfl : args = #[v0] := by cases args; simp_all
  obtain ⟨rfl, rfl⟩ := trodVars_none hV
  have k0 := h0
  have lt0 : ∀ x ∈ p0, x.block < W.heap.size := by obtain ⟨m, hm⟩ := k0; exact DataW.trod_lt m _ _ _ hm
  obtain ⟨A0, w0⟩ := open_row_u8 (hval 0 32 v0 rfl rfl) h0
  clear hA0 hval0
  refine (walk v0 A0 W w0).mono fun e W' ⟨he, bel⟩ => ?_
  subst he
  exact ⟨_, rfl, _, _, _, [], _, [], hW', trodAll_mk1 (shut_bool Try.underlying4 _), (trodAll_cons_mk (Below.trod laidOut (by kernel_rfl) (of_decide_eq_true (by kernel_rfl)) k0 bel lt0) trodAll_mk0), rfl, bel.frame _, fun h => by cases h⟩
theorem closed : joinedFacts Try.prog 25 Try.f25 Rows.fnProjectionSpec Rows.fnProjectionRow = true := by
  unfold joinedFacts
  simp only [Bool.and_eq_true]
  repeat' apply And.intro
  all_goals first | with_reducible exact mayEnter | (rw [lifts]; kernel_rfl) | (rw [make]; kernel_rfl) | as_aux_lemma => kernel_rfl
theorem over : Rows.fnProjectionRow.holds Try.pinned (OpenSpec.ofChange Rows.fnProjectionSpec) :=
  OpenClaim.holds_of_wide 25 Try.f25 rfl rfl rfl rfl rfl rfl rfl ⟨rfl, rfl, rfl, rfl, rfl⟩ rfl rfl rfl rfl rfl (by kernel_rfl) Try.func25 closed
    (of_decide_eq_true (by kernel_rfl)) (by unfold Func.isWrapper; first | (rw [if_pos (by decide +kernel)]; kernel_rfl) | (rw [if_neg (by decide +kernel)]; exact ⟨rfl, rfl⟩))
    (fun os started H enc _ => lifted os started H enc)
theorem proved : Rows.FnProjectionSaid := over
end Go.Proofs.Ytbajnecahojcfaa.fnProjection
