/- The program's NewRelation returns what the reference's NewRelation returns, for all arguments. No condition. (Written by mkrellaws.py.) -/
import Derived.Test.YtbajnecahojcfaaRows
import Derived.Test.YtbajnecahojcfaaHead
import Derived.Test.YtbajnecahojcfaaOpenR
import Derived.Test.YtbajnecahojcfaaFactR
import Derived.Test.YtbajnecahojcfaaNewR
import Derived.ProofKit
import Derived.OpenShut
import Derived.ShutString
import Derived.ChangeOld
namespace Go.Proofs.Ytbajnecahojcfaa.fnExactNewRelation
open Go.ChangeShapes Go.WideShapes Go.ChangeAt Go.RowKit
open Go.ChangeMaps (open_string shut_string)
set_option linter.unusedVariables false
set_option maxHeartbeats 8000000
set_option maxRecDepth 100000
theorem walk (n0 : Int) (wn0 : (Lit.int .i64 n0).wf = true) (v1 : Value) (m1 : List (List Int)) (w : World) (h1 : MRow w v1 m1) : Calls Try.prog 21 #[.int .i64 n0, v1] w (RetB (.bool true) w) := by
  clear wn0
  have c1_ := h1
  obtain ⟨Az1, qz1, e1⟩ := MRow.opened h1
  clear h1
  subst e1
  by_cases hs1 : ((m1.length : Int) + (total m1 : Int)) ≤ 1048576
  rotate_left
  · have z1 : MRow w (.slice Az1 m1.length qz1) m1 := c1_.below (show Below w.heap.size w w from (Below.refl w.heap.size w))
    go_enter Try.func21, Try.ntmps21
    go_wp2_with (go_at_call 84; ((with_reducible refine (szMat_no _ m1 _ _ z1 (by omega) hs1).mono ?_); rintro e w1 ⟨rfl, hb⟩))
    go_ret
    exact ⟨rfl, (show Below w.heap.size w w from (Below.refl w.heap.size w)).trans (hb.mono ((show Below w.heap.size w w from (Below.refl w.heap.size w))).size)⟩
  have hl1 : m1.length + total m1 ≤ 1048576 := by omega
  have hlen := newM_total n0 m1
  go_enter Try.func21, Try.ntmps21
  go_wp2_with fail
  have hB := Below.refl w.heap.size w
  go_wp2_with (first 
    | (go_at_call 84; ((with_reducible refine (szMat_yes _ m1 _ _ (MRow.below c1_ hB) (by omega) (by omega)).mono ?_); rintro e w1 ⟨rfl, hb⟩; (have n2 : w.heap.size ≤ w1.heap.size := hb.size; replace hB := hB.trans (hb.mono hB.size); clear hb))) 
    | (go_at_call 85; ((with_reducible refine (toMat_law _ m1 _ (MRow.below c1_ hB) hl1).mono ?_); rintro e w3 ⟨Ax4, cx4, rfl, own, hb⟩; (have n5 : w1.heap.size ≤ w3.heap.size := hb.size; replace hB := hB.trans (hb.mono hB.size); clear hb; have r6 := SegM.of own; clear own))) 
    | (go_at_call 78; ((with_reducible refine (NewRelation_s n0 _ m1 _ (SegM.row r6) (by omega)).mono ?_); rintro e w7 ⟨Ax8, cx8, rfl, own, hb⟩; (replace r6 := SegM.below r6 hb; have n9 : w3.heap.size ≤ w7.heap.size := hb.size; replace hB := hB.trans (hb.mono hB.size); clear hb; have r10 := SegM.of own; clear own))) 
    | (go_at_call 85; ((with_reducible refine (toMat_law _ m1 _ (MRow.below c1_ (hB.alloc hB.size _)) hl1).mono ?_); rintro e w11 ⟨Ax12, cx12, rfl, own, hb⟩; (have y13 := blockB hb (heap_alloc_new _ (.cells #[.int .i64 (newA n0 m1), .slice Ax8 (newM n0 m1).length cx8] 44)); replace r6 := SegM.below (SegM.alloc r6 _) hb; replace r10 := SegM.below (SegM.alloc r10 _) hb; have n14 : w7.heap.size + 1 ≤ w11.heap.size := (by have := hb.size; simp only [size_alloc] at this; exact this); replace hB := belowA hB hb; clear hb; simp only [size_alloc] at own; have r15 := SegM.of own; clear own; have y13c0 := cellAt y13 0; have y13a0 := fun o => cellAt (heapN y13 o) 0; have y13c1 := cellAt y13 1; have y13a1 := fun o => cellAt (heapN y13 o) 1))) 
    | (go_at_call 77; ((with_reducible refine (NewRelation_i n0 _ m1 _ (SegM.row r15) (by omega)).mono ?_); rintro e w16 ⟨Ax17, cx17, rfl, own, hb⟩; (replace y13 := blockB hb y13; replace r6 := SegM.below r6 hb; replace r10 := SegM.below r10 hb; replace r15 := SegM.below r15 hb; have n18 : w11.heap.size ≤ w16.heap.size := hb.size; replace hB := hB.trans (hb.mono hB.size); clear hb; have r19 := SegM.of own; clear own; clear y13c0 y13a0 y13c1 y13a1; have y13c0 := cellAt y13 0; have y13a0 := fun o => cellAt (heapN y13 o) 0; have y13c1 := cellAt y13 1; have y13a1 := fun o => cellAt (heapN y13 o) 1))) 
    | (go_at_call 48; ((with_reducible refine (eqRel_law _ _ (newA n0 m1) (newM n0 m1) _ (SegM.row (SegM.alloc r19 _)) (SegM.row (SegM.alloc r10 _))).mono ?_); rintro e w20 ⟨rfl, hb⟩; (replace y13 := blockB hb (heapN y13 _); have y21 := blockB hb (heap_alloc_new _ (.cells #[.int .i64 (newA n0 m1), .slice Ax17 (newM n0 m1).length cx17] 44)); replace r6 := SegM.below (SegM.alloc r6 _) hb; replace r10 := SegM.below (SegM.alloc r10 _) hb; replace r15 := SegM.below (SegM.alloc r15 _) hb; replace r19 := SegM.below (SegM.alloc r19 _) hb; have n22 : w16.heap.size + 1 ≤ w20.heap.size := (by have := hb.size; simp only [size_alloc] at this; exact this); replace hB := belowA hB hb; clear hb; clear y13c0 y13a0 y13c1 y13a1; have y13c0 := cellAt y13 0; have y13a0 := fun o => cellAt (heapN y13 o) 0; have y13c1 := cellAt y13 1; have y13a1 := fun o => cellAt (heapN y13 o) 1; have y21c0 := cellAt y21 0; have y21a0 := fun o => cellAt (heapN y21 o) 0; have y21c1 := cellAt y21 1; have y21a1 := fun o => cellAt (heapN y21 o) 1))) 
    | (go_at_call 85; ((with_reducible refine (toMat_law _ m1 _ (MRow.below c1_ hB) hl1).mono ?_); rintro e w23 ⟨Ax24, cx24, rfl, own, hb⟩; (replace y13 := blockB hb y13; replace y21 := blockB hb y21; replace r6 := SegM.below r6 hb; replace r10 := SegM.below r10 hb; replace r15 := SegM.below r15 hb; replace r19 := SegM.below r19 hb; have n25 : w20.heap.size ≤ w23.heap.size := hb.size; replace hB := hB.trans (hb.mono hB.size); clear hb; have r26 := SegM.of own; clear own; clear y13c0 y13a0 y13c1 y13a1 y21c0 y21a0 y21c1 y21a1; have y13c0 := cellAt y13 0; have y13a0 := fun o => cellAt (heapN y13 o) 0; have y13c1 := cellAt y13 1; have y13a1 := fun o => cellAt (heapN y13 o) 1; have y21c0 := cellAt y21 0; have y21a0 := fun o => cellAt (heapN y21 o) 0; have y21c1 := cellAt y21 1; have y21a1 := fun o => cellAt (heapN y21 o) 1))) 
    | (go_at_call 86; ((with_reducible refine (eqMat_law _ _ m1 _ (SegM.row r15) (SegM.row r26)).mono ?_); rintro e w27 ⟨rfl, hb⟩; (replace y13 := blockB hb y13; replace y21 := blockB hb y21; replace r6 := SegM.below r6 hb; replace r10 := SegM.below r10 hb; replace r15 := SegM.below r15 hb; replace r19 := SegM.below r19 hb; replace r26 := SegM.below r26 hb; have n28 : w23.heap.size ≤ w27.heap.size := hb.size; replace hB := hB.trans (hb.mono hB.size); clear hb; clear y13c0 y13a0 y13c1 y13a1 y21c0 y21a0 y21c1 y21a1; have y13c0 := cellAt y13 0; have y13a0 := fun o => cellAt (heapN y13 o) 0; have y13c1 := cellAt y13 1; have y13a1 := fun o => cellAt (heapN y13 o) 1; have y21c0 := cellAt y21 0; have y21a0 := fun o => cellAt (heapN y21 o) 0; have y21c1 := cellAt y21 1; have y21a1 := fun o => cellAt (heapN y21 o) 1))) 
    | (go_at_call 87; ((with_reducible refine (markMat_law _ m1 _ _ _ _ r15 (by omega) (by omega)).mono ?_); rintro e w29 ⟨rfl, hm, hw⟩; (replace r15 := hm; clear hm; replace y13 := blockW hw (by omega) y13; replace y21 := blockW hw (by omega) y21; replace r6 := SegM.within r6 hw (by omega); replace r10 := SegM.within r10 hw (by omega); replace r19 := SegM.within r19 hw (by omega); replace r26 := SegM.within r26 hw (by omega); have n30 : w27.heap.size ≤ w29.heap.size := hw.size; replace hB := hB.trans (hw.below (by omega) hB.size); clear hw; clear y13c0 y13a0 y13c1 y13a1 y21c0 y21a0 y21c1 y21a1; have y13c0 := cellAt y13 0; have y13a0 := fun o => cellAt (heapN y13 o) 0; have y13c1 := cellAt y13 1; have y13a1 := fun o => cellAt (heapN y13 o) 1; have y21c0 := cellAt y21 0; have y21a0 := fun o => cellAt (heapN y21 o) 0; have y21c1 := cellAt y21 1; have y21a1 := fun o => cellAt (heapN y21 o) 1))) 
    | (go_at_call 48; ((with_reducible refine (eqRel_law _ _ (newA n0 m1) (newM n0 m1) _ (SegM.row r19) (SegM.row r10)).mono ?_); rintro e w31 ⟨rfl, hb⟩; (replace y13 := blockB hb y13; replace y21 := blockB hb y21; replace r6 := SegM.below r6 hb; replace r10 := SegM.below r10 hb; replace r15 := SegM.below r15 hb; replace r19 := SegM.below r19 hb; replace r26 := SegM.below r26 hb; have n32 : w29.heap.size ≤ w31.heap.size := hb.size; replace hB := hB.trans (hb.mono hB.size); clear hb; clear y13c0 y13a0 y13c1 y13a1 y21c0 y21a0 y21c1 y21a1; have y13c0 := cellAt y13 0; have y13a0 := fun o => cellAt (heapN y13 o) 0; have y13c1 := cellAt y13 1; have y13a1 := fun o => cellAt (heapN y13 o) 1; have y21c0 := cellAt y21 0; have y21a0 := fun o => cellAt (heapN y21 o) 0; have y21c1 := cellAt y21 1; have y21a1 := fun o => cellAt (heapN y21 o) 1))) 
    | (go_at_call 49; ((with_reducible refine (markRel_law _ (newA n0 m1) (newM n0 m1) _ _ _ _ r19 (by omega) (by omega)).mono ?_); rintro e w33 ⟨rfl, hm, hw⟩; (replace r19 := hm; clear hm; replace y13 := blockW hw (by omega) y13; replace y21 := blockW hw (by omega) y21; replace r6 := SegM.within r6 hw (by omega); replace r10 := SegM.within r10 hw (by omega); replace r15 := SegM.within r15 hw (by omega); replace r26 := SegM.within r26 hw (by omega); have n34 : w31.heap.size ≤ w33.heap.size := hw.size; replace hB := hB.trans (hw.below (by omega) hB.size); clear hw; clear y13c0 y13a0 y13c1 y13a1 y21c0 y21a0 y21c1 y21a1; have y13c0 := cellAt y13 0; have y13a0 := fun o => cellAt (heapN y13 o) 0; have y13c1 := cellAt y13 1; have y13a1 := fun o => cellAt (heapN y13 o) 1; have y21c0 := cellAt y21 0; have y21a0 := fun o => cellAt (heapN y21 o) 0; have y21c1 := cellAt y21 1; have y21a1 := fun o => cellAt (heapN y21 o) 1))) 
    | (go_at_call 50; ((with_reducible refine (heldRel_law _ (newA n0 m1) _ (newM n0 m1) _ (SegM.row r19) (by omega)).mono ?_); rintro e w35 ⟨rfl, hb⟩; (replace y13 := blockB hb y13; replace y21 := blockB hb y21; replace r6 := SegM.below r6 hb; replace r10 := SegM.below r10 hb; replace r15 := SegM.below r15 hb; replace r19 := SegM.below r19 hb; replace r26 := SegM.below r26 hb; have n36 : w33.heap.size ≤ w35.heap.size := hb.size; replace hB := hB.trans (hb.mono hB.size); clear hb; clear y13c0 y13a0 y13c1 y13a1 y21c0 y21a0 y21c1 y21a1; have y13c0 := cellAt y13 0; have y13a0 := fun o => cellAt (heapN y13 o) 0; have y13c1 := cellAt y13 1; have y13a1 := fun o => cellAt (heapN y13 o) 1; have y21c0 := cellAt y21 0; have y21a0 := fun o => cellAt (heapN y21 o) 0; have y21c1 := cellAt y21 1; have y21a1 := fun o => cellAt (heapN y21 o) 1))) 
    | (go_at_call 85; ((with_reducible refine (toMat_law _ m1 _ (MRow.below c1_ hB) hl1).mono ?_); rintro e w37 ⟨Ax38, cx38, rfl, own, hb⟩; (replace y13 := blockB hb y13; replace y21 := blockB hb y21; replace r6 := SegM.below r6 hb; replace r10 := SegM.below r10 hb; replace r15 := SegM.below r15 hb; replace r19 := SegM.below r19 hb; replace r26 := SegM.below r26 hb; have n39 : w35.heap.size ≤ w37.heap.size := hb.size; replace hB := hB.trans (hb.mono hB.size); clear hb; have r40 := SegM.of own; clear own; clear y13c0 y13a0 y13c1 y13a1 y21c0 y21a0 y21c1 y21a1; have y13c0 := cellAt y13 0; have y13a0 := fun o => cellAt (heapN y13 o) 0; have y13c1 := cellAt y13 1; have y13a1 := fun o => cellAt (heapN y13 o) 1; have y21c0 := cellAt y21 0; have y21a0 := fun o => cellAt (heapN y21 o) 0; have y21c1 := cellAt y21 1; have y21a1 := fun o => cellAt (heapN y21 o) 1))) 
    | (go_at_call 77; ((with_reducible refine (NewRelation_i n0 _ m1 _ (SegM.row r40) (by omega)).mono ?_); rintro e w41 ⟨Ax42, cx42, rfl, own, hb⟩; (replace y13 := blockB hb y13; replace y21 := blockB hb y21; replace r6 := SegM.below r6 hb; replace r10 := SegM.below r10 hb; replace r15 := SegM.below r15 hb; replace r19 := SegM.below r19 hb; replace r26 := SegM.below r26 hb; replace r40 := SegM.below r40 hb; have n43 : w37.heap.size ≤ w41.heap.size := hb.size; replace hB := hB.trans (hb.mono hB.size); clear hb; have r44 := SegM.of own; clear own; clear y13c0 y13a0 y13c1 y13a1 y21c0 y21a0 y21c1 y21a1; have y13c0 := cellAt y13 0; have y13a0 := fun o => cellAt (heapN y13 o) 0; have y13c1 := cellAt y13 1; have y13a1 := fun o => cellAt (heapN y13 o) 1; have y21c0 := cellAt y21 0; have y21a0 := fun o => cellAt (heapN y21 o) 0; have y21c1 := cellAt y21 1; have y21a1 := fun o => cellAt (heapN y21 o) 1))) 
    | (go_at_call 48; ((with_reducible refine (eqRel_law _ _ (newA n0 m1) (newM n0 m1) _ (SegM.row (SegM.alloc r44 _)) (SegM.row (SegM.alloc r10 _))).mono ?_); rintro e w45 ⟨rfl, hb⟩; (replace y13 := blockB hb (heapN y13 _); replace y21 := blockB hb (heapN y21 _); have y46 := blockB hb (heap_alloc_new _ (.cells #[.int .i64 (newA n0 m1), .slice Ax42 (newM n0 m1).length cx42] 44)); replace r6 := SegM.below (SegM.alloc r6 _) hb; replace r10 := SegM.below (SegM.alloc r10 _) hb; replace r15 := SegM.below (SegM.alloc r15 _) hb; replace r19 := SegM.below (SegM.alloc r19 _) hb; replace r26 := SegM.below (SegM.alloc r26 _) hb; replace r40 := SegM.below (SegM.alloc r40 _) hb; replace r44 := SegM.below (SegM.alloc r44 _) hb; have n47 : w41.heap.size + 1 ≤ w45.heap.size := (by have := hb.size; simp only [size_alloc] at this; exact this); replace hB := belowA hB hb; clear hb; clear y13c0 y13a0 y13c1 y13a1 y21c0 y21a0 y21c1 y21a1; have y13c0 := cellAt y13 0; have y13a0 := fun o => cellAt (heapN y13 o) 0; have y13c1 := cellAt y13 1; have y13a1 := fun o => cellAt (heapN y13 o) 1; have y21c0 := cellAt y21 0; have y21a0 := fun o => cellAt (heapN y21 o) 0; have y21c1 := cellAt y21 1; have y21a1 := fun o => cellAt (heapN y21 o) 1; have y46c0 := cellAt y46 0; have y46a0 := fun o => cellAt (heapN y46 o) 0; have y46c1 := cellAt y46 1; have y46a1 := fun o => cellAt (heapN y46 o) 1))) 
    | (go_at_call 50; ((with_reducible refine (heldRel_law _ (newA n0 m1) _ (newM n0 m1) _ (SegM.row r19) (by omega)).mono ?_); rintro e w48 ⟨rfl, hb⟩; (replace y13 := blockB hb y13; replace y21 := blockB hb y21; replace y46 := blockB hb y46; replace r6 := SegM.below r6 hb; replace r10 := SegM.below r10 hb; replace r15 := SegM.below r15 hb; replace r19 := SegM.below r19 hb; replace r26 := SegM.below r26 hb; replace r40 := SegM.below r40 hb; replace r44 := SegM.below r44 hb; have n49 : w45.heap.size ≤ w48.heap.size := hb.size; replace hB := hB.trans (hb.mono hB.size); clear hb; clear y13c0 y13a0 y13c1 y13a1 y21c0 y21a0 y21c1 y21a1 y46c0 y46a0 y46c1 y46a1; have y13c0 := cellAt y13 0; have y13a0 := fun o => cellAt (heapN y13 o) 0; have y13c1 := cellAt y13 1; have y13a1 := fun o => cellAt (heapN y13 o) 1; have y21c0 := cellAt y21 0; have y21a0 := fun o => cellAt (heapN y21 o) 0; have y21c1 := cellAt y21 1; have y21a1 := fun o => cellAt (heapN y21 o) 1; have y46c0 := cellAt y46 0; have y46a0 := fun o => cellAt (heapN y46 o) 0; have y46c1 := cellAt y46 1; have y46a1 := fun o => cellAt (heapN y46 o) 1))))
  go_ret
  exact ⟨rfl, hB⟩
theorem own : ownKnob Try.prog.godebug = none := by kernel_rfl
theorem laidOut : laidOutB Try.prog = true := by kernel_rfl
set_option maxRecDepth 100000 in
theorem lifted (os : Os) (started : os.Started) (H : Type) (enc : TypeId × Value → H) :
    ReturnsInHanded {} Try.checked os 21 .any (Rows.fnExactNewRelationSpec.pre6 enc Try.prog Try.f21 Rows.fnExactNewRelationRow.domain false) (Rows.fnExactNewRelationSpec.post enc Try.prog Try.f21 false true false false) := by
  refine returnsInHanded_of_change (C := Try.checked) own started (by kernel_rfl) Try.func21
    (ChangeSpec.witness6 (enc := enc) (C := Try.checked) false ⟨#[], #[.int .i64 0, .slice none 0 0], []⟩ 8 (by kernel_rfl) (by kernel_rfl) (by kernel_rfl) (by kernel_rfl)) ?_
  intro W base args ds gs before hval0 hW hcnd _
  have hval : ∀ (j : Nat) t v, Try.f21.params[j]? = some t → args[j]? = some v → Value.okWide Try.prog W .any base t v := hval0
  have hW' := hW
  obtain ⟨p, q, hA0, hV, rfl, hfz, hnd⟩ := hW
  have hA : DataW.TrodAll enc Try.prog W 0 (fun _ => true) true Try.f21.params.toList args.toList ds p := hA0
  rw [Try.params21] at hA hval
  obtain ⟨v0, vs0, d0, ds0, p0, q0, hargs, rfl, rfl, h0, r0⟩ := trodAll_cons hA
  obtain ⟨v1, vs1, d1, ds1, p1, q1, rfl, rfl, rfl, h1, r1⟩ := trodAll_cons r0
  obtain ⟨rfl, rfl, rfl⟩ := trodAll_nil r1
  obtain rfl : args = #[v0, v1] := by cases args; simp_all
  obtain ⟨rfl, rfl⟩ := trodVars_none hV
  have k0 := h0
  have lt0 : ∀ x ∈ p0, x.block < W.heap.size := by obtain ⟨m, hm⟩ := k0; exact DataW.trod_lt m _ _ _ hm
  obtain ⟨a0, rfl, _, _, w0⟩ := open_int Try.underlying3 (hval 0 3 v0 rfl rfl) h0
  have k1 := h1
  have lt1 : ∀ x ∈ p1, x.block < W.heap.size := by obtain ⟨m, hm⟩ := k1; exact DataW.trod_lt m _ _ _ hm
  obtain ⟨A1, w1⟩ := open_rows_int (hval 1 42 v1 rfl rfl) h1
  clear hA0 hval0
  refine (walk a0 w0 v1 A1 W w1).mono fun e W' ⟨he, bel⟩ => ?_
  subst he
  exact ⟨_, rfl, _, _, _, [], _, [], hW', trodAll_mk1 (shut_bool Try.underlying4 _), (trodAll_cons_mk (Below.trod laidOut (by kernel_rfl) (of_decide_eq_true (by kernel_rfl)) k0 bel lt0) (trodAll_cons_mk (Below.trod laidOut (by kernel_rfl) (of_decide_eq_true (by kernel_rfl)) k1 bel lt1) trodAll_mk0)), rfl, bel.frame _, fun h => by cases h⟩
theorem closed : joinedFacts Try.prog 21 Try.f21 Rows.fnExactNewRelationSpec Rows.fnExactNewRelationRow = true := by
  unfold joinedFacts
  simp only [Bool.and_eq_true]
  repeat' apply And.intro
  all_goals first | with_reducible exact mayEnter | (rw [lifts]; kernel_rfl) | (rw [make]; kernel_rfl) | as_aux_lemma => kernel_rfl
theorem over : Rows.fnExactNewRelationRow.holds Try.pinned (OpenSpec.ofChange Rows.fnExactNewRelationSpec) :=
  OpenClaim.holds_of_wide 21 Try.f21 rfl rfl rfl rfl rfl rfl rfl ⟨rfl, rfl, rfl, rfl, rfl⟩ rfl rfl rfl rfl rfl (by kernel_rfl) Try.func21 closed
    (of_decide_eq_true (by kernel_rfl)) (by unfold Func.isWrapper; first | (rw [if_pos (by decide +kernel)]; kernel_rfl) | (rw [if_neg (by decide +kernel)]; exact ⟨rfl, rfl⟩))
    (fun os started H enc _ => lifted os started H enc)
theorem proved : Rows.FnExactNewRelationSaid := over
end Go.Proofs.Ytbajnecahojcfaa.fnExactNewRelation
