/- The program's ParseRelation returns what the reference's ParseRelation returns, for all arguments. No condition. (Written by mkrellaws.py.) -/
import Derived.Test.YtbajnecahojcfaaRows
import Derived.Test.YtbajnecahojcfaaHead
import Derived.Test.YtbajnecahojcfaaOpenR
import Derived.Test.YtbajnecahojcfaaFactR
import Derived.Test.YtbajnecahojcfaaParS2
import Derived.ProofKit
import Derived.OpenShut
import Derived.ShutString
import Derived.ChangeOld
namespace Go.Proofs.Ytbajnecahojcfaa.fnExactParseRelation
open Go.ChangeShapes Go.WideShapes Go.ChangeAt Go.RowKit
open Go.ChangeMaps (open_string shut_string)
set_option linter.unusedVariables false
set_option maxHeartbeats 8000000
set_option maxRecDepth 100000
theorem walk (s0 : ByteArray) (ws0 : s0.size ≤ maxLen) (w : World)  : Calls Try.prog 8 #[.string s0] w (RetB (.bool true) w) := by
  obtain ⟨t0, rfl⟩ := str_list s0
  replace ws0 : t0.length ≤ 9223372036854775807 := ws0
  by_cases hl0 : t0.length ≤ 1048576
  rotate_left
  · have g0 : (1048576 : Int) < (t0.length : Int) := by omega
    go_enter Try.func8, Try.ntmps8
    go_wp2_with fail
    go_ret
    exact ⟨rfl, (show Below w.heap.size w w from (Below.refl w.heap.size w))⟩
  have g0 : ¬ (1048576 : Int) < (t0.length : Int) := by omega
  have hlen := parRel_total t0
  go_enter Try.func8, Try.ntmps8
  go_wp2_with fail
  have hB := Below.refl w.heap.size w
  go_wp2_with (first 
    | (go_at_call 46; ((with_reducible refine (ParseRelation_s t0 hl0 _).mono ?_); rintro e w1 ⟨Ax2, cx2, rfl, own, hb⟩; (have n3 : w.heap.size ≤ w1.heap.size := hb.size; replace hB := hB.trans (hb.mono hB.size); clear hb; have r4 := SegM.of own; clear own))) 
    | (go_at_call 47; ((with_reducible refine (ParseRelation_i t0 hl0 _).mono ?_); rintro e w5 ⟨Ax6, cx6, rfl, own, hb⟩; (have y7 := blockB hb (heap_alloc_new _ (.cells #[.int .i64 ((parRel t0).1), .slice Ax2 ((parRel t0).2.1).length cx2] 44)); replace r4 := SegM.below (SegM.alloc r4 _) hb; have n8 : w1.heap.size + 1 ≤ w5.heap.size := (by have := hb.size; simp only [size_alloc] at this; exact this); replace hB := belowA hB hb; clear hb; simp only [size_alloc] at own; have r9 := SegM.of own; clear own; have y7c0 := cellAt y7 0; have y7a0 := fun o => cellAt (heapN y7 o) 0; have y7c1 := cellAt y7 1; have y7a1 := fun o => cellAt (heapN y7 o) 1))) 
    | (go_at_call 48; ((with_reducible refine (eqRel_law _ _ ((parRel t0).1) ((parRel t0).2.1) _ (SegM.row (SegM.alloc r9 _)) (SegM.row (SegM.alloc r4 _))).mono ?_); rintro e w10 ⟨rfl, hb⟩; (replace y7 := blockB hb (heapN y7 _); have y11 := blockB hb (heap_alloc_new _ (.cells #[.int .i64 ((parRel t0).1), .slice Ax6 ((parRel t0).2.1).length cx6] 44)); replace r4 := SegM.below (SegM.alloc r4 _) hb; replace r9 := SegM.below (SegM.alloc r9 _) hb; have n12 : w5.heap.size + 1 ≤ w10.heap.size := (by have := hb.size; simp only [size_alloc] at this; exact this); replace hB := belowA hB hb; clear hb; clear y7c0 y7a0 y7c1 y7a1; have y7c0 := cellAt y7 0; have y7a0 := fun o => cellAt (heapN y7 o) 0; have y7c1 := cellAt y7 1; have y7a1 := fun o => cellAt (heapN y7 o) 1; have y11c0 := cellAt y11 0; have y11a0 := fun o => cellAt (heapN y11 o) 0; have y11c1 := cellAt y11 1; have y11a1 := fun o => cellAt (heapN y11 o) 1))) 
    | (go_at_call 49; ((with_reducible refine (markRel_law _ ((parRel t0).1) ((parRel t0).2.1) _ _ _ _ r9 (by omega) (by omega)).mono ?_); rintro e w13 ⟨rfl, hm, hw⟩; (replace r9 := hm; clear hm; replace y7 := blockW hw (by omega) y7; replace y11 := blockW hw (by omega) y11; replace r4 := SegM.within r4 hw (by omega); have n14 : w10.heap.size ≤ w13.heap.size := hw.size; replace hB := hB.trans (hw.below (by omega) hB.size); clear hw; clear y7c0 y7a0 y7c1 y7a1 y11c0 y11a0 y11c1 y11a1; have y7c0 := cellAt y7 0; have y7a0 := fun o => cellAt (heapN y7 o) 0; have y7c1 := cellAt y7 1; have y7a1 := fun o => cellAt (heapN y7 o) 1; have y11c0 := cellAt y11 0; have y11a0 := fun o => cellAt (heapN y11 o) 0; have y11c1 := cellAt y11 1; have y11a1 := fun o => cellAt (heapN y11 o) 1))) 
    | (go_at_call 50; ((with_reducible refine (heldRel_law _ ((parRel t0).1) _ ((parRel t0).2.1) _ (SegM.row r9) (by omega)).mono ?_); rintro e w15 ⟨rfl, hb⟩; (replace y7 := blockB hb y7; replace y11 := blockB hb y11; replace r4 := SegM.below r4 hb; replace r9 := SegM.below r9 hb; have n16 : w13.heap.size ≤ w15.heap.size := hb.size; replace hB := hB.trans (hb.mono hB.size); clear hb; clear y7c0 y7a0 y7c1 y7a1 y11c0 y11a0 y11c1 y11a1; have y7c0 := cellAt y7 0; have y7a0 := fun o => cellAt (heapN y7 o) 0; have y7c1 := cellAt y7 1; have y7a1 := fun o => cellAt (heapN y7 o) 1; have y11c0 := cellAt y11 0; have y11a0 := fun o => cellAt (heapN y11 o) 0; have y11c1 := cellAt y11 1; have y11a1 := fun o => cellAt (heapN y11 o) 1))) 
    | (go_at_call 47; ((with_reducible refine (ParseRelation_i t0 hl0 _).mono ?_); rintro e w17 ⟨Ax18, cx18, rfl, own, hb⟩; (replace y7 := blockB hb y7; replace y11 := blockB hb y11; replace r4 := SegM.below r4 hb; replace r9 := SegM.below r9 hb; have n19 : w15.heap.size ≤ w17.heap.size := hb.size; replace hB := hB.trans (hb.mono hB.size); clear hb; have r20 := SegM.of own; clear own; clear y7c0 y7a0 y7c1 y7a1 y11c0 y11a0 y11c1 y11a1; have y7c0 := cellAt y7 0; have y7a0 := fun o => cellAt (heapN y7 o) 0; have y7c1 := cellAt y7 1; have y7a1 := fun o => cellAt (heapN y7 o) 1; have y11c0 := cellAt y11 0; have y11a0 := fun o => cellAt (heapN y11 o) 0; have y11c1 := cellAt y11 1; have y11a1 := fun o => cellAt (heapN y11 o) 1))) 
    | (go_at_call 48; ((with_reducible refine (eqRel_law _ _ ((parRel t0).1) ((parRel t0).2.1) _ (SegM.row (SegM.alloc r20 _)) (SegM.row (SegM.alloc r4 _))).mono ?_); rintro e w21 ⟨rfl, hb⟩; (replace y7 := blockB hb (heapN y7 _); replace y11 := blockB hb (heapN y11 _); have y22 := blockB hb (heap_alloc_new _ (.cells #[.int .i64 ((parRel t0).1), .slice Ax18 ((parRel t0).2.1).length cx18] 44)); replace r4 := SegM.below (SegM.alloc r4 _) hb; replace r9 := SegM.below (SegM.alloc r9 _) hb; replace r20 := SegM.below (SegM.alloc r20 _) hb; have n23 : w17.heap.size + 1 ≤ w21.heap.size := (by have := hb.size; simp only [size_alloc] at this; exact this); replace hB := belowA hB hb; clear hb; clear y7c0 y7a0 y7c1 y7a1 y11c0 y11a0 y11c1 y11a1; have y7c0 := cellAt y7 0; have y7a0 := fun o => cellAt (heapN y7 o) 0; have y7c1 := cellAt y7 1; have y7a1 := fun o => cellAt (heapN y7 o) 1; have y11c0 := cellAt y11 0; have y11a0 := fun o => cellAt (heapN y11 o) 0; have y11c1 := cellAt y11 1; have y11a1 := fun o => cellAt (heapN y11 o) 1; have y22c0 := cellAt y22 0; have y22a0 := fun o => cellAt (heapN y22 o) 0; have y22c1 := cellAt y22 1; have y22a1 := fun o => cellAt (heapN y22 o) 1))) 
    | (go_at_call 50; ((with_reducible refine (heldRel_law _ ((parRel t0).1) _ ((parRel t0).2.1) _ (SegM.row r9) (by omega)).mono ?_); rintro e w24 ⟨rfl, hb⟩; (replace y7 := blockB hb y7; replace y11 := blockB hb y11; replace y22 := blockB hb y22; replace r4 := SegM.below r4 hb; replace r9 := SegM.below r9 hb; replace r20 := SegM.below r20 hb; have n25 : w21.heap.size ≤ w24.heap.size := hb.size; replace hB := hB.trans (hb.mono hB.size); clear hb; clear y7c0 y7a0 y7c1 y7a1 y11c0 y11a0 y11c1 y11a1 y22c0 y22a0 y22c1 y22a1; have y7c0 := cellAt y7 0; have y7a0 := fun o => cellAt (heapN y7 o) 0; have y7c1 := cellAt y7 1; have y7a1 := fun o => cellAt (heapN y7 o) 1; have y11c0 := cellAt y11 0; have y11a0 := fun o => cellAt (heapN y11 o) 0; have y11c1 := cellAt y11 1; have y11a1 := fun o => cellAt (heapN y11 o) 1; have y22c0 := cellAt y22 0; have y22a0 := fun o => cellAt (heapN y22 o) 0; have y22c1 := cellAt y22 1; have y22a1 := fun o => cellAt (heapN y22 o) 1))))
  go_ret
  exact ⟨rfl, hB⟩
theorem own : ownKnob Try.prog.godebug = none := by kernel_rfl
theorem laidOut : laidOutB Try.prog = true := by kernel_rfl
set_option maxRecDepth 100000 in
theorem lifted (os : Os) (started : os.Started) (H : Type) (enc : TypeId × Value → H) :
    ReturnsInHanded {} Try.checked os 8 .any (Rows.fnExactParseRelationSpec.pre6 enc Try.prog Try.f8 Rows.fnExactParseRelationRow.domain false) (Rows.fnExactParseRelationSpec.post enc Try.prog Try.f8 false true false false) := by
  refine returnsInHanded_of_change (C := Try.checked) own started (by kernel_rfl) Try.func8
    (ChangeSpec.witness6 (enc := enc) (C := Try.checked) false ⟨#[], #[.string ByteArray.empty], []⟩ 8 (by kernel_rfl) (by kernel_rfl) (by kernel_rfl) (by kernel_rfl)) ?_
  intro W base args ds gs before hval0 hW hcnd _
  have hval : ∀ (j : Nat) t v, Try.f8.params[j]? = some t → args[j]? = some v → Value.okWide Try.prog W .any base t v := hval0
  have hW' := hW
  obtain ⟨p, q, hA0, hV, rfl, hfz, hnd⟩ := hW
  have hA : DataW.TrodAll enc Try.prog W 0 (fun _ => true) true Try.f8.params.toList args.toList ds p := hA0
  rw [Try.params8] at hA hval
  obtain ⟨v0, vs0, d0, ds0, p0, q0, hargs, rfl, rfl, h0, r0⟩ := trodAll_cons hA
  obtain ⟨rfl, rfl, rfl⟩ := trodAll_nil r0
  obtain rfl : args = #[v0] := by cases args; simp_all
  obtain ⟨rfl, rfl⟩ := trodVars_none hV
  have k0 := h0
  have lt0 : ∀ x ∈ p0, x.block < W.heap.size := by obtain ⟨m, hm⟩ := k0; exact DataW.trod_lt m _ _ _ hm
  obtain ⟨a0, rfl, _, _, w0⟩ := open_string Try.underlying9 (hval 0 9 v0 rfl rfl) h0
  clear hA0 hval0
  refine (walk a0 w0 W ).mono fun e W' ⟨he, bel⟩ => ?_
  subst he
  exact ⟨_, rfl, _, _, _, [], _, [], hW', trodAll_mk1 (shut_bool Try.underlying4 _), (trodAll_cons_mk (Below.trod laidOut (by kernel_rfl) (of_decide_eq_true (by kernel_rfl)) k0 bel lt0) trodAll_mk0), rfl, bel.frame _, fun h => by cases h⟩
theorem closed : joinedFacts Try.prog 8 Try.f8 Rows.fnExactParseRelationSpec Rows.fnExactParseRelationRow = true := by
  unfold joinedFacts
  simp only [Bool.and_eq_true]
  repeat' apply And.intro
  all_goals first | with_reducible exact mayEnter | (rw [lifts]; kernel_rfl) | (rw [make]; kernel_rfl) | as_aux_lemma => kernel_rfl
theorem over : Rows.fnExactParseRelationRow.holds Try.pinned (OpenSpec.ofChange Rows.fnExactParseRelationSpec) :=
  OpenClaim.holds_of_wide 8 Try.f8 rfl rfl rfl rfl rfl rfl rfl ⟨rfl, rfl, rfl, rfl, rfl⟩ rfl rfl rfl rfl rfl (by kernel_rfl) Try.func8 closed
    (of_decide_eq_true (by kernel_rfl)) (by unfold Func.isWrapper; first | (rw [if_pos (by decide +kernel)]; kernel_rfl) | (rw [if_neg (by decide +kernel)]; exact ⟨rfl, rfl⟩))
    (fun os started H enc _ => lifted os started H enc)
theorem proved : Rows.FnExactParseRelationSaid := over
end Go.Proofs.Ytbajnecahojcfaa.fnExactParseRelation
