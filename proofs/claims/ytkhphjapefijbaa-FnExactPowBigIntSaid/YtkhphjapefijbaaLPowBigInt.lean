/- The program's PowBigInt returns what the reference's PowBigInt returns, for all arguments. No condition. (Written by mkbiglaws.py.) -/
import Derived.Test.YtkhphjapefijbaaRows
import Derived.Test.YtkhphjapefijbaaHead
import Derived.Test.YtkhphjapefijbaaBigV
import Derived.Test.YtkhphjapefijbaaPow
import Derived.Test.YtkhphjapefijbaaMem
import Derived.ProofKit
import Derived.OpenShut
import Derived.ChangeOld
namespace Go.Proofs.Ytkhphjapefijbaa.fnExactPowBigInt
open Go.ChangeShapes Go.WideShapes Go.ChangeAt Go.RowKit
set_option linter.unusedVariables false
set_option maxHeartbeats 4000000
set_option maxRecDepth 100000
theorem walk (n : Int) (wn : (Lit.int .i64 n).wf = true) (k : Int) (wk : (Lit.int .i64 k).wf = true) (w : World) : Calls Try.prog 20 #[.int .i64 n, .int .i64 k] w (RetB (.bool true) w) := by
  have bn := bounds_i64 wn
  clear wn
  have bk := bounds_i64 wk
  clear wk
  have hlen := powB_len n k bn.2
  go_enter Try.func20, Try.ntmps20
  go_wp2_with fail
  have hB := Below.refl w.heap.size w
  go_wp2_with (first 
    | (go_at_call 63; ((with_reducible refine (PowBigInt_s n k bn bk _).mono ?_); rintro e w1 ⟨Ax2, cx2, rfl, own, hb⟩; (have n3 : w.heap.size ≤ w1.heap.size := hb.size; replace hB := hB.trans (hb.mono hB.size); clear hb; have r4 := SegI.of own; clear own))) 
    | (go_at_call 64; ((with_reducible refine (PowBigInt_i n k bn bk _).mono ?_); rintro e w5 ⟨Ax6, cx6, rfl, own, hb⟩; (have y7 := blockB hb (heap_alloc_new _ (.cells #[.slice Ax2 (powB n k).length cx2] 46)); replace r4 := SegI.below (SegI.alloc r4 _) hb; have n8 : w1.heap.size + 1 ≤ w5.heap.size := (by have := hb.size; simp only [size_alloc] at this; exact this); replace hB := belowA hB hb; clear hb; simp only [size_alloc] at own; have r9 := SegI.of own; clear own; have y7c0 := cellAt y7 0; have y7a0 := fun o => cellAt (heapN y7 o) 0))) 
    | (go_at_call 48; ((with_reducible refine (eqBig_law _ _ (powB n k) _ (SegI.row (SegI.alloc r9 _)) (SegI.row (SegI.alloc r4 _))).mono ?_); rintro e w10 ⟨rfl, hb⟩; (replace y7 := blockB hb (heapN y7 _); have y11 := blockB hb (heap_alloc_new _ (.cells #[.slice Ax6 (powB n k).length cx6] 46)); replace r4 := SegI.below (SegI.alloc r4 _) hb; replace r9 := SegI.below (SegI.alloc r9 _) hb; have n12 : w5.heap.size + 1 ≤ w10.heap.size := (by have := hb.size; simp only [size_alloc] at this; exact this); replace hB := belowA hB hb; clear hb; clear y7c0 y7a0; have y7c0 := cellAt y7 0; have y7a0 := fun o => cellAt (heapN y7 o) 0; have y11c0 := cellAt y11 0; have y11a0 := fun o => cellAt (heapN y11 o) 0))) 
    | (go_at_call 49; ((with_reducible refine (markBig_law _ (powB n k) _ _ _ _ r9 (by omega) (by omega)).mono ?_); rintro e w13 ⟨rfl, hm, hw⟩; (replace r9 := hm; clear hm; replace y7 := blockW hw (by omega) y7; replace y11 := blockW hw (by omega) y11; replace r4 := SegI.within r4 hw (by omega); have n14 : w10.heap.size ≤ w13.heap.size := hw.size; replace hB := hB.trans (hw.below (by omega) hB.size); clear hw; clear y7c0 y7a0 y11c0 y11a0; have y7c0 := cellAt y7 0; have y7a0 := fun o => cellAt (heapN y7 o) 0; have y11c0 := cellAt y11 0; have y11a0 := fun o => cellAt (heapN y11 o) 0))) 
    | (go_at_call 50; ((with_reducible refine (heldBig_law _ _ (powB n k).length _ (SegI.row r9) (by omega) (by omega)).mono ?_); rintro e w15 ⟨rfl, hb⟩; (replace y7 := blockB hb y7; replace y11 := blockB hb y11; replace r4 := SegI.below r4 hb; replace r9 := SegI.below r9 hb; have n16 : w13.heap.size ≤ w15.heap.size := hb.size; replace hB := hB.trans (hb.mono hB.size); clear hb; clear y7c0 y7a0 y11c0 y11a0; have y7c0 := cellAt y7 0; have y7a0 := fun o => cellAt (heapN y7 o) 0; have y11c0 := cellAt y11 0; have y11a0 := fun o => cellAt (heapN y11 o) 0))) 
    | (go_at_call 64; ((with_reducible refine (PowBigInt_i n k bn bk _).mono ?_); rintro e w17 ⟨Ax18, cx18, rfl, own, hb⟩; (replace y7 := blockB hb y7; replace y11 := blockB hb y11; replace r4 := SegI.below r4 hb; replace r9 := SegI.below r9 hb; have n19 : w15.heap.size ≤ w17.heap.size := hb.size; replace hB := hB.trans (hb.mono hB.size); clear hb; have r20 := SegI.of own; clear own; clear y7c0 y7a0 y11c0 y11a0; have y7c0 := cellAt y7 0; have y7a0 := fun o => cellAt (heapN y7 o) 0; have y11c0 := cellAt y11 0; have y11a0 := fun o => cellAt (heapN y11 o) 0))) 
    | (go_at_call 48; ((with_reducible refine (eqBig_law _ _ (powB n k) _ (SegI.row (SegI.alloc r20 _)) (SegI.row (SegI.alloc r4 _))).mono ?_); rintro e w21 ⟨rfl, hb⟩; (replace y7 := blockB hb (heapN y7 _); replace y11 := blockB hb (heapN y11 _); have y22 := blockB hb (heap_alloc_new _ (.cells #[.slice Ax18 (powB n k).length cx18] 46)); replace r4 := SegI.below (SegI.alloc r4 _) hb; replace r9 := SegI.below (SegI.alloc r9 _) hb; replace r20 := SegI.below (SegI.alloc r20 _) hb; have n23 : w17.heap.size + 1 ≤ w21.heap.size := (by have := hb.size; simp only [size_alloc] at this; exact this); replace hB := belowA hB hb; clear hb; clear y7c0 y7a0 y11c0 y11a0; have y7c0 := cellAt y7 0; have y7a0 := fun o => cellAt (heapN y7 o) 0; have y11c0 := cellAt y11 0; have y11a0 := fun o => cellAt (heapN y11 o) 0; have y22c0 := cellAt y22 0; have y22a0 := fun o => cellAt (heapN y22 o) 0))) 
    | (go_at_call 50; ((with_reducible refine (heldBig_law _ _ (powB n k).length _ (SegI.row r9) (by omega) (by omega)).mono ?_); rintro e w24 ⟨rfl, hb⟩; (replace y7 := blockB hb y7; replace y11 := blockB hb y11; replace y22 := blockB hb y22; replace r4 := SegI.below r4 hb; replace r9 := SegI.below r9 hb; replace r20 := SegI.below r20 hb; have n25 : w21.heap.size ≤ w24.heap.size := hb.size; replace hB := hB.trans (hb.mono hB.size); clear hb; clear y7c0 y7a0 y11c0 y11a0 y22c0 y22a0; have y7c0 := cellAt y7 0; have y7a0 := fun o => cellAt (heapN y7 o) 0; have y11c0 := cellAt y11 0; have y11a0 := fun o => cellAt (heapN y11 o) 0; have y22c0 := cellAt y22 0; have y22a0 := fun o => cellAt (heapN y22 o) 0))))
  go_ret
  exact ⟨rfl, hB⟩
theorem own : ownKnob Try.prog.godebug = none := by kernel_rfl
theorem laidOut : laidOutB Try.prog = true := by kernel_rfl
set_option maxRecDepth 100000 in
theorem lifted (os : Os) (started : os.Started) (H : Type) (enc : TypeId × Value → H) :
    ReturnsInHanded {} Try.checked os 20 .any (Rows.fnExactPowBigIntSpec.pre6 enc Try.prog Try.f20 Rows.fnExactPowBigIntRow.domain false) (Rows.fnExactPowBigIntSpec.post enc Try.prog Try.f20 false true false false) := by
  refine returnsInHanded_of_change (C := Try.checked) own started (by kernel_rfl) Try.func20
    (ChangeSpec.witness6 (enc := enc) (C := Try.checked) false ⟨#[], #[.int .i64 0, .int .i64 0], []⟩ 8 (by kernel_rfl) (by kernel_rfl) (by kernel_rfl) (by kernel_rfl)) ?_
  intro W base args ds gs before hval0 hW hcnd _
  have hval : ∀ (j : Nat) t v, Try.f20.params[j]? = some t → args[j]? = some v → Value.okWide Try.prog W .any base t v := hval0
  have hW' := hW
  obtain ⟨p, q, hA0, hV, rfl, hfz, hnd⟩ := hW
  have hA : DataW.TrodAll enc Try.prog W 0 (fun _ => true) true Try.f20.params.toList args.toList ds p := hA0
  rw [Try.params20] at hA hval
  obtain ⟨v0, vs0, d0, ds0, p0, q0, hargs, rfl, rfl, h0, r0⟩ := trodAll_cons hA
  obtain ⟨v1, vs1, d1, ds1, p1, q1, rfl, rfl, rfl, h1, r1⟩ := trodAll_cons r0
  obtain ⟨rfl, rfl, rfl⟩ := trodAll_nil r1
  obtain rfl : args = #[v0, v1] := by cases args; simp_all
  obtain ⟨rfl, rfl⟩ := trodVars_none hV
  have k0 := h0
  have lt0 : ∀ x ∈ p0, x.block < W.heap.size := by obtain ⟨m, hm⟩ := k0; exact DataW.trod_lt m _ _ _ hm
  obtain ⟨a0, rfl, _, _, w0⟩ := open_int Try.underlying3 (hval 0 3 v0 rfl rfl) h0
  have k1 := h1
  have lt1 : ∀ x ∈ p1, x.block < W.heap.size := by obtain ⟨m, hm⟩ := k1; exact DataW.trod_lt m _ _ _ hm
  obtain ⟨a1, rfl, _, _, w1⟩ := open_int Try.underlying3 (hval 1 3 v1 rfl rfl) h1
  clear hA0 hval0
  refine (walk a0 w0 a1 w1 W ).mono fun e W' ⟨he, bel⟩ => ?_
  subst he
  exact ⟨_, rfl, _, _, _, [], _, [], hW', trodAll_mk1 (shut_bool Try.underlying4 _), (trodAll_cons_mk (Below.trod laidOut (by kernel_rfl) (of_decide_eq_true (by kernel_rfl)) k0 bel lt0) (trodAll_cons_mk (Below.trod laidOut (by kernel_rfl) (of_decide_eq_true (by kernel_rfl)) k1 bel lt1) trodAll_mk0)), rfl, bel.frame _, fun h => by cases h⟩
theorem closed : joinedFacts Try.prog 20 Try.f20 Rows.fnExactPowBigIntSpec Rows.fnExactPowBigIntRow = true := by
  unfold joinedFacts
  simp only [Bool.and_eq_true]
  repeat' apply And.intro
  all_goals first | with_reducible exact mayEnter | (rw [lifts]; kernel_rfl) | (rw [make]; kernel_rfl) | as_aux_lemma => kernel_rfl
theorem over : Rows.fnExactPowBigIntRow.holds Try.pinned (OpenSpec.ofChange Rows.fnExactPowBigIntSpec) :=
  OpenClaim.holds_of_wide 20 Try.f20 rfl rfl rfl rfl rfl rfl rfl ⟨rfl, rfl, rfl, rfl, rfl⟩ rfl rfl rfl rfl rfl (by kernel_rfl) Try.func20 closed
    (of_decide_eq_true (by kernel_rfl)) (by unfold Func.isWrapper; first | (rw [if_pos (by decide +kernel)]; kernel_rfl) | (rw [if_neg (by decide +kernel)]; exact ⟨rfl, rfl⟩))
    (fun os started H enc _ => lifted os started H enc)
theorem proved : Rows.FnExactPowBigIntSaid := over
end Go.Proofs.Ytkhphjapefijbaa.fnExactPowBigInt
