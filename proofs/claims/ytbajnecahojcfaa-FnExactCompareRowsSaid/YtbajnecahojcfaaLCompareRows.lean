/- The program's CompareRows returns what the reference's CompareRows returns, for all arguments. No condition. (Written by mkrowlaws.py.) -/
import Derived.Test.YtbajnecahojcfaaRows
import Derived.Test.YtbajnecahojcfaaHead
import Derived.Test.YtbajnecahojcfaaOpen
import Derived.Test.YtbajnecahojcfaaRow
import Derived.Test.YtbajnecahojcfaaIntL
import Derived.ProofKit
import Derived.OpenShut
import Derived.ShutString
import Derived.ChangeOld
namespace Go.Proofs.Ytbajnecahojcfaa.fnExactCompareRows
open Go.ChangeShapes Go.WideShapes Go.ChangeAt Go.RowKit
open Go.ChangeMaps (open_string shut_string)
set_option linter.unusedVariables false
set_option maxHeartbeats 4000000
set_option maxRecDepth 100000
theorem walk (v0 : Value) (l0 : List Int) (v1 : Value) (l1 : List Int) (w : World) (h0 : IRow w v0 l0 ∧ ∀ n ∈ l0, (Lit.int .i64 n).wf = true) (h1 : IRow w v1 l1 ∧ ∀ n ∈ l1, (Lit.int .i64 n).wf = true) : Calls Try.prog 4 #[v0, v1] w (RetB (.bool true) w) := by
  obtain ⟨hc0, hwf0⟩ := h0
  have c0_ := hc0
  obtain ⟨Az0, qz0, e0, -⟩ := IRow.open hc0
  clear hc0
  subst e0
  obtain ⟨hc1, hwf1⟩ := h1
  have c1_ := hc1
  obtain ⟨Az1, qz1, e1, -⟩ := IRow.open hc1
  clear hc1
  subst e1
  by_cases hl0 : l0.length ≤ 1048576
  rotate_left
  · have g0 : (1048576 : Int) < (l0.length : Int) := by omega
    go_enter Try.func4, Try.ntmps4
    go_wp2_with fail
    go_ret
    exact ⟨rfl, Below.refl _ _⟩
  by_cases hl1 : l1.length ≤ 1048576
  rotate_left
  · have g1 : (1048576 : Int) < (l1.length : Int) := by omega
    have t0 : ¬ (1048576 : Int) < (l0.length : Int) := by omega
    go_enter Try.func4, Try.ntmps4
    go_wp2_with fail
    go_ret
    exact ⟨rfl, Below.refl _ _⟩
  have g0 : ¬ (1048576 : Int) < (l0.length : Int) := by omega
  have g1 : ¬ (1048576 : Int) < (l1.length : Int) := by omega
  go_enter Try.func4, Try.ntmps4
  go_wp2_with fail
  have hB := Below.refl w.heap.size w
  go_wp2_with (first 
    | (go_at_call 28; ((with_reducible refine (toInt_law _ l0 _ (IRow.below c0_ hB) hl0).mono ?_); rintro e w1 ⟨Ax2, cx2, rfl, own, hb⟩; (have n3 : w.heap.size ≤ w1.heap.size := hb.size; replace hB := hB.trans (hb.mono hB.size); clear hb; have r4 := SegI.of own; clear own))) 
    | (go_at_call 28; ((with_reducible refine (toInt_law _ l1 _ (IRow.below c1_ hB) hl1).mono ?_); rintro e w5 ⟨Ax6, cx6, rfl, own, hb⟩; (replace r4 := SegI.below r4 hb; have n7 : w1.heap.size ≤ w5.heap.size := hb.size; replace hB := hB.trans (hb.mono hB.size); clear hb; have r8 := SegI.of own; clear own))) 
    | (go_at_call 31; ((with_reducible refine (CompareRows_s _ _ l0 l1 _ (SegI.row r4) (SegI.row r8)).mono ?_); rintro e w9 ⟨rfl, hb⟩; (replace r4 := SegI.below r4 hb; replace r8 := SegI.below r8 hb; have n10 : w5.heap.size ≤ w9.heap.size := hb.size; replace hB := hB.trans (hb.mono hB.size); clear hb))) 
    | (go_at_call 28; ((with_reducible refine (toInt_law _ l0 _ (IRow.below c0_ hB) hl0).mono ?_); rintro e w11 ⟨Ax12, cx12, rfl, own, hb⟩; (replace r4 := SegI.below r4 hb; replace r8 := SegI.below r8 hb; have n13 : w9.heap.size ≤ w11.heap.size := hb.size; replace hB := hB.trans (hb.mono hB.size); clear hb; have r14 := SegI.of own; clear own))) 
    | (go_at_call 28; ((with_reducible refine (toInt_law _ l1 _ (IRow.below c1_ hB) hl1).mono ?_); rintro e w15 ⟨Ax16, cx16, rfl, own, hb⟩; (replace r4 := SegI.below r4 hb; replace r8 := SegI.below r8 hb; replace r14 := SegI.below r14 hb; have n17 : w11.heap.size ≤ w15.heap.size := hb.size; replace hB := hB.trans (hb.mono hB.size); clear hb; have r18 := SegI.of own; clear own))) 
    | (go_at_call 32; ((with_reducible refine (CompareRows_i _ _ l0 l1 _ (SegI.row r14) (SegI.row r18)).mono ?_); rintro e w19 ⟨rfl, hb⟩; (replace r4 := SegI.below r4 hb; replace r8 := SegI.below r8 hb; replace r14 := SegI.below r14 hb; replace r18 := SegI.below r18 hb; have n20 : w15.heap.size ≤ w19.heap.size := hb.size; replace hB := hB.trans (hb.mono hB.size); clear hb))) 
    | (go_at_call 28; ((with_reducible refine (toInt_law _ l0 _ (IRow.below c0_ hB) hl0).mono ?_); rintro e w21 ⟨Ax22, cx22, rfl, own, hb⟩; (replace r4 := SegI.below r4 hb; replace r8 := SegI.below r8 hb; replace r14 := SegI.below r14 hb; replace r18 := SegI.below r18 hb; have n23 : w19.heap.size ≤ w21.heap.size := hb.size; replace hB := hB.trans (hb.mono hB.size); clear hb; have r24 := SegI.of own; clear own))) 
    | (go_at_call 30; ((with_reducible refine (eqInt_law _ _ l0 _ (SegI.row r14) (SegI.row r24)).mono ?_); rintro e w25 ⟨rfl, hb⟩; (replace r4 := SegI.below r4 hb; replace r8 := SegI.below r8 hb; replace r14 := SegI.below r14 hb; replace r18 := SegI.below r18 hb; replace r24 := SegI.below r24 hb; have n26 : w21.heap.size ≤ w25.heap.size := hb.size; replace hB := hB.trans (hb.mono hB.size); clear hb))) 
    | (go_at_call 28; ((with_reducible refine (toInt_law _ l1 _ (IRow.below c1_ hB) hl1).mono ?_); rintro e w27 ⟨Ax28, cx28, rfl, own, hb⟩; (replace r4 := SegI.below r4 hb; replace r8 := SegI.below r8 hb; replace r14 := SegI.below r14 hb; replace r18 := SegI.below r18 hb; replace r24 := SegI.below r24 hb; have n29 : w25.heap.size ≤ w27.heap.size := hb.size; replace hB := hB.trans (hb.mono hB.size); clear hb; have r30 := SegI.of own; clear own))) 
    | (go_at_call 30; ((with_reducible refine (eqInt_law _ _ l1 _ (SegI.row r18) (SegI.row r30)).mono ?_); rintro e w31 ⟨rfl, hb⟩; (replace r4 := SegI.below r4 hb; replace r8 := SegI.below r8 hb; replace r14 := SegI.below r14 hb; replace r18 := SegI.below r18 hb; replace r24 := SegI.below r24 hb; replace r30 := SegI.below r30 hb; have n32 : w27.heap.size ≤ w31.heap.size := hb.size; replace hB := hB.trans (hb.mono hB.size); clear hb))))
  go_ret
  exact ⟨rfl, hB⟩
theorem own : ownKnob Try.prog.godebug = none := by kernel_rfl
theorem laidOut : laidOutB Try.prog = true := by kernel_rfl
set_option maxRecDepth 100000 in
theorem lifted (os : Os) (started : os.Started) (H : Type) (enc : TypeId × Value → H) :
    ReturnsInHanded {} Try.checked os 4 .any (Rows.fnExactCompareRowsSpec.pre6 enc Try.prog Try.f4 Rows.fnExactCompareRowsRow.domain false) (Rows.fnExactCompareRowsSpec.post enc Try.prog Try.f4 false true false false) := by
  refine returnsInHanded_of_change (C := Try.checked) own started (by kernel_rfl) Try.func4
    (ChangeSpec.witness6 (enc := enc) (C := Try.checked) false ⟨#[], #[.slice none 0 0, .slice none 0 0], []⟩ 8 (by kernel_rfl) (by kernel_rfl) (by kernel_rfl) (by kernel_rfl)) ?_
  intro W base args ds gs before hval0 hW hcnd _
  have hval : ∀ (j : Nat) t v, Try.f4.params[j]? = some t → args[j]? = some v → Value.okWide Try.prog W .any base t v := hval0
  have hW' := hW
  obtain ⟨p, q, hA0, hV, rfl, hfz, hnd⟩ := hW
  have hA : DataW.TrodAll enc Try.prog W 0 (fun _ => true) true Try.f4.params.toList args.toList ds p := hA0
  rw [Try.params4] at hA hval
  obtain ⟨v0, vs0, d0, ds0, p0, q0, hargs, rfl, rfl, h0, r0⟩ := trodAll_cons hA
  obtain ⟨v1, vs1, d1, ds1, p1, q1, rfl, rfl, rfl, h1, r1⟩ := trodAll_cons r0
  obtain ⟨rfl, rfl, rfl⟩ := trodAll_nil r1
  obtain rfl : args = #[v0, v1] := by cases args; simp_all
  obtain ⟨rfl, rfl⟩ := trodVars_none hV
  have k0 := h0
  have lt0 : ∀ x ∈ p0, x.block < W.heap.size := by obtain ⟨m, hm⟩ := k0; exact DataW.trod_lt m _ _ _ hm
  obtain ⟨A0, w0⟩ := open_row_int (hval 0 22 v0 rfl rfl) h0
  have k1 := h1
  have lt1 : ∀ x ∈ p1, x.block < W.heap.size := by obtain ⟨m, hm⟩ := k1; exact DataW.trod_lt m _ _ _ hm
  obtain ⟨A1, w1⟩ := open_row_int (hval 1 22 v1 rfl rfl) h1
  clear hA0 hval0
  refine (walk v0 A0 v1 A1 W w0 w1).mono fun e W' ⟨he, bel⟩ => ?_
  subst he
  exact ⟨_, rfl, _, _, _, [], _, [], hW', trodAll_mk1 (shut_bool Try.underlying4 _), (trodAll_cons_mk (Below.trod laidOut (by kernel_rfl) (of_decide_eq_true (by kernel_rfl)) k0 bel lt0) (trodAll_cons_mk (Below.trod laidOut (by kernel_rfl) (of_decide_eq_true (by kernel_rfl)) k1 bel lt1) trodAll_mk0)), rfl, bel.frame _, fun h => by cases h⟩
theorem closed : joinedFacts Try.prog 4 Try.f4 Rows.fnExactCompareRowsSpec Rows.fnExactCompareRowsRow = true := by
  unfold joinedFacts
  simp only [Bool.and_eq_true]
  repeat' apply And.intro
  all_goals first | with_reducible exact mayEnter | (rw [lifts]; kernel_rfl) | (rw [make]; kernel_rfl) | as_aux_lemma => kernel_rfl
theorem over : Rows.fnExactCompareRowsRow.holds Try.pinned (OpenSpec.ofChange Rows.fnExactCompareRowsSpec) :=
  OpenClaim.holds_of_wide 4 Try.f4 rfl rfl rfl rfl rfl rfl rfl ⟨rfl, rfl, rfl, rfl, rfl⟩ rfl rfl rfl rfl rfl (by kernel_rfl) Try.func4 closed
    (of_decide_eq_true (by kernel_rfl)) (by unfold Func.isWrapper; first | (rw [if_pos (by decide +kernel)]; kernel_rfl) | (rw [if_neg (by decide +kernel)]; exact ⟨rfl, rfl⟩))
    (fun os started H enc _ => lifted os started H enc)
theorem proved : Rows.FnExactCompareRowsSaid := over
end Go.Proofs.Ytbajnecahojcfaa.fnExactCompareRows
