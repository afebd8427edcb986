/- The program's AreValidValues returns what the reference's AreValidValues returns, for all arguments. No condition. (Written by mkrowlaws.py.) -/
import Derived.Test.YtbajnecahojcfaaRows
import Derived.Test.YtbajnecahojcfaaHead
import Derived.Test.YtbajnecahojcfaaOpen
import Derived.Test.YtbajnecahojcfaaRow
import Derived.Test.YtbajnecahojcfaaIntL
import Derived.ProofKit
import Derived.OpenShut
import Derived.ShutString
import Derived.ChangeOld
namespace Go.Proofs.Ytbajnecahojcfaa.fnExactAreValidValues
open Go.ChangeShapes Go.WideShapes Go.ChangeAt Go.RowKit
open Go.ChangeMaps (open_string shut_string)
set_option linter.unusedVariables false
set_option maxHeartbeats 4000000
set_option maxRecDepth 100000
theorem walk (v0 : Value) (l0 : List Int) (w : World) (h0 : IRow w v0 l0 ∧ ∀ n ∈ l0, (Lit.int .i64 n).wf = true) : Calls Try.prog 3 #[v0] w (RetB (.bool true) w) := by
  obtain ⟨hc0, hwf0⟩ := h0
  have c0_ := hc0
  obtain ⟨Az0, qz0, e0, -⟩ := IRow.open hc0
  clear hc0
  subst e0
  by_cases hl0 : l0.length ≤ 1048576
  rotate_left
  · have g0 : (1048576 : Int) < (l0.length : Int) := by omega
    go_enter Try.func3, Try.ntmps3
    go_wp2_with fail
    go_ret
    exact ⟨rfl, Below.refl _ _⟩
  have g0 : ¬ (1048576 : Int) < (l0.length : Int) := by omega
  go_enter Try.func3, Try.ntmps3
  go_wp2_with fail
  have hB := Below.refl w.heap.size w
  go_wp2_with (first 
    | (go_at_call 28; ((with_reducible refine (toInt_law _ l0 _ (IRow.below c0_ hB) hl0).mono ?_); rintro e w1 ⟨Ax2, cx2, rfl, own, hb⟩; (have n3 : w.heap.size ≤ w1.heap.size := hb.size; replace hB := hB.trans (hb.mono hB.size); clear hb; have r4 := SegI.of own; clear own))) 
    | (go_at_call 27; ((with_reducible refine (AreValidValuesB_s _ l0 _ (SegI.row r4)).mono ?_); rintro e w5 ⟨rfl, hb⟩; (replace r4 := SegI.below r4 hb; have n6 : w1.heap.size ≤ w5.heap.size := hb.size; replace hB := hB.trans (hb.mono hB.size); clear hb))) 
    | (go_at_call 28; ((with_reducible refine (toInt_law _ l0 _ (IRow.below c0_ hB) hl0).mono ?_); rintro e w7 ⟨Ax8, cx8, rfl, own, hb⟩; (replace r4 := SegI.below r4 hb; have n9 : w5.heap.size ≤ w7.heap.size := hb.size; replace hB := hB.trans (hb.mono hB.size); clear hb; have r10 := SegI.of own; clear own))) 
    | (go_at_call 29; ((with_reducible refine (AreValidValuesB_i _ l0 _ (SegI.row r10)).mono ?_); rintro e w11 ⟨rfl, hb⟩; (replace r4 := SegI.below r4 hb; replace r10 := SegI.below r10 hb; have n12 : w7.heap.size ≤ w11.heap.size := hb.size; replace hB := hB.trans (hb.mono hB.size); clear hb))) 
    | (go_at_call 28; ((with_reducible refine (toInt_law _ l0 _ (IRow.below c0_ hB) hl0).mono ?_); rintro e w13 ⟨Ax14, cx14, rfl, own, hb⟩; (replace r4 := SegI.below r4 hb; replace r10 := SegI.below r10 hb; have n15 : w11.heap.size ≤ w13.heap.size := hb.size; replace hB := hB.trans (hb.mono hB.size); clear hb; have r16 := SegI.of own; clear own))) 
    | (go_at_call 30; ((with_reducible refine (eqInt_law _ _ l0 _ (SegI.row r10) (SegI.row r16)).mono ?_); rintro e w17 ⟨rfl, hb⟩; (replace r4 := SegI.below r4 hb; replace r10 := SegI.below r10 hb; replace r16 := SegI.below r16 hb; have n18 : w13.heap.size ≤ w17.heap.size := hb.size; replace hB := hB.trans (hb.mono hB.size); clear hb))))
  go_ret
  exact ⟨rfl, hB⟩
theorem own : ownKnob Try.prog.godebug = none := by kernel_rfl
theorem laidOut : laidOutB Try.prog = true := by kernel_rfl
set_option maxRecDepth 100000 in
theorem lifted (os : Os) (started : os.Started) (H : Type) (enc : TypeId × Value → H) :
    ReturnsInHanded {} Try.checked os 3 .any (Rows.fnExactAreValidValuesSpec.pre6 enc Try.prog Try.f3 Rows.fnExactAreValidValuesRow.domain false) (Rows.fnExactAreValidValuesSpec.post enc Try.prog Try.f3 false true false false) := by
  refine returnsInHanded_of_change (C := Try.checked) own started (by kernel_rfl) Try.func3
    (ChangeSpec.witness6 (enc := enc) (C := Try.checked) false ⟨#[], #[.slice none 0 0], []⟩ 8 (by kernel_rfl) (by kernel_rfl) (by kernel_rfl) (by kernel_rfl)) ?_
  intro W base args ds gs before hval0 hW hcnd _
  have hval : ∀ (j : Nat) t v, Try.f3.params[j]? = some t → args[j]? = some v → Value.okWide Try.prog W .any base t v := hval0
  have hW' := hW
  obtain ⟨p, q, hA0, hV, rfl, hfz, hnd⟩ := hW
  have hA : DataW.TrodAll enc Try.prog W 0 (fun _ => true) true Try.f3.params.toList args.toList ds p := hA0
  rw [Try.params3] at hA hval
  obtain ⟨v0, vs0, d0, ds0, p0, q0, hargs, rfl, rfl, h0, r0⟩ := trodAll_cons hA
  obtain ⟨rfl, rfl, rfl⟩ := trodAll_nil r0
  obtain rfl : args = #[v0] := by cases args; simp_all
  obtain ⟨rfl, rfl⟩ := trodVars_none hV
  have k0 := h0
  have lt0 : ∀ x ∈ p0, x.block < W.heap.size := by obtain ⟨m, hm⟩ := k0; exact DataW.trod_lt m _ _ _ hm
  obtain ⟨A0, w0⟩ := open_row_int (hval 0 22 v0 rfl rfl) h0
  clear hA0 hval0
  refine (walk v0 A0 W w0).mono fun e W' ⟨he, bel⟩ => ?_
  subst he
  exact ⟨_, rfl, _, _, _, [], _, [], hW', trodAll_mk1 (shut_bool Try.underlying4 _), (trodAll_cons_mk (Below.trod laidOut (by kernel_rfl) (of_decide_eq_true (by kernel_rfl)) k0 bel lt0) trodAll_mk0), rfl, bel.frame _, fun h => by cases h⟩
theorem closed : joinedFacts Try.prog 3 Try.f3 Rows.fnExactAreValidValuesSpec Rows.fnExactAreValidValuesRow = true := by
  unfold joinedFacts
  simp only [Bool.and_eq_true]
  repeat' apply And.intro
  all_goals first | with_reducible exact mayEnter | (rw [lifts]; kernel_rfl) | (rw [make]; kernel_rfl) | as_aux_lemma => kernel_rfl
theorem over : Rows.fnExactAreValidValuesRow.holds Try.pinned (OpenSpec.ofChange Rows.fnExactAreValidValuesSpec) :=
  OpenClaim.holds_of_wide 3 Try.f3 rfl rfl rfl rfl rfl rfl rfl ⟨rfl, rfl, rfl, rfl, rfl⟩ rfl rfl rfl rfl rfl (by kernel_rfl) Try.func3 closed
    (of_decide_eq_true (by kernel_rfl)) (by unfold Func.isWrapper; first | (rw [if_pos (by decide +kernel)]; kernel_rfl) | (rw [if_neg (by decide +kernel)]; exact ⟨rfl, rfl⟩))
    (fun os started H enc _ => lifted os started H enc)
theorem proved : Rows.FnExactAreValidValuesSaid := over
end Go.Proofs.Ytbajnecahojcfaa.fnExactAreValidValues
