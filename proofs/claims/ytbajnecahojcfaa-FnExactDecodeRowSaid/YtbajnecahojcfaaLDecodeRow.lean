/- The program's DecodeRow returns what the reference's DecodeRow returns, for all arguments. No condition. (Written by mkrowlaws.py.) -/
import Derived.Test.YtbajnecahojcfaaRows
import Derived.Test.YtbajnecahojcfaaHead
import Derived.Test.YtbajnecahojcfaaOpen
import Derived.Test.YtbajnecahojcfaaRowE
import Derived.Test.YtbajnecahojcfaaIntL
import Derived.ProofKit
import Derived.OpenShut
import Derived.ShutString
import Derived.ChangeOld
namespace Go.Proofs.Ytbajnecahojcfaa.fnExactDecodeRow
open Go.ChangeShapes Go.WideShapes Go.ChangeAt Go.RowKit
open Go.ChangeMaps (open_string shut_string)
set_option linter.unusedVariables false
set_option maxHeartbeats 4000000
set_option maxRecDepth 100000
theorem walk (s : ByteArray) (ws : s.size ≤ maxLen) (n : Int) (wn : (Lit.int .i64 n).wf = true) (w : World) : Calls Try.prog 6 #[.string s, .int .i64 n] w (RetB (.bool true) w) := by
  obtain ⟨t, rfl⟩ := str_list s
  replace ws : t.length ≤ 9223372036854775807 := ws
  clear wn
  by_cases hl : t.length ≤ 1048576
  rotate_left
  · have g : (1048576 : Int) < (t.length : Int) := by omega
    go_enter Try.func6, Try.ntmps6
    go_wp2_with fail
    go_ret
    exact ⟨rfl, Below.refl _ _⟩
  have g : ¬ (1048576 : Int) < (t.length : Int) := by omega
  have hlen := decRow_len t n
  go_enter Try.func6, Try.ntmps6
  go_wp2_with fail
  have hB := Below.refl w.heap.size w
  go_wp2_with (first 
    | (go_at_call 35; ((with_reducible refine (DecodeRow_s t hl n _).mono ?_); rintro e w1 ⟨Ax2, cx2, rfl, own, hb⟩; (have n3 : w.heap.size ≤ w1.heap.size := hb.size; replace hB := hB.trans (hb.mono hB.size); clear hb; have r4 := SegI.of own; clear own))) 
    | (go_at_call 36; ((with_reducible refine (DecodeRow_i t hl n _).mono ?_); rintro e w5 ⟨Ax6, cx6, rfl, own, hb⟩; (replace r4 := SegI.below r4 hb; have n7 : w1.heap.size ≤ w5.heap.size := hb.size; replace hB := hB.trans (hb.mono hB.size); clear hb; have r8 := SegI.of own; clear own))) 
    | (go_at_call 30; ((with_reducible refine (eqInt_law _ _ (decRow t n) _ (SegI.row r8) (SegI.row r4)).mono ?_); rintro e w9 ⟨rfl, hb⟩; (replace r4 := SegI.below r4 hb; replace r8 := SegI.below r8 hb; have n10 : w5.heap.size ≤ w9.heap.size := hb.size; replace hB := hB.trans (hb.mono hB.size); clear hb))) 
    | (go_at_call 37; ((with_reducible refine (markInt_law _ (decRow t n) _ _ _ _ r8 (by omega) (by omega)).mono ?_); rintro e w11 ⟨rfl, hm, hw⟩; (replace r8 := hm; clear hm; replace r4 := SegI.within r4 hw (by omega); have n12 : w9.heap.size ≤ w11.heap.size := hw.size; replace hB := hB.trans (hw.below (by omega) hB.size); clear hw))) 
    | (go_at_call 38; ((with_reducible refine (heldInt_law _ _ (decRow t n).length _ (SegI.row r8) (by omega) (by omega)).mono ?_); rintro e w13 ⟨rfl, hb⟩; (replace r4 := SegI.below r4 hb; replace r8 := SegI.below r8 hb; have n14 : w11.heap.size ≤ w13.heap.size := hb.size; replace hB := hB.trans (hb.mono hB.size); clear hb))) 
    | (go_at_call 36; ((with_reducible refine (DecodeRow_i t hl n _).mono ?_); rintro e w15 ⟨Ax16, cx16, rfl, own, hb⟩; (replace r4 := SegI.below r4 hb; replace r8 := SegI.below r8 hb; have n17 : w13.heap.size ≤ w15.heap.size := hb.size; replace hB := hB.trans (hb.mono hB.size); clear hb; have r18 := SegI.of own; clear own))) 
    | (go_at_call 30; ((with_reducible refine (eqInt_law _ _ (decRow t n) _ (SegI.row r18) (SegI.row r4)).mono ?_); rintro e w19 ⟨rfl, hb⟩; (replace r4 := SegI.below r4 hb; replace r8 := SegI.below r8 hb; replace r18 := SegI.below r18 hb; have n20 : w15.heap.size ≤ w19.heap.size := hb.size; replace hB := hB.trans (hb.mono hB.size); clear hb))) 
    | (go_at_call 38; ((with_reducible refine (heldInt_law _ _ (decRow t n).length _ (SegI.row r8) (by omega) (by omega)).mono ?_); rintro e w21 ⟨rfl, hb⟩; (replace r4 := SegI.below r4 hb; replace r8 := SegI.below r8 hb; replace r18 := SegI.below r18 hb; have n22 : w19.heap.size ≤ w21.heap.size := hb.size; replace hB := hB.trans (hb.mono hB.size); clear hb))))
  go_ret
  exact ⟨rfl, hB⟩
theorem own : ownKnob Try.prog.godebug = none := by kernel_rfl
theorem laidOut : laidOutB Try.prog = true := by kernel_rfl
set_option maxRecDepth 100000 in
theorem lifted (os : Os) (started : os.Started) (H : Type) (enc : TypeId × Value → H) :
    ReturnsInHanded {} Try.checked os 6 .any (Rows.fnExactDecodeRowSpec.pre6 enc Try.prog Try.f6 Rows.fnExactDecodeRowRow.domain false) (Rows.fnExactDecodeRowSpec.post enc Try.prog Try.f6 false true false false) := by
  refine returnsInHanded_of_change (C := Try.checked) own started (by kernel_rfl) Try.func6
    (ChangeSpec.witness6 (enc := enc) (C := Try.checked) false ⟨#[], #[.string ByteArray.empty, .int .i64 0], []⟩ 8 (by kernel_rfl) (by kernel_rfl) (by kernel_rfl) (by kernel_rfl)) ?_
  intro W base args ds gs before hval0 hW hcnd _
  have hval : ∀ (j : Nat) t v, Try.f6.params[j]? = some t → args[j]? = some v → Value.okWide Try.prog W .any base t v := hval0
  have hW' := hW
  obtain ⟨p, q, hA0, hV, rfl, hfz, hnd⟩ := hW
  have hA : DataW.TrodAll enc Try.prog W 0 (fun _ => true) true Try.f6.params.toList args.toList ds p := hA0
  rw [Try.params6] at hA hval
  obtain ⟨v0, vs0, d0, ds0, p0, q0, hargs, rfl, rfl, h0, r0⟩ := trodAll_cons hA
  obtain ⟨v1, vs1, d1, ds1, p1, q1, rfl, rfl, rfl, h1, r1⟩ := trodAll_cons r0
  obtain ⟨rfl, rfl, rfl⟩ := trodAll_nil r1
  obtain rfl : args = #[v0, v1] := by cases args; simp_all
  obtain ⟨rfl, rfl⟩ := trodVars_none hV
  have k0 := h0
  have lt0 : ∀ x ∈ p0, x.block < W.heap.size := by obtain ⟨m, hm⟩ := k0; exact DataW.trod_lt m _ _ _ hm
  obtain ⟨a0, rfl, _, _, w0⟩ := open_string Try.underlying9 (hval 0 9 v0 rfl rfl) h0
  have k1 := h1
  have lt1 : ∀ x ∈ p1, x.block < W.heap.size := by obtain ⟨m, hm⟩ := k1; exact DataW.trod_lt m _ _ _ hm
  obtain ⟨a1, rfl, _, _, w1⟩ := open_int Try.underlying3 (hval 1 3 v1 rfl rfl) h1
  clear hA0 hval0
  refine (walk a0 w0 a1 w1 W ).mono fun e W' ⟨he, bel⟩ => ?_
  subst he
  exact ⟨_, rfl, _, _, _, [], _, [], hW', trodAll_mk1 (shut_bool Try.underlying4 _), (trodAll_cons_mk (Below.trod laidOut (by kernel_rfl) (of_decide_eq_true (by kernel_rfl)) k0 bel lt0) (trodAll_cons_mk (Below.trod laidOut (by kernel_rfl) (of_decide_eq_true (by kernel_rfl)) k1 bel lt1) trodAll_mk0)), rfl, bel.frame _, fun h => by cases h⟩
theorem closed : joinedFacts Try.prog 6 Try.f6 Rows.fnExactDecodeRowSpec Rows.fnExactDecodeRowRow = true := by
  unfold joinedFacts
  simp only [Bool.and_eq_true]
  repeat' apply And.intro
  all_goals first | with_reducible exact mayEnter | (rw [lifts]; kernel_rfl) | (rw [make]; kernel_rfl) | as_aux_lemma => kernel_rfl
theorem over : Rows.fnExactDecodeRowRow.holds Try.pinned (OpenSpec.ofChange Rows.fnExactDecodeRowSpec) :=
  OpenClaim.holds_of_wide 6 Try.f6 rfl rfl rfl rfl rfl rfl rfl ⟨rfl, rfl, rfl, rfl, rfl⟩ rfl rfl rfl rfl rfl (by kernel_rfl) Try.func6 closed
    (of_decide_eq_true (by kernel_rfl)) (by unfold Func.isWrapper; first | (rw [if_pos (by decide +kernel)]; kernel_rfl) | (rw [if_neg (by decide +kernel)]; exact ⟨rfl, rfl⟩))
    (fun os started H enc _ => lifted os started H enc)
theorem proved : Rows.FnExactDecodeRowSaid := over
end Go.Proofs.Ytbajnecahojcfaa.fnExactDecodeRow
