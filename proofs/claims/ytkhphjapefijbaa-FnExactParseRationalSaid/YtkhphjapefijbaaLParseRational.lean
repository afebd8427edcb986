/- The program's ParseRational returns what the reference's ParseRational returns, for all arguments. No condition. -/
import Derived.Test.YtkhphjapefijbaaRows
import Derived.Test.YtkhphjapefijbaaHead
import Derived.Test.YtkhphjapefijbaaParseRS
import Derived.ProofKit
import Derived.OpenShut
import Derived.ChangeOld
namespace Go.Proofs.Ytkhphjapefijbaa.fnExactParseRational
open Go.ChangeShapes Go.WideShapes Go.ChangeAt Go.RowKit
open Go.ChangeMaps (open_string shut_string)
set_option linter.unusedVariables false
set_option maxHeartbeats 1000000
theorem parR_tuple (l : List UInt8) : ∃ (a b : Int) (t : Bool), parR l = .tuple #[.agg #[.int .i64 a, .int .i64 b], .bool t] := by
  unfold parR ratV
  split
  · exact ⟨_, _, _, rfl⟩
  · exact ⟨_, _, _, rfl⟩
theorem walk (s : ByteArray) (ws : s.size ≤ maxLen) (w : World) : Calls Try.prog 12 #[.string s] w (RetB (.bool true) w) := by
  obtain ⟨l, rfl⟩ := str_list s
  replace ws : l.length ≤ 9223372036854775807 := ws
  by_cases h0 : l.length ≤ 1048576
  · have d0 : decide ((1048576 : Int) < (l.length : Int)) = false := by rw [decide_eq_false_iff_not]; omega
    have k1 := fun W => ParseRational_s l h0 W
    have k2 := fun W => ParseRational_i l h0 W
    obtain ⟨a, b, t, e⟩ := parR_tuple l
    rw [e] at k1 k2
    have k3 := fun W => eqRational_l a b a b W
    rw [show (a == a && b == b) = true by simp] at k3
    clear e
    have Hk1 := Lib.hid k1; clear k1; have Hk2 := Lib.hid k2; clear k2; have Hk3 := Lib.hid k3; clear k3
    go_enter Try.func12, Try.ntmps12
    go_wp2_with (first
      | (go_at_call 43; ((with_reducible refine (Hk1.out _).mono ?_); rintro e w' ⟨rfl, hb1⟩))
      | (go_at_call 44; ((with_reducible refine (Hk2.out _).mono ?_); rintro e w' ⟨rfl, hb2⟩; (have z0 := cellB hb2 box_at0; have z1 := cellB hb2 box_at1; replace z0 := cellN z0; replace z1 := cellN z1)))
      | (go_at_call 30; ((with_reducible refine (Hk3.out _).mono ?_); rintro e w' ⟨rfl, hb3⟩)))
    go_ret
    exact ⟨rfl, belowA (belowA hb1 hb2) hb3⟩
  · have d0 : decide ((1048576 : Int) < (l.length : Int)) = true := by rw [decide_eq_true_eq]; omega
    go_enter Try.func12, Try.ntmps12
    go_wp2_with fail
    go_ret
    exact ⟨rfl, Below.refl _ _⟩
theorem own : ownKnob Try.prog.godebug = none := by kernel_rfl
theorem laidOut : laidOutB Try.prog = true := by kernel_rfl
set_option maxRecDepth 100000 in
theorem lifted (os : Os) (started : os.Started) (H : Type) (enc : TypeId × Value → H) :
    ReturnsInHanded {} Try.checked os 12 .any (Rows.fnExactParseRationalSpec.pre6 enc Try.prog Try.f12 Rows.fnExactParseRationalRow.domain false) (Rows.fnExactParseRationalSpec.post enc Try.prog Try.f12 false true false false) := by
  refine returnsInHanded_of_change (C := Try.checked) own started (by kernel_rfl) Try.func12
    (ChangeSpec.witness6 (enc := enc) (C := Try.checked) false ⟨#[], #[.string ByteArray.empty], []⟩ 8 (by kernel_rfl) (by kernel_rfl) (by kernel_rfl) (by kernel_rfl)) ?_
  intro W base args ds gs before hval0 hW hcnd _
  have hval : ∀ (j : Nat) t v, Try.f12.params[j]? = some t → args[j]? = some v → Value.okWide Try.prog W .any base t v := hval0
  have hW' := hW
  obtain ⟨p, q, hA0, hV, rfl, hfz, hnd⟩ := hW
  have hA : DataW.TrodAll enc Try.prog W 0 (fun _ => true) true Try.f12.params.toList args.toList ds p := hA0
  rw [Try.params12] at hA hval
  obtain ⟨v0, vs0, d0, ds0, p0, q0, hargs, rfl, rfl, h0, r0⟩ := trodAll_cons hA
  obtain ⟨rfl, rfl, rfl⟩ := trodAll_nil r0
  obtain rfl : args = #[v0] := by cases args; simp_all
  obtain ⟨rfl, rfl⟩ := trodVars_none hV
  have k0 := h0
  have lt0 : ∀ x ∈ p0, x.block < W.heap.size := by obtain ⟨m, hm⟩ := k0; exact DataW.trod_lt m _ _ _ hm
  obtain ⟨a0, rfl, _, _, w0⟩ := open_string Try.underlying9 (hval 0 9 v0 rfl rfl) h0
  clear hA0 hval0
  refine (walk a0 w0 W).mono fun e W' ⟨he, bel⟩ => ?_
  subst he
  exact ⟨_, rfl, _, _, _, [], _, [], hW', trodAll_mk1 (shut_bool Try.underlying4 _), (trodAll_cons_mk (Below.trod laidOut (by kernel_rfl) (of_decide_eq_true (by kernel_rfl)) k0 bel lt0) trodAll_mk0), rfl, bel.frame _, fun h => by cases h⟩
theorem closed : joinedFacts Try.prog 12 Try.f12 Rows.fnExactParseRationalSpec Rows.fnExactParseRationalRow = true := by
  unfold joinedFacts
  simp only [Bool.and_eq_true]
  repeat' apply And.intro
  all_goals first | with_reducible exact mayEnter | (rw [lifts]; kernel_rfl) | (rw [make]; kernel_rfl) | as_aux_lemma => kernel_rfl
theorem over : Rows.fnExactParseRationalRow.holds Try.pinned (OpenSpec.ofChange Rows.fnExactParseRationalSpec) :=
  OpenClaim.holds_of_wide 12 Try.f12 rfl rfl rfl rfl rfl rfl rfl ⟨rfl, rfl, rfl, rfl, rfl⟩ rfl rfl rfl rfl rfl (by kernel_rfl) Try.func12 closed
    (of_decide_eq_true (by kernel_rfl)) (by unfold Func.isWrapper; first | (rw [if_pos (by decide +kernel)]; kernel_rfl) | (rw [if_neg (by decide +kernel)]; exact ⟨rfl, rfl⟩))
    (fun os started H enc _ => lifted os started H enc)
theorem proved : Rows.FnExactParseRationalSaid := over
end Go.Proofs.Ytkhphjapefijbaa.fnExactParseRational
