/- The program's NewRational returns what the reference's NewRational returns, for all arguments. -/
import Derived.Test.YtkhphjapefijbaaRows
import Derived.Test.YtkhphjapefijbaaHead
import Derived.Test.YtkhphjapefijbaaRatNew
import Derived.Test.YtkhphjapefijbaaMem
import Derived.ProofKit
import Derived.OpenShut
import Derived.ChangeOld
namespace Go.Proofs.Ytkhphjapefijbaa.fnExactNewRational
open Go.ChangeShapes Go.WideShapes Go.ChangeAt Go.RowKit
set_option linter.unusedVariables false
set_option maxHeartbeats 400000
theorem walk (n : Int) (wn : (Lit.int .i64 n).wf = true) (d : Int) (wd : (Lit.int .i64 d).wf = true) (w : World) : Calls Try.prog 5 #[.int .i64 n, .int .i64 d] w (RetB (.bool true) w) := by

  have hd := bounds_i64 wd
  have k1 := fun W => NewRational_s n d hd W
  have k2 := fun W => NewRational_i n d hd W
  obtain ⟨a, b, t, e⟩ := newR_tuple n d
  rw [e] at k1 k2
  have k3 := fun W => eqRational_l a b a b W
  rw [show (a == a && b == b) = true by simp] at k3
  clear e hd wn wd
  have Hk1 := Lib.hid k1; clear k1; have Hk2 := Lib.hid k2; clear k2; have Hk3 := Lib.hid k3; clear k3
  go_enter Try.func5, Try.ntmps5
  go_wp2_with (first
    | (go_at_call 28; ((with_reducible refine (Hk1.out _).mono ?_); rintro e w' ⟨rfl, hb1⟩))
    | (go_at_call 29; ((with_reducible refine (Hk2.out _).mono ?_); rintro e w' ⟨rfl, hb2⟩; (have z0 := cellB hb2 box_at0; have z1 := cellB hb2 box_at1; replace z0 := cellN z0; replace z1 := cellN z1)))
    | (go_at_call 30; ((with_reducible refine (Hk3.out _).mono ?_); rintro e w' ⟨rfl, hb3⟩)))

  go_ret
  exact ⟨rfl, belowA (belowA hb1 hb2) hb3⟩
theorem own : ownKnob Try.prog.godebug = none := by kernel_rfl
theorem laidOut : laidOutB Try.prog = true := by kernel_rfl
set_option maxRecDepth 100000 in
theorem lifted (os : Os) (started : os.Started) (H : Type) (enc : TypeId × Value → H) :
    ReturnsInHanded {} Try.checked os 5 .any (Rows.fnExactNewRationalSpec.pre6 enc Try.prog Try.f5 Rows.fnExactNewRationalRow.domain false) (Rows.fnExactNewRationalSpec.post enc Try.prog Try.f5 false true false false) := by
  refine returnsInHanded_of_change (C := Try.checked) own started (by kernel_rfl) Try.func5
    (ChangeSpec.witness6 (enc := enc) (C := Try.checked) false ⟨#[], #[.int .i64 0, .int .i64 0], []⟩ 8 (by kernel_rfl) (by kernel_rfl) (by kernel_rfl) (by kernel_rfl)) ?_
  intro W base args ds gs before hval0 hW hcnd _
  have hval : ∀ (j : Nat) t v, Try.f5.params[j]? = some t → args[j]? = some v → Value.okWide Try.prog W .any base t v := hval0
  have hW' := hW
  obtain ⟨p, q, hA0, hV, rfl, hfz, hnd⟩ := hW
  have hA : DataW.TrodAll enc Try.prog W 0 (fun _ => true) true Try.f5.params.toList args.toList ds p := hA0
  rw [Try.params5] at hA hval
  obtain ⟨v0, vs0, d0, ds0, p0, q0, hargs, rfl, rfl, h0, r0⟩ := trodAll_cons hA
  obtain ⟨v1, vs1, d1, ds1, p1, q1, rfl, rfl, rfl, h1, r1⟩ := trodAll_cons r0
  obtain ⟨rfl, rfl, rfl⟩ := trodAll_nil r1
  obtain rfl : args = #[v0, v1] := by cases args; simp_all
  obtain ⟨rfl, rfl⟩ := trodVars_none hV
  have k0 := h0
  have lt0 : ∀ x ∈ p0, x.block < W.heap.size := by obtain ⟨m, hm⟩ := k0; exact DataW.trod_lt m _ _ _ hm
  obtain ⟨a0, rfl, _, _, w0⟩ := open_int Try.underlying3 (hval 0 3 v0 rfl rfl) h0
  have k1 := h1
  have lt1 : ∀ x ∈ p1, x.block < W.heap.size := by obtain ⟨m, hm⟩ := k1; exact DataW.trod_lt m _ _ _ hm
  obtain ⟨a1, rfl, _, _, w1⟩ := open_int Try.underlying3 (hval 1 3 v1 rfl rfl) h1
  clear hA0 hval0
  refine (walk a0 w0 a1 w1 W).mono fun e W' ⟨he, bel⟩ => ?_
  subst he
  exact ⟨_, rfl, _, _, _, [], _, [], hW', trodAll_mk1 (shut_bool Try.underlying4 _), (trodAll_cons_mk (Below.trod laidOut (by kernel_rfl) (of_decide_eq_true (by kernel_rfl)) k0 bel lt0) (trodAll_cons_mk (Below.trod laidOut (by kernel_rfl) (of_decide_eq_true (by kernel_rfl)) k1 bel lt1) trodAll_mk0)), rfl, bel.frame _, fun h => by cases h⟩
theorem closed : joinedFacts Try.prog 5 Try.f5 Rows.fnExactNewRationalSpec Rows.fnExactNewRationalRow = true := by
  unfold joinedFacts
  simp only [Bool.and_eq_true]
  repeat' apply And.intro
  all_goals first | with_reducible exact mayEnter | (rw [lifts]; kernel_rfl) | (rw [make]; kernel_rfl) | as_aux_lemma => kernel_rfl
theorem over : Rows.fnExactNewRationalRow.holds Try.pinned (OpenSpec.ofChange Rows.fnExactNewRationalSpec) :=
  OpenClaim.holds_of_wide 5 Try.f5 rfl rfl rfl rfl rfl rfl rfl ⟨rfl, rfl, rfl, rfl, rfl⟩ rfl rfl rfl rfl rfl (by kernel_rfl) Try.func5 closed
    (of_decide_eq_true (by kernel_rfl)) (by unfold Func.isWrapper; first | (rw [if_pos (by decide +kernel)]; kernel_rfl) | (rw [if_neg (by decide +kernel)]; exact ⟨rfl, rfl⟩))
    (fun os started H enc _ => lifted os started H enc)
theorem proved : Rows.FnExactNewRationalSaid := over
end Go.Proofs.Ytkhphjapefijbaa.fnExactNewRational
