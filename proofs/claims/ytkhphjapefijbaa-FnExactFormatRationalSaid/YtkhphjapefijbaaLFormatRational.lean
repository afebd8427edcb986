/- The program's FormatRational returns what the reference's FormatRational returns, for all arguments. -/
import Derived.Test.YtkhphjapefijbaaRows
import Derived.Test.YtkhphjapefijbaaHead
import Derived.Test.YtkhphjapefijbaaRatFmt
import Derived.ProofKit
import Derived.OpenShut
import Derived.ChangeOld
namespace Go.Proofs.Ytkhphjapefijbaa.fnExactFormatRational
open Go.ChangeShapes Go.WideShapes Go.ChangeAt Go.RowKit
set_option linter.unusedVariables false
set_option maxHeartbeats 400000
theorem walk (n d : Int) (wn : (Lit.int .i64 n).wf = true) (wd : (Lit.int .i64 d).wf = true) (w : World) : Calls Try.prog 6 #[.agg #[.int .i64 n, .int .i64 d]] w (RetB (.bool true) w) := by
  clear wn wd
  have z0 : (w.alloc (.cells #[.int .i64 n, .int .i64 d] 23)).cell? ⟨w.heap.size, 0, none⟩ = some (.int .i64 n) := box_at0
  have z1 : (w.alloc (.cells #[.int .i64 n, .int .i64 d] 23)).cell? ⟨w.heap.size, 1, none⟩ = some (.int .i64 d) := box_at1
  have zb : Below w.heap.size w (w.alloc (.cells #[.int .i64 n, .int .i64 d] 23)) := (Below.refl _ _).alloc (Nat.le_refl _) _
  go_enter Try.func6, Try.ntmps6
  go_wp2_with (first | (go_at_call 24; ((with_reducible refine (toRational_l n d _).mono ?_); rintro e w' ⟨rfl, hb⟩; (replace z0 := cellB hb z0; replace z1 := cellB hb z1; replace zb := below_tr zb hb))) | (go_at_call 31; ((with_reducible refine (FormatRational_s n d _).mono ?_); rintro e w' ⟨rfl, hb⟩; (replace z0 := cellB hb z0; replace z1 := cellB hb z1; replace zb := below_tr zb hb))) | (go_at_call 32; ((with_reducible refine (FormatRational_i n d _).mono ?_); rintro e w' ⟨rfl, hb⟩; (replace z0 := cellB hb z0; replace z1 := cellB hb z1; replace zb := below_tr zb hb))))
  go_ret
  exact ⟨rfl, zb⟩
theorem own : ownKnob Try.prog.godebug = none := by kernel_rfl
theorem laidOut : laidOutB Try.prog = true := by kernel_rfl
set_option maxRecDepth 100000 in
theorem lifted (os : Os) (started : os.Started) (H : Type) (enc : TypeId × Value → H) :
    ReturnsInHanded {} Try.checked os 6 .any (Rows.fnExactFormatRationalSpec.pre6 enc Try.prog Try.f6 Rows.fnExactFormatRationalRow.domain false) (Rows.fnExactFormatRationalSpec.post enc Try.prog Try.f6 false true false false) := by
  refine returnsInHanded_of_change (C := Try.checked) own started (by kernel_rfl) Try.func6
    (ChangeSpec.witness6 (enc := enc) (C := Try.checked) false ⟨#[], #[.agg #[.int .i64 0, .int .i64 0]], []⟩ 8 (by kernel_rfl) (by kernel_rfl) (by kernel_rfl) (by kernel_rfl)) ?_
  intro W base args ds gs before hval0 hW hcnd _
  have hval : ∀ (j : Nat) t v, Try.f6.params[j]? = some t → args[j]? = some v → Value.okWide Try.prog W .any base t v := hval0
  have hW' := hW
  obtain ⟨p, q, hA0, hV, rfl, hfz, hnd⟩ := hW
  have hA : DataW.TrodAll enc Try.prog W 0 (fun _ => true) true Try.f6.params.toList args.toList ds p := hA0
  rw [Try.params6] at hA hval
  obtain ⟨v0, vs0, d0, ds0, p0, q0, hargs, rfl, rfl, h0, r0⟩ := trodAll_cons hA
  obtain ⟨rfl, rfl, rfl⟩ := trodAll_nil r0
  obtain rfl : args = #[v0] := by cases args; simp_all
  obtain ⟨rfl, rfl⟩ := trodVars_none hV
  have k0 := h0
  have lt0 : ∀ x ∈ p0, x.block < W.heap.size := by obtain ⟨m, hm⟩ := k0; exact DataW.trod_lt m _ _ _ hm
  obtain ⟨a0, b0, rfl, w0, u0⟩ := open_rational (hval 0 23 v0 rfl rfl) h0
  clear hA0 hval0
  refine (walk a0 b0 w0 u0 W).mono fun e W' ⟨he, bel⟩ => ?_
  subst he
  exact ⟨_, rfl, _, _, _, [], _, [], hW', trodAll_mk1 (shut_bool Try.underlying4 _), (trodAll_cons_mk (Below.trod laidOut (by kernel_rfl) (of_decide_eq_true (by kernel_rfl)) k0 bel lt0) trodAll_mk0), rfl, bel.frame _, fun h => by cases h⟩
theorem closed : joinedFacts Try.prog 6 Try.f6 Rows.fnExactFormatRationalSpec Rows.fnExactFormatRationalRow = true := by
  unfold joinedFacts
  simp only [Bool.and_eq_true]
  repeat' apply And.intro
  all_goals first | with_reducible exact mayEnter | (rw [lifts]; kernel_rfl) | (rw [make]; kernel_rfl) | as_aux_lemma => kernel_rfl
theorem over : Rows.fnExactFormatRationalRow.holds Try.pinned (OpenSpec.ofChange Rows.fnExactFormatRationalSpec) :=
  OpenClaim.holds_of_wide 6 Try.f6 rfl rfl rfl rfl rfl rfl rfl ⟨rfl, rfl, rfl, rfl, rfl⟩ rfl rfl rfl rfl rfl (by kernel_rfl) Try.func6 closed
    (of_decide_eq_true (by kernel_rfl)) (by unfold Func.isWrapper; first | (rw [if_pos (by decide +kernel)]; kernel_rfl) | (rw [if_neg (by decide +kernel)]; exact ⟨rfl, rfl⟩))
    (fun os started H enc _ => lifted os started H enc)
theorem proved : Rows.FnExactFormatRationalSaid := over
end Go.Proofs.Ytkhphjapefijbaa.fnExactFormatRational
