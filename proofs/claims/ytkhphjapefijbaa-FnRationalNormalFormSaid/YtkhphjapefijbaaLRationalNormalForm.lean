/- NewRational returns the normal form of the quotient, and fails for a zero denominator. No condition. -/
import Derived.Test.YtkhphjapefijbaaRows
import Derived.Test.YtkhphjapefijbaaHead
import Derived.Test.YtkhphjapefijbaaRatLaw
import Derived.Test.YtkhphjapefijbaaDrawR
import Derived.Test.YtkhphjapefijbaaOpen
import Derived.ProofKit
import Derived.OpenShut
import Derived.ChangeOld
namespace Go.Proofs.Ytkhphjapefijbaa.fnRationalNormalForm
open Go.ChangeShapes Go.WideShapes Go.ChangeAt Go.RowKit
set_option linter.unusedVariables false
set_option maxHeartbeats 2000000
set_option maxRecDepth 100000
theorem mul_small {x y : Int} (hx : -1000000 ≤ x ∧ x ≤ 1000000) (hy : -1000000 ≤ y ∧ y ≤ 1000000) : -1000000000000 ≤ x * y ∧ x * y ≤ 1000000000000 := by
  have h : (x * y).natAbs ≤ 1000000 * 1000000 := by
    rw [Int.natAbs_mul]
    exact Nat.mul_le_mul (by omega) (by omega)
  omega
theorem walk (v : Value) (bs : List UInt8) (w : World) (hv : SlB w.heap.size w v bs) : Calls Try.prog 10 #[v] w (RetB (.bool true) w) := by
  by_cases h0 : bs.length ≤ 1048576
  rotate_left
  · have d0 : decide ((1048576 : Int) < (bs.length : Int)) = true := by rw [decide_eq_true_eq]; omega
    go_enter Try.func10, Try.ntmps10
    go_wp2_with (go_at_call 39; ((with_reducible refine (big_l v bs _ hv).mono ?_); rintro e w' ⟨rfl, rfl⟩))
    go_ret
    exact ⟨rfl, Below.refl _ _⟩
  have d0 : decide ((1048576 : Int) < (bs.length : Int)) = false := by rw [decide_eq_false_iff_not]; omega
  go_enter Try.func10, Try.ntmps10
  go_wp2_with (first | (go_at_call 39; ((with_reducible refine (big_l v bs _ hv).mono ?_); rintro e w' ⟨rfl, rfl⟩)) | (go_at_call 40; ((with_reducible refine (DrawNewRational_s v bs _ h0 hv).mono ?_); rintro e w1 ⟨n, d, rfl, hn, hd, hb1⟩)))
  have k1 := fun W => NewRational_i n d hd W
  have k2 := fun W => NewRational_s n d hd W
  by_cases hs : (-1000000 ≤ n ∧ n ≤ 1000000) ∧ (-1000000 ≤ d ∧ d ≤ 1000000)
  rotate_left
  · obtain ⟨p, q, t, e⟩ := newR_tuple n d
    rw [e] at k1 k2
    have Hk1 := Lib.hid k1; clear k1; have Hk2 := Lib.hid k2; clear k2; have He := Lib.hid e; clear e
    by_cases c1 : 1000000 < n
    · clear hs
      have e1 : decide (1000000 < n) = true := by rw [decide_eq_true_eq]; omega
      go_wp2_with (first | (go_at_call 29; ((with_reducible refine (Hk1.out _).mono ?_); rintro e w2 ⟨rfl, hb2⟩)) | (go_at_call 28; ((with_reducible refine (Hk2.out _).mono ?_); rintro e w3 ⟨rfl, hb3⟩; (have z0 := cellB hb3 box_at0; have z1 := cellB hb3 box_at1; replace z0 := cellN z0; replace z1 := cellN z1))))
      go_ret
      have hx := belowA (below_tr hb1 hb2) hb3
      exact ⟨rfl, hx.alloc hx.size _⟩
    by_cases c2 : n < -1000000
    · clear hs
      have e1 : decide (1000000 < n) = false := by rw [decide_eq_false_iff_not]; omega
      have e2 : decide (n < -1000000) = true := by rw [decide_eq_true_eq]; omega
      go_wp2_with (first | (go_at_call 29; ((with_reducible refine (Hk1.out _).mono ?_); rintro e w2 ⟨rfl, hb2⟩)) | (go_at_call 28; ((with_reducible refine (Hk2.out _).mono ?_); rintro e w3 ⟨rfl, hb3⟩; (have z0 := cellB hb3 box_at0; have z1 := cellB hb3 box_at1; replace z0 := cellN z0; replace z1 := cellN z1))))
      go_ret
      have hx := belowA (below_tr hb1 hb2) hb3
      exact ⟨rfl, hx.alloc hx.size _⟩
    by_cases c3 : 1000000 < d
    · clear hs
      have e1 : decide (1000000 < n) = false := by rw [decide_eq_false_iff_not]; omega
      have e2 : decide (n < -1000000) = false := by rw [decide_eq_false_iff_not]; omega
      have e3 : decide (1000000 < d) = true := by rw [decide_eq_true_eq]; omega
      go_wp2_with (first | (go_at_call 29; ((with_reducible refine (Hk1.out _).mono ?_); rintro e w2 ⟨rfl, hb2⟩)) | (go_at_call 28; ((with_reducible refine (Hk2.out _).mono ?_); rintro e w3 ⟨rfl, hb3⟩; (have z0 := cellB hb3 box_at0; have z1 := cellB hb3 box_at1; replace z0 := cellN z0; replace z1 := cellN z1))))
      go_ret
      have hx := belowA (below_tr hb1 hb2) hb3
      exact ⟨rfl, hx.alloc hx.size _⟩
    have c4 : d < -1000000 := by omega
    clear hs
    have e1 : decide (1000000 < n) = false := by rw [decide_eq_false_iff_not]; omega
    have e2 : decide (n < -1000000) = false := by rw [decide_eq_false_iff_not]; omega
    have e3 : decide (1000000 < d) = false := by rw [decide_eq_false_iff_not]; omega
    have e4 : decide (d < -1000000) = true := by rw [decide_eq_true_eq]; omega
    go_wp2_with (first | (go_at_call 29; ((with_reducible refine (Hk1.out _).mono ?_); rintro e w2 ⟨rfl, hb2⟩)) | (go_at_call 28; ((with_reducible refine (Hk2.out _).mono ?_); rintro e w3 ⟨rfl, hb3⟩; (have z0 := cellB hb3 box_at0; have z1 := cellB hb3 box_at1; replace z0 := cellN z0; replace z1 := cellN z1))))
    go_ret
    have hx := belowA (below_tr hb1 hb2) hb3
    exact ⟨rfl, hx.alloc hx.size _⟩
  · obtain ⟨⟨a1, a2⟩, a3, a4⟩ := hs
    by_cases hz : d = 0
    · subst hz
      have k3 := fun W => NewRational_i (3 * n) 0 (by omega) W
      rw [newR_no (.inl rfl)] at k1 k2 k3
      simp only [ratV] at k1 k2 k3
      have e1 : decide (1000000 < n) = false := by rw [decide_eq_false_iff_not]; omega
      have e2 : decide (n < -1000000) = false := by rw [decide_eq_false_iff_not]; omega
      have Hk1 := Lib.hid k1; clear k1; have Hk2 := Lib.hid k2; clear k2; have Hk3 := Lib.hid k3; clear k3
      go_wp2_with (first | (go_at_call 29; ((with_reducible refine (Hk3.out _).mono ?_); rintro e w4 ⟨rfl, hb4⟩; (have u0 := cellB hb4 (y0 _); have u1 := cellB hb4 (y1 _); replace u0 := cellN u0; replace u1 := cellN u1))) | (go_at_call 29; ((with_reducible refine (Hk1.out _).mono ?_); rintro e w2 ⟨rfl, hb2⟩)) | (go_at_call 28; ((with_reducible refine (Hk2.out _).mono ?_); rintro e w3 ⟨rfl, hb3⟩; (have y0 := cellB hb3 box_at0; have y1 := cellB hb3 box_at1; replace y0 := cellN y0; replace y1 := cellN y1))))
      go_ret
      have hx := belowA (belowA (below_tr hb1 hb2) hb3) hb4
      exact ⟨rfl, hx.alloc hx.size _⟩
    · obtain ⟨a, b, q1, q2, q3, q4, q5⟩ := newR_small ⟨a1, a2⟩ ⟨a3, a4⟩ hz
      have k3 := fun W => NewRational_i (3 * n) (3 * d) (by omega) W
      rw [q1] at k1 k2
      rw [q2] at k3
      have m1 := mul_small (x := a) (y := d) q4 ⟨a3, a4⟩
      have m2 := mul_small (x := n) (y := b) ⟨a1, a2⟩ (by omega)
      have dz : (d != 0) = true := by rw [bne_iff_ne]; exact hz
      have dx : (a * d == n * b) = true := by rw [beq_iff_eq]; exact q3
      have db : decide (0 < b) = true := by rw [decide_eq_true_eq]; omega
      have e1 : decide (1000000 < n) = false := by rw [decide_eq_false_iff_not]; omega
      have e2 : decide (n < -1000000) = false := by rw [decide_eq_false_iff_not]; omega
      have e3 : decide (1000000 < d) = false := by rw [decide_eq_false_iff_not]; omega
      have e4 : decide (d < -1000000) = false := by rw [decide_eq_false_iff_not]; omega
      have Hk1 := Lib.hid k1; clear k1; have Hk2 := Lib.hid k2; clear k2; have Hk3 := Lib.hid k3; clear k3; have Hq1 := Lib.hid q1; clear q1; have Hq2 := Lib.hid q2; clear q2; have Hq3 := Lib.hid q3; clear q3; have Hhz := Lib.hid hz; clear hz
      go_wp2_with (first | (go_at_call 29; ((with_reducible refine (Hk3.out _).mono ?_); rintro e w4 ⟨rfl, hb4⟩; (have u0 := cellB hb4 (y0 _); have u1 := cellB hb4 (y1 _); replace u0 := cellN u0; replace u1 := cellN u1))) | (go_at_call 29; ((with_reducible refine (Hk1.out _).mono ?_); rintro e w2 ⟨rfl, hb2⟩)) | (go_at_call 28; ((with_reducible refine (Hk2.out _).mono ?_); rintro e w3 ⟨rfl, hb3⟩; (have y0 := cellB hb3 box_at0; have y1 := cellB hb3 box_at1; replace y0 := cellN y0; replace y1 := cellN y1))))
      go_ret
      have hx := belowA (belowA (below_tr hb1 hb2) hb3) hb4
      exact ⟨rfl, hx.alloc hx.size _⟩
theorem own : ownKnob Try.prog.godebug = none := by kernel_rfl
theorem laidOut : laidOutB Try.prog = true := by kernel_rfl
set_option maxRecDepth 100000 in
theorem lifted (os : Os) (started : os.Started) (H : Type) (enc : TypeId × Value → H) :
    ReturnsInHanded {} Try.checked os 10 .any (Rows.fnRationalNormalFormSpec.pre6 enc Try.prog Try.f10 Rows.fnRationalNormalFormRow.domain false) (Rows.fnRationalNormalFormSpec.post enc Try.prog Try.f10 false true false false) := by
  refine returnsInHanded_of_change (C := Try.checked) own started (by kernel_rfl) Try.func10
    (ChangeSpec.witness6 (enc := enc) (C := Try.checked) false ⟨#[], #[.slice none 0 0], []⟩ 8 (by kernel_rfl) (by kernel_rfl) (by kernel_rfl) (by kernel_rfl)) ?_
  intro W base args ds gs before hval0 hW hcnd _
  have hval : ∀ (j : Nat) t v, Try.f10.params[j]? = some t → args[j]? = some v → Value.okWide Try.prog W .any base t v := hval0
  have hW' := hW
  obtain ⟨p, q, hA0, hV, rfl, hfz, hnd⟩ := hW
  have hA : DataW.TrodAll enc Try.prog W 0 (fun _ => true) true Try.f10.params.toList args.toList ds p := hA0
  rw [Try.params10] at hA hval
  obtain ⟨v0, vs0, d0, ds0, p0, q0, hargs, rfl, rfl, h0, r0⟩ := trodAll_cons hA
  obtain ⟨rfl, rfl, rfl⟩ := trodAll_nil r0
  obtain rfl : args = #[v0] := by cases args; simp_all
  obtain ⟨rfl, rfl⟩ := trodVars_none hV
  have k0 := h0
  have lt0 : ∀ x ∈ p0, x.block < W.heap.size := by obtain ⟨m, hm⟩ := k0; exact DataW.trod_lt m _ _ _ hm
  obtain ⟨A0, w0⟩ := open_row_u8 (hval 0 36 v0 rfl rfl) h0
  clear hA0 hval0
  refine (walk v0 A0 W w0).mono fun e W' ⟨he, bel⟩ => ?_
  subst he
  exact ⟨_, rfl, _, _, _, [], _, [], hW', trodAll_mk1 (shut_bool Try.underlying4 _), (trodAll_cons_mk (Below.trod laidOut (by kernel_rfl) (of_decide_eq_true (by kernel_rfl)) k0 bel lt0) trodAll_mk0), rfl, bel.frame _, fun h => by cases h⟩
theorem closed : joinedFacts Try.prog 10 Try.f10 Rows.fnRationalNormalFormSpec Rows.fnRationalNormalFormRow = true := by
  unfold joinedFacts
  simp only [Bool.and_eq_true]
  repeat' apply And.intro
  all_goals first | with_reducible exact mayEnter | (rw [lifts]; kernel_rfl) | (rw [make]; kernel_rfl) | as_aux_lemma => kernel_rfl
theorem over : Rows.fnRationalNormalFormRow.holds Try.pinned (OpenSpec.ofChange Rows.fnRationalNormalFormSpec) :=
  OpenClaim.holds_of_wide 10 Try.f10 rfl rfl rfl rfl rfl rfl rfl ⟨rfl, rfl, rfl, rfl, rfl⟩ rfl rfl rfl rfl rfl (by kernel_rfl) Try.func10 closed
    (of_decide_eq_true (by kernel_rfl)) (by unfold Func.isWrapper; first | (rw [if_pos (by decide +kernel)]; kernel_rfl) | (rw [if_neg (by decide +kernel)]; exact ⟨rfl, rfl⟩))
    (fun os started H enc _ => lifted os started H enc)
theorem proved : Rows.FnRationalNormalFormSaid := over
end Go.Proofs.Ytkhphjapefijbaa.fnRationalNormalForm
