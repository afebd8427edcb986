/- Rationals: the reference's validity; what the laws do with a rational. -/
import Derived.Test.YtkhphjapefijbaaRat
import Derived.Test.YtkhphjapefijbaaFlow
import Derived.ChangeSame
import Derived.OpenShut
namespace Go.Proofs.Ytkhphjapefijbaa
open Go.RowKit Go.Sort
set_option maxHeartbeats 2000000
set_option maxRecDepth 100000

theorem cellB {w w' : World} {a : Addr} {v : Value} (hb : Below w.heap.size w w') (h : w.cell? a = some v) : w'.cell? a = some v := (hb.cell (block_lt_of_cell h)).trans h
theorem IsValidRational_s (n d : Int) (w : World) : Calls Try.prog 23 #[.agg #[.int .i64 n, .int .i64 d]] w (RetB (.bool (rvalid n d)) w) := by
  by_cases h1 : 1 ≤ d ∧ d ≤ 1000000000
  · by_cases h2 : -1000000000 ≤ n ∧ n ≤ 1000000000
    · have e : rvalid n d = decide (Nat.gcd n.natAbs d.natAbs = 1) := by unfold rvalid; rw [inR_yes h1, inR_yes h2]; rfl
      have e2 : decide (Nat.gcd n.natAbs d.natAbs = 1) = ((Nat.gcd n.natAbs d.natAbs : Int) == 1) := by
        rw [Bool.eq_iff_iff, decide_eq_true_eq, beq_iff_eq]; omega
      rw [e, e2]
      obtain ⟨d, rfl⟩ := Int.eq_ofNat_of_zero_le (show 0 ≤ d by omega)
      rw [Int.natAbs_natCast]
      have q1 : 1 ≤ (d : Int) := h1.1
      have q2 : (d : Int) ≤ 1000000000 := h1.2
      have q3 : -1000000000 ≤ n := h2.1
      have q4 : n ≤ 1000000000 := h2.2
      have hm : (if n < -n then -n else n) = (n.natAbs : Int) := by split <;> omega
      have k1 := fun W => l1In_yes d 1 1000000000 h1 W
      have k2 := fun W => l1In_yes n (-1000000000) 1000000000 h2 W
      have k3 := fun W => l2Gcd_s n.natAbs d (by omega) (by omega) W
      clear e e2
      have Hk1 := Lib.hid k1; clear k1; have Hk2 := Lib.hid k2; clear k2; have Hk3 := Lib.hid k3; clear k3; have Hh1 := Lib.hid h1; clear h1; have Hh2 := Lib.hid h2; clear h2; have Hq1 := Lib.hid q1; clear q1; have Hq2 := Lib.hid q2; clear q2
      go_enter Try.func23, Try.ntmps23
      go_wp2_with (first | (go_at_call 68; ((with_reducible refine (Hk1.out _).mono ?_); rintro e w' ⟨rfl, rfl⟩)) | (go_at_call 68; ((with_reducible refine (Hk2.out _).mono ?_); rintro e w' ⟨rfl, rfl⟩)) | (go_at_call 69; ((with_reducible refine (Hk3.out _).mono ?_); rintro e w' ⟨rfl, rfl⟩)))
      go_ret
      exact ⟨rfl, (Below.refl _ _).alloc (Nat.le_refl _) _⟩
    · have e : rvalid n d = false := by unfold rvalid; rw [inR_yes h1, inR_no h2]; rfl
      rw [e]
      have k1 := fun W => l1In_yes d 1 1000000000 h1 W
      have k2 := fun W => l1In_no n (-1000000000) 1000000000 h2 W
      clear e
      have Hk1 := Lib.hid k1; clear k1; have Hk2 := Lib.hid k2; clear k2; have Hh1 := Lib.hid h1; clear h1; have Hh2 := Lib.hid h2; clear h2
      go_enter Try.func23, Try.ntmps23
      go_wp2_with (first | (go_at_call 68; ((with_reducible refine (Hk1.out _).mono ?_); rintro e w' ⟨rfl, rfl⟩)) | (go_at_call 68; ((with_reducible refine (Hk2.out _).mono ?_); rintro e w' ⟨rfl, rfl⟩)))
      go_ret
      exact ⟨rfl, (Below.refl _ _).alloc (Nat.le_refl _) _⟩
  · have e : rvalid n d = false := by unfold rvalid; rw [inR_no h1]; rfl
    rw [e]
    have k1 := fun W => l1In_no d 1 1000000000 h1 W
    clear e
    have Hk1 := Lib.hid k1; clear k1; have Hh1 := Lib.hid h1; clear h1
    go_enter Try.func23, Try.ntmps23
    go_wp2_with ((go_at_call 68; ((with_reducible refine (Hk1.out _).mono ?_); rintro e w' ⟨rfl, rfl⟩)))
    go_ret
    exact ⟨rfl, (Below.refl _ _).alloc (Nat.le_refl _) _⟩

theorem toRational_l (n d : Int) (w : World) : Calls Try.prog 24 #[.agg #[.int .i64 n, .int .i64 d]] w (RetB (.agg #[.int .i64 n, .int .i64 d]) w) := by
  go_enter Try.func24, Try.ntmps24
  go_wp2_with fail
  refine bodyPost_ret (v := .agg #[.int .i64 n, .int .i64 d]) (by simp [results, Try.results24, go_sem]) rfl ⟨rfl, ?_⟩
  exact (((Below.refl _ _).alloc (Nat.le_refl _) _).alloc (by simp) _).alloc (by simp; omega) _

theorem eqRational_l (n d n' d' : Int) (w : World) : Calls Try.prog 30 #[.agg #[.int .i64 n, .int .i64 d], .agg #[.int .i64 n', .int .i64 d']] w (RetB (.bool (n == n' && d == d')) w) := by
  by_cases h1 : n = n'
  · subst h1
    by_cases h2 : d = d'
    · subst h2
      have e : (n == n && d == d) = true := by simp
      rw [e]
      clear e
      go_enter Try.func30, Try.ntmps30
      go_wp2_with fail
      go_ret
      exact ⟨rfl, (((Below.refl _ _).alloc (Nat.le_refl _) _).alloc (by simp) _)⟩
    · have e : (n == n && d == d') = false := by simp [h2]
      rw [e]
      have d1 : (d != d') = true := by rw [bne_iff_ne]; exact h2
      clear e h2
      go_enter Try.func30, Try.ntmps30
      go_wp2_with fail
      go_ret
      exact ⟨rfl, (((Below.refl _ _).alloc (Nat.le_refl _) _).alloc (by simp) _)⟩
  · have e : (n == n' && d == d') = false := by simp [h1]
    rw [e]
    have d1 : (n != n') = true := by rw [bne_iff_ne]; exact h1
    clear e h1
    go_enter Try.func30, Try.ntmps30
    go_wp2_with fail
    go_ret
    exact ⟨rfl, (((Below.refl _ _).alloc (Nat.le_refl _) _).alloc (by simp) _)⟩

theorem open_rational {H : Type} {enc : TypeId × Value → H} {W : World} {b0 : Nat} {v : Value} {d : DataW H} {p : List MemPlace} (hv : Value.okWide Try.prog W .any b0 23 v) (h : DataW.Trod enc Try.prog W 0 (fun _ => true) true 23 v d p) :
    ∃ a b : Int, v = .agg #[.int .i64 a, .int .i64 b] ∧ (Lit.int .i64 a).wf = true ∧ (Lit.int .i64 b).wf = true := by
  obtain ⟨cs, rfl, hsz⟩ := Go.WideShapes.okWide_struct Try.underlying23 hv
  rw [show Try.prog.cellsOf 23 = 2 by kernel_rfl] at hsz
  obtain ⟨l⟩ := cs
  match l, hsz with
  | [c0, c1], _ =>
  obtain ⟨fuel, hf⟩ := h
  obtain ⟨y0, y1, m, hx, _, hy0, hy1⟩ := Go.ChangeShapes.trod_struct2 Try.underlying23 hf
  obtain ⟨a, e0, rfl, wa⟩ := DataW.trod_int Try.underlying3 hy0
  obtain ⟨b, e1, rfl, wb⟩ := DataW.trod_int Try.underlying3 hy1
  have hc : Try.prog.cellsOf 3 = 1 := by kernel_rfl
  simp [Value.cells, hc] at e0 e1
  subst e0 e1
  exact ⟨a, b, rfl, wa, wb⟩
end Go.Proofs.Ytkhphjapefijbaa
