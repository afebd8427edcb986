/- Big integers: format. (Written by mkbigfmt2.py.) -/
import Derived.Test.YtkhphjapefijbaaBigV
import Derived.Test.YtkhphjapefijbaaRatFmt
namespace Go.Proofs.Ytkhphjapefijbaa
open Go.RowKit Go.Sort
set_option maxHeartbeats 1000000
set_option maxRecDepth 100000

theorem below_tr' {B : Nat} {a b c : World} (h : Below B a b) (k : Below b.heap.size b c) (hs : B ≤ b.heap.size := by omega) : Below B a c := h.trans (k.mono hs)
def dstr (l : List Int) : List UInt8 := l.reverse.map fun d => dch d.toNat
theorem dstr_len (l : List Int) : (dstr l).length = l.length := by simp [dstr]
theorem dstr_drop {l : List Int} {m : Nat} (h : m < l.length) : dstr (l.drop m) = dstr (l.drop (m + 1)) ++ [dch l[m].toNat] := by
  unfold dstr; rw [List.drop_eq_getElem_cons h, List.reverse_cons, List.map_append]; rfl
theorem dstr_take {l : List Int} {m : Nat} (h : m < l.length) : dstr (l.take (m + 1)) = [dch l[m].toNat] ++ dstr (l.take m) := by
  unfold dstr; rw [List.take_succ_eq_append_getElem h, List.reverse_append, List.map_append]; rfl
def fmtB (l : List Int) : List UInt8 := if bvalid l then (if l = [] then [48] else dstr l) else []
theorem digs1 {d : Int} (h : 0 ≤ d ∧ d ≤ 9) : fmtInt d = [dch d.toNat] := by
  obtain ⟨n, rfl⟩ := Int.eq_ofNat_of_zero_le h.1
  rw [fmt_pos, digs_small (by omega), dch, Int.toNat_natCast, Nat.mod_eq_of_lt (by omega)]
theorem FormatBigInt_i (va : Value) (a : List Int) (w : World) (h1 : IRow w va a) : Calls Try.prog 58 #[.agg #[va]] w (RetB (.string ⟨(fmtB a).toArray⟩) w) := by
  have k1 := fun W h => IsValidBigInt_i va a W h
  obtain ⟨A, c, e1, -⟩ := IRow.open h1
  have y1 := heap_alloc_new w (.cells #[va] 46)
  have hB : Below w.heap.size w (w.alloc (.cells #[va] 46)) := (Below.refl _ _).alloc (Nat.le_refl _) _
  subst e1
  unfold fmtB
  cases g1 : bvalid a
  · rw [g1] at k1
    simp only [Bool.false_eq_true, if_false]
    have Hg1 := Lib.hid g1; clear g1; have Hk1 := Lib.hid k1; clear k1
    go_enter Try.func58, Try.ntmps58
    go_wp2_with ((go_at_call 54; ((with_reducible refine (Hk1.out _ (h1.alloc _)).mono ?_); rintro e w1 ⟨rfl, hb⟩; (replace y1 := blockB hb y1; replace h1 := (h1.alloc _).below hb; replace hB := below_tr hB hb; clear hb; have z1 := cellAt y1 0))))
    go_ret
    exact ⟨rfl, hB⟩
  rw [g1] at k1
  simp only [if_true]
  have b1 := (bvalid_yes g1).2.1
  have b0 := (bvalid_yes g1).1
  have Hb0 := Lib.hid b0; clear b0; have Hg1 := Lib.hid g1; clear g1
  by_cases h0 : a = []
  · rw [if_pos h0]
    have d0 : ((a.length : Int) == 0) = true := by rw [h0]; rfl
    have d1 : (a.length == 0) = true := by rw [h0]; rfl
    have Hk1 := Lib.hid k1; clear k1; have Hh0 := Lib.hid h0; clear h0
    go_enter Try.func58, Try.ntmps58
    go_wp2_with ((go_at_call 54; ((with_reducible refine (Hk1.out _ (h1.alloc _)).mono ?_); rintro e w1 ⟨rfl, hb⟩; (replace y1 := blockB hb y1; replace h1 := (h1.alloc _).below hb; replace hB := below_tr hB hb; clear hb; have z1 := cellAt y1 0))))
    go_ret
    exact ⟨rfl, hB⟩
  rw [if_neg h0]
  have d0 : ((a.length : Int) == 0) = false := by rw [beq_eq_false_iff_ne]; intro h; exact h0 (List.length_eq_zero_iff.1 (by omega))
  have d1 : (a.length == 0) = false := by rw [beq_eq_false_iff_ne]; intro h; exact h0 (List.length_eq_zero_iff.1 h)
  have Hk1 := Lib.hid k1; clear k1; have Hh0 := Lib.hid h0; clear h0
  go_enter Try.func58, Try.ntmps58
  go_wp2_with ((go_at_call 54; ((with_reducible refine (Hk1.out _ (h1.alloc _)).mono ?_); rintro e w1 ⟨rfl, hb⟩; (replace y1 := blockB hb y1; replace h1 := (h1.alloc _).below hb; replace hB := below_tr hB hb; clear hb; have z1 := cellAt y1 0))))
  clear d0 d1 z1
  go_loopw [3, 4] (fun s i wr => ∃ (k : Nat) (S : List UInt8), i = .int .i64 ((k : Int) - 1) ∧ s = .string ⟨S.toArray⟩ ∧ k ≤ a.length ∧ S = dstr (a.drop k) ∧ Below w1.heap.size w1 wr) (fun _ i _ => (intOf i + 1).toNat)
  case atStart => exact ⟨a.length, [], rfl, rfl, Nat.le_refl _, by simp [dstr], Below.refl _ _⟩
  case round =>
    obtain ⟨k, S, rfl, rfl, hk, hS, hb⟩ := hrel
    replace hB := hB.trans (hb.mono hB.size)
    have x1 := blockB hb y1
    have z1 := cellAt x1 0
    by_cases h0 : k = 0
    · subst h0
      rw [List.drop_zero] at hS
      have HhS := Lib.hid hS; clear hS
      go_wp2_with fail
      go_ret
      exact ⟨by rw [← HhS.out]; rfl, hB⟩
    · obtain ⟨m, rfl⟩ : ∃ m, k = m + 1 := ⟨k - 1, by omega⟩
      have ek : ((m + 1 : Nat) : Int) - 1 = (m : Int) := by omega
      rw [ek]
      clear ek h0
      have hm1 : m < a.length := by omega
      obtain ⟨_, _, e1, -, -, -, hA⟩ := IRow.open (h1.below hb)
      simp only [Value.slice.injEq] at e1
      obtain ⟨rfl, -, rfl⟩ := e1
      obtain ⟨p, off, rfl, q1⟩ := hA m hm1
      have u1 := q1 m hm1
      clear q1 hA
      have hlS : S.length ≤ 60 := by rw [hS, dstr_len]; simp; omega
      have hd := Hb0.out a[m] (List.getElem_mem hm1)
      have hn : S ++ [dch a[m].toNat] = dstr (a.drop m) := by rw [dstr_drop hm1, hS]
      obtain ⟨x, hx⟩ : ∃ x, a[m] = x := ⟨_, rfl⟩
      rw [hx] at u1 hd hn
      have k2 := fun W => FormatInt_i x (by omega) W
      rw [digs1 hd] at k2
      have HhS := Lib.hid hS; clear hS; have Hhx := Lib.hid hx; clear hx; have Hhd := Lib.hid hd; clear hd; have Hhn := Lib.hid hn; clear hn; have Hk2 := Lib.hid k2; clear k2
      go_wp2_with (go_at_call 76; ((with_reducible refine (Hk2.out _).mono ?_); rintro e w2 ⟨rfl, hb2⟩))
      go_roundw
      case rel => exact ⟨m, _, rfl, str_app _ [dch x.toNat], by omega, Hhn.out, hb.trans (hb2.mono hb.size)⟩
      case measure => simp [intOf] <;> omega
theorem FormatBigInt_s (va : Value) (a : List Int) (w : World) (h1 : IRow w va a) : Calls Try.prog 57 #[.agg #[va]] w (RetB (.string ⟨(fmtB a).toArray⟩) w) := by
  have k1 := fun W h => IsValidBigInt_s va a W h
  obtain ⟨A, c, e1, -⟩ := IRow.open h1
  have y1 := heap_alloc_new w (.cells #[va] 46)
  have hB : Below w.heap.size w (w.alloc (.cells #[va] 46)) := (Below.refl _ _).alloc (Nat.le_refl _) _
  subst e1
  unfold fmtB
  cases g1 : bvalid a
  · rw [g1] at k1
    simp only [Bool.false_eq_true, if_false]
    have Hg1 := Lib.hid g1; clear g1; have Hk1 := Lib.hid k1; clear k1
    go_enter Try.func57, Try.ntmps57
    go_wp2_with ((go_at_call 52; ((with_reducible refine (Hk1.out _ (h1.alloc _)).mono ?_); rintro e w1 ⟨rfl, hb⟩; (replace y1 := blockB hb y1; replace h1 := (h1.alloc _).below hb; replace hB := below_tr hB hb; clear hb; have z1 := cellAt y1 0))))
    go_ret
    exact ⟨rfl, hB⟩
  rw [g1] at k1
  simp only [if_true]
  have b1 := (bvalid_yes g1).2.1
  have b0 := (bvalid_yes g1).1
  have Hb0 := Lib.hid b0; clear b0; have Hg1 := Lib.hid g1; clear g1
  obtain ⟨R, hR⟩ : ∃ R, (if a = [] then [48] else dstr a) = R := ⟨_, rfl⟩
  rw [hR]
  have Hk1 := Lib.hid k1; clear k1; have HhR := Lib.hid hR; clear hR
  go_enter Try.func57, Try.ntmps57
  go_wp2_with ((go_at_call 52; ((with_reducible refine (Hk1.out _ (h1.alloc _)).mono ?_); rintro e w1 ⟨rfl, hb⟩; (replace y1 := blockB hb y1; replace h1 := (h1.alloc _).below hb; replace hB := below_tr hB hb; clear hb; have z1 := cellAt y1 0))))
  clear z1
  go_loopw [3, 4] (fun s i wr => ∃ (k : Nat) (S : List UInt8), i = .int .i64 (k : Int) ∧ s = .string ⟨S.toArray⟩ ∧ k ≤ a.length ∧ S = dstr (a.take k) ∧ Below w1.heap.size w1 wr) (fun _ i _ => a.length - (intOf i).toNat)
  case atStart => exact ⟨0, [], rfl, rfl, Nat.zero_le _, by simp [dstr], Below.refl _ _⟩
  case round =>
    obtain ⟨k, S, rfl, rfl, hk, hS, hb⟩ := hrel
    replace hB := hB.trans (hb.mono hB.size)
    have x1 := blockB hb y1
    have z1 := cellAt x1 0
    by_cases hlt : k < a.length
    · have g0 : (k : Int) < (a.length : Int) := by omega
      obtain ⟨_, _, e1, -, -, -, hA⟩ := IRow.open (h1.below hb)
      simp only [Value.slice.injEq] at e1
      obtain ⟨rfl, -, rfl⟩ := e1
      obtain ⟨p, off, rfl, q1⟩ := hA k hlt
      have u1 := q1 k hlt
      clear q1 hA
      have hlS : S.length ≤ 60 := by rw [hS, dstr_len]; simp; omega
      have hd := Hb0.out a[k] (List.getElem_mem hlt)
      have hn : [dch a[k].toNat] ++ S = dstr (a.take (k + 1)) := by rw [dstr_take hlt, hS]
      obtain ⟨x, hx⟩ : ∃ x, a[k] = x := ⟨_, rfl⟩
      rw [hx] at u1 hd hn
      have k2 := fun W => l2Dec_s x (by omega) W
      rw [digs1 hd] at k2
      have HhS := Lib.hid hS; clear hS; have Hhx := Lib.hid hx; clear hx; have Hhd := Lib.hid hd; clear hd; have Hhn := Lib.hid hn; clear hn; have Hk2 := Lib.hid k2; clear k2
      go_wp2_with (go_at_call 75; ((with_reducible refine (Hk2.out _).mono ?_); rintro e w2 ⟨rfl, hb2⟩))
      go_roundw
      case rel => exact ⟨k + 1, _, by go_num, str_app [dch x.toNat] _, by omega, Hhn.out, hb.trans (hb2.mono hb.size)⟩
      case measure => simp [intOf] <;> omega
    · obtain rfl : k = a.length := by omega
      have g0 : ¬ (a.length : Int) < (a.length : Int) := by omega
      rw [List.take_length] at hS
      by_cases h0 : a = []
      · subst h0
        have hS0 : S = [] := hS
        subst hS0
        have hf : [48] = R := by rw [← HhR.out, if_pos rfl]
        have HhS := Lib.hid hS; clear hS; have Hhf := Lib.hid hf; clear hf
        go_wp2_with fail
        go_ret
        exact ⟨by rw [← Hhf.out]; rfl, hB⟩
      · have d0 : S.isEmpty = false := by
          rw [hS]; cases h : dstr a with
          | nil => have := dstr_len a; rw [h] at this; exact absurd (List.length_eq_zero_iff.1 this.symm) h0
          | cons x t => rfl
        have hf : R = S := by rw [← HhR.out, if_neg h0, hS]
        have HhS := Lib.hid hS; clear hS; have Hh0 := Lib.hid h0; clear h0; have Hhf := Lib.hid hf; clear hf
        go_wp2_with fail
        go_ret
        exact ⟨by rw [Hhf.out]; rfl, hB⟩
end Go.Proofs.Ytkhphjapefijbaa
