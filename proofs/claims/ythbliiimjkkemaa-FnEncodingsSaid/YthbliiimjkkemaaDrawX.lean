/- The draws of the encodings: a text spoilt; what DrawDecodeVarint hands out, told by the code alone. -/
import Derived.Test.YthbliiimjkkemaaDrawF
import Derived.Test.YthbliiimjkkemaaVarint
namespace Go.Proofs.Ythbliiimjkkemaa
open Go.RowKit Go.Sort
set_option maxHeartbeats 4000000
set_option maxRecDepth 100000
/-- string([]byte{b}), the byte laid in a block just now. -/
theorem run_byte_new (w : World) (b : UInt8) (u : Value) (hu : u = byteV b) : (convert 37 9 (.slice (some ⟨w.heap.size, 0, none⟩) 1 1)).run Try.prog (w.alloc (.cells #[u] 5)) = .ok (.string ⟨[b].toArray⟩) (w.alloc (.cells #[u] 5)) := by
  subst hu
  have hown : (w.alloc (.cells #[byteV b] 5)).ownsRow 0 5 1 (.slice (some ⟨w.heap.size, 0, none⟩) 1 1) 1 ([b].map byteV) := ⟨rfl, .inr ⟨_, 1, _, rfl, Nat.zero_le _, heap_alloc_new _ _, Nat.le_refl _, by decide, rfl, rfl⟩⟩
  exact run_bytes_own (P := Try.prog) (src := 37) (dst := 9) Try.underlying37 Try.underlying5 Try.underlying9 hown
theorem i64_xor_byte (a b : Int) (ha : 0 ≤ a ∧ a ≤ 255) (hb : 0 ≤ b ∧ b ≤ 255) : 0 ≤ bits .xor .i64 a b ∧ bits .xor .i64 a b ≤ 255 := by
  obtain ⟨m, rfl⟩ := Int.eq_ofNat_of_zero_le ha.1
  obtain ⟨n, rfl⟩ := Int.eq_ofNat_of_zero_le hb.1
  have hx : m ^^^ n < 2 ^ 8 := Nat.xor_lt_two_pow (by omega) (by omega)
  have h1 : ∀ c : Nat, c < 256 → (BitVec.ofInt 64 (c : Int)).toNat = c := by
    intro c hc
    rw [BitVec.ofInt_natCast, BitVec.toNat_ofNat]; exact Nat.mod_eq_of_lt (by omega)
  have e : bits .xor .i64 (m : Int) (n : Int) = ((m ^^^ n : Nat) : Int) := by
    show IntKind.i64.wrap ((BitVec.ofInt 64 (m : Int) ^^^ BitVec.ofInt 64 (n : Int)).toNat : Int) = _
    rw [BitVec.toNat_xor, h1 m (by omega), h1 n (by omega), IntKind.wrap_i64]
    omega
  rw [e]; omega
theorem u8_wrap (z : Int) (h : 0 ≤ z ∧ z ≤ 255) : IntKind.u8.wrap z = z := by
  rw [IntKind.wrap_u8]
  omega
theorem CurF.drewN {w : World} {g : Nat} {s : CurS} (h : CurF w g s) (n : Nat) : CurF (w.drewN n) g s := h.below (below_drewN (Below.refl _ _) n)
theorem bytes_app (x y : List UInt8) : (ByteArray.mk x.toArray) ++ (ByteArray.mk y.toArray) = ⟨(x ++ y).toArray⟩ := ByteArray.mk_append_mk ..
theorem ret_ba {a b : ByteArray} (h : a = b) : Ending.returned (.string a) = .returned (.string b) := by rw [h]
theorem drop_all (l : List UInt8) (k : Nat) : (l.drop k).take (l.length - k) = l.drop k := List.take_of_length_le (by simp)
theorem l1Spoil_f (l : List UInt8) (hl : l.length ≤ 1000) (s : CurS) : ∃ (r : List UInt8) (s' : CurS), r.length ≤ l.length + 3 ∧ ∀ g w, CurF w g s → Calls Try.prog 52 #[.pointer (some ⟨g, 0, none⟩), .string ⟨l.toArray⟩] w (RetF (.string ⟨r.toArray⟩) g s' w) := by
  by_cases h0 : l.length = 0
  · have : l = [] := List.eq_nil_of_length_eq_zero h0
    subst this
    obtain ⟨r, s1, hr, k1⟩ := l1Text_f 3 (by omega) s
    refine ⟨r, s1, by simp; omega, fun g w hc => ?_⟩
    clear hr
    have Hhc := Lib.hid hc; clear hc; have Hk1 := Lib.hid k1; clear k1
    go_enter Try.func52, Try.ntmps52
    go_wp2_with (go_at_call 50; ((with_reducible refine (Hk1.out g _ Hhc.out).mono ?_); rintro e w1 ⟨rfl, hc1, hg1⟩))
    go_ret
    exact ⟨rfl, hc1, hg1⟩
  obtain ⟨kk, s1, hk, k1⟩ := l1Below_f l.length (by omega) s
  obtain ⟨k, rfl⟩ := Int.eq_ofNat_of_zero_le hk.1
  have hkl : k < l.length := by omega
  obtain ⟨q, s2, hq, k2⟩ := l1Below_f 4 (by omega) s1
  have e0 : ((l.length : Int) == 0) = false := by rw [beq_eq_false_iff_ne]; omega
  have e0' : (l.length == 0) = false := by rw [beq_eq_false_iff_ne]; omega
  clear hk
  by_cases q0 : q = 0
  · subst q0
    refine ⟨l.take k ++ l.drop (k + 1), s2, by simp; omega, fun g w hc => ?_⟩
    clear hq
    have Hhc := Lib.hid hc; clear hc; have Hk1 := Lib.hid k1; clear k1; have Hk2 := Lib.hid k2; clear k2; have Hh0 := Lib.hid h0; clear h0
    go_enter Try.func52, Try.ntmps52
    go_wp2_with (first
      | (go_at_call 53; ((with_reducible refine (Hk1.out g _ Hhc.out).mono ?_); rintro e w1 ⟨rfl, hc1, hg1⟩))
      | (go_at_call 53; ((with_reducible refine (Hk2.out g _ hc1).mono ?_); rintro e w2 ⟨rfl, hc2, hg2⟩)))
    go_quiet (fail)
    go_wp2_with fail
    go_ret
    exact ⟨ret_ba (by rw [bytes_app, drop_all]), hc2.drewN _, grown_drewN (grown_trans hg1 hg2) _⟩
  by_cases q1 : q = 1
  · subst q1
    obtain ⟨x, s3, hx, k3⟩ := l1Byte_f s2
    obtain ⟨b, hb⟩ : ∃ b, UInt8.ofNat x.toNat = b := ⟨_, rfl⟩
    have hbv := byteV_of hx
    rw [hb] at hbv
    have hxw := u8_wrap x hx
    refine ⟨l.take k ++ [b] ++ l.drop k, s3, by simp; omega, fun g w hc => ?_⟩
    clear hq hb q0
    have Hhc := Lib.hid hc; clear hc; have Hk1 := Lib.hid k1; clear k1; have Hk2 := Lib.hid k2; clear k2; have Hk3 := Lib.hid k3; clear k3; have Hh0 := Lib.hid h0; clear h0; have Hhbv := Lib.hid hbv; clear hbv
    go_enter Try.func52, Try.ntmps52
    go_wp2_with (first
      | (go_at_call 53; ((with_reducible refine (Hk1.out g _ Hhc.out).mono ?_); rintro e w1 ⟨rfl, hc1, hg1⟩))
      | (go_at_call 53; ((with_reducible refine (Hk2.out g _ hc1).mono ?_); rintro e w2 ⟨rfl, hc2, hg2⟩)))
    have hcd : CurF w2.drew g s2 := hc2.below ((Below.refl _ _).drew)
    have hng : ¬ 9223372036854775807 < k + 1 := by omega
    have hng2 : ¬ 9223372036854775807 < k + 1 + (l.length - k) := by omega
    have hng3 : ¬ 9223372036854775807 < k + 1 + (l.length - (k + 1)) := by omega
    have hng4 : ¬ 9223372036854775807 < l.length := by omega
    have hng5 : ¬ 9223372036854775807 < l.length + 1 := by omega
    have hkle : k ≤ l.length := by omega
    have hkle1 : k + 1 ≤ l.length := by omega
    have hgd : w.grownBy w2.drew (some g) := grown_trans (grown_trans hg1 hg2) (grown_of_below ((Below.refl _ _).drew) _)
    go_region_law (first
      | (go_simp; (go_at_call 55; ((with_reducible refine (Hk3.out g _ hcd).mono ?_); rintro e w3 ⟨rfl, hc3, hg3⟩; (have hg4 := grown_trans hgd hg3; have hcv := run_byte_new w3 b _ Hhbv.out)))))
    all_goals
      go_wp2_with fail
      go_ret
      exact ⟨ret_ba (by rw [bytes_app, bytes_app, drop_all]), hc3.alloc _, grown_trans hg4 (World.grownBy_alloc _ _ _)⟩
  by_cases q2 : q = 2
  · subst q2
    refine ⟨l.take k, s2, by simp; omega, fun g w hc => ?_⟩
    clear hq q0 q1
    have Hhc := Lib.hid hc; clear hc; have Hk1 := Lib.hid k1; clear k1; have Hk2 := Lib.hid k2; clear k2; have Hh0 := Lib.hid h0; clear h0
    go_enter Try.func52, Try.ntmps52
    go_wp2_with (first
      | (go_at_call 53; ((with_reducible refine (Hk1.out g _ Hhc.out).mono ?_); rintro e w1 ⟨rfl, hc1, hg1⟩))
      | (go_at_call 53; ((with_reducible refine (Hk2.out g _ hc1).mono ?_); rintro e w2 ⟨rfl, hc2, hg2⟩)))
    go_ret
    exact ⟨rfl, hc2, grown_trans hg1 hg2⟩
  · obtain ⟨x, s3, hx, k3⟩ := l1Below_f 255 (by omega) s2
    have hlk := l[k].toNat_lt
    have hxb := i64_xor_byte (l[k].toNat : Int) (1 + x) (by omega) (by omega)
    obtain ⟨b, hb⟩ : ∃ b, UInt8.ofNat (bits .xor .i64 (l[k].toNat : Int) (1 + x)).toNat = b := ⟨_, rfl⟩
    have hbv := byteV_of hxb
    rw [hb] at hbv
    have hxw := u8_wrap _ hxb
    have hxs := IntWalk.i64_in (1 + x) (by omega)
    refine ⟨l.take k ++ [b] ++ l.drop (k + 1), s3, by simp; omega, fun g w hc => ?_⟩
    have d0 : (q == 0) = false := by rw [beq_eq_false_iff_ne]; exact q0
    have d1 : (q == 1) = false := by rw [beq_eq_false_iff_ne]; exact q1
    have d2 : (q == 2) = false := by rw [beq_eq_false_iff_ne]; exact q2
    have hks := IntWalk.i64_in ((k : Int) + 1) (by omega)
    have hk0 : 0 ≤ (k : Int) + 1 := by omega
    have hk1 : (k : Int) + 1 ≤ (l.length : Int) := by omega
    have hk2 : ((k : Int) + 1).toNat = k + 1 := by omega
    have hk3 : (k : Int) < (l.length : Int) := by omega
    clear hq hb q0 q1 q2
    have Hhc := Lib.hid hc; clear hc; have Hk1 := Lib.hid k1; clear k1; have Hk2 := Lib.hid k2; clear k2; have Hk3 := Lib.hid k3; clear k3; have Hh0 := Lib.hid h0; clear h0; have Hhbv := Lib.hid hbv; clear hbv
    go_enter Try.func52, Try.ntmps52
    go_wp2_with (first
      | (go_at_call 53; ((with_reducible refine (Hk1.out g _ Hhc.out).mono ?_); rintro e w1 ⟨rfl, hc1, hg1⟩))
      | (go_at_call 53; ((with_reducible refine (Hk2.out g _ hc1).mono ?_); rintro e w2 ⟨rfl, hc2, hg2⟩)))
    have hcd : CurF w2.drew g s2 := hc2.below ((Below.refl _ _).drew)
    have hng : ¬ 9223372036854775807 < k + 1 := by omega
    have hng2 : ¬ 9223372036854775807 < k + 1 + (l.length - k) := by omega
    have hng3 : ¬ 9223372036854775807 < k + 1 + (l.length - (k + 1)) := by omega
    have hng4 : ¬ 9223372036854775807 < l.length := by omega
    have hng5 : ¬ 9223372036854775807 < l.length + 1 := by omega
    have hkle : k ≤ l.length := by omega
    have hkle1 : k + 1 ≤ l.length := by omega
    have hgd : w.grownBy w2.drew (some g) := grown_trans (grown_trans hg1 hg2) (grown_of_below ((Below.refl _ _).drew) _)
    go_region_law (first
      | (go_simp; (go_at_call 53; ((with_reducible refine (Hk3.out g _ hcd).mono ?_); rintro e w3 ⟨rfl, hc3, hg3⟩; (have hg4 := grown_trans hgd hg3; have hcv := run_byte_new w3 b _ Hhbv.out)))))
    all_goals
      go_wp2_with fail
      go_ret
      exact ⟨ret_ba (by rw [bytes_app, bytes_app, drop_all]), hc3.alloc _, grown_trans hg4 (World.grownBy_alloc _ _ _)⟩
end Go.Proofs.Ythbliiimjkkemaa
