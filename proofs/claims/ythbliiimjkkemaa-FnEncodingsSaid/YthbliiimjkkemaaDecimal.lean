/- FormatInt, both. -/
import Derived.Test.YthbliiimjkkemaaNum
namespace Go.Proofs.Ythbliiimjkkemaa
open Go.RowKit
set_option maxHeartbeats 400000
set_option maxRecDepth 100000

def dch (m : Nat) : UInt8 := UInt8.ofNat (48 + m % 10)
theorem dch_val (m : Nat) : (dch m).toNat = 48 + m % 10 := by simp [dch]; omega
def digs (n : Nat) : List UInt8 := if h : n < 10 then [UInt8.ofNat (48 + n)] else digs (n / 10) ++ [dch n]
termination_by n
theorem digs_small {n : Nat} (h : n < 10) : digs n = [UInt8.ofNat (48 + n)] := by rw [digs, dif_pos h]
theorem digs_big {n : Nat} (h : ¬ n < 10) : digs n = digs (n / 10) ++ [dch n] := by rw [digs, dif_neg h]
theorem digs_len : ∀ (k n : Nat), n < 10 ^ (k + 1) → (digs n).length ≤ k + 1 := by
  intro k
  induction k with
  | zero => intro n h; rw [digs_small (by omega)]; simp
  | succ k ih =>
    intro n h
    by_cases hn : n < 10
    · rw [digs_small hn]; simp
    · rw [digs_big hn]
      have := ih (n / 10) (by rw [Nat.pow_succ] at h; omega)
      simp; omega
theorem digs_len20 {n : Nat} (h : n ≤ 9223372036854775808) : (digs n).length ≤ 20 := digs_len 19 n (by omega)
def fmtInt (n : Int) : List UInt8 := if n < 0 then 45 :: digs n.natAbs else digs n.natAbs
theorem fmt_neg (m : Nat) (h : 1 ≤ m) : fmtInt (-(m : Int)) = 45 :: digs m := by unfold fmtInt; rw [if_pos (by omega)]; simp
theorem fmt_pos (m : Nat) : fmtInt (m : Int) = digs m := by unfold fmtInt; rw [if_neg (by omega)]; simp
theorem fmt_len (n : Int) (h : -9223372036854775808 ≤ n ∧ n ≤ 9223372036854775807) : (fmtInt n).length ≤ 21 := by
  have := digs_len20 (n := n.natAbs) (by omega)
  unfold fmtInt; split <;> simp <;> omega
theorem dstep_last {m : Nat} {bs fin : List UInt8} (h : digs m ++ bs = fin) (hm : m < 10) : dch m :: bs = fin := by
  rw [← h, digs_small hm, dch, Nat.mod_eq_of_lt hm]; rfl
theorem dstep {m : Nat} {bs fin : List UInt8} (h : digs m ++ bs = fin) (hm : ¬ m < 10) : digs (m / 10) ++ (dch m :: bs) = fin := by
  rw [← h, digs_big hm, List.append_assoc]; rfl
theorem neg_tmod10 (m : Nat) : (-(m : Int)).tmod 10 = -((m : Int) % 10) := by rw [Int.neg_tmod, Int.tmod_eq_emod_of_nonneg (by omega)]
theorem neg_tdiv10 (m : Nat) : (-(m : Int)).tdiv 10 = -((m : Int) / 10) := by rw [Int.neg_tdiv, Int.tdiv_eq_ediv_of_nonneg (by omega)]
theorem neg_add (d : Int) : 48 + -(-d) = 48 + d := by omega

def rem10 (m : Nat) : List UInt8 := if m = 0 then [] else digs m
theorem rem_step {m : Nat} {bs fin : List UInt8} (h : rem10 m ++ bs = fin) (hm : ¬ m = 0) : rem10 (m / 10) ++ (dch m :: bs) = fin := by
  rw [rem10, if_neg hm] at h
  by_cases h10 : m < 10
  · rw [rem10, if_pos (by omega)]; exact dstep_last h h10
  · rw [rem10, if_neg (by omega)]; exact dstep h h10
theorem digs_pos (m : Nat) : 1 ≤ (digs m).length := by rw [digs]; split <;> simp
theorem rem_len {m : Nat} {bs fin : List UInt8} (h : rem10 m ++ bs = fin) (hm : ¬ m = 0) (hf : fin.length ≤ 20) : bs.length ≤ 19 := by
  rw [← h, rem10, if_neg hm, List.length_append] at hf
  have := digs_pos m
  omega

theorem FormatInt_i_neg (m0 : Nat) (hm1 : 1 ≤ m0) (hm0 : m0 ≤ 9223372036854775808) (w : World) : Calls Try.prog 33 #[.int .i64 (-(m0 : Int))] w (RetB (.string ⟨(45 :: digs m0).toArray⟩) w) := by
  have hln := digs_len20 (n := m0) (by omega)
  have d0 : decide (0 < m0) = true := by rw [decide_eq_true_eq]; omega
  have d9 : (m0 == 0) = false := by rw [beq_eq_false_iff_ne]; omega
  have d8 : (-(m0 : Int) == 0) = false := by rw [beq_eq_false_iff_ne]; omega
  go_enter Try.func33, Try.ntmps33
  go_wp2_with fail
  clear d0 d8 d9
  go_loopw [0, 3] (fun a v wr => ∃ (m : Nat) (bs : List UInt8), 1 ≤ m ∧ m ≤ m0 ∧ a = (.int .i64 (-(m : Int))) ∧ wr.ownsRow w.heap.size 5 1 v bs.length (bs.map byteV) ∧ digs m ++ bs = digs m0 ∧ Below w.heap.size w wr) (fun a _ _ => (-(intOf a)).toNat)
  case atStart => exact ⟨m0, [], hm1, Nat.le_refl _, rfl, World.ownsRow_nil _ _ _ _, by simp, Below.refl _ _⟩
  case round =>
    obtain ⟨m, bs, h1, h2, rfl, hown, hv, hb⟩ := hrel
    have hbl : bs.length ≤ 20 := by have := congrArg List.length hv; rw [List.length_append] at this; omega
    have e1 := neg_tmod10 m
    have e2 := neg_tdiv10 m
    have e3 : -(-((m : Int) % 10)) = (m : Int) % 10 := by omega
    have q0 : 0 ≤ (m : Int) % 10 := by omega
    have q1 : (m : Int) % 10 ≤ 9 := by omega
    have H1 := Lib.hid (@dstep_last m bs _ hv)
    have H2 := Lib.hid (@dstep m bs _ hv)
    have Hhv := Lib.hid hv; clear hv
    by_cases h10 : m < 10
    · by_cases hz : m % 10 = 0
      · exfalso
        omega
      · have q2 : 0 < (m : Int) % 10 := by omega
        have d1 : (-((m : Int) / 10) == 0) = true := by rw [beq_iff_eq]; omega
        have own1 := World.ownsRow_lit (e := 5) (base := w.heap.size) (size := 1) wr #[.int .u8 (48 + (m : Int) % 10)] 1 hb.size (by decide) rfl
        rw [show #[Value.int .u8 (48 + (m : Int) % 10)].toList = [dch m].map byteV by simp [byteV, dch_val] <;> omega] at own1
        go_wp2_with (first | (at_builtin; go_must (refine wp_append_row_bytes own1 (hown.alloc _) rfl _ _ rfl rfl rfl (by omega) (by simp; exact Nat.le_succ_of_le hb.size) ?_; intro v2 w2 hown2 hb2)) | ((with_reducible show wpList _ _ _ _ _ _); refine wp_bytes_string hown2 rfl _ rfl rfl ?_))
        go_ret
        exact ⟨(congrArg Ending.returned (str_app [45] _)).trans (ret_str (congrArg (45 :: ·) (H1.out (by omega)))), (hb.alloc hb.size _).trans hb2⟩
    · by_cases hz : m % 10 = 0
      · have q2 : (m : Int) % 10 = 0 := by omega
        have d1 : (-((m : Int) / 10) == 0) = false := by rw [beq_eq_false_iff_ne]; omega
        have own1 := World.ownsRow_lit (e := 5) (base := w.heap.size) (size := 1) wr #[.int .u8 (48)] 1 hb.size (by decide) rfl
        rw [show #[Value.int .u8 (48)].toList = [dch m].map byteV by simp [byteV, dch_val] <;> omega] at own1
        go_wp2_with (at_builtin; go_must (refine wp_append_row_bytes own1 (hown.alloc _) rfl _ _ rfl rfl rfl (by omega) (by simp; exact Nat.le_succ_of_le hb.size) ?_; intro v2 w2 hown2 hb2))
        go_roundw
        case rel => exact ⟨m / 10, dch m :: bs, by omega, by omega, rfl, by simpa [Nat.add_comm] using hown2, H2.out (by omega), (hb.alloc hb.size _).trans hb2⟩
        case measure => simp [intOf] <;> omega
      · have q2 : 0 < (m : Int) % 10 := by omega
        have d1 : (-((m : Int) / 10) == 0) = false := by rw [beq_eq_false_iff_ne]; omega
        have own1 := World.ownsRow_lit (e := 5) (base := w.heap.size) (size := 1) wr #[.int .u8 (48 + (m : Int) % 10)] 1 hb.size (by decide) rfl
        rw [show #[Value.int .u8 (48 + (m : Int) % 10)].toList = [dch m].map byteV by simp [byteV, dch_val] <;> omega] at own1
        go_wp2_with (at_builtin; go_must (refine wp_append_row_bytes own1 (hown.alloc _) rfl _ _ rfl rfl rfl (by omega) (by simp; exact Nat.le_succ_of_le hb.size) ?_; intro v2 w2 hown2 hb2))
        go_roundw
        case rel => exact ⟨m / 10, dch m :: bs, by omega, by omega, rfl, by simpa [Nat.add_comm] using hown2, H2.out (by omega), (hb.alloc hb.size _).trans hb2⟩
        case measure => simp [intOf] <;> omega

theorem FormatInt_i_pos (m0 : Nat) (hm1 : 0 ≤ m0) (hm0 : m0 ≤ 9223372036854775807) (w : World) : Calls Try.prog 33 #[.int .i64 (m0 : Int)] w (RetB (.string ⟨(digs m0).toArray⟩) w) := by
  have hln := digs_len20 (n := m0) (by omega)
  go_enter Try.func33, Try.ntmps33
  go_wp2_with fail
  go_loopw [0, 3] (fun a v wr => ∃ (m : Nat) (bs : List UInt8), 0 ≤ m ∧ m ≤ m0 ∧ a = (.int .i64 (m : Int)) ∧ wr.ownsRow w.heap.size 5 1 v bs.length (bs.map byteV) ∧ digs m ++ bs = digs m0 ∧ Below w.heap.size w wr) (fun a _ _ => (intOf a).toNat)
  case atStart => exact ⟨m0, [], hm1, Nat.le_refl _, rfl, World.ownsRow_nil _ _ _ _, by simp, Below.refl _ _⟩
  case round =>
    obtain ⟨m, bs, h1, h2, rfl, hown, hv, hb⟩ := hrel
    have hbl : bs.length ≤ 20 := by have := congrArg List.length hv; rw [List.length_append] at this; omega
    have q0 : 0 ≤ (m : Int) % 10 := by omega
    have q1 : (m : Int) % 10 ≤ 9 := by omega
    have H1 := Lib.hid (@dstep_last m bs _ hv)
    have H2 := Lib.hid (@dstep m bs _ hv)
    have Hhv := Lib.hid hv; clear hv
    by_cases h10 : m < 10
    · have d1 : ((m : Int) / 10 == 0) = true := by rw [beq_iff_eq]; omega
      have own1 := World.ownsRow_lit (e := 5) (base := w.heap.size) (size := 1) wr #[.int .u8 (48 + (m : Int) % 10)] 1 hb.size (by decide) rfl
      rw [show #[Value.int .u8 (48 + (m : Int) % 10)].toList = [dch m].map byteV by simp [byteV, dch_val] <;> omega] at own1
      go_wp2_with (first | (at_builtin; go_must (refine wp_append_row_bytes own1 (hown.alloc _) rfl _ _ rfl rfl rfl (by omega) (by simp; exact Nat.le_succ_of_le hb.size) ?_; intro v2 w2 hown2 hb2)) | ((with_reducible show wpList _ _ _ _ _ _); refine wp_bytes_string hown2 rfl _ rfl rfl ?_))
      go_ret
      exact ⟨ret_str (H1.out (by omega)), (hb.alloc hb.size _).trans hb2⟩
    · have d1 : ((m : Int) / 10 == 0) = false := by rw [beq_eq_false_iff_ne]; omega
      have own1 := World.ownsRow_lit (e := 5) (base := w.heap.size) (size := 1) wr #[.int .u8 (48 + (m : Int) % 10)] 1 hb.size (by decide) rfl
      rw [show #[Value.int .u8 (48 + (m : Int) % 10)].toList = [dch m].map byteV by simp [byteV, dch_val] <;> omega] at own1
      go_wp2_with (at_builtin; go_must (refine wp_append_row_bytes own1 (hown.alloc _) rfl _ _ rfl rfl rfl (by omega) (by simp; exact Nat.le_succ_of_le hb.size) ?_; intro v2 w2 hown2 hb2))
      go_roundw
      case rel => exact ⟨m / 10, dch m :: bs, by omega, by omega, by go_num, by simpa [Nat.add_comm] using hown2, H2.out (by omega), (hb.alloc hb.size _).trans hb2⟩
      case measure => simp [intOf] <;> omega

theorem FormatInt_s_neg (m0 : Nat) (hm1 : 1 ≤ m0) (hm0 : m0 ≤ 9223372036854775808) (w : World) : Calls Try.prog 32 #[.int .i64 (-(m0 : Int))] w (RetB (.string ⟨(45 :: digs m0).toArray⟩) w) := by
  have hln := digs_len20 (n := m0) (by omega)
  have d0 : decide (0 < m0) = true := by rw [decide_eq_true_eq]; omega
  have d9 : (m0 == 0) = false := by rw [beq_eq_false_iff_ne]; omega
  have d8 : (-(m0 : Int) == 0) = false := by rw [beq_eq_false_iff_ne]; omega
  go_enter Try.func32, Try.ntmps32
  go_wp2_with fail
  clear d0 d8 d9
  go_loopw [0, 3] (fun a v wr => ∃ (m : Nat) (bs : List UInt8), m ≤ m0 ∧ a = (.int .i64 (-(m : Int))) ∧ v = .string ⟨bs.toArray⟩ ∧ bs.length ≤ 20 ∧ rem10 m ++ bs = digs m0 ∧ Below w.heap.size w wr) (fun a _ _ => (-(intOf a)).toNat)
  case atStart => exact ⟨m0, [], Nat.le_refl _, rfl, rfl, by simp, by rw [rem10, if_neg (by omega), List.append_nil], Below.refl _ _⟩
  case round =>
    obtain ⟨m, bs, h2, rfl, rfl, hbl, hv, hb⟩ := hrel
    by_cases h0 : m = 0
    · subst h0
      have hv : bs = digs m0 := hv
      have Hhv := Lib.hid hv; clear hv
      go_wp2_with fail
      go_ret
      exact ⟨(congrArg Ending.returned (str_app [45] _)).trans (ret_str (congrArg (45 :: ·) Hhv.out)), hb⟩
    · have hbl2 := rem_len hv h0 hln
      have H2 := Lib.hid (rem_step hv h0)
      have Hhv := Lib.hid hv; clear hv
      have d7 : (-(m : Int) != 0) = true := by rw [bne_iff_ne]; omega
      have d6 : (m == 0) = false := by rw [beq_eq_false_iff_ne]; omega
      have e1 := neg_tmod10 m
      have e2 := neg_tdiv10 m
      have e3 : -(-((m : Int) % 10)) = (m : Int) % 10 := by omega
      have q0 : 0 ≤ (m : Int) % 10 := by omega
      have q1 : (m : Int) % 10 ≤ 9 := by omega
      by_cases hz : m % 10 = 0
      · have q2 : (m : Int) % 10 = 0 := by omega
        have own1 := World.ownsRow_lit (e := 5) (base := w.heap.size) (size := 1) wr #[.int .u8 (48)] 1 hb.size (by decide) rfl
        rw [show #[Value.int .u8 (48)].toList = [dch m].map byteV by simp [byteV, dch_val] <;> omega] at own1
        go_wp2_with ((with_reducible show wpList _ _ _ _ _ _); refine wp_bytes_string own1 rfl _ rfl rfl ?_)
        go_roundw
        case rel => exact ⟨m / 10, dch m :: bs, by omega, rfl, str_app [dch m] bs, by simp; omega, H2.out, hb.alloc hb.size _⟩
        case measure => simp [intOf] <;> omega
      · have q2 : 0 < (m : Int) % 10 := by omega
        have own1 := World.ownsRow_lit (e := 5) (base := w.heap.size) (size := 1) wr #[.int .u8 (48 + (m : Int) % 10)] 1 hb.size (by decide) rfl
        rw [show #[Value.int .u8 (48 + (m : Int) % 10)].toList = [dch m].map byteV by simp [byteV, dch_val] <;> omega] at own1
        go_wp2_with ((with_reducible show wpList _ _ _ _ _ _); refine wp_bytes_string own1 rfl _ rfl rfl ?_)
        go_roundw
        case rel => exact ⟨m / 10, dch m :: bs, by omega, rfl, str_app [dch m] bs, by simp; omega, H2.out, hb.alloc hb.size _⟩
        case measure => simp [intOf] <;> omega

theorem FormatInt_s_pos (m0 : Nat) (hm1 : 1 ≤ m0) (hm0 : m0 ≤ 9223372036854775807) (w : World) : Calls Try.prog 32 #[.int .i64 (m0 : Int)] w (RetB (.string ⟨(digs m0).toArray⟩) w) := by
  have hln := digs_len20 (n := m0) (by omega)
  have d9 : ((m0 : Int) == 0) = false := by rw [beq_eq_false_iff_ne]; omega
  go_enter Try.func32, Try.ntmps32
  go_wp2_with fail
  clear d9
  go_loopw [0, 3] (fun a v wr => ∃ (m : Nat) (bs : List UInt8), m ≤ m0 ∧ a = (.int .i64 (m : Int)) ∧ v = .string ⟨bs.toArray⟩ ∧ bs.length ≤ 20 ∧ rem10 m ++ bs = digs m0 ∧ Below w.heap.size w wr) (fun a _ _ => (intOf a).toNat)
  case atStart => exact ⟨m0, [], Nat.le_refl _, rfl, rfl, by simp, by rw [rem10, if_neg (by omega), List.append_nil], Below.refl _ _⟩
  case round =>
    obtain ⟨m, bs, h2, rfl, rfl, hbl, hv, hb⟩ := hrel
    by_cases h0 : m = 0
    · subst h0
      have hv : bs = digs m0 := hv
      have Hhv := Lib.hid hv; clear hv
      go_wp2_with fail
      go_ret
      exact ⟨ret_str Hhv.out, hb⟩
    · have hbl2 := rem_len hv h0 hln
      have H2 := Lib.hid (rem_step hv h0)
      have Hhv := Lib.hid hv; clear hv
      have d7 : ((m : Int) != 0) = true := by rw [bne_iff_ne]; omega
      have q0 : 0 ≤ (m : Int) % 10 := by omega
      have q1 : (m : Int) % 10 ≤ 9 := by omega
      have own1 := World.ownsRow_lit (e := 5) (base := w.heap.size) (size := 1) wr #[.int .u8 (48 + (m : Int) % 10)] 1 hb.size (by decide) rfl
      rw [show #[Value.int .u8 (48 + (m : Int) % 10)].toList = [dch m].map byteV by simp [byteV, dch_val] <;> omega] at own1
      go_wp2_with ((with_reducible show wpList _ _ _ _ _ _); refine wp_bytes_string own1 rfl _ rfl rfl ?_)
      go_roundw
      case rel => exact ⟨m / 10, dch m :: bs, by omega, by go_num, str_app [dch m] bs, by simp; omega, H2.out, hb.alloc hb.size _⟩
      case measure => simp [intOf] <;> omega

theorem FormatInt_i (n : Int) (hn : -9223372036854775808 ≤ n ∧ n ≤ 9223372036854775807) (w : World) : Calls Try.prog 33 #[.int .i64 n] w (RetB (.string ⟨(fmtInt n).toArray⟩) w) := by
  by_cases hs : n < 0
  · obtain ⟨m, rfl⟩ : ∃ m : Nat, n = -(m : Int) := ⟨n.natAbs, by omega⟩
    rw [fmt_neg m (by omega)]; exact FormatInt_i_neg m (by omega) (by omega) w
  · obtain ⟨m, rfl⟩ := Int.eq_ofNat_of_zero_le (show 0 ≤ n by omega)
    rw [fmt_pos]; exact FormatInt_i_pos m (by omega) (by omega) w
theorem FormatInt_s (n : Int) (hn : -9223372036854775808 ≤ n ∧ n ≤ 9223372036854775807) (w : World) : Calls Try.prog 32 #[.int .i64 n] w (RetB (.string ⟨(fmtInt n).toArray⟩) w) := by
  by_cases hs : n < 0
  · obtain ⟨m, rfl⟩ : ∃ m : Nat, n = -(m : Int) := ⟨n.natAbs, by omega⟩
    rw [fmt_neg m (by omega)]; exact FormatInt_s_neg m (by omega) (by omega) w
  · obtain ⟨m, rfl⟩ := Int.eq_ofNat_of_zero_le (show 0 ≤ n by omega)
    rw [fmt_pos]
    by_cases h0 : m = 0
    · subst h0
      rw [digs_small (by omega)]
      go_enter Try.func32, Try.ntmps32
      go_wp2_with fail
      go_ret
      exact ⟨rfl, Below.refl _ _⟩
    · exact FormatInt_s_pos m (by omega) (by omega) w
end Go.Proofs.Ythbliiimjkkemaa
