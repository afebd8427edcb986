/- EncodeFixed, DecodeFixed, both. -/
import Derived.Test.YthbliiimjkkemaaNum
import Derived.Laws.BitsAllLaws
namespace Go.Proofs.Ythbliiimjkkemaa
open Go.RowKit
set_option maxHeartbeats 400000
set_option maxRecDepth 100000

theorem i64_or_join (a b : Nat) (ha : a < 9007199254740992) (hb : b < 256) : bits .or .i64 ((a : Int) * 256) (b : Int) = (a : Int) * 256 + (b : Int) := by
  have h1 : (BitVec.ofInt 64 ((a : Int) * 256)).toNat = a * 256 := by
    rw [show ((a : Int) * 256) = ((a * 256 : Nat) : Int) by omega, BitVec.ofInt_natCast, BitVec.toNat_ofNat]
    exact Nat.mod_eq_of_lt (by omega)
  have h2 : (BitVec.ofInt 64 (b : Int)).toNat = b := by
    rw [BitVec.ofInt_natCast, BitVec.toNat_ofNat]
    exact Nat.mod_eq_of_lt (by omega)
  show IntKind.i64.wrap ((BitVec.ofInt 64 ((a : Int) * 256) ||| BitVec.ofInt 64 (b : Int)).toNat : Int) = _
  rw [BitVec.toNat_or, h1, h2, nat_join 8 (a * 256) b (by omega) (by omega), IntKind.wrap_i64]
  omega

def fixVal (l : List UInt8) : Nat := l.foldl (fun n b => n * 256 + b.toNat) 0
theorem fixVal_snoc (l : List UInt8) (b : UInt8) : fixVal (l ++ [b]) = fixVal l * 256 + b.toNat := by simp [fixVal]
theorem fixVal_take {l : List UInt8} {k : Nat} (h : k < l.length) : fixVal (l.take (k + 1)) = fixVal (l.take k) * 256 + (l[k]).toNat := by
  rw [List.take_succ_eq_append_getElem h, fixVal_snoc]
theorem fixVal_lt : ∀ (k : Nat) (l : List UInt8), l.length ≤ k → fixVal l < 256 ^ k := by
  intro k
  induction k with
  | zero => intro l h; have : l = [] := List.eq_nil_of_length_eq_zero (by omega); subst this; decide
  | succ k ih =>
    intro l h
    rcases List.eq_nil_or_concat l with rfl | ⟨l', b, rfl⟩
    · exact Nat.lt_of_lt_of_le (by decide : (fixVal [] < 1)) (Nat.one_le_pow _ _ (by omega))
    · rw [List.concat_eq_append] at h ⊢
      rw [List.length_append] at h
      have h1 := ih l' (by simp at h; omega)
      have h2 := b.toNat_lt
      rw [fixVal_snoc, Nat.pow_succ]
      omega
theorem fixVal_bd (l : List UInt8) (k : Nat) (h : k ≤ 6) : fixVal (l.take k) < 281474976710656 := fixVal_lt 6 _ (by simp; omega)
def decFixOk (l : List UInt8) (w : Int) : Bool := decide (1 ≤ w ∧ w ≤ 7 ∧ w ≤ l.length)
def decFix (l : List UInt8) (w : Int) : Int := if decFixOk l w then (fixVal (l.take w.toNat) : Int) else 0


theorem DecodeFixed_i (l : List UInt8) (hl : l.length ≤ 1048576) (w' : Int) (w : World) :
    Calls Try.prog 23 #[.string ⟨l.toArray⟩, .int .i64 w'] w (Ret (.tuple #[.int .i64 (decFix l w'), .bool (decFixOk l w')]) w) := by
  by_cases h : 1 ≤ w' ∧ w' ≤ 7 ∧ w' ≤ l.length
  · have e1 : decFixOk l w' = true := by unfold decFixOk; rw [decide_eq_true_eq]; exact h
    obtain ⟨m, rfl⟩ := Int.eq_ofNat_of_zero_le (show 0 ≤ w' by omega)
    have e2 : decFix l (m : Int) = (fixVal (l.take m) : Int) := by unfold decFix; rw [if_pos e1, Int.toNat_natCast]
    rw [e1, e2]
    clear e1 e2
    have h1 : 1 ≤ (m : Int) := h.1
    have h2 : (m : Int) ≤ 7 := h.2.1
    have h3 : (m : Int) ≤ (l.length : Int) := h.2.2
    clear h
    go_enter Try.func23, Try.ntmps23
    go_wp2_with fail
    go_loop [6, 7] (fun n i => ∃ k : Nat, k ≤ m ∧ i = .int .i64 k ∧ n = .int .i64 (fixVal (l.take k))) (fun _ i => m - (intOf i).toNat)
    case atStart => exact ⟨0, Nat.zero_le _, rfl, rfl⟩
    case round =>
      obtain ⟨k, hk, rfl, rfl⟩ := hrel
      by_cases hlt : k < m
      · have hkl : k < l.length := by omega
        have hkl' : (k : Int) < (l.length : Int) := by omega
        have hbd := fixVal_bd l k (by omega)
        have hst := fixVal_take hkl
        obtain ⟨b, hb⟩ : ∃ b, l[k] = b := ⟨_, rfl⟩
        have hb8 := b.toNat_lt
        have hor := i64_or_join (fixVal (l.take k)) b.toNat (by omega) hb8
        rw [hb] at hst
        have HS := Lib.hid hst
        clear hst
        generalize hf : fixVal (l.take k) = f at *
        clear hf
        go_wp2_with fail
        go_round
        case rel => exact ⟨k + 1, by omega, by go_num, by rw [HS.out]; go_num⟩
        case measure => simp [intOf] <;> omega
      · obtain rfl : k = m := by omega
        go_wp2_with fail
        go_ret2
        exact ⟨rfl, rfl⟩
  · have e1 : decFixOk l w' = false := by unfold decFixOk; rw [decide_eq_false_iff_not]; exact h
    have e2 : decFix l w' = 0 := by unfold decFix; rw [if_neg (by rw [e1]; decide)]
    rw [e1, e2]
    clear e1 e2
    by_cases h1 : w' < 1
    · go_enter Try.func23, Try.ntmps23
      go_wp2_with fail
      go_ret2
      exact ⟨rfl, rfl⟩
    · by_cases h2 : 7 < w'
      · go_enter Try.func23, Try.ntmps23
        go_wp2_with fail
        go_ret2
        exact ⟨rfl, rfl⟩
      · have h3 : (l.length : Int) < w' := by omega
        go_enter Try.func23, Try.ntmps23
        go_wp2_with fail
        go_ret2
        exact ⟨rfl, rfl⟩

theorem DecodeFixed_s (l : List UInt8) (hl : l.length ≤ 1048576) (w' : Int) (w : World) :
    Calls Try.prog 22 #[.string ⟨l.toArray⟩, .int .i64 w'] w (Ret (.tuple #[.int .i64 (decFix l w'), .bool (decFixOk l w')]) w) := by
  by_cases h : 1 ≤ w' ∧ w' ≤ 7 ∧ w' ≤ l.length
  · have e1 : decFixOk l w' = true := by unfold decFixOk; rw [decide_eq_true_eq]; exact h
    obtain ⟨m, rfl⟩ := Int.eq_ofNat_of_zero_le (show 0 ≤ w' by omega)
    have e2 : decFix l (m : Int) = (fixVal (l.take m) : Int) := by unfold decFix; rw [if_pos e1, Int.toNat_natCast]
    rw [e1, e2]
    clear e1 e2
    have h1 : 1 ≤ (m : Int) := h.1
    have h2 : (m : Int) ≤ 7 := h.2.1
    have h3 : (m : Int) ≤ (l.length : Int) := h.2.2
    clear h
    go_enter Try.func22, Try.ntmps22
    go_wp2_with (go_at_call 42; ((with_reducible refine (l1In_yes _ _ _ (by omega) _).mono ?_); rintro e w' ⟨rfl, rfl⟩))
    go_loop [6, 7] (fun n i => ∃ k : Nat, k ≤ m ∧ i = .int .i64 k ∧ n = .int .i64 (fixVal (l.take k))) (fun _ i => m - (intOf i).toNat)
    case atStart => exact ⟨0, Nat.zero_le _, rfl, rfl⟩
    case round =>
      obtain ⟨k, hk, rfl, rfl⟩ := hrel
      by_cases hlt : k < m
      · have hkl : k < l.length := by omega
        have hkl' : (k : Int) < (l.length : Int) := by omega
        have hbd := fixVal_bd l k (by omega)
        have hst := fixVal_take hkl
        obtain ⟨b, hb⟩ : ∃ b, l[k] = b := ⟨_, rfl⟩
        have hb8 := b.toNat_lt
        have hor := i64_or_join (fixVal (l.take k)) b.toNat (by omega) hb8
        rw [hb] at hst
        have HS := Lib.hid hst
        clear hst
        generalize hf : fixVal (l.take k) = f at *
        clear hf
        go_wp2_with fail
        go_round
        case rel => exact ⟨k + 1, by omega, by go_num, by rw [HS.out]; go_num⟩
        case measure => simp [intOf] <;> omega
      · obtain rfl : k = m := by omega
        go_wp2_with fail
        go_ret2
        exact ⟨rfl, rfl⟩
  · have e1 : decFixOk l w' = false := by unfold decFixOk; rw [decide_eq_false_iff_not]; exact h
    have e2 : decFix l w' = 0 := by unfold decFix; rw [if_neg (by rw [e1]; decide)]
    rw [e1, e2]
    clear e1 e2
    by_cases h1 : 1 ≤ w' ∧ w' ≤ 7
    · have h3 : (l.length : Int) < w' := by omega
      go_enter Try.func22, Try.ntmps22
      go_wp2_with (go_at_call 42; ((with_reducible refine (l1In_yes _ _ _ (by omega) _).mono ?_); rintro e w' ⟨rfl, rfl⟩))
      go_ret2
      exact ⟨rfl, rfl⟩
    · go_enter Try.func22, Try.ntmps22
      go_wp2_with (go_at_call 42; ((with_reducible refine (l1In_no _ _ _ (by omega) _).mono ?_); rintro e w' ⟨rfl, rfl⟩))
      go_ret2
      exact ⟨rfl, rfl⟩

def fixBytes : Nat → Nat → List UInt8
  | 0, _ => []
  | w + 1, n => fixBytes w (n / 256) ++ [UInt8.ofNat (n % 256)]
theorem fixBytes_len : ∀ (w n : Nat), (fixBytes w n).length = w := by
  intro w
  induction w with
  | zero => intro n; rfl
  | succ w ih => intro n; simp [fixBytes, ih]
def encFixOk (n w : Int) : Bool := decide (1 ≤ w ∧ w ≤ 7 ∧ 0 ≤ n ∧ n.toNat / 256 ^ w.toNat = 0)
def encFix (n w : Int) : List UInt8 := if encFixOk n w then fixBytes w.toNat n.toNat else []

theorem fix_step {r y : Nat} {bs fin : List UInt8} (h : fixBytes (r + 1) y ++ bs.drop (r + 1) = fin) (hr : r < bs.length) :
    fixBytes r (y / 256) ++ (bs.set r (UInt8.ofNat (y % 256))).drop r = fin := by
  rw [← h, List.drop_eq_getElem_cons (by simpa using hr), List.getElem_set_self, List.drop_set_of_lt (by omega)]
  simp [fixBytes]
theorem pow_dvd (x m : Nat) : x / 2 ^ (8 * m) = x / 256 ^ m := by rw [Nat.pow_mul]
theorem pow_int (x m : Nat) (h : x / 256 ^ m = 0) : ((x : Int) / 2 ^ (8 * m) != 0) = false := by
  have e : (x : Int) / 2 ^ (8 * m) = ((x / 2 ^ (8 * m) : Nat) : Int) := by rw [Int.natCast_ediv]; simp
  rw [e, pow_dvd, h]; rfl
theorem pow_int' (x m : Nat) (h : ¬ x / 256 ^ m = 0) : ((x : Int) / 2 ^ (8 * m) != 0) = true := by
  have e : (x : Int) / 2 ^ (8 * m) = ((x / 2 ^ (8 * m) : Nat) : Int) := by rw [Int.natCast_ediv]; simp
  rw [e, pow_dvd, bne_iff_ne]; omega

theorem EncodeFixed_i (n w' : Int) (hn : n ≤ 9223372036854775807) (w : World) : Calls Try.prog 29 #[.int .i64 n, .int .i64 w'] w (RetB (.string ⟨(encFix n w').toArray⟩) w) := by
  by_cases h : 1 ≤ w' ∧ w' ≤ 7 ∧ 0 ≤ n
  · obtain ⟨m, rfl⟩ := Int.eq_ofNat_of_zero_le (show 0 ≤ w' by omega)
    obtain ⟨x, rfl⟩ := Int.eq_ofNat_of_zero_le h.2.2
    have h1 : 1 ≤ (m : Int) := h.1
    have h2 : (m : Int) ≤ 7 := h.2.1
    have d1 : decide ((m : Int) < 1) = false := by rw [decide_eq_false_iff_not]; omega
    have d2 : decide (7 < (m : Int)) = false := by rw [decide_eq_false_iff_not]; omega
    have d3 : decide ((x : Int) < 0) = false := by rw [decide_eq_false_iff_not]; omega
    by_cases hz : x / 256 ^ m = 0
    · have e1 : encFixOk (x : Int) (m : Int) = true := by unfold encFixOk; rw [decide_eq_true_eq]; exact ⟨h.1, h.2.1, h.2.2, by simpa using hz⟩
      have e2 : encFix (x : Int) (m : Int) = fixBytes m x := by unfold encFix; rw [if_pos e1]; simp
      rw [e2]
      clear e1 e2 h
      have d4 := pow_int x m hz
      clear hz
      go_enter Try.func29, Try.ntmps29
      go_wp2_with (at_make; go_must (refine wp_make_bytes rfl _ _ rfl w.heap.size _ _ _ _ m rfl rfl rfl rfl (by omega) (Nat.le_refl _) ?_; intro w1 hown1 hb1))
      clear d1 d2 d3 d4
      go_loopw [0, 6] (fun a i wr => ∃ (r y : Nat) (bs : List UInt8), r ≤ m ∧ y ≤ x ∧ i = .int .i64 ((r : Int) - 1) ∧ a = .int .i64 y ∧ wr.ownsRow w.heap.size 5 1 (.slice (some ⟨w.heap.size, 0, none⟩) m m) m (bs.map byteV) ∧ fixBytes r y ++ bs.drop r = fixBytes m x ∧ Below w.heap.size w wr) (fun _ i _ => (intOf i + 1).toNat)
      case atStart => exact ⟨m, x, _, Nat.le_refl _, Nat.le_refl _, rfl, rfl, hown1, by simp, hb1⟩
      case round =>
        obtain ⟨r, y, bs, hr, hy, rfl, rfl, hown, hv, hb⟩ := hrel
        have hbl : bs.length = m := by simpa using hown.1
        have HV := Lib.hid hv
        have HL := Lib.hid hbl
        clear hv hbl
        by_cases h0 : r = 0
        · subst h0
          go_wp2_with ((with_reducible show wpList _ _ _ _ _ _); refine wp_bytes_string hown rfl _ rfl rfl ?_)
          go_ret
          exact ⟨ret_str (by rw [← HV.out]; rfl), hb⟩
        · obtain ⟨r, rfl⟩ := Nat.exists_eq_succ_of_ne_zero h0
          have i0 : 0 ≤ (r : Int) := by omega
          have i1 : (r : Int) < (m : Int) := by omega
          obtain ⟨b, hbk, hc⟩ := own_cell hown r (by omega)
          have hf := hown.frozenAt r
          clear hbk h0
          go_wp2_with fail
          have hown2 := own_set hown r (UInt8.ofNat (y % 256))
          rw [show byteV (UInt8.ofNat (y % 256)) = .int .u8 ((y : Int) % 256) by simp [byteV]] at hown2
          go_roundw
          case rel => exact ⟨r, y / 256, bs.set r (UInt8.ofNat (y % 256)), by omega, by omega, rfl, by go_num, hown2, fix_step HV.out (by rw [HL.out]; omega), hb.setCell (Nat.le_refl _) _⟩
          case measure => simp [intOf] <;> omega
    · have e1 : encFixOk (x : Int) (m : Int) = false := by unfold encFixOk; rw [decide_eq_false_iff_not]; intro hh; exact hz (by simpa using hh.2.2.2)
      have e2 : encFix (x : Int) (m : Int) = [] := by unfold encFix; rw [if_neg (by rw [e1]; decide)]
      rw [e2]
      clear e1 e2 h
      have d4 := pow_int' x m hz
      clear hz
      go_enter Try.func29, Try.ntmps29
      go_wp2_with fail
      go_ret
      exact ⟨rfl, Below.refl _ _⟩
  · have e1 : encFixOk n w' = false := by unfold encFixOk; rw [decide_eq_false_iff_not]; omega
    have e2 : encFix n w' = [] := by unfold encFix; rw [if_neg (by rw [e1]; decide)]
    rw [e2]
    clear e1 e2
    by_cases h1 : w' < 1
    · go_enter Try.func29, Try.ntmps29
      go_wp2_with fail
      go_ret
      exact ⟨rfl, Below.refl _ _⟩
    · by_cases h2 : 7 < w'
      · go_enter Try.func29, Try.ntmps29
        go_wp2_with fail
        go_ret
        exact ⟨rfl, Below.refl _ _⟩
      · have h3 : n < 0 := by omega
        go_enter Try.func29, Try.ntmps29
        go_wp2_with fail
        go_ret
        exact ⟨rfl, Below.refl _ _⟩

theorem fix_step_s {r y : Nat} {o fin : List UInt8} (h : fixBytes (r + 1) y ++ o = fin) : fixBytes r (y / 256) ++ (UInt8.ofNat (y % 256) :: o) = fin := by
  rw [← h]; simp [fixBytes]

theorem EncodeFixed_s (n w' : Int) (hn : n ≤ 9223372036854775807) (w : World) : Calls Try.prog 28 #[.int .i64 n, .int .i64 w'] w (RetB (.string ⟨(encFix n w').toArray⟩) w) := by
  by_cases h : 1 ≤ w' ∧ w' ≤ 7 ∧ 0 ≤ n
  · obtain ⟨m, rfl⟩ := Int.eq_ofNat_of_zero_le (show 0 ≤ w' by omega)
    obtain ⟨x, rfl⟩ := Int.eq_ofNat_of_zero_le h.2.2
    have h1 : 1 ≤ (m : Int) := h.1
    have h2 : (m : Int) ≤ 7 := h.2.1
    have d3 : decide ((x : Int) < 0) = false := by rw [decide_eq_false_iff_not]; omega
    have hd : (encFix (x : Int) (m : Int) = fixBytes m x ∧ x / 256 ^ m = 0) ∨ (encFix (x : Int) (m : Int) = [] ∧ ¬ x / 256 ^ m = 0) := by
      by_cases hz : x / 256 ^ m = 0
      · have e1 : encFixOk (x : Int) (m : Int) = true := by unfold encFixOk; rw [decide_eq_true_eq]; exact ⟨h.1, h.2.1, h.2.2, by simpa using hz⟩
        exact .inl ⟨by unfold encFix; rw [if_pos e1]; simp, hz⟩
      · have e1 : encFixOk (x : Int) (m : Int) = false := by unfold encFixOk; rw [decide_eq_false_iff_not]; intro hh; exact hz (by simpa using hh.2.2.2)
        exact .inr ⟨by unfold encFix; rw [if_neg (by rw [e1]; decide)], hz⟩
    generalize hE : encFix (x : Int) (m : Int) = E at *
    have HD := Lib.hid hd
    clear hd hE h
    go_enter Try.func28, Try.ntmps28
    go_wp2_with (go_at_call 42; ((with_reducible refine (l1In_yes _ _ _ (by omega) _).mono ?_); rintro e w' ⟨rfl, rfl⟩))
    clear d3
    go_loopw [0, 5, 6] (fun a v i wr => ∃ (k y : Nat) (o : List UInt8), k ≤ m ∧ y ≤ x ∧ i = .int .i64 k ∧ a = .int .i64 y ∧ y = x / 256 ^ k ∧ v = .string ⟨o.toArray⟩ ∧ o.length ≤ 7 ∧ o.length = k ∧ fixBytes (m - k) y ++ o = fixBytes m x ∧ Below w.heap.size w wr) (fun _ _ i _ => m - (intOf i).toNat)
    case atStart => exact ⟨0, x, [], Nat.zero_le _, Nat.le_refl _, rfl, rfl, by simp, rfl, by simp, rfl, by simp, Below.refl _ _⟩
    case round =>
      obtain ⟨k, y, o, hk, hy, rfl, rfl, hyx, rfl, ho, hok, hv, hb⟩ := hrel
      by_cases hlt : k < m
      · have hv' := hv
        rw [show m - k = (m - (k + 1)) + 1 by omega] at hv'
        have H1 := Lib.hid (fix_step_s hv')
        have hy2 : y / 256 = x / 256 ^ (k + 1) := by rw [hyx, Nat.pow_succ, Nat.div_div_eq_div_mul]
        have H2 := Lib.hid hy2
        have H3 := Lib.hid hok
        clear hv hv' hyx hy2 hok
        have hown := World.ownsRow_lit (e := 5) (base := w.heap.size) (size := 1) wr #[.int .u8 ((y : Int) % 256)] 1 hb.size (by decide) rfl
        rw [show #[Value.int .u8 ((y : Int) % 256)].toList = [UInt8.ofNat (y % 256)].map byteV by simp [byteV]] at hown
        go_wp2_with ((with_reducible show wpList _ _ _ _ _ _); refine wp_bytes_string hown rfl _ rfl rfl ?_)
        go_roundw
        case rel => exact ⟨k + 1, y / 256, UInt8.ofNat (y % 256) :: o, by omega, by omega, by go_num, by go_num, H2.out, str_app [UInt8.ofNat (y % 256)] o, by have := H3.out; simp; omega, by have := H3.out; simp; omega, H1.out, hb.alloc hb.size _⟩
        case measure => simp [intOf] <;> omega
      · obtain rfl : k = m := by omega
        rw [Nat.sub_self] at hv
        have hv : o = fixBytes k x := hv
        have HV := Lib.hid hv
        have H2 := Lib.hid hyx
        clear hv hyx hok
        by_cases h0 : y = 0
        · subst h0
          go_wp2_with fail
          go_ret
          refine ⟨ret_str ?_, hb⟩
          rcases HD.out with hd | hd
          · rw [hd.1]; exact HV.out
          · exact absurd H2.out.symm hd.2
        · have h0' : 0 < (y : Int) := by omega
          clear h0
          go_wp2_with fail
          go_ret
          refine ⟨ret_str ?_, hb⟩
          rcases HD.out with hd | hd
          · have := H2.out; omega
          · rw [hd.1]
  · have e1 : encFixOk n w' = false := by unfold encFixOk; rw [decide_eq_false_iff_not]; omega
    have e2 : encFix n w' = [] := by unfold encFix; rw [if_neg (by rw [e1]; decide)]
    rw [e2]
    clear e1 e2
    by_cases h1 : 1 ≤ w' ∧ w' ≤ 7
    · have h3 : n < 0 := by omega
      go_enter Try.func28, Try.ntmps28
      go_wp2_with (go_at_call 42; ((with_reducible refine (l1In_yes _ _ _ (by omega) _).mono ?_); rintro e w' ⟨rfl, rfl⟩))
      go_ret
      exact ⟨rfl, Below.refl _ _⟩
    · go_enter Try.func28, Try.ntmps28
      go_wp2_with (go_at_call 42; ((with_reducible refine (l1In_no _ _ _ (by omega) _).mono ?_); rintro e w' ⟨rfl, rfl⟩))
      go_ret
      exact ⟨rfl, Below.refl _ _⟩
end Go.Proofs.Ythbliiimjkkemaa
