/- DecodeVarint, both. -/
import Derived.Test.YthbliiimjkkemaaVarint
import Derived.Test.YthbliiimjkkemaaQuiet
namespace Go.Proofs.Ythbliiimjkkemaa
open Go.RowKit Go.Sort
set_option maxHeartbeats 400000
set_option maxRecDepth 100000

def vval : List UInt8 → Nat
  | [] => 0
  | b :: r => b.toNat % 128 + 128 * vval r
def canon : List UInt8 → Bool
  | [] => false
  | [b] => decide (b.toNat < 128)
  | b :: c :: r => decide (128 ≤ b.toNat) && decide (vval (c :: r) ≠ 0) && canon (c :: r)
theorem canon_iff : ∀ (t : List UInt8), t ≠ [] → (varint (vval t) = t ↔ canon t = true)
  | [], h => absurd rfl h
  | [b], _ => by
    have hb := b.toNat_lt
    have e : vval [b] = b.toNat % 128 := by simp [vval]
    rw [e, varint_small (by omega), canon, decide_eq_true_eq]
    constructor
    · intro h
      have h1 := (List.cons.inj h).1
      have h2 := congrArg UInt8.toNat h1
      simp at h2
      omega
    · intro h
      rw [Nat.mod_eq_of_lt h]; simp
  | b :: c :: r, _ => by
    have hb := b.toNat_lt
    have ih := canon_iff (c :: r) (by simp)
    have e : vval (b :: c :: r) = b.toNat % 128 + 128 * vval (c :: r) := rfl
    rw [canon, Bool.and_eq_true, Bool.and_eq_true, decide_eq_true_eq, decide_eq_true_eq, ← ih, e]
    by_cases hz : vval (c :: r) = 0
    · rw [hz, varint_small (by omega)]
      simp
    · rw [varint_big (by omega), show (b.toNat % 128 + 128 * vval (c :: r)) / 128 = vval (c :: r) by omega, show (b.toNat % 128 + 128 * vval (c :: r)) % 128 + 128 = b.toNat % 128 + 128 by omega]
      constructor
      · intro h
        obtain ⟨h1, h2⟩ := List.cons.inj h
        have h3 := congrArg UInt8.toNat h1
        simp at h3
        exact ⟨⟨by omega, hz⟩, h2⟩
      · rintro ⟨⟨h1, _⟩, h2⟩
        rw [h2, show b.toNat % 128 + 128 = b.toNat by omega]; simp
theorem vval_lt : ∀ (t : List UInt8), vval t < 128 ^ t.length
  | [] => by decide
  | b :: r => by
    have := vval_lt r
    simp only [vval, List.length_cons, Nat.pow_succ]
    omega
theorem vval_snoc : ∀ (t : List UInt8) (b : UInt8), vval (t ++ [b]) = vval t + (b.toNat % 128) * 128 ^ t.length
  | [], b => by simp [vval]
  | a :: t, b => by
    have := vval_snoc t b
    simp only [List.cons_append, vval, this, List.length_cons, Nat.pow_succ]
    rw [Nat.mul_add, ← Nat.add_assoc, Nat.mul_comm 128 (b.toNat % 128 * 128 ^ t.length), Nat.mul_assoc]
/-- All but the last continue. -/
theorem canon_snoc : ∀ (t : List UInt8) (b : UInt8), (∀ x ∈ t, 128 ≤ x.toNat) → canon (t ++ [b]) = (decide (b.toNat < 128) && (t.isEmpty || decide (b.toNat ≠ 0)))
  | [], b, _ => by simp [canon]
  | [a], b, h => by
    have ha : 128 ≤ a.toNat := h a (by simp)
    have e : vval [b] = b.toNat % 128 := by simp [vval]
    rw [List.singleton_append, canon, e, canon]
    by_cases hb : b.toNat < 128
    · simp [ha, hb, Nat.mod_eq_of_lt hb]
    · simp [hb]
  | a :: c :: t, b, h => by
    have ha : 128 ≤ a.toNat := h a (by simp)
    have ih := canon_snoc (c :: t) b (fun x hx => h x (by simp at hx ⊢; right; exact hx))
    have e : (a :: c :: t) ++ [b] = a :: c :: (t ++ [b]) := rfl
    have e2 : c :: (t ++ [b]) = (c :: t) ++ [b] := rfl
    rw [e, canon, e2, ih]
    by_cases hb : b.toNat < 128
    · by_cases h0 : b.toNat = 0
      · simp [h0]
      · have hv : vval ((c :: t) ++ [b]) ≠ 0 := by
          rw [vval_snoc, Nat.mod_eq_of_lt hb]
          have : 0 < b.toNat * 128 ^ (c :: t).length := Nat.mul_pos (by omega) (Nat.pow_pos (by omega))
          omega
        simp only [ha, decide_true, hv, ne_eq, not_false_eq_true, Bool.true_and]
        simp [hb, h0]
    · simp [hb]
/-- One that stops before its end is none. -/
theorem canon_stop : ∀ (t u : List UInt8) (b : UInt8), b.toNat < 128 → u ≠ [] → canon (t ++ b :: u) = false
  | [], u, b, hb, hu => by
    cases u with
    | nil => exact absurd rfl hu
    | cons c u => rw [List.nil_append, canon, show decide (128 ≤ b.toNat) = false by rw [decide_eq_false_iff_not]; omega]; rfl
  | a :: t, u, b, hb, hu => by
    have ih := canon_stop t u b hb hu
    cases ht : t ++ b :: u with
    | nil => simp at ht
    | cons c r => rw [List.cons_append, ht, canon, ← ht, ih, Bool.and_false]

def vfind (l : List UInt8) : Nat → Nat → Nat × Nat
  | 0, _ => (0, 0)
  | f + 1, k => if k ≤ l.length ∧ canon (l.take k) = true then (vval (l.take k), k) else vfind l f (k + 1)
def decV (l : List UInt8) : Nat × Nat := vfind l 7 1
theorem vfind_past (l : List UInt8) : ∀ (f k : Nat), l.length < k → vfind l f k = (0, 0)
  | 0, _, _ => rfl
  | f + 1, k, h => by rw [vfind, if_neg (by omega), vfind_past l f (k + 1) (by omega)]
theorem vfind_none (l : List UInt8) : ∀ (f k : Nat), (∀ j, k ≤ j → j ≤ l.length → canon (l.take j) = false) → vfind l f k = (0, 0)
  | 0, _, _ => rfl
  | f + 1, k, h => by
    rw [vfind, if_neg, vfind_none l f (k + 1) (fun j hj hl => h j (by omega) hl)]
    rintro ⟨h1, h2⟩
    rw [h k (Nat.le_refl _) h1] at h2
    cases h2

theorem vval_down {l : List UInt8} {q j : Nat} (hq : q ≤ l.length) (hj : j < q) : vval ((l.take q).drop j) = (l[j]'(by omega)).toNat % 128 + 128 * vval ((l.take q).drop (j + 1)) := by
  rw [List.drop_eq_getElem_cons (by simp; omega)]
  simp [vval]
theorem vval_bd (l : List UInt8) (q j : Nat) (hq : q ≤ 7) (hj : 1 ≤ j) : vval ((l.take q).drop j) < 4398046511104 := by
  refine Nat.lt_of_lt_of_le (vval_lt _) ?_
  have : ((l.take q).drop j).length ≤ 6 := by simp; omega
  exact Nat.le_trans (Nat.pow_le_pow_right (by omega) this) (by decide)
theorem vval_bd7 (l : List UInt8) (q : Nat) (hq : q ≤ 7) : vval (l.take q) ≤ 562949953421311 := by
  have h1 := vval_lt (l.take q)
  have : (l.take q).length ≤ 7 := by simp; omega
  have h2 := Nat.le_trans (Nat.le_of_lt_succ (Nat.lt_succ_of_lt h1)) (Nat.pow_le_pow_right (by omega) this)
  have h3 := Nat.lt_of_lt_of_le h1 (Nat.pow_le_pow_right (n := 128) (by omega) this)
  omega
theorem enc_v (v : Nat) (h : v ≤ 562949953421311) : encVarint (v : Int) = varint v := by
  unfold encVarint; rw [if_neg (by omega)]; simp
theorem vstep_yes {l : List UInt8} {q : Nat} (hq : q ≤ l.length) (h1 : 1 ≤ q) (h7 : q ≤ 7) (hv : vfind l (8 - q) q = decV l) (he : varint (vval (l.take q)) = l.take q) : decV l = (vval (l.take q), q) := by
  have hne : l.take q ≠ [] := fun h => by have := congrArg List.length h; rw [List.length_take, List.length_nil] at this; omega
  rw [← hv, show 8 - q = (7 - q) + 1 by omega, vfind, if_pos ⟨hq, (canon_iff _ hne).1 he⟩]
theorem vstep_no {l : List UInt8} {q : Nat} (hq : q ≤ l.length) (h1 : 1 ≤ q) (h7 : q ≤ 7) (hv : vfind l (8 - q) q = decV l) (he : ¬ varint (vval (l.take q)) = l.take q) : vfind l (8 - (q + 1)) (q + 1) = decV l := by
  have hne : l.take q ≠ [] := fun h => by have := congrArg List.length h; rw [List.length_take, List.length_nil] at this; omega
  rw [← hv, show 8 - q = (7 - q) + 1 by omega, vfind, if_neg (fun hh => he ((canon_iff _ hne).2 hh.2)), show 8 - (q + 1) = 7 - q by omega]

theorem DecodeVarint_s (l : List UInt8) (hl : l.length ≤ 1048576) (w : World) :
    Calls Try.prog 30 #[.string ⟨l.toArray⟩] w (RetB (.tuple #[.int .i64 ((decV l).1 : Int), .int .i64 ((decV l).2 : Int)]) w) := by
  go_enter Try.func30, Try.ntmps30
  go_wp2_with fail
  go_loopw [4] (fun k wr => ∃ q : Nat, 1 ≤ q ∧ q ≤ 8 ∧ k = .int .i64 q ∧ vfind l (8 - q) q = decV l ∧ Below w.heap.size w wr) (fun k _ => (9 - intOf k).toNat)
  case atStart => exact ⟨1, by omega, by omega, rfl, rfl, Below.refl _ _⟩
  case round =>
    obtain ⟨q, h1, h8, rfl, hv, hb⟩ := hrel
    obtain ⟨wo, rfl⟩ : ∃ wo : World, wo = wr := ⟨_, rfl⟩
    by_cases hq7 : q ≤ 7
    · have d1 : decide ((q : Int) ≤ 7) = true := by rw [decide_eq_true_eq]; omega
      by_cases hql : q ≤ l.length
      · have d2 : decide (q ≤ l.length) = true := by rw [decide_eq_true_eq]; omega
        have hs1 := Lib.hid (@vstep_yes l q hql h1 hq7 hv)
        have hs2 := Lib.hid (@vstep_no l q hql h1 hq7 hv)
        have Hhv := Lib.hid hv; clear hv
        go_wp2_with fail
        clear d1 d2
        go_loop [5, 6] (fun n i => ∃ j : Nat, j ≤ q ∧ i = .int .i64 ((j : Int) - 1) ∧ n = .int .i64 (vval ((l.take q).drop j))) (fun _ i => (intOf i + 1).toNat)
        case atStart => exact ⟨q, Nat.le_refl _, rfl, by rw [List.drop_of_length_le (by simp; omega)]; rfl⟩
        case round =>
          obtain ⟨j, hj, rfl, rfl⟩ := hrel
          by_cases hj0 : j = 0
          · subst hj0
            have b7 := vval_bd7 l q hq7
            have ev := enc_v _ b7
            rw [List.drop_zero]
            have k0 : 0 ≤ (q : Int) := by omega
            have k1 : (q : Int) ≤ (l.length : Int) := by omega
            generalize hv0 : vval (l.take q) = v at *
            by_cases he : varint v = l.take q
            · have d5 : (varint v == l.take q) = true := by rw [beq_iff_eq]; exact he
              have hfin := hs1.out he
              have c1 := EncodeVarint_s (v : Int)
              rw [ev] at c1
              have Hhv0 := Lib.hid hv0; clear hv0; have Hhe := Lib.hid he; clear he; have Hhfin := Lib.hid hfin; clear hfin; have Hev := Lib.hid ev; clear ev; have Hc1 := Lib.hid c1; clear c1
              go_wp2_with fail
              refine wp_region_below (by kernel_rfl) (by kernel_rfl) ?_; (repeat (quiet_step (first | with_reducible exact regB (Hc1.out _)))); refine wpQuiet_nil ?_
              intro w1 hb1
              go_wp2_with fail
              go_ret2
              exact ⟨by rw [Hhfin.out]; rfl, below_tr hb hb1⟩
            · have d5 : (varint v == l.take q) = false := by rw [beq_eq_false_iff_ne]; exact he
              have hfin := hs2.out he
              have c1 := EncodeVarint_s (v : Int)
              rw [ev] at c1
              have Hhv0 := Lib.hid hv0; clear hv0; have Hhe := Lib.hid he; clear he; have Hhfin := Lib.hid hfin; clear hfin; have Hev := Lib.hid ev; clear ev; have Hc1 := Lib.hid c1; clear c1
              go_wp2_with fail
              refine wp_region_below (by kernel_rfl) (by kernel_rfl) ?_; (repeat (quiet_step (first | with_reducible exact regB (Hc1.out _)))); refine wpQuiet_nil ?_
              intro w1 hb1
              go_wp2_with fail
              go_roundw
              case rel => exact ⟨q + 1, by omega, by omega, by go_num, Hhfin.out, below_tr hb hb1⟩
              case measure => simp [intOf] <;> omega
          · obtain ⟨j, rfl⟩ := Nat.exists_eq_succ_of_ne_zero hj0
            have hd := vval_down hql (show j < q by omega)
            have bd := vval_bd l q (j + 1) hq7 (by omega)
            have i0 : 0 ≤ (j : Int) := by omega
            have i1 : (j : Int) < (l.length : Int) := by omega
            obtain ⟨b, hb'⟩ : ∃ b, l[j] = b := ⟨_, rfl⟩
            have hb8 := b.toNat_lt
            rw [hb'] at hd
            generalize hf : vval ((l.take q).drop (j + 1)) = f at *
            clear hf hj0
            have Hhd := Lib.hid hd; clear hd
            go_wp2_with fail
            go_round
            case rel => exact ⟨j, by omega, rfl, by rw [Hhd.out]; go_num⟩
            case measure => simp [intOf] <;> omega
      · have hfin : decV l = (0, 0) := by rw [← hv]; exact vfind_past _ _ _ (by omega)
        have d2 : decide (q ≤ l.length) = false := by rw [decide_eq_false_iff_not]; omega
        have Hhv := Lib.hid hv; clear hv; have Hhfin := Lib.hid hfin; clear hfin
        go_wp2_with fail
        go_ret2
        exact ⟨by rw [Hhfin.out]; rfl, hb⟩
    · obtain rfl : q = 8 := by omega
      have hfin : decV l = (0, 0) := by rw [← hv]; rfl
      have Hhv := Lib.hid hv; clear hv; have Hhfin := Lib.hid hfin; clear hfin
      go_wp2_with fail
      go_ret2
      exact ⟨by rw [Hhfin.out]; rfl, hb⟩

theorem u8_mask127 (b : UInt8) : bits .and .u8 (b.toNat : Int) 127 = (b.toNat : Int) % 128 := by
  have h := u8_and_nat b.toNat 127 b.toNat_lt (by omega)
  rw [nat_mask7] at h
  exact h

theorem or_nat64 (a b : Nat) (ha : a < 4611686018427387904) (hb : b < 4611686018427387904) : bits .or .i64 (a : Int) (b : Int) = ((a ||| b : Nat) : Int) := by
  have hx : a ||| b < 2 ^ 62 := Nat.or_lt_two_pow (by omega) (by omega)
  have h1 : ∀ c : Nat, c < 4611686018427387904 → (BitVec.ofInt 64 (c : Int)).toNat = c := by
    intro c hc
    rw [BitVec.ofInt_natCast, BitVec.toNat_ofNat]; exact Nat.mod_eq_of_lt (by omega)
  show IntKind.i64.wrap ((BitVec.ofInt 64 (a : Int) ||| BitVec.ofInt 64 (b : Int)).toNat : Int) = _
  rw [BitVec.toNat_or, h1 a ha, h1 b hb, IntKind.wrap_i64]
  omega
theorem or128 (f x k : Nat) (hk : k ≤ 6) (hf : f < 128 ^ k) : bits .or .i64 (f : Int) (wrap64 ((x : Int) % 128 * 2 ^ (7 * k))) = ((f + x % 128 * 128 ^ k : Nat) : Int) := by
  have e1 : (2 : Nat) ^ (7 * k) = 128 ^ k := by rw [Nat.pow_mul]
  have e2 : (x : Int) % 128 * 2 ^ (7 * k) = ((x % 128 * 128 ^ k : Nat) : Int) := by rw [← e1]; simp
  have hp : 128 ^ k ≤ 4398046511104 := Nat.le_trans (Nat.pow_le_pow_right (by omega) hk) (by decide)
  have hb : x % 128 * 128 ^ k ≤ 127 * 4398046511104 := Nat.mul_le_mul (by omega) hp
  rw [e2, IntWalk.wrap64_in _ (by omega), or_nat64 _ _ (by omega) (by omega), Nat.or_comm, nat_join (7 * k) _ _ (by rw [e1]; exact Nat.mul_mod_left _ _) (by rw [e1]; exact hf), Nat.add_comm]
theorem vval_up {l : List UInt8} {k : Nat} (h : k < l.length) : vval (l.take (k + 1)) = vval (l.take k) + l[k].toNat % 128 * 128 ^ k := by
  rw [List.take_succ_eq_append_getElem h, vval_snoc, List.length_take, Nat.min_eq_left (by omega)]
theorem take_all {l : List UInt8} {k : Nat} (h : k < l.length) (ha : ∀ x ∈ l.take k, 128 ≤ x.toNat) (hb : 128 ≤ l[k].toNat) : ∀ x ∈ l.take (k + 1), 128 ≤ x.toNat := by
  intro x hx
  rw [List.take_succ_eq_append_getElem h, List.mem_append, List.mem_singleton] at hx
  rcases hx with hx | rfl
  · exact ha x hx
  · exact hb
theorem vgo_on {l : List UInt8} {k : Nat} (h : k < l.length) (h7 : k < 7) (ha : ∀ x ∈ l.take k, 128 ≤ x.toNat) (hb : 128 ≤ l[k].toNat) (hv : vfind l (7 - k) (k + 1) = decV l) : vfind l (7 - (k + 1)) (k + 1 + 1) = decV l := by
  rw [← hv, show 7 - k = (7 - (k + 1)) + 1 by omega, vfind, if_neg]
  rintro ⟨_, hc⟩
  rw [List.take_succ_eq_append_getElem h, canon_snoc _ _ ha, show decide (l[k].toNat < 128) = false by rw [decide_eq_false_iff_not]; omega] at hc
  cases hc
theorem vgo_hit {l : List UInt8} {k : Nat} (h : k < l.length) (h7 : k < 7) (ha : ∀ x ∈ l.take k, 128 ≤ x.toNat) (hb : l[k].toNat < 128) (hz : k = 0 ∨ l[k].toNat ≠ 0) (hv : vfind l (7 - k) (k + 1) = decV l) : decV l = (vval (l.take (k + 1)), k + 1) := by
  rw [← hv, show 7 - k = (7 - (k + 1)) + 1 by omega, vfind, if_pos]
  refine ⟨by omega, ?_⟩
  rw [List.take_succ_eq_append_getElem h, canon_snoc _ _ ha, Bool.and_eq_true, Bool.or_eq_true, decide_eq_true_eq, decide_eq_true_eq]
  refine ⟨hb, ?_⟩
  rcases hz with rfl | hz
  · left; rfl
  · right; exact hz
theorem vgo_miss {l : List UInt8} {k : Nat} (h : k < l.length) (h7 : k < 7) (ha : ∀ x ∈ l.take k, 128 ≤ x.toNat) (hb : l[k].toNat < 128) (hz : k ≠ 0 ∧ l[k].toNat = 0) (hv : vfind l (7 - k) (k + 1) = decV l) : decV l = (0, 0) := by
  rw [← hv]
  refine vfind_none _ _ _ fun j hj hl => ?_
  by_cases he : j = k + 1
  · subst he
    rw [List.take_succ_eq_append_getElem h, canon_snoc _ _ ha]
    have : (l.take k).isEmpty = false := by
      cases ht : l.take k with
      | nil => have := congrArg List.length ht; rw [List.length_take, List.length_nil] at this; omega
      | cons a t => rfl
    rw [this, hz.2]; simp
  · have e : l.take j = l.take k ++ l[k] :: ((l.drop (k + 1)).take (j - (k + 1))) := by
      obtain ⟨m, rfl⟩ : ∃ m, j = (k + 1) + m := ⟨j - (k + 1), by omega⟩
      rw [List.take_add, List.take_succ_eq_append_getElem h, List.append_assoc, Nat.add_sub_cancel_left]; rfl
    rw [e]
    refine canon_stop _ _ _ hb fun h0 => ?_
    have := congrArg List.length h0
    rw [List.length_take, List.length_drop, List.length_nil] at this
    omega

theorem DecodeVarint_i (l : List UInt8) (hl : l.length ≤ 1048576) (w : World) :
    Calls Try.prog 31 #[.string ⟨l.toArray⟩] w (Ret (.tuple #[.int .i64 ((decV l).1 : Int), .int .i64 ((decV l).2 : Int)]) w) := by
  go_enter Try.func31, Try.ntmps31
  go_wp2_with fail
  go_loop [4, 5] (fun n i => ∃ k : Nat, k ≤ 7 ∧ k ≤ l.length ∧ i = .int .i64 k ∧ n = .int .i64 (vval (l.take k)) ∧ vfind l (7 - k) (k + 1) = decV l ∧ ∀ x ∈ l.take k, 128 ≤ x.toNat) (fun _ i => (8 - intOf i).toNat)
  case atStart => exact ⟨0, by omega, by omega, rfl, rfl, rfl, fun x hx => by simp at hx⟩
  case round =>
    obtain ⟨k, h7, hk, rfl, rfl, hv, hall⟩ := hrel
    by_cases hlt : k < 7 ∧ k < l.length
    · have hkl := hlt.2
      have g0 : (k : Int) < 7 := by omega
      have g1 : (k : Int) < (l.length : Int) := by omega
      have c1 := fun hb => vgo_on hkl hlt.1 hall hb hv
      have c2 := fun hb hz => vgo_hit hkl hlt.1 hall hb hz hv
      have c3 := fun hb hz => vgo_miss hkl hlt.1 hall hb hz hv
      have c4 := take_all hkl hall
      have hu := vval_up hkl
      have hbd := vval_bd7 l (k + 1) (by omega)
      have m0 := u8_mask127 l[k]
      have m1 := or128 (vval (l.take k)) l[k].toNat k (by omega) (by have := vval_lt (l.take k); rwa [List.length_take, Nat.min_eq_left (by omega)] at this)
      rw [← hu] at m1
      obtain ⟨b, hb⟩ : ∃ b, l[k] = b := ⟨_, rfl⟩
      have hb8 := b.toNat_lt
      rw [hb] at m0 m1 c1 c2 c3 c4
      have Hhv := Lib.hid hv; clear hv; have Hhall := Lib.hid hall; clear hall; have Hhu := Lib.hid hu; clear hu; have Hc1 := Lib.hid c1; clear c1; have Hc2 := Lib.hid c2; clear c2; have Hc3 := Lib.hid c3; clear c3; have Hc4 := Lib.hid c4; clear c4
      generalize hf : vval (l.take k) = f at *
      generalize hg : vval (l.take (k + 1)) = g at *
      clear hlt hf
      have Hhg := Lib.hid hg; clear hg
      by_cases h1 : (b.toNat : Int) < 128
      · have d1 : decide ((b.toNat : Int) < 128) = true := by rw [decide_eq_true_eq]; omega
        have d2 : decide ((562949953421311 : Int) < (g : Int)) = false := by rw [decide_eq_false_iff_not]; omega
        by_cases hz : k ≠ 0 ∧ b.toNat = 0
        · have hfin := Hc3.out (by omega) hz
          have d3 : decide (0 < k) = true := by rw [decide_eq_true_eq]; omega
          have d4 : ((b.toNat : Int) == 0) = true := by rw [beq_iff_eq]; omega
          have d5 : (b.toNat == 0) = true := by rw [beq_iff_eq]; omega
          have Hhfin := Lib.hid hfin; clear hfin; have Hhz := Lib.hid hz; clear hz
          clear h1
          go_wp2_with fail
          go_ret2
          exact ⟨by rw [Hhfin.out]; rfl, rfl⟩
        · have hfin := Hc2.out (by omega) (by omega)
          by_cases hk0 : 0 < k
          · have d3 : decide (0 < k) = true := by rw [decide_eq_true_eq]; omega
            have d4 : ((b.toNat : Int) == 0) = false := by rw [beq_eq_false_iff_ne]; omega
            have d5 : (b.toNat == 0) = false := by rw [beq_eq_false_iff_ne]; omega
            have Hhfin := Lib.hid hfin; clear hfin; have Hhz := Lib.hid hz; clear hz
            clear h1 hk0
            go_wp2_with fail
            go_ret2
            exact ⟨by rw [Hhfin.out]; rfl, rfl⟩
          · have d3 : decide (0 < k) = false := by rw [decide_eq_false_iff_not]; omega
            have Hhfin := Lib.hid hfin; clear hfin; have Hhz := Lib.hid hz; clear hz
            clear h1 hk0
            go_wp2_with fail
            go_ret2
            exact ⟨by rw [Hhfin.out]; rfl, rfl⟩
      · have d1 : decide ((b.toNat : Int) < 128) = false := by rw [decide_eq_false_iff_not]; omega
        have e1 := Hc1.out (by omega)
        have e2 := Hc4.out (by omega)
        have He1 := Lib.hid e1; clear e1; have He2 := Lib.hid e2; clear e2
        clear h1
        go_wp2_with fail
        go_round
        case rel => exact ⟨k + 1, by omega, by omega, by go_num, by rw [Hhg.out], He1.out, He2.out⟩
        case measure => simp [intOf] <;> omega
    · have hfin : decV l = (0, 0) := by
        rw [← hv]
        by_cases h : k = 7
        · subst h; rfl
        · exact vfind_past _ _ _ (by omega)
      have Hhv := Lib.hid hv; clear hv; have Hhall := Lib.hid hall; clear hall; have Hhfin := Lib.hid hfin; clear hfin
      by_cases h : k = 7
      · subst h
        go_wp2_with fail
        all_goals (go_ret2; exact ⟨by rw [Hhfin.out]; rfl, rfl⟩)
      · have g1 : ¬ (k : Int) < (l.length : Int) := by omega
        have g2 : (k : Int) < 7 := by omega
        go_wp2_with fail
        all_goals (go_ret2; exact ⟨by rw [Hhfin.out]; rfl, rfl⟩)
end Go.Proofs.Ythbliiimjkkemaa
