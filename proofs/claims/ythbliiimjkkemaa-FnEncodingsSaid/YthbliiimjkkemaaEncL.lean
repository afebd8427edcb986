/- What the encodings and their decoders say of one another: plain Lean. -/
import Derived.Test.YthbliiimjkkemaaDecVarint
import Derived.Test.YthbliiimjkkemaaFixed
import Derived.Test.YthbliiimjkkemaaDecHex
import Derived.Test.YthbliiimjkkemaaParse
namespace Go.Proofs.Ythbliiimjkkemaa
open Go.RowKit Go.Sort
set_option maxHeartbeats 400000
set_option maxRecDepth 100000
theorem vval_varint : ∀ (n : Nat), vval (varint n) = n := by
  intro n
  induction n using Nat.strongRecOn with
  | _ n ih =>
    by_cases h : n < 128
    · rw [varint_small h]
      simp only [vval, UInt8.toNat_ofNat']
      omega
    · rw [varint_big h]
      have := ih (n / 128) (by omega)
      simp only [vval, UInt8.toNat_ofNat', this]
      omega
theorem varint_cont : ∀ (n k : Nat), k < (varint n).length → ∀ x ∈ (varint n).take k, 128 ≤ x.toNat := by
  intro n
  induction n using Nat.strongRecOn with
  | _ n ih =>
    intro k hk x hx
    by_cases h : n < 128
    · rw [varint_small h] at hk hx
      have : k = 0 := by simp at hk; omega
      subst this
      simp at hx
    · rw [varint_big h] at hk hx
      cases k with
      | zero => simp at hx
      | succ k =>
        rw [List.take_succ_cons, List.mem_cons] at hx
        rcases hx with rfl | hx
        · rw [UInt8.toNat_ofNat']; omega
        · exact ih (n / 128) (by omega) k (by simp at hk; omega) x hx
theorem canon_varint (n : Nat) : canon (varint n) = true := by
  have h := varint_pos n
  refine (canon_iff _ (fun e => by rw [e] at h; simp at h)).1 ?_
  rw [vval_varint]
theorem canon_all : ∀ (t : List UInt8), (∀ x ∈ t, 128 ≤ x.toNat) → canon t = false
  | [], _ => rfl
  | [b], h => by
    have := h b (by simp)
    rw [canon, decide_eq_false_iff_not]; omega
  | b :: c :: r, h => by
    rw [canon, canon_all (c :: r) (fun x hx => h x (List.mem_cons_of_mem _ hx)), Bool.and_false]
theorem vfind_at (l : List UInt8) (m : Nat) (hm : m ≤ l.length) (hc : canon (l.take m) = true) : ∀ (f k : Nat), k ≤ m → m < k + f → (∀ j, k ≤ j → j < m → canon (l.take j) = false) → vfind l f k = (vval (l.take m), m)
  | 0, k, h1, h2, _ => by omega
  | f + 1, k, h1, h2, h3 => by
    rw [vfind]
    by_cases e : k = m
    · subst e; rw [if_pos ⟨hm, hc⟩]
    · rw [if_neg (by rintro ⟨_, h⟩; rw [h3 k (Nat.le_refl _) (by omega)] at h; cases h)]
      exact vfind_at l m hm hc f (k + 1) (by omega) (by omega) (fun j hj hl => h3 j (by omega) hl)
theorem decV_enc {n : Nat} (h : n ≤ 562949953421311) (t : List UInt8) : decV (varint n ++ t) = (n, (varint n).length) := by
  have h7 := varint_len7 h
  have h1 := varint_pos n
  have e : (varint n ++ t).take (varint n).length = varint n := by simp
  have := vfind_at (varint n ++ t) (varint n).length (by simp) (by rw [e]; exact canon_varint n) 7 1 h1 (by omega) (fun j hj hl => by
    refine canon_all _ fun x hx => varint_cont n j hl x ?_
    rwa [List.take_append_of_le_length (by omega)] at hx)
  unfold decV
  rw [this, e, vval_varint]
theorem vfind_says (l : List UInt8) : ∀ (f k : Nat), vfind l f k = (0, 0) ∨ ∃ m, k ≤ m ∧ m < k + f ∧ m ≤ l.length ∧ canon (l.take m) = true ∧ vfind l f k = (vval (l.take m), m)
  | 0, _ => .inl rfl
  | f + 1, k => by
    rw [vfind]
    split
    · rename_i h
      exact .inr ⟨k, Nat.le_refl _, by omega, h.1, h.2, rfl⟩
    · rcases vfind_says l f (k + 1) with h | ⟨m, h1, h2, h3⟩
      · exact .inl h
      · exact .inr ⟨m, by omega, by omega, h3⟩
/-- What is accepted is what would have been written. -/
theorem decV_back (l : List UInt8) : decV l = (0, 0) ∨ ∃ v j : Nat, decV l = (v, j) ∧ 1 ≤ j ∧ j ≤ l.length ∧ encVarint (v : Int) = l.take j := by
  rcases vfind_says l 7 1 with h | ⟨m, h1, h2, h3, h4, h5⟩
  · exact .inl h
  · refine .inr ⟨_, m, h5, h1, h3, ?_⟩
    rw [enc_v _ (vval_bd7 l m (by omega))]
    exact (canon_iff _ (fun e => by have := congrArg List.length e; rw [List.length_take, List.length_nil] at this; omega)).2 h4
theorem encVarint_no {n : Int} (h : n < 0 ∨ 562949953421311 < n) : encVarint n = [] := if_pos h
theorem encVarint_yes {n : Int} (h : ¬ (n < 0 ∨ 562949953421311 < n)) : encVarint n = varint n.toNat := if_neg h
/-- What FnEncodings asks of the numbers of changing length. -/
theorem law_varint (n : Int) (t : List UInt8) : (encVarint n = [] ∧ (n < 0 ∨ 562949953421311 < n)) ∨ (encVarint n ≠ [] ∧ 0 ≤ n ∧ n ≤ 562949953421311 ∧ (encVarint n).length ≤ 7 ∧ decV (encVarint n ++ t) = (n.toNat, (encVarint n).length)) := by
  by_cases h : n < 0 ∨ 562949953421311 < n
  · exact .inl ⟨encVarint_no h, h⟩
  · refine .inr ?_
    rw [encVarint_yes h]
    have h1 := varint_pos n.toNat
    exact ⟨fun e => by rw [e] at h1; simp at h1, by omega, by omega, varint_len7 (by omega), decV_enc (by omega) t⟩

theorem fixVal_bytes : ∀ (w n : Nat), fixVal (fixBytes w n) = n % 256 ^ w
  | 0, n => by simp [fixBytes, fixVal, Nat.mod_one]
  | w + 1, n => by
    have e : n % 256 ^ (w + 1) = n % 256 + 256 * (n / 256 % 256 ^ w) := by rw [Nat.pow_succ, Nat.mul_comm (256 ^ w) 256, Nat.mod_mul]
    rw [fixBytes, fixVal_snoc, fixVal_bytes w (n / 256), UInt8.toNat_ofNat', e]
    omega
theorem law_fixed (n : Int) (hn : n ≤ 9223372036854775807) (t : List UInt8) : (encFix n 7 = [] ∧ (n < 0 ∨ 72057594037927936 ≤ n)) ∨ (encFix n 7 ≠ [] ∧ 0 ≤ n ∧ n < 72057594037927936 ∧ (encFix n 7).length = 7 ∧ decFixOk (encFix n 7 ++ t) 7 = true ∧ decFix (encFix n 7 ++ t) 7 = n) := by
  by_cases h : 0 ≤ n ∧ n < 72057594037927936
  · refine .inr ?_
    have e1 : encFixOk n 7 = true := by
      unfold encFixOk
      rw [decide_eq_true_eq]
      refine ⟨by omega, by omega, h.1, ?_⟩
      show n.toNat / 72057594037927936 = 0
      omega
    have e2 : encFix n 7 = fixBytes 7 n.toNat := by unfold encFix; rw [if_pos e1]; rfl
    have hl := fixBytes_len 7 n.toNat
    have e3 : decFixOk (fixBytes 7 n.toNat ++ t) 7 = true := by
      unfold decFixOk
      rw [decide_eq_true_eq, List.length_append, hl]
      omega
    refine ⟨?_, h.1, h.2, by rw [e2]; exact hl, by rw [e2]; exact e3, ?_⟩
    · rw [e2]; intro e; rw [e] at hl; simp at hl
    · unfold decFix
      rw [e2, if_pos e3]
      have e4 : (fixBytes 7 n.toNat ++ t).take (7 : Int).toNat = fixBytes 7 n.toNat := by
        rw [show ((7 : Int).toNat) = (fixBytes 7 n.toNat).length by rw [hl]; rfl]
        simp
      rw [e4, fixVal_bytes]
      show ((n.toNat % 72057594037927936 : Nat) : Int) = n
      omega
  · refine .inl ⟨?_, by omega⟩
    unfold encFix
    rw [if_neg]
    intro e
    unfold encFixOk at e
    rw [decide_eq_true_eq] at e
    have e3 := e.2.2.2
    have : n.toNat / 72057594037927936 = 0 := e3
    omega
theorem digs_long : ∀ (k m : Nat), 10 ^ k ≤ m → k + 1 ≤ (digs m).length
  | 0, m, _ => digs_pos m
  | k + 1, m, h => by
    have h10 : 10 ≤ m := by
      have : 1 ≤ 10 ^ k := Nat.one_le_pow _ _ (by omega)
      rw [Nat.pow_succ] at h
      omega
    rw [digs_big (by omega), List.length_append]
    have := digs_long k (m / 10) (by rw [Nat.pow_succ] at h; omega)
    simp
    omega
theorem digCnt_fmt (n : Int) : digCnt (fmtInt n) = (digs n.natAbs).length := by
  unfold fmtInt
  split
  · rw [digCnt_cons _ _ (by decide), digCnt_full _ (digs_all _)]
  · rw [digCnt_full _ (digs_all _)]
theorem law_parse (n : Int) : (parseOk (fmtInt n) = true ∧ parseV (fmtInt n) = n ∧ -1000000000 < n ∧ n < 1000000000) ∨ (parseOk (fmtInt n) = false ∧ ¬ (-1000000000 < n ∧ n < 1000000000)) := by
  by_cases h : -1000000000 < n ∧ n < 1000000000
  · have h1 : (digs n.natAbs).length ≤ 9 := digs_len 8 _ (by omega)
    have h2 : (fmtInt n).length ≤ 10 := by
      unfold fmtInt
      split
      · rw [List.length_cons]; omega
      · omega
    have h3 : parseOk (fmtInt n) = true := parse_yes (by rw [digCnt_fmt]; exact h1) h2 (by rw [pInt_fmt])
    refine .inl ⟨h3, ?_, h⟩
    unfold parseV
    rw [if_pos h3, pInt_fmt]
  · refine .inr ⟨parse_no ?_, h⟩
    rintro ⟨h1, _⟩
    rw [digCnt_fmt] at h1
    have := digs_long 9 n.natAbs (by omega)
    omega
theorem dec_encHex : ∀ (l : List UInt8), decHexL (encHex l) = some l
  | [] => rfl
  | b :: r => by
    have hb := b.toNat_lt
    have h1 : hexV (hexd (b.toNat / 16)) = ((b.toNat / 16 : Nat) : Int) := hexN_hexd _ (by omega)
    have h2 : hexV (hexd (b.toNat % 16)) = ((b.toNat % 16 : Nat) : Int) := hexN_hexd _ (by omega)
    rw [encHex_cons, decHexL, h1, h2, if_neg (by omega), dec_encHex r]
    have : UInt8.ofNat (16 * ((b.toNat / 16 : Nat) : Int) + ((b.toNat % 16 : Nat) : Int)).toNat = b := by
      rw [← UInt8.toNat_inj, UInt8.toNat_ofNat']
      omega
    rw [this]
    rfl
theorem law_hex (l : List UInt8) : decHexB (encHex l) = true ∧ decHexS (encHex l) = l := by
  unfold decHexB decHexS
  rw [dec_encHex]
  exact ⟨rfl, rfl⟩
end Go.Proofs.Ythbliiimjkkemaa
