/- Laws of encoded rows. No program in sight. -/
import Derived.Test.YtbajnecahojcfaaRowE
namespace Go.Proofs.Ytbajnecahojcfaa
set_option maxHeartbeats 1000000

theorem bytesLess_lt : ∀ (x y : List UInt8), Op.bytesLess x y = decide (x < y)
  | [], [] => by
    have : ¬ ([] : List UInt8) < [] := List.not_lt_nil _
    simp [Op.bytesLess, this]
  | [], b :: y => by
    have : ([] : List UInt8) < b :: y := List.nil_lt_cons _ _
    simp [Op.bytesLess, this]
  | a :: x, [] => by
    have : ¬ (a :: x) < [] := List.not_lt_nil _
    simp [Op.bytesLess, this]
  | a :: x, b :: y => by
    rw [Op.bytesLess, bytesLess_lt x y, Bool.eq_iff_iff]
    simp only [Bool.or_eq_true, Bool.and_eq_true, decide_eq_true_eq, beq_iff_eq, List.cons_lt_cons_iff]
theorem enc_lt {x y : Int} (hx : 0 ≤ x ∧ x ≤ 99) (hy : 0 ≤ y ∧ y ≤ 99) : UInt8.ofNat (x + 1).toNat < UInt8.ofNat (y + 1).toNat ↔ x < y := by
  rw [UInt8.lt_iff_toNat_lt, UInt8.toNat_ofNat', UInt8.toNat_ofNat']
  omega
theorem enc_eq {x y : Int} (hx : 0 ≤ x ∧ x ≤ 99) (hy : 0 ≤ y ∧ y ≤ 99) : UInt8.ofNat (x + 1).toNat = UInt8.ofNat (y + 1).toNat ↔ x = y := by
  rw [← UInt8.toNat_inj, UInt8.toNat_ofNat', UInt8.toNat_ofNat']
  omega
theorem encL_cons (x : Int) (r : List Int) : encL (x :: r) = UInt8.ofNat (x + 1).toNat :: encL r := rfl
theorem decL_cons (b : UInt8) (l : List UInt8) : decL (b :: l) = ((b.toNat : Int) - 1) :: decL l := rfl
theorem vrow_cons {x : Int} {r : List Int} (h : vrow (x :: r) = true) : (0 ≤ x ∧ x ≤ 99) ∧ vrow r = true := ⟨vrow_yes h x (by simp), vrow_of fun y hy => vrow_yes h y (by simp [hy])⟩
/-- Encoded rows are ordered as the rows are. -/
theorem enc_order : ∀ {a b : List Int}, vrow a = true → vrow b = true → (encL a < encL b ↔ cmpRow a b < 0)
  | [], [], _, _ => by
    rw [cmpRow_nn]
    exact ⟨fun h => absurd h (List.not_lt_nil _), fun h => by omega⟩
  | [], y :: b, _, _ => by
    rw [cmpRow_nc, encL_cons]
    exact ⟨fun _ => by omega, fun _ => List.nil_lt_cons _ _⟩
  | x :: a, [], _, _ => by
    rw [cmpRow_cn]
    exact ⟨fun h => absurd h (List.not_lt_nil _), fun h => by omega⟩
  | x :: a, y :: b, ha, hb => by
    obtain ⟨hx, ha⟩ := vrow_cons ha
    obtain ⟨hy, hb⟩ := vrow_cons hb
    rw [encL_cons, encL_cons, List.cons_lt_cons_iff, enc_lt hx hy, enc_eq hx hy, enc_order ha hb, cmpRow_cc]
    by_cases h1 : x < y
    · rw [if_pos h1]; exact ⟨fun _ => by omega, fun _ => .inl h1⟩
    · rw [if_neg h1]
      by_cases h2 : y < x
      · rw [if_pos h2]; exact ⟨fun h => by omega, fun h => by omega⟩
      · rw [if_neg h2]
        exact ⟨fun h => by rcases h with h | h; omega; exact h.2, fun h => .inr ⟨by omega, h⟩⟩
theorem encL_dec {r : List Int} (h : vrow r = true) : (encL r).all bOk = true ∧ decL (encL r) = r := by
  induction r with
  | nil => exact ⟨rfl, rfl⟩
  | cons x r ih =>
    obtain ⟨hx, hr⟩ := vrow_cons h
    obtain ⟨h1, h2⟩ := ih hr
    have e : (UInt8.ofNat (x + 1).toNat).toNat = (x + 1).toNat := by rw [UInt8.toNat_ofNat']; omega
    rw [encL_cons]
    constructor
    · rw [List.all_cons, h1, Bool.and_true]
      unfold bOk
      rw [decide_eq_true_eq, e]; omega
    · rw [decL_cons, h2, e]
      congr 1
      omega
theorem encL_inj {a b : List Int} (ha : vrow a = true) (hb : vrow b = true) (h : encL a = encL b) : a = b := by rw [← (encL_dec ha).2, ← (encL_dec hb).2, h]
theorem enc_same {a b : List Int} (ha : vrow a = true) (hb : vrow b = true) : encL a = encL b ↔ cmpRow a b = 0 :=
  ⟨fun h => by rw [encL_inj ha hb h, cmpRow_self], fun h => by rw [cmpRow_eq h]⟩
theorem dec_enc {r : List Int} (h : vrow r = true) : decRowOk (encRow r) (r.length : Int) = true ∧ decRow (encRow r) (r.length : Int) = r := by
  have h1 : decRowOk (encRow r) (r.length : Int) = true := by
    unfold decRowOk
    rw [encRow_yes h, (encL_dec h).1, encL_len]
    simp
  refine ⟨h1, ?_⟩
  rw [decRow_yes h1, encRow_yes h, (encL_dec h).2]
theorem decL_enc {l : List UInt8} (h : l.all bOk = true) : vrow (decL l) = true ∧ encL (decL l) = l := by
  induction l with
  | nil => exact ⟨rfl, rfl⟩
  | cons b l ih =>
    rw [List.all_cons, Bool.and_eq_true] at h
    obtain ⟨h1, h2⟩ := ih h.2
    have hb := h.1
    unfold bOk at hb
    rw [decide_eq_true_eq] at hb
    rw [decL_cons]
    constructor
    · refine vrow_of fun y hy => ?_
      rcases List.mem_cons.1 hy with rfl | hy
      · omega
      · exact vrow_yes h1 y hy
    · rw [encL_cons, h2]
      congr 1
      rw [← UInt8.toNat_inj, UInt8.toNat_ofNat']
      omega
theorem enc_dec {l : List UInt8} {n : Int} (h : decRowOk l n = true) : encRow (decRow l n) = l := by
  rw [decRow_yes h]
  unfold decRowOk at h
  rw [Bool.and_eq_true] at h
  obtain ⟨h1, h2⟩ := decL_enc h.2
  rw [encRow_yes h1, h2]
/-- The first value. -/
theorem dec_first {x : Int} {r : List Int} (h : vrow (x :: r) = true) : decOk (encRow (x :: r)) 0 = true ∧ decVal (encRow (x :: r)) 0 = x ∧ (encRow (x :: r)).take 1 = encVal x := by
  obtain ⟨hx, hr⟩ := vrow_cons h
  have e : (UInt8.ofNat (x + 1).toNat).toNat = (x + 1).toNat := by rw [UInt8.toNat_ofNat']; omega
  rw [encRow_yes h, encL_cons]
  have h1 : bOk (UInt8.ofNat (x + 1).toNat) = true := by unfold bOk; rw [decide_eq_true_eq, e]; omega
  have h0 : 0 < (UInt8.ofNat (x + 1).toNat :: encL r).length := by simp
  have d1 := dec_at h0
  have d2 := decV_at h0 h1
  simp only [List.getElem_cons_zero] at d1 d2
  refine ⟨d1.trans h1, d2.trans (by rw [e]; omega), ?_⟩
  unfold encVal
  rw [if_pos hx]; rfl
theorem dec_none (r : List Int) (h : r.length = 0) : decOk (encRow r) 0 = false := by
  rw [List.length_eq_zero_iff.1 h]
  decide
end Go.Proofs.Ytbajnecahojcfaa
