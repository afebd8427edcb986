/- Decimal digits and what they say: plain Lean. -/
import Derived.Test.YthbliiimjkkemaaDecimal
namespace Go.Proofs.Ythbliiimjkkemaa
open Go.RowKit
set_option maxHeartbeats 400000
set_option maxRecDepth 100000

def isDig (b : UInt8) : Bool := decide (48 ≤ b.toNat) && decide (b.toNat ≤ 57)
def digVal (l : List UInt8) : Nat := l.foldl (fun n b => if isDig b then n * 10 + (b.toNat - 48) else n) 0
def digCnt (l : List UInt8) : Nat := l.foldl (fun n b => if isDig b then n + 1 else n) 0
theorem isDig_yes {b : UInt8} (h : (48 : Int) ≤ b.toNat) (h' : (b.toNat : Int) ≤ 57) : isDig b = true := by
  unfold isDig; rw [Bool.and_eq_true, decide_eq_true_eq, decide_eq_true_eq]; omega
theorem isDig_no {b : UInt8} (h : ¬ ((48 : Int) ≤ b.toNat ∧ (b.toNat : Int) ≤ 57)) : isDig b = false := by
  unfold isDig; rw [Bool.and_eq_false_iff, decide_eq_false_iff_not, decide_eq_false_iff_not]; omega
theorem digVal_snoc (l : List UInt8) (b : UInt8) : digVal (l ++ [b]) = if isDig b then digVal l * 10 + (b.toNat - 48) else digVal l := by simp [digVal]
theorem digCnt_snoc (l : List UInt8) (b : UInt8) : digCnt (l ++ [b]) = if isDig b then digCnt l + 1 else digCnt l := by simp [digCnt]
theorem digVal_take {l : List UInt8} {k : Nat} (h : k < l.length) : digVal (l.take (k + 1)) = if isDig l[k] then digVal (l.take k) * 10 + (l[k].toNat - 48) else digVal (l.take k) := by
  rw [List.take_succ_eq_append_getElem h, digVal_snoc]
theorem digCnt_take {l : List UInt8} {k : Nat} (h : k < l.length) : digCnt (l.take (k + 1)) = if isDig l[k] then digCnt (l.take k) + 1 else digCnt (l.take k) := by
  rw [List.take_succ_eq_append_getElem h, digCnt_snoc]
theorem dig_le {b : UInt8} (h : isDig b = true) : 48 ≤ b.toNat ∧ b.toNat ≤ 57 := by
  unfold isDig at h; rw [Bool.and_eq_true, decide_eq_true_eq, decide_eq_true_eq] at h; exact h
theorem digVal_lt : ∀ (k : Nat) (l : List UInt8), l.length ≤ k → digVal l < 10 ^ k := by
  intro k
  induction k with
  | zero => intro l h; have : l = [] := List.eq_nil_of_length_eq_zero (by omega); subst this; decide
  | succ k ih =>
    intro l h
    rcases List.eq_nil_or_concat l with rfl | ⟨l', b, rfl⟩
    · exact Nat.lt_of_lt_of_le (by decide : digVal [] < 1) (Nat.one_le_pow _ _ (by omega))
    · rw [List.concat_eq_append, List.length_append] at h
      have h1 := ih l' (by simp at h; omega)
      rw [List.concat_eq_append, digVal_snoc, Nat.pow_succ]
      split
      · rename_i hb
        have := dig_le hb
        omega
      · omega
theorem digCnt_le (l : List UInt8) : digCnt l ≤ l.length := by
  rcases List.eq_nil_or_concat l with rfl | ⟨l', b, rfl⟩
  · decide
  · rw [List.concat_eq_append, digCnt_snoc, List.length_append]
    have := digCnt_le l'
    split <;> simp <;> omega
termination_by l.length
decreasing_by simp_all [List.concat_eq_append]

/-- The number that a text's digits spell, with its sign. -/
def pInt (l : List UInt8) : Int := if l.head? = some 45 then -(digVal l : Int) else (digVal l : Int)
def parseOk (l : List UInt8) : Bool := decide (digCnt l ≤ 9) && decide (l.length ≤ 10) && (fmtInt (pInt l) == l)
def parseV (l : List UInt8) : Int := if parseOk l then pInt l else 0

/-- digits -/
theorem digs_all (m : Nat) : ∀ b ∈ digs m, isDig b = true := by
  intro b hb
  rw [digs] at hb
  split at hb
  · simp at hb
    subst hb
    rename_i h
    exact isDig_yes (by simp; omega) (by simp; omega)
  · rename_i h
    rw [List.mem_append] at hb
    rcases hb with hb | hb
    · exact digs_all (m / 10) b hb
    · rw [List.mem_singleton] at hb
      subst hb
      have := dch_val m
      exact isDig_yes (by omega) (by omega)
termination_by m
theorem digVal_all : ∀ (l : List UInt8) (b : UInt8), isDig b = false → digVal (b :: l) = digVal l := by
  intro l b h; simp [digVal, h]
theorem digCnt_cons (l : List UInt8) (b : UInt8) (h : isDig b = false) : digCnt (b :: l) = digCnt l := by simp [digCnt, h]
theorem digCnt_full (l : List UInt8) (h : ∀ b ∈ l, isDig b = true) : digCnt l = l.length := by
  rcases List.eq_nil_or_concat l with rfl | ⟨l', b, rfl⟩
  · rfl
  · rw [List.concat_eq_append] at h ⊢
    rw [digCnt_snoc, if_pos (h b (by simp)), digCnt_full l' (fun x hx => h x (by simp [hx]))]
    simp
termination_by l.length
decreasing_by simp_all [List.concat_eq_append]
theorem digVal_digs (m : Nat) : digVal (digs m) = m := by
  rw [digs]
  split
  · rename_i h
    have e : (UInt8.ofNat (48 + m)).toNat = 48 + m := by simp; omega
    have : isDig (UInt8.ofNat (48 + m)) = true := isDig_yes (by omega) (by omega)
    simp only [digVal, List.foldl_cons, List.foldl_nil, this, if_true, e]; omega
  · rename_i h
    have e := dch_val m
    rw [digVal_snoc, if_pos (isDig_yes (by omega) (by omega)), digVal_digs (m / 10), e]; omega
termination_by m
/-- What a text that is some number's format looks like. -/
theorem fmt_shape {l : List UInt8} {n : Int} (h : fmtInt n = l) : (∃ m, 1 ≤ m ∧ l = 45 :: digs m ∧ n = -(m : Int)) ∨ (∃ m, l = digs m ∧ n = (m : Int)) := by
  by_cases hn : n < 0
  · refine .inl ⟨n.natAbs, by omega, ?_, by omega⟩
    rw [← h, fmtInt, if_pos hn]
  · refine .inr ⟨n.natAbs, ?_, by omega⟩
    rw [← h, fmtInt, if_neg hn]
theorem digs_head (m : Nat) : (digs m).head? ≠ some 45 := by
  intro h
  have h1 := digs_all m 45 (by
    cases hd : digs m with
    | nil => rw [hd] at h; cases h
    | cons a t => rw [hd] at h; simp at h; rw [h]; simp)
  revert h1; decide
theorem pInt_fmt (n : Int) : pInt (fmtInt n) = n := by
  rcases fmt_shape (rfl : fmtInt n = fmtInt n) with ⟨m, hm, h1, h2⟩ | ⟨m, h1, h2⟩
  · rw [h1, pInt, if_pos (by rfl), digVal_all _ _ (by decide), digVal_digs, h2]
  · rw [h1, pInt, if_neg (digs_head m), digVal_digs, h2]
theorem fmt_inj {a b : Int} (h : fmtInt a = fmtInt b) : a = b := by rw [← pInt_fmt a, h, pInt_fmt]

theorem parse_yes {l : List UInt8} (h1 : digCnt l ≤ 9) (h2 : l.length ≤ 10) (h3 : fmtInt (pInt l) = l) : parseOk l = true := by
  unfold parseOk; simp [h1, h2, h3]
theorem parse_no {l : List UInt8} (h : ¬ (digCnt l ≤ 9 ∧ l.length ≤ 10 ∧ fmtInt (pInt l) = l)) : parseOk l = false := by
  unfold parseOk; rw [Bool.eq_false_iff]; intro hh; simp at hh; exact h ⟨hh.1.1, hh.1.2, hh.2⟩
theorem parse_ret_no {l : List UInt8} (h : parseOk l = false) : Ending.returned (.tuple #[.int .i64 0, .bool false]) = .returned (.tuple #[.int .i64 (parseV l), .bool (parseOk l)]) := by
  unfold parseV; rw [h]; rfl
theorem parse_ret_yes {l : List UInt8} (h : parseOk l = true) : Ending.returned (.tuple #[.int .i64 (pInt l), .bool true]) = .returned (.tuple #[.int .i64 (parseV l), .bool (parseOk l)]) := by
  unfold parseV; rw [h]; rfl
theorem pInt_bd (l : List UInt8) (h : l.length ≤ 10) : -10000000000 < pInt l ∧ pInt l < 10000000000 := by
  have := digVal_lt 10 l h
  unfold pInt; split <;> omega
theorem pInt_neg (r : List UInt8) : pInt (45 :: r) = -(digVal (45 :: r) : Int) := if_pos (by rfl)
theorem pInt_pos {x : UInt8} (h : ¬ x = 45) (r : List UInt8) : pInt (x :: r) = (digVal (x :: r) : Int) := if_neg (by simpa using h)
theorem u8_ne45 {x : UInt8} (h : ¬ x = 45) : ((x.toNat : Int) == 45) = false := by
  rw [beq_eq_false_iff_ne]; intro hh; apply h; rw [← UInt8.toNat_inj]; show x.toNat = 45; omega

theorem pInt_neg0 {l : List UInt8} (h : 0 < l.length) (hx : l[0] = 45) : pInt l = -(digVal l : Int) := by
  cases l with
  | nil => simp at h
  | cons x r => simp at hx; subst hx; exact pInt_neg r
theorem pInt_pos0 {l : List UInt8} (h : 0 < l.length) (hx : ¬ l[0] = 45) : pInt l = (digVal l : Int) := by
  cases l with
  | nil => simp at h
  | cons x r => exact pInt_pos hx r
theorem pInt_nil {l : List UInt8} (h : ¬ 0 < l.length) : pInt l = (digVal l : Int) := by
  have : l = [] := List.eq_nil_of_length_eq_zero (by omega)
  subst this; exact if_neg (by decide)

theorem dig_of_mem {D : List UInt8} {k : Nat} (h : ∀ b ∈ D.take k, isDig b = true) (hk : k < D.length) (hb : isDig D[k] = true) : ∀ b ∈ D.take (k + 1), isDig b = true := by
  intro b hm
  rw [List.take_succ_eq_append_getElem hk, List.mem_append, List.mem_singleton] at hm
  rcases hm with hm | rfl
  · exact h b hm
  · exact hb
def DPart (l D : List UInt8) : Prop := l = 45 :: D ∨ (l = D ∧ l.head? ≠ some 45)
theorem parse_D {l D : List UInt8} (hD : DPart l D) (h : parseOk l = true) : D ≠ [] ∧ D.length ≤ 9 ∧ ∀ b ∈ D, isDig b = true := by
  unfold parseOk at h
  simp only [Bool.and_eq_true, decide_eq_true_eq, beq_iff_eq] at h
  obtain ⟨⟨h1, h2⟩, h3⟩ := h
  have key : ∀ m, D = digs m → D ≠ [] ∧ ∀ b ∈ D, isDig b = true := by
    intro m hm
    subst hm
    exact ⟨fun e => by have := digs_pos m; rw [e] at this; simp at this, digs_all m⟩
  have hk : ∃ m, D = digs m := by
    rcases fmt_shape h3 with ⟨m, _, e, _⟩ | ⟨m, e, _⟩
    · rcases hD with hD | ⟨rfl, hh⟩
      · rw [hD] at e; exact ⟨m, (List.cons.inj e).2⟩
      · rw [e] at hh; exact absurd rfl hh
    · rcases hD with hD | ⟨rfl, hh⟩
      · exact absurd (by rw [← e, hD]; rfl) (digs_head m)
      · exact ⟨m, e⟩
  obtain ⟨m, hm⟩ := hk
  obtain ⟨k1, k2⟩ := key m hm
  refine ⟨k1, ?_, k2⟩
  rcases hD with hD | ⟨rfl, hh⟩
  · rw [hD, digCnt_cons _ _ (by decide), digCnt_full D k2] at h1; exact h1
  · rw [digCnt_full _ k2] at h1; exact h1
theorem parse_D_yes {l D : List UInt8} (hD : DPart l D) (h1 : D.length ≤ 9) (h2 : ∀ b ∈ D, isDig b = true) (h3 : fmtInt (pInt l) = l) : parseOk l = true := by
  refine parse_yes ?_ ?_ h3
  · rcases hD with hD | ⟨rfl, hh⟩
    · rw [hD, digCnt_cons _ _ (by decide), digCnt_full D h2]; exact h1
    · rw [digCnt_full _ h2]; exact h1
  · rcases hD with hD | ⟨rfl, hh⟩
    · rw [hD]; simp; exact h1
    · omega
theorem parse_D_no {l D : List UInt8} (hD : DPart l D) (h : ¬ (D ≠ [] ∧ D.length ≤ 9 ∧ ∀ b ∈ D, isDig b = true)) : parseOk l = false := by
  rw [Bool.eq_false_iff]; exact fun hh => h (parse_D hD hh)

end Go.Proofs.Ythbliiimjkkemaa
