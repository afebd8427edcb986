/- Rows xs lists: order, validity, sorting, search. No program in sight. -/
import Derived.Test.YtbajnecahojcfaaNum
namespace Go.Proofs.Ytbajnecahojcfaa
set_option maxHeartbeats 400000

def cmpRow : List Int → List Int → Int
  | [], [] => 0
  | [], _ :: _ => -1
  | _ :: _, [] => 1
  | a :: xs, b :: ys => if a < b then -1 else if b < a then 1 else cmpRow xs ys
theorem cmpRow_nn : cmpRow [] [] = 0 := rfl
theorem cmpRow_nc (b : Int) (ys : List Int) : cmpRow [] (b :: ys) = -1 := rfl
theorem cmpRow_cn (a : Int) (xs : List Int) : cmpRow (a :: xs) [] = 1 := rfl
theorem cmpRow_cc (a b : Int) (xs ys : List Int) : cmpRow (a :: xs) (b :: ys) = if a < b then -1 else if b < a then 1 else cmpRow xs ys := rfl
theorem cmpRow_bd : ∀ a b : List Int, cmpRow a b = -1 ∨ cmpRow a b = 0 ∨ cmpRow a b = 1
  | [], [] => .inr (.inl rfl)
  | [], _ :: _ => .inl rfl
  | _ :: _, [] => .inr (.inr rfl)
  | a :: xs, b :: ys => by
    rw [cmpRow_cc]
    split
    · exact .inl rfl
    · split
      · exact .inr (.inr rfl)
      · exact cmpRow_bd xs ys
theorem cmpRow_app : ∀ (p a b : List Int), cmpRow (p ++ a) (p ++ b) = cmpRow a b
  | [], _, _ => rfl
  | x :: p, a, b => by
    rw [List.cons_append, List.cons_append, cmpRow_cc, if_neg (Int.lt_irrefl x), if_neg (Int.lt_irrefl x)]
    exact cmpRow_app p a b
theorem cmpRow_self (a : List Int) : cmpRow a a = 0 := by
  have := cmpRow_app a [] []
  rw [List.append_nil, cmpRow_nn] at this
  exact this
theorem cmpRow_drop {a b : List Int} {k : Nat} (h : a.take k = b.take k) : cmpRow a b = cmpRow (a.drop k) (b.drop k) := by
  conv => lhs; rw [← List.take_append_drop k a, ← List.take_append_drop k b, h]
  exact cmpRow_app _ _ _
theorem cmpRow_eq : ∀ {a b : List Int}, cmpRow a b = 0 → a = b
  | [], [], _ => rfl
  | [], _ :: _, h => by rw [cmpRow_nc] at h; omega
  | _ :: _, [], h => by rw [cmpRow_cn] at h; omega
  | a :: xs, b :: ys, h => by
    rw [cmpRow_cc] at h
    split at h
    · omega
    · split at h
      · omega
      · rw [show a = b by omega, cmpRow_eq h]
theorem cmpRow_neg : ∀ (a b : List Int), cmpRow b a = - cmpRow a b
  | [], [] => rfl
  | [], _ :: _ => rfl
  | _ :: _, [] => rfl
  | a :: xs, b :: ys => by
    rw [cmpRow_cc, cmpRow_cc]
    by_cases h1 : a < b
    · rw [if_pos h1, if_neg (by omega), if_pos h1]
      rfl
    · by_cases h2 : b < a
      · rw [if_pos h2, if_neg h1, if_pos h2]
      · rw [if_neg h1, if_neg h2, if_neg h2, if_neg h1]; exact cmpRow_neg xs ys
theorem cmpRow_trans : ∀ {a b c : List Int}, cmpRow a b ≤ 0 → cmpRow b c ≤ 0 → cmpRow a c ≤ 0 ∧ (cmpRow a b < 0 ∨ cmpRow b c < 0 → cmpRow a c < 0)
  | [], [], _, _, h2 => ⟨h2, fun h => h.resolve_left (by rw [cmpRow_nn]; omega)⟩
  | [], _ :: _, [], _, h2 => by rw [cmpRow_cn] at h2; omega
  | [], _ :: _, _ :: _, _, _ => ⟨by rw [cmpRow_nc]; omega, fun _ => by rw [cmpRow_nc]; omega⟩
  | _ :: _, [], _, h1, _ => by rw [cmpRow_cn] at h1; omega
  | _ :: _, _ :: _, [], _, h2 => by rw [cmpRow_cn] at h2; omega
  | a :: xs, b :: ys, c :: cs, h1, h2 => by
    rw [cmpRow_cc] at h1 h2 ⊢
    rw [cmpRow_cc a b, cmpRow_cc b c]
    by_cases hab : a < b
    · have hbc : b ≤ c := by
        by_cases h : c < b
        · rw [if_neg (by omega), if_pos h] at h2; omega
        · omega
      rw [if_pos (show a < c by omega)]
      exact ⟨by omega, fun _ => by omega⟩
    · by_cases hba : b < a
      · rw [if_neg hab, if_pos hba] at h1; omega
      · obtain rfl : a = b := by omega
        rw [if_neg hab, if_neg hba] at h1
        rw [if_neg hab, if_neg hba]
        by_cases hac : a < c
        · rw [if_pos hac]; exact ⟨by omega, fun _ => by omega⟩
        · by_cases hca : c < a
          · rw [if_neg hac, if_pos hca] at h2; omega
          · simp only [if_neg hac, if_neg hca] at h2 ⊢
            exact cmpRow_trans h1 h2
theorem cmpRow_lt_trans {a b c : List Int} (h1 : cmpRow a b < 0) (h2 : cmpRow b c < 0) : cmpRow a c < 0 := (cmpRow_trans (by omega) (by omega)).2 (.inl h1)
theorem cmpRow_lt_le {a b c : List Int} (h1 : cmpRow a b < 0) (h2 : cmpRow b c ≤ 0) : cmpRow a c < 0 := (cmpRow_trans (by omega) h2).2 (.inl h1)
theorem cmpRow_le_lt {a b c : List Int} (h1 : cmpRow a b ≤ 0) (h2 : cmpRow b c < 0) : cmpRow a c < 0 := (cmpRow_trans h1 (by omega)).2 (.inr h2)
theorem cmpRow_le_trans {a b c : List Int} (h1 : cmpRow a b ≤ 0) (h2 : cmpRow b c ≤ 0) : cmpRow a c ≤ 0 := (cmpRow_trans h1 h2).1
/-- The loop's ways out. -/
theorem cmpRow_at {a b : List Int} {k : Nat} (h : a.take k = b.take k) (h1 : k < a.length) (h2 : k < b.length) : cmpRow a b = if a[k] < b[k] then -1 else if b[k] < a[k] then 1 else cmpRow (a.drop (k + 1)) (b.drop (k + 1)) := by
  rw [cmpRow_drop h, List.drop_eq_getElem_cons h1, List.drop_eq_getElem_cons h2, cmpRow_cc]
theorem cmpRow_lt_at {a b : List Int} {k : Nat} (h : a.take k = b.take k) (h1 : k < a.length) (h2 : k < b.length) (hx : a[k] < b[k]) : cmpRow a b = -1 := by rw [cmpRow_at h h1 h2, if_pos hx]
theorem cmpRow_gt_at {a b : List Int} {k : Nat} (h : a.take k = b.take k) (h1 : k < a.length) (h2 : k < b.length) (hx : b[k] < a[k]) : cmpRow a b = 1 := by rw [cmpRow_at h h1 h2, if_neg (by omega), if_pos hx]
theorem cmpRow_end {a b : List Int} {k : Nat} (h : a.take k = b.take k) (h1 : k = a.length ∨ k = b.length) (h2 : k ≤ a.length) (h3 : k ≤ b.length) : cmpRow a b = if a.length < b.length then -1 else if b.length < a.length then 1 else 0 := by
  rw [cmpRow_drop h]
  rcases Nat.lt_trichotomy a.length b.length with hl | hl | hl
  · rw [if_pos hl, List.drop_eq_nil_of_le (show a.length ≤ k by omega), List.drop_eq_getElem_cons (show k < b.length by omega)]; rfl
  · rw [if_neg (by omega), if_neg (by omega), List.drop_eq_nil_of_le (by omega), List.drop_eq_nil_of_le (by omega)]; rfl
  · rw [if_neg (by omega), if_pos hl, List.drop_eq_nil_of_le (show b.length ≤ k by omega), List.drop_eq_getElem_cons (show k < a.length by omega)]; rfl

/-! Valid rows, valid relations. -/
def vrow (l : List Int) : Bool := l.all fun x => inR x 0 99
theorem vrow_step {l : List Int} {k : Nat} (hk : k < l.length) (h : (l.take k).all (fun x => inR x 0 99) = true) (hd : inR l[k] 0 99 = true) : (l.take (k + 1)).all (fun x => inR x 0 99) = true := by
  rw [List.take_succ_eq_append_getElem hk, List.all_append, h]
  simp [hd]
theorem vrow_bad {l : List Int} {k : Nat} (hk : k < l.length) (hd : inR l[k] 0 99 = false) : vrow l = false := by
  unfold vrow
  rw [Bool.eq_false_iff]
  intro h
  rw [List.all_eq_true] at h
  rw [h _ (List.getElem_mem hk)] at hd
  cases hd
theorem vrow_end {l : List Int} (h : (l.take l.length).all (fun x => inR x 0 99) = true) : vrow l = true := by rwa [List.take_length] at h
theorem vrow_yes {l : List Int} (h : vrow l = true) : ∀ x ∈ l, 0 ≤ x ∧ x ≤ 99 := by
  unfold vrow at h
  rw [List.all_eq_true] at h
  exact fun x hx => inR_iff.1 (h x hx)
theorem vrow_of {l : List Int} (h : ∀ x ∈ l, 0 ≤ x ∧ x ≤ 99) : vrow l = true := by
  unfold vrow
  rw [List.all_eq_true]
  exact fun x hx => inR_iff.2 (h x hx)

def okRow (ar : Int) (r : List Int) : Bool := decide ((r.length : Int) = ar) && vrow r
def okAt (ar : Int) (m : List (List Int)) (i : Nat) : Bool := okRow ar (m.getD i []) && (decide (i = 0) || decide (cmpRow (m.getD (i - 1) []) (m.getD i []) < 0))
def relOk (ar : Int) (m : List (List Int)) : Bool := inR ar 0 5 && decide (m.length ≤ 4000) && (List.range m.length).all (okAt ar m)
theorem getD_at {α : Type} {l : List α} {k : Nat} (h : k < l.length) (d : α) : l.getD k d = l[k] := by simp [List.getD, h]
theorem relOk_bad {ar : Int} {m : List (List Int)} {k : Nat} (hk : k < m.length) (h : okAt ar m k = false) : relOk ar m = false := by
  unfold relOk
  have : (List.range m.length).all (okAt ar m) = false := by
    rw [Bool.eq_false_iff]; intro h'
    rw [List.all_eq_true] at h'
    rw [h' k (List.mem_range.2 hk)] at h; cases h
  rw [this, Bool.and_false]
theorem relOk_arity {ar : Int} {m : List (List Int)} (h : ¬ (0 ≤ ar ∧ ar ≤ 5)) : relOk ar m = false := by unfold relOk; rw [inR_no h]; rfl
theorem relOk_long {ar : Int} {m : List (List Int)} (h : ¬ m.length ≤ 4000) : relOk ar m = false := by
  unfold relOk; rw [show decide (m.length ≤ 4000) = false by rw [decide_eq_false_iff_not]; exact h]; simp
theorem relOk_end {ar : Int} {m : List (List Int)} (h1 : 0 ≤ ar ∧ ar ≤ 5) (h2 : m.length ≤ 4000) (h : ∀ i, i < m.length → okAt ar m i = true) : relOk ar m = true := by
  unfold relOk
  rw [inR_yes h1, show decide (m.length ≤ 4000) = true by rw [decide_eq_true_eq]; exact h2]
  simp only [Bool.true_and, List.all_eq_true]
  exact fun i hi => h i (List.mem_range.1 hi)
theorem okAt_of {ar : Int} {m : List (List Int)} {k : Nat} (hk : k < m.length) (h1 : (m[k].length : Int) = ar) (h2 : vrow m[k] = true) (h3 : k = 0 ∨ ∃ _ : 0 < k, cmpRow m[k - 1] m[k] < 0) : okAt ar m k = true := by
  unfold okAt okRow
  rw [getD_at hk, h2]
  rcases h3 with rfl | ⟨h4, h3⟩
  · simp [h1]
  · rw [getD_at (show k - 1 < m.length by omega)]; simp [h1, h3]
theorem okAt_not {ar : Int} {m : List (List Int)} {k : Nat} (hk : k < m.length) (h : (m[k].length : Int) ≠ ar ∨ vrow m[k] = false ∨ ∃ _ : 0 < k, 0 ≤ cmpRow m[k - 1] m[k]) : okAt ar m k = false := by
  unfold okAt okRow
  rw [getD_at hk]
  rcases h with h | h | ⟨h4, h⟩
  · simp [h]
  · simp [h]
  · rw [getD_at (show k - 1 < m.length by omega)]
    rw [show decide (k = 0) = false by rw [decide_eq_false_iff_not]; omega, show decide (cmpRow m[k - 1] m[k] < 0) = false by rw [decide_eq_false_iff_not]; omega]
    simp
/-- Strictly ascending. -/
def SL (m : List (List Int)) : Prop := m.Pairwise fun a b => cmpRow a b < 0
theorem SL.of_steps : ∀ {m : List (List Int)}, (∀ i (h : i + 1 < m.length), cmpRow m[i] m[i + 1] < 0) → SL m
  | [], _ => List.Pairwise.nil
  | [a], _ => by simp [SL]
  | a :: b :: t, h => by
    have ih : SL (b :: t) := SL.of_steps fun i hi => by exact h (i + 1) (by simpa using hi)
    have h0 : cmpRow a b < 0 := by simpa using h 0 (by simp)
    refine List.pairwise_cons.2 ⟨fun x hx => ?_, ih⟩
    rcases List.mem_cons.1 hx with rfl | hx
    · exact h0
    · exact cmpRow_lt_trans h0 ((List.pairwise_cons.1 ih).1 x hx)
theorem SL.step {m : List (List Int)} (h : SL m) (i : Nat) (hi : i + 1 < m.length) : cmpRow m[i] m[i + 1] < 0 := List.pairwise_iff_getElem.1 h i (i + 1) (by omega) hi (by omega)
theorem relOk_iff {ar : Int} {m : List (List Int)} : relOk ar m = true ↔ (0 ≤ ar ∧ ar ≤ 5) ∧ m.length ≤ 4000 ∧ (∀ r ∈ m, (r.length : Int) = ar ∧ vrow r = true) ∧ SL m := by
  constructor
  · intro h
    unfold relOk at h
    simp only [Bool.and_eq_true, decide_eq_true_eq, List.all_eq_true, List.mem_range, inR_iff] at h
    obtain ⟨⟨h1, h2⟩, h3⟩ := h
    refine ⟨h1, h2, fun r hr => ?_, SL.of_steps fun i hi => ?_⟩
    · obtain ⟨i, hi, rfl⟩ := List.getElem_of_mem hr
      have := h3 i hi
      unfold okAt okRow at this
      rw [getD_at hi] at this
      simp only [Bool.and_eq_true, decide_eq_true_eq] at this
      exact this.1
    · have := h3 (i + 1) hi
      unfold okAt at this
      rw [getD_at hi, show i + 1 - 1 = i by omega, getD_at (show i < m.length by omega)] at this
      simp only [Bool.and_eq_true, Bool.or_eq_true, decide_eq_true_eq] at this
      exact this.2.resolve_left (by omega)
  · rintro ⟨h1, h2, h3, h4⟩
    refine relOk_end h1 h2 fun i hi => ?_
    obtain ⟨e1, e2⟩ := h3 _ (List.getElem_mem hi)
    refine okAt_of hi e1 e2 ?_
    cases i with
    | zero => exact .inl rfl
    | succ i => exact .inr ⟨by omega, by simpa using h4.step i hi⟩
/-- Two ascending lists of the same members are one. -/
theorem SL.unique : ∀ {a b : List (List Int)}, SL a → SL b → (∀ x, x ∈ a ↔ x ∈ b) → a = b
  | [], [], _, _, _ => rfl
  | [], y :: b, _, _, h => by have := (h y).2 (by simp); simp at this
  | x :: a, [], _, _, h => by have := (h x).1 (by simp); simp at this
  | x :: a, y :: b, ha, hb, h => by
    have ha' := List.pairwise_cons.1 ha
    have hb' := List.pairwise_cons.1 hb
    have hxy : x = y := by
      rcases List.mem_cons.1 ((h x).1 (by simp)) with e | hx
      · exact e
      · rcases List.mem_cons.1 ((h y).2 (by simp)) with e | hy
        · exact e.symm
        · have h1 := hb'.1 x hx
          have h2 := ha'.1 y hy
          have h3 := cmpRow_neg x y
          omega
    subst hxy
    rw [SL.unique ha'.2 hb'.2 fun z => ?_]
    constructor
    · intro hz
      rcases List.mem_cons.1 ((h z).1 (by simp [hz])) with e | hz'
      · have h1 := ha'.1 z hz
        rw [e, cmpRow_self] at h1; omega
      · exact hz'
    · intro hz
      rcases List.mem_cons.1 ((h z).2 (by simp [hz])) with e | hz'
      · have h1 := hb'.1 z hz
        rw [e, cmpRow_self] at h1; omega
      · exact hz'
end Go.Proofs.Ytbajnecahojcfaa
