/- Databases: tables read; validity. -/
import Derived.Test.YtbajnecahojcfaaRelV
import Derived.Test.YtbajnecahojcfaaName
import Derived.Test.YtbajnecahojcfaaSplit
import Derived.Test.YtbajnecahojcfaaQuietU
namespace Go.Proofs.Ytbajnecahojcfaa
open Go.RowKit Go.Sort
set_option maxHeartbeats 2000000
set_option maxRecDepth 100000
abbrev Tab := List UInt8 × Int × List (List Int)
/-- v is a slice of the tables T. -/
def TRow (w : World) (v : Value) (T : List Tab) : Prop :=
  ∃ A c, v = .slice A T.length c ∧ T.length ≤ c ∧ c ≤ maxLen ∧ (A = none → c = 0) ∧ ∀ i (hi : i < T.length), ∃ b off, A = some ⟨b, off, none⟩ ∧ w.cell? ⟨b, off + i * 3, none⟩ = some (strV T[i].1) ∧ w.cell? ⟨b, off + i * 3 + 1, none⟩ = some (.int .i64 T[i].2.1) ∧
    ∃ A' c', w.cell? ⟨b, off + i * 3 + 2, none⟩ = some (.slice A' T[i].2.2.length c') ∧ MRow w (.slice A' T[i].2.2.length c') T[i].2.2
theorem TRow.below {w w' : World} {v : Value} {T : List Tab} (h : TRow w v T) (hb : Below w.heap.size w w') : TRow w' v T := by
  obtain ⟨A, c, h1, h2, h3, h4, h5⟩ := h
  refine ⟨A, c, h1, h2, h3, h4, fun i hi => ?_⟩
  obtain ⟨b, off, e, c0, c1, A', c', c2, hm⟩ := h5 i hi
  exact ⟨b, off, e, cellB hb c0, cellB hb c1, A', c', cellB hb c2, hm.below hb⟩
theorem TRow.alloc {w : World} {v : Value} {T : List Tab} (h : TRow w v T) (o : Obj) : TRow (w.alloc o) v T := h.below ((Below.refl _ _).alloc (Nat.le_refl _) o)
theorem TRow.nil (w : World) : TRow w (.slice none 0 0) [] := ⟨none, 0, rfl, Nat.le_refl _, by decide, fun _ => rfl, fun i hi => by simp at hi⟩
theorem TRow.opened {w : World} {v : Value} {T : List Tab} (h : TRow w v T) : ∃ A c, v = .slice A T.length c := by
  obtain ⟨A, c, e, -⟩ := h
  exact ⟨A, c, e⟩
theorem TRow.at {w : World} {A : Option Addr} {c : Nat} {T : List Tab} (h : TRow w (.slice A T.length c) T) (k : Nat) (hk : k < T.length) : ∃ b off, A = some ⟨b, off, none⟩ ∧ w.cell? ⟨b, off + k * 3, none⟩ = some (strV T[k].1) ∧ w.cell? ⟨b, off + k * 3 + 1, none⟩ = some (.int .i64 T[k].2.1) ∧
    ∃ A' c', w.cell? ⟨b, off + k * 3 + 2, none⟩ = some (.slice A' T[k].2.2.length c') ∧ MRow w (.slice A' T[k].2.2.length c') T[k].2.2 := by
  obtain ⟨A9, c9, e9, -, -, -, h9⟩ := h
  simp only [Value.slice.injEq] at e9
  obtain ⟨rfl, -, rfl⟩ := e9
  exact h9 k hk
theorem TRow.len {w : World} {v : Value} {T : List Tab} (h : TRow w v T) : T.length ≤ 9223372036854775807 := by
  obtain ⟨A, c, h1, h2, h3, -⟩ := h
  unfold maxLen at h3
  omega
/-! Validity. -/
theorem bytesLess_ltD : ∀ (x y : List UInt8), Op.bytesLess x y = decide (x < y)
  | [], [] => by
    have : ¬ ([] : List UInt8) < [] := List.not_lt_nil _
    simp [Op.bytesLess, this]
  | [], b :: y => by
    have : ([] : List UInt8) < b :: y := List.nil_lt_cons _ _
    simp [Op.bytesLess, this]
  | a :: x, [] => by
    have : ¬ (a :: x) < [] := List.not_lt_nil _
    simp [Op.bytesLess, this]
  | a :: x, b :: y => by
    rw [Op.bytesLess, bytesLess_ltD x y, Bool.eq_iff_iff]
    simp only [Bool.or_eq_true, Bool.and_eq_true, decide_eq_true_eq, beq_iff_eq, List.cons_lt_cons_iff]
theorem geq_str {M N : List UInt8} {b : Bool} (h : Op.bytesLess M N = b) (t : TypeId) (W : World) : Sem.run Try.prog (binOp .geq t (.string ⟨M.toArray⟩) (.string ⟨N.toArray⟩)) W = .ok (.bool !b) W := by
  unfold binOp
  simp [Op.stringOp, h]
def tabOk (t : Tab) : Bool := nameB t.1 4 && relOk t.2.1 t.2.2 && decide (1 ≤ t.2.1) && decide (t.2.2.length ≤ 16)
def tabAt (T : List Tab) (i : Nat) : Bool := tabOk (T.getD i ([], 0, [])) && (decide (i = 0) || decide ((T.getD (i - 1) ([], 0, [])).1 < (T.getD i ([], 0, [])).1))
def dbOk (T : List Tab) : Bool := decide (T.length ≤ 6) && (List.range T.length).all (tabAt T)
theorem tabOk_name {N : List UInt8} {ar : Int} {m : List (List Int)} (h : nameB N 4 = false) : tabOk (N, ar, m) = false := by unfold tabOk; rw [h]; rfl
theorem tabOk_rel {N : List UInt8} {ar : Int} {m : List (List Int)} (h : relOk ar m = false) : tabOk (N, ar, m) = false := by unfold tabOk; rw [h]; simp
theorem tabOk_ar {N : List UInt8} {ar : Int} {m : List (List Int)} (h : ¬ 1 ≤ ar) : tabOk (N, ar, m) = false := by unfold tabOk; simp [h]
theorem tabOk_rows {N : List UInt8} {ar : Int} {m : List (List Int)} (h : ¬ m.length ≤ 16) : tabOk (N, ar, m) = false := by unfold tabOk; simp [h]
theorem tabOk_yes {N : List UInt8} {ar : Int} {m : List (List Int)} (h1 : nameB N 4 = true) (h2 : relOk ar m = true) (h3 : 1 ≤ ar) (h4 : m.length ≤ 16) : tabOk (N, ar, m) = true := by unfold tabOk; simp [h1, h2, h3, h4]
theorem dbOk_long {T : List Tab} (h : ¬ T.length ≤ 6) : dbOk T = false := by unfold dbOk; rw [show decide (T.length ≤ 6) = false by rw [decide_eq_false_iff_not]; exact h]; rfl
theorem dbOk_bad {T : List Tab} {k : Nat} (hk : k < T.length) (h : tabAt T k = false) : dbOk T = false := by
  unfold dbOk
  have : (List.range T.length).all (tabAt T) = false := by
    rw [Bool.eq_false_iff]; intro h'
    rw [List.all_eq_true] at h'
    rw [h' k (List.mem_range.2 hk)] at h; cases h
  rw [this, Bool.and_false]
theorem dbOk_le {T : List Tab} (h : ∀ i, i < T.length → tabAt T i = true) : dbOk T = decide (T.length ≤ 6) := by
  unfold dbOk
  rw [show (List.range T.length).all (tabAt T) = true by rw [List.all_eq_true]; exact fun i hi => h i (List.mem_range.1 hi), Bool.and_true]
theorem dbOk_end {T : List Tab} (h6 : T.length ≤ 6) (h : ∀ i, i < T.length → tabAt T i = true) : dbOk T = true := by rw [dbOk_le h, decide_eq_true_eq]; exact h6
theorem tabAt_of {T : List Tab} {k : Nat} (hk : k < T.length) (h1 : tabOk T[k] = true) (h2 : k = 0 ∨ ∃ _ : 0 < k, T[k - 1].1 < T[k].1) : tabAt T k = true := by
  unfold tabAt
  rw [getD_at hk, h1]
  rcases h2 with rfl | ⟨h3, h2⟩
  · simp
  · rw [getD_at (show k - 1 < T.length by omega)]; simp [h2]
theorem tabAt_not {T : List Tab} {k : Nat} (hk : k < T.length) (h : tabOk T[k] = false ∨ ∃ _ : 0 < k, ¬ T[k - 1].1 < T[k].1) : tabAt T k = false := by
  unfold tabAt
  rw [getD_at hk]
  rcases h with h | ⟨h3, h⟩
  · rw [h]; rfl
  · rw [getD_at (show k - 1 < T.length by omega), show decide (k = 0) = false by rw [decide_eq_false_iff_not]; omega]; simp only [Bool.false_or]; rw [show decide (T[k - 1].1 < T[k].1) = false by rw [decide_eq_false_iff_not]; exact h]; simp
theorem tabAt_step {T : List Tab} {k : Nat} (h : ∀ i, i < k → tabAt T i = true) (hx : tabAt T k = true) : ∀ i, i < k + 1 → tabAt T i = true := by
  intro i hi
  rcases Nat.lt_or_ge i k with h' | h'
  · exact h i h'
  · have : i = k := by omega
    subst this; exact hx
end Go.Proofs.Ytbajnecahojcfaa
