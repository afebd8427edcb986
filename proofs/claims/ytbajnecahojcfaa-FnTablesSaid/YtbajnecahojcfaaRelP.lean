/- What the operations on relations compute. No program in sight. -/
import Derived.Test.YtbajnecahojcfaaRowS
namespace Go.Proofs.Ytbajnecahojcfaa
set_option maxHeartbeats 400000

def total (m : List (List Int)) : Nat := (m.map List.length).sum
theorem total_cons (r : List Int) (m : List (List Int)) : total (r :: m) = r.length + total m := by simp [total]
theorem total_append (a b : List (List Int)) : total (a ++ b) = total a + total b := by simp [total]
theorem total_le {B : Nat} : ∀ {m : List (List Int)}, (∀ r ∈ m, r.length ≤ B) → total m ≤ m.length * B
  | [], _ => by simp [total]
  | r :: m, h => by
    have h1 := h r (by simp)
    have h2 := total_le (m := m) fun x hx => h x (by simp [hx])
    rw [total_cons, List.length_cons, Nat.add_mul]; omega
theorem total_mem : ∀ {m : List (List Int)} {r : List Int}, r ∈ m → r.length ≤ total m
  | [], _, h => by simp at h
  | x :: m, r, h => by
    rw [total_cons]
    rcases List.mem_cons.1 h with rfl | h
    · omega
    · have := total_mem h; omega
theorem relOk_total {ar : Int} {m : List (List Int)} (h : relOk ar m = true) : total m ≤ 20000 ∧ m.length ≤ 4000 := by
  obtain ⟨h1, h2, h3, _⟩ := relOk_iff.1 h
  have := total_le (B := 5) (m := m) fun r hr => by have := (h3 r hr).1; omega
  omega

def newOk (ar : Int) (m : List (List Int)) : Bool := m.all (okRow ar) && relOk ar (sortI m)
def newA (ar : Int) (m : List (List Int)) : Int := if newOk ar m then ar else 0
def newM (ar : Int) (m : List (List Int)) : List (List Int) := if newOk ar m then sortI m else []
theorem newA_yes {ar : Int} {m : List (List Int)} (h : newOk ar m = true) : newA ar m = ar := by unfold newA; rw [if_pos h]
theorem newM_yes {ar : Int} {m : List (List Int)} (h : newOk ar m = true) : newM ar m = sortI m := by unfold newM; rw [if_pos h]
theorem newA_no {ar : Int} {m : List (List Int)} (h : newOk ar m = false) : newA ar m = 0 := by unfold newA; rw [h]; rfl
theorem newM_no {ar : Int} {m : List (List Int)} (h : newOk ar m = false) : newM ar m = [] := by unfold newM; rw [h]; rfl
theorem newOk_rel {ar : Int} {m : List (List Int)} (h : newOk ar m = true) : relOk ar (sortI m) = true := by unfold newOk at h; simp only [Bool.and_eq_true] at h; exact h.2
theorem newM_total (ar : Int) (m : List (List Int)) : total (newM ar m) ≤ 20000 ∧ (newM ar m).length ≤ 4000 := by
  cases h : newOk ar m with
  | false => rw [newM_no h]; simp [total]
  | true => rw [newM_yes h]; exact relOk_total (newOk_rel h)
theorem newOk_bad {ar : Int} {m : List (List Int)} {k : Nat} (hk : k < m.length) (h : okRow ar m[k] = false) : newOk ar m = false := by
  unfold newOk
  have : m.all (okRow ar) = false := by
    rw [Bool.eq_false_iff]; intro h'
    rw [List.all_eq_true] at h'
    rw [h' _ (List.getElem_mem hk)] at h; cases h
  rw [this]; rfl
theorem newOk_all {ar : Int} {m : List (List Int)} (h : ∀ i (hi : i < m.length), okRow ar m[i] = true) : newOk ar m = relOk ar (sortI m) := by
  unfold newOk
  rw [show m.all (okRow ar) = true by
    rw [List.all_eq_true]; intro x hx; obtain ⟨i, hi, rfl⟩ := List.getElem_of_mem hx; exact h i hi]
  rfl
theorem okRow_iff {ar : Int} {r : List Int} : okRow ar r = true ↔ (r.length : Int) = ar ∧ vrow r = true := by unfold okRow; simp
theorem okRow_len {ar : Int} {r : List Int} (h : ¬ (r.length : Int) = ar) : okRow ar r = false := by unfold okRow; rw [show decide ((r.length : Int) = ar) = false by rw [decide_eq_false_iff_not]; exact h]; rfl
theorem okRow_val {ar : Int} {r : List Int} (h : vrow r = false) : okRow ar r = false := by unfold okRow; rw [h]; simp
/-- What makes a relation new: its arity, its rows as a set, their number. -/
theorem newOk_iff {ar : Int} {m : List (List Int)} : newOk ar m = true ↔ (0 ≤ ar ∧ ar ≤ 5) ∧ (∀ r ∈ m, okRow ar r = true) ∧ (sortI m).length ≤ 4000 := by
  unfold newOk
  rw [Bool.and_eq_true, List.all_eq_true, relOk_iff]
  constructor
  · rintro ⟨h1, h2, h3, _, _⟩; exact ⟨h2, h1, h3⟩
  · rintro ⟨h1, h2, h3⟩; exact ⟨h2, h1, h3, fun r hr => okRow_iff.1 (h2 r ((sortI_mem m r).1 hr)), sortI_SL m⟩
/-- Two lists of the same members sort to one. -/
theorem sortI_congr {a b : List (List Int)} (h : ∀ x, x ∈ a ↔ x ∈ b) : sortI a = sortI b :=
  SL.unique (sortI_SL a) (sortI_SL b) fun x => (sortI_mem a x).trans ((h x).trans (sortI_mem b x).symm)
theorem sortI_id {a : List (List Int)} (h : SL a) : sortI a = a := SL.unique (sortI_SL a) h (sortI_mem a)
theorem newOk_congr {ar : Int} {a b : List (List Int)} (h : ∀ x, x ∈ a ↔ x ∈ b) : newOk ar a = newOk ar b := by
  rw [Bool.eq_iff_iff, newOk_iff, newOk_iff, sortI_congr h]
  constructor
  · rintro ⟨h1, h2, h3⟩; exact ⟨h1, fun r hr => h2 r ((h r).2 hr), h3⟩
  · rintro ⟨h1, h2, h3⟩; exact ⟨h1, fun r hr => h2 r ((h r).1 hr), h3⟩
theorem newOk_of_rel {ar : Int} {m : List (List Int)} (h : relOk ar m = true) : newOk ar m = true ∧ sortI m = m := by
  obtain ⟨h1, h2, h3, h4⟩ := relOk_iff.1 h
  have := sortI_id h4
  exact ⟨newOk_iff.2 ⟨h1, fun r hr => okRow_iff.2 (h3 r hr), by rw [this]; exact h2⟩, this⟩

def insOk (ar : Int) (m : List (List Int)) (row : List Int) : Bool := relOk ar m && okRow ar row && decide (m.length < 4000) && !plB m row
def insM (ar : Int) (m : List (List Int)) (row : List Int) : List (List Int) := if insOk ar m row then m.take (plc m row) ++ [row] ++ m.drop (plc m row) else m
def conB (ar : Int) (m : List (List Int)) (row : List Int) : Bool := relOk ar m && plB m row
def delM (ar : Int) (m : List (List Int)) (row : List Int) : List (List Int) := if conB ar m row then m.take (plc m row) ++ m.drop (plc m row + 1) else m
def twoOk (a : Int) (ma : List (List Int)) (b : Int) (mb : List (List Int)) : Bool := relOk a ma && relOk b mb && decide (a = b)
def unOk (a : Int) (ma : List (List Int)) (b : Int) (mb : List (List Int)) : Bool := twoOk a ma b mb && newOk a (ma ++ mb)
def unA (a : Int) (ma : List (List Int)) (b : Int) (mb : List (List Int)) : Int := if unOk a ma b mb then a else 0
def unM (a : Int) (ma : List (List Int)) (b : Int) (mb : List (List Int)) : List (List Int) := if unOk a ma b mb then sortI (ma ++ mb) else []
def difA (a : Int) (ma : List (List Int)) (b : Int) (mb : List (List Int)) : Int := if twoOk a ma b mb then a else 0
def difM (a : Int) (ma : List (List Int)) (b : Int) (mb : List (List Int)) : List (List Int) := if twoOk a ma b mb then ma.filter (fun r => !plB mb r) else []
def colsOk (ar : Int) (cols : List Int) : Bool := decide (cols.length ≤ 5) && cols.all (fun c => inR c 0 (ar - 1))
def pick (cols : List Int) (row : List Int) : List Int := cols.map fun c => row.getD c.toNat 0
def proOk (ar : Int) (m : List (List Int)) (cols : List Int) : Bool := relOk ar m && colsOk ar cols && newOk cols.length (m.map (pick cols))
def proA (ar : Int) (m : List (List Int)) (cols : List Int) : Int := if proOk ar m cols then cols.length else 0
def proM (ar : Int) (m : List (List Int)) (cols : List Int) : List (List Int) := if proOk ar m cols then sortI (m.map (pick cols)) else []

theorem insM_total (ar : Int) (m : List (List Int)) (row : List Int) : total (insM ar m row) ≤ total m + row.length ∧ (insM ar m row).length ≤ m.length + 1 := by
  unfold insM
  split
  · have h1 : total (m.take (plc m row)) + total (m.drop (plc m row)) = total m := by rw [← total_append, List.take_append_drop]
    rw [total_append, total_append, List.length_append, List.length_append, List.length_take, List.length_drop]
    have : total [row] = row.length := by simp [total]
    simp only [List.length_singleton]
    omega
  · omega
theorem total_drop_le (m : List (List Int)) (k : Nat) : total (m.drop (k + 1)) ≤ total (m.drop k) := by
  by_cases h : k < m.length
  · rw [List.drop_eq_getElem_cons h, total_cons]; omega
  · rw [List.drop_eq_nil_of_le (by omega), List.drop_eq_nil_of_le (by omega)]; omega
theorem delM_total (ar : Int) (m : List (List Int)) (row : List Int) : total (delM ar m row) ≤ total m ∧ (delM ar m row).length ≤ m.length := by
  unfold delM
  split
  · have h1 : total (m.take (plc m row)) + total (m.drop (plc m row)) = total m := by rw [← total_append, List.take_append_drop]
    have h2 := total_drop_le m (plc m row)
    rw [total_append, List.length_append, List.length_take, List.length_drop]
    omega
  · omega
theorem unM_total (a : Int) (ma : List (List Int)) (b : Int) (mb : List (List Int)) : total (unM a ma b mb) ≤ 20000 ∧ (unM a ma b mb).length ≤ 4000 := by
  unfold unM
  split
  · rename_i h
    unfold unOk at h
    rw [Bool.and_eq_true] at h
    exact relOk_total (newOk_rel h.2)
  · simp [total]
theorem total_filter_le (p : List Int → Bool) : ∀ m : List (List Int), total (m.filter p) ≤ total m
  | [] => by simp [total]
  | r :: m => by
    have := total_filter_le p m
    rw [List.filter_cons]
    split
    · rw [total_cons, total_cons]; omega
    · rw [total_cons]; omega
theorem difM_total (a : Int) (ma : List (List Int)) (b : Int) (mb : List (List Int)) : total (difM a ma b mb) ≤ 20000 ∧ (difM a ma b mb).length ≤ 4000 := by
  unfold difM
  split
  · rename_i h
    unfold twoOk at h
    simp only [Bool.and_eq_true] at h
    have h1 := relOk_total h.1.1
    have h2 := total_filter_le (fun r => !plB mb r) ma
    have h3 := List.length_filter_le (fun r => !plB mb r) ma
    omega
  · simp [total]
theorem proM_total (ar : Int) (m : List (List Int)) (cols : List Int) : total (proM ar m cols) ≤ 20000 ∧ (proM ar m cols).length ≤ 4000 := by
  unfold proM
  split
  · rename_i h
    unfold proOk at h
    simp only [Bool.and_eq_true] at h
    exact relOk_total (newOk_rel h.2)
  · simp [total]
end Go.Proofs.Ytbajnecahojcfaa
