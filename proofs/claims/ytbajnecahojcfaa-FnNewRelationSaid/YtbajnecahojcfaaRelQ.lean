/- Laws of the operations on relations. No program in sight. -/
import Derived.Test.YtbajnecahojcfaaRelP
namespace Go.Proofs.Ytbajnecahojcfaa
set_option maxHeartbeats 1000000

theorem conB_iff {ar : Int} {m : List (List Int)} {row : List Int} : conB ar m row = true ↔ relOk ar m = true ∧ row ∈ m := by
  unfold conB
  rw [Bool.and_eq_true]
  constructor
  · rintro ⟨h1, h2⟩
    exact ⟨h1, (plB_iff (relOk_iff.1 h1).2.2.2 row).1 h2⟩
  · rintro ⟨h1, h2⟩
    exact ⟨h1, (plB_iff (relOk_iff.1 h1).2.2.2 row).2 h2⟩
theorem conB_no {ar : Int} {m : List (List Int)} {row : List Int} (h : ¬ row ∈ m) : conB ar m row = false := by
  rw [Bool.eq_false_iff]
  exact fun h' => h (conB_iff.1 h').2
theorem insOk_iff {ar : Int} {m : List (List Int)} {row : List Int} : insOk ar m row = true ↔ relOk ar m = true ∧ okRow ar row = true ∧ m.length < 4000 ∧ ¬ row ∈ m := by
  unfold insOk
  simp only [Bool.and_eq_true, decide_eq_true_eq, Bool.not_eq_true']
  constructor
  · rintro ⟨⟨⟨h1, h2⟩, h3⟩, h4⟩
    refine ⟨h1, h2, h3, fun h => ?_⟩
    rw [(plB_iff (relOk_iff.1 h1).2.2.2 row).2 h] at h4
    cases h4
  · rintro ⟨h1, h2, h3, h4⟩
    refine ⟨⟨⟨h1, h2⟩, h3⟩, ?_⟩
    rw [Bool.eq_false_iff]
    exact fun h => h4 ((plB_iff (relOk_iff.1 h1).2.2.2 row).1 h)
def insL (m : List (List Int)) (row : List Int) : List (List Int) := m.take (plc m row) ++ [row] ++ m.drop (plc m row)
def delL (m : List (List Int)) (row : List Int) : List (List Int) := m.take (plc m row) ++ m.drop (plc m row + 1)
theorem mem_take_drop {α : Type} (m : List α) (k : Nat) (x : α) : x ∈ m ↔ x ∈ m.take k ∨ x ∈ m.drop k := by
  conv => lhs; rw [← List.take_append_drop k m]
  rw [List.mem_append]
theorem insL_mem (m : List (List Int)) (row x : List Int) : x ∈ insL m row ↔ x ∈ m ∨ x = row := by
  unfold insL
  rw [List.mem_append, List.mem_append, List.mem_singleton, mem_take_drop m (plc m row) x]
  constructor
  · rintro ((h | h) | h)
    · exact .inl (.inl h)
    · exact .inr h
    · exact .inl (.inr h)
  · rintro ((h | h) | h)
    · exact .inl (.inl h)
    · exact .inr h
    · exact .inl (.inr h)
theorem insL_SL {m : List (List Int)} {row : List Int} (hs : SL m) (hn : ¬ row ∈ m) : SL (insL m row) := by
  obtain ⟨h1, h2⟩ := plc_spec hs row
  have k1 : ∀ x ∈ m.take (plc m row), cmpRow x row < 0 := fun x hx => by
    obtain ⟨i, hi, rfl⟩ := List.getElem_of_mem hx
    rw [List.length_take] at hi
    rw [List.getElem_take]
    exact h1 i (by omega) (by omega)
  have k2 : ∀ x ∈ m.drop (plc m row), cmpRow row x < 0 := fun x hx => by
    have hx2 := List.mem_of_mem_drop hx
    obtain ⟨i, hi, rfl⟩ := List.getElem_of_mem hx
    rw [List.length_drop] at hi
    rw [List.getElem_drop] at hx2 ⊢
    have h3 := h2 (plc m row + i) (by omega) (by omega)
    have h4 := cmpRow_neg m[plc m row + i] row
    have h5 : cmpRow m[plc m row + i] row ≠ 0 := fun e => hn (cmpRow_eq e ▸ hx2)
    omega
  have h3 : SL (m.take (plc m row) ++ m.drop (plc m row)) := by rw [List.take_append_drop]; exact hs
  unfold SL at h3 ⊢
  unfold insL
  rw [List.pairwise_append] at h3
  rw [List.pairwise_append, List.pairwise_append]
  refine ⟨⟨h3.1, List.pairwise_singleton _ _, fun x hx y hy => by rw [List.mem_singleton.1 hy]; exact k1 x hx⟩, h3.2.1, fun x hx y hy => ?_⟩
  rcases List.mem_append.1 hx with hx | hx
  · exact h3.2.2 x hx y hy
  · rw [List.mem_singleton.1 hx]; exact k2 y hy
theorem delL_sub (m : List (List Int)) (row : List Int) : (delL m row).Sublist m := by
  unfold delL
  have h := List.Sublist.append (List.Sublist.refl (m.take (plc m row))) (List.drop_sublist_drop_left m (show plc m row ≤ plc m row + 1 by omega))
  rw [List.take_append_drop] at h
  exact h
theorem delL_SL {m : List (List Int)} {row : List Int} (hs : SL m) : SL (delL m row) := List.Pairwise.sublist (delL_sub m row) hs
theorem plc_at {m : List (List Int)} {row : List Int} (hs : SL m) (h : row ∈ m) : ∃ _ : plc m row < m.length, m[plc m row] = row := by
  have := (plB_iff hs row).2 h
  unfold plB at this
  simp only [Bool.and_eq_true, decide_eq_true_eq] at this
  refine ⟨this.1, ?_⟩
  have h2 := this.2
  rw [getD_at this.1] at h2
  exact cmpRow_eq h2
theorem delL_mem {m : List (List Int)} {row : List Int} (hs : SL m) (h : row ∈ m) (x : List Int) : x ∈ delL m row ↔ x ∈ m ∧ x ≠ row := by
  obtain ⟨hk, he⟩ := plc_at hs h
  have h3 : SL (m.take (plc m row) ++ m.drop (plc m row)) := by rw [List.take_append_drop]; exact hs
  rw [List.drop_eq_getElem_cons hk, he] at h3
  unfold SL at h3
  rw [List.pairwise_append] at h3
  obtain ⟨-, h4, h5⟩ := h3
  have h4 := (List.pairwise_cons.1 h4).1
  have hself := cmpRow_self row
  have hm : x ∈ m ↔ x ∈ m.take (plc m row) ∨ x = row ∨ x ∈ m.drop (plc m row + 1) := by
    rw [mem_take_drop m (plc m row) x, List.drop_eq_getElem_cons hk, he, List.mem_cons]
  unfold delL
  rw [List.mem_append, hm]
  constructor
  · rintro (hx | hx)
    · refine ⟨.inl hx, ?_⟩
      rintro rfl
      have := h5 x hx x (by simp)
      omega
    · refine ⟨.inr (.inr hx), ?_⟩
      rintro rfl
      have := h4 x hx
      omega
  · rintro ⟨hx | hx | hx, hne⟩
    · exact .inl hx
    · exact absurd hx hne
    · exact .inr hx
theorem delL_len {m : List (List Int)} {row : List Int} (hs : SL m) (h : row ∈ m) : (delL m row).length + 1 = m.length := by
  obtain ⟨hk, -⟩ := plc_at hs h
  unfold delL
  rw [List.length_append, List.length_take, List.length_drop]; omega
theorem insL_len (m : List (List Int)) (row : List Int) : (insL m row).length = m.length + 1 := by
  unfold insL
  have := plc_le m row
  rw [List.length_append, List.length_append, List.length_take, List.length_drop, List.length_singleton]; omega
theorem insM_yes' {ar : Int} {m : List (List Int)} {row : List Int} (h : insOk ar m row = true) : insM ar m row = insL m row := by unfold insM; rw [if_pos h]; rfl
theorem insM_no' {ar : Int} {m : List (List Int)} {row : List Int} (h : insOk ar m row = false) : insM ar m row = m := by unfold insM; rw [h]; rfl
theorem delM_yes' {ar : Int} {m : List (List Int)} {row : List Int} (h : conB ar m row = true) : delM ar m row = delL m row := by unfold delM; rw [if_pos h]; rfl
theorem delM_no' {ar : Int} {m : List (List Int)} {row : List Int} (h : conB ar m row = false) : delM ar m row = m := by unfold delM; rw [h]; rfl
/-- What an insertion leaves, and its deletion. -/
theorem ins_law {ar : Int} {m : List (List Int)} {row : List Int} (h : insOk ar m row = true) :
    conB ar (insM ar m row) row = true ∧ conB ar m row = false ∧ relOk ar (insM ar m row) = true ∧ (insM ar m row).length = m.length + 1 ∧ delM ar (insM ar m row) row = m := by
  obtain ⟨h1, h2, h3, h4⟩ := insOk_iff.1 h
  obtain ⟨a1, a2, a3, a4⟩ := relOk_iff.1 h1
  rw [insM_yes' h]
  have hS := insL_SL a4 h4
  have hr : relOk ar (insL m row) = true := relOk_iff.2 ⟨a1, by rw [insL_len]; omega, fun r hr => by
    rcases (insL_mem m row r).1 hr with hr | rfl
    · exact a3 r hr
    · exact okRow_iff.1 h2, hS⟩
  have hc : conB ar (insL m row) row = true := conB_iff.2 ⟨hr, (insL_mem m row row).2 (.inr rfl)⟩
  refine ⟨hc, conB_no h4, hr, insL_len m row, ?_⟩
  rw [delM_yes' hc]
  refine SL.unique (delL_SL hS) a4 fun x => ?_
  rw [delL_mem hS ((insL_mem m row row).2 (.inr rfl)), insL_mem]
  constructor
  · rintro ⟨hx | hx, hne⟩
    · exact hx
    · exact absurd hx hne
  · intro hx
    exact ⟨.inl hx, fun e => h4 (e ▸ hx)⟩
/-- What a deletion leaves, and its insertion. -/
theorem del_law {ar : Int} {m : List (List Int)} {row : List Int} (h : conB ar m row = true) : insOk ar (delM ar m row) row = true ∧ insM ar (delM ar m row) row = m := by
  obtain ⟨h1, h2⟩ := conB_iff.1 h
  obtain ⟨a1, a2, a3, a4⟩ := relOk_iff.1 h1
  rw [delM_yes' h]
  have hS := delL_SL (row := row) a4
  have hl := delL_len a4 h2
  have hn : ¬ row ∈ delL m row := fun h' => ((delL_mem a4 h2 row).1 h').2 rfl
  have hr : relOk ar (delL m row) = true := relOk_iff.2 ⟨a1, by omega, fun r hr => a3 r ((delL_mem a4 h2 r).1 hr).1, hS⟩
  have hi : insOk ar (delL m row) row = true := insOk_iff.2 ⟨hr, okRow_iff.2 (a3 row h2), by omega, hn⟩
  refine ⟨hi, ?_⟩
  rw [insM_yes' hi]
  refine SL.unique (insL_SL hS hn) a4 fun x => ?_
  rw [insL_mem, delL_mem a4 h2]
  constructor
  · rintro (hx | rfl)
    · exact hx.1
    · exact h2
  · intro hx
    by_cases hxr : x = row
    · exact .inr hxr
    · exact .inl ⟨hx, hxr⟩

theorem two_iff {a b : Int} {ma mb : List (List Int)} : twoOk a ma b mb = true ↔ relOk a ma = true ∧ relOk b mb = true ∧ a = b := by
  unfold twoOk; simp only [Bool.and_eq_true, decide_eq_true_eq]
  exact ⟨fun h => ⟨h.1.1, h.1.2, h.2⟩, fun h => ⟨⟨h.1, h.2.1⟩, h.2.2⟩⟩
theorem rel_filter {ar : Int} {m : List (List Int)} (p : List Int → Bool) (h : relOk ar m = true) : relOk ar (m.filter p) = true := by
  obtain ⟨a1, a2, a3, a4⟩ := relOk_iff.1 h
  have := List.length_filter_le p m
  exact relOk_iff.2 ⟨a1, by omega, fun r hr => a3 r (List.mem_filter.1 hr).1, List.Pairwise.filter p a4⟩
theorem un_ok {a b : Int} {ma mb : List (List Int)} (h : twoOk a ma b mb = true) (hl : ma.length + mb.length ≤ 4000) : unOk a ma b mb = true := by
  obtain ⟨h1, h2, rfl⟩ := two_iff.1 h
  obtain ⟨a1, a2, a3, a4⟩ := relOk_iff.1 h1
  obtain ⟨b1, b2, b3, b4⟩ := relOk_iff.1 h2
  unfold unOk
  rw [h, Bool.true_and]
  refine newOk_iff.2 ⟨a1, fun r hr => okRow_iff.2 ?_, ?_⟩
  · rcases List.mem_append.1 hr with hr | hr
    · exact a3 r hr
    · exact b3 r hr
  · have := sortI_len _ (ma ++ mb) (Nat.le_refl _)
    rw [List.length_append] at this; omega
/-- Union and difference of two that fit. -/
theorem set_law {a b : Int} {ma mb : List (List Int)} (h : twoOk a ma b mb = true) (hl : ma.length + mb.length ≤ 4000) :
    unOk a ma b mb = true ∧ unOk b mb a ma = true ∧ unM b mb a ma = unM a ma b mb ∧ relOk a (unM a ma b mb) = true ∧
      unOk a (difM a ma b mb) b mb = true ∧ unM a (difM a ma b mb) b mb = unM a ma b mb ∧ (∀ r ∈ difM a ma b mb, conB b mb r = false ∧ conB a ma r = true) ∧ (difM a ma b mb).length ≤ ma.length := by
  obtain ⟨h1, h2, rfl⟩ := two_iff.1 h
  have hu := un_ok h hl
  have h' : twoOk a mb a ma = true := two_iff.2 ⟨h2, h1, rfl⟩
  have hu' := un_ok h' (by omega)
  have hd : difM a ma a mb = ma.filter (fun r => !plB mb r) := by unfold difM; rw [if_pos h]
  have hdr : relOk a (difM a ma a mb) = true := by rw [hd]; exact rel_filter _ h1
  have hdl : (difM a ma a mb).length ≤ ma.length := by rw [hd]; exact List.length_filter_le _ _
  have h3 : twoOk a (difM a ma a mb) a mb = true := two_iff.2 ⟨hdr, h2, rfl⟩
  have hu3 := un_ok h3 (by omega)
  have sb := (relOk_iff.1 h2).2.2.2
  have hmem : ∀ r, r ∈ difM a ma a mb ↔ r ∈ ma ∧ ¬ r ∈ mb := fun r => by
    rw [hd, List.mem_filter, Bool.not_eq_true', Bool.eq_false_iff, Ne, plB_iff sb]
  refine ⟨hu, hu', ?_, ?_, hu3, ?_, fun r hr => ?_, hdl⟩
  · unfold unM
    rw [if_pos hu, if_pos hu']
    exact sortI_congr fun x => by rw [List.mem_append, List.mem_append]; exact Or.comm
  · unfold unM
    rw [if_pos hu]
    unfold unOk at hu
    rw [Bool.and_eq_true] at hu
    exact newOk_rel hu.2
  · unfold unM
    rw [if_pos hu, if_pos hu3]
    refine sortI_congr fun x => ?_
    rw [List.mem_append, List.mem_append, hmem]
    by_cases hx : x ∈ mb
    · simp [hx]
    · simp [hx]
  · have := (hmem r).1 hr
    exact ⟨conB_no this.2, conB_iff.2 ⟨h1, this.1⟩⟩
theorem un_none {a b : Int} {ma mb : List (List Int)} (h : twoOk a ma b mb = false) : unOk a ma b mb = false ∧ unA a ma b mb = 0 ∧ unM a ma b mb = [] := by
  have e : unOk a ma b mb = false := by unfold unOk; rw [h]; rfl
  exact ⟨e, by unfold unA; rw [e]; rfl, by unfold unM; rw [e]; rfl⟩
theorem dif_none {a b : Int} {ma mb : List (List Int)} (h : twoOk a ma b mb = false) : difA a ma b mb = 0 ∧ difM a ma b mb = [] := ⟨by unfold difA; rw [h]; rfl, by unfold difM; rw [h]; rfl⟩
theorem unA_yes {a b : Int} {ma mb : List (List Int)} (h : unOk a ma b mb = true) : unA a ma b mb = a := by unfold unA; rw [if_pos h]
theorem difA_yes {a b : Int} {ma mb : List (List Int)} (h : twoOk a ma b mb = true) : difA a ma b mb = a := by unfold difA; rw [if_pos h]
theorem two_comm {a b : Int} {ma mb : List (List Int)} (h : twoOk a ma b mb = false) : twoOk b mb a ma = false := by
  rw [Bool.eq_false_iff] at h ⊢
  intro h'
  obtain ⟨h1, h2, h3⟩ := two_iff.1 h'
  exact h (two_iff.2 ⟨h2, h1, h3.symm⟩)

/-- What is said of a new relation. -/
theorem new_law {ar : Int} {m : List (List Int)} (h : newOk ar m = true) (m2 : List (List Int)) (h2 : ∀ x, x ∈ m2 ↔ x ∈ m) :
    newOk ar m2 = true ∧ newM ar m2 = newM ar m ∧ relOk ar (newM ar m) = true ∧ (newM ar m).length ≤ m.length ∧ ∀ r ∈ m, conB ar (newM ar m) r = true := by
  have e := newOk_congr (ar := ar) h2
  rw [h] at e
  rw [newM_yes h, newM_yes e]
  refine ⟨e, sortI_congr h2, newOk_rel h, sortI_len _ m (Nat.le_refl _), fun r hr => conB_iff.2 ⟨newOk_rel h, (sortI_mem m r).2 hr⟩⟩

def idx (n : Nat) : List Int := (List.range n).map fun (i : Nat) => (i : Int)
theorem idx_len (n : Nat) : (idx n).length = n := by simp [idx]
theorem idx_step (n : Nat) : idx n ++ [(n : Int)] = idx (n + 1) := by simp [idx, List.range_succ]
theorem pick_idx (r : List Int) : pick (idx r.length) r = r := by
  apply List.ext_getElem (by simp [pick, idx])
  intro i h1 h2
  simp [pick, idx, List.getD, h2]
/-- Projected to all columns. -/
theorem all_law {ar : Int} {m : List (List Int)} (h : relOk ar m = true) : proOk ar m (idx ar.toNat) = true ∧ proM ar m (idx ar.toNat) = m ∧ proA ar m (idx ar.toNat) = ar := by
  obtain ⟨a1, a2, a3, a4⟩ := relOk_iff.1 h
  obtain ⟨n, rfl⟩ := Int.eq_ofNat_of_zero_le a1.1
  have hc : colsOk (n : Int) (idx (n : Int).toNat) = true := by
    unfold colsOk
    simp only [Int.toNat_natCast, Bool.and_eq_true, decide_eq_true_eq, List.all_eq_true, idx_len, inR_iff]
    refine ⟨by omega, fun x hx => ?_⟩
    unfold idx at hx
    obtain ⟨i, hi, rfl⟩ := List.mem_map.1 hx
    have := List.mem_range.1 hi
    omega
  have hm : m.map (pick (idx (n : Int).toNat)) = m := by
    conv => rhs; rw [← List.map_id m]
    refine List.map_congr_left fun r hr => ?_
    have := (a3 r hr).1
    rw [show (n : Int).toNat = r.length by omega, pick_idx]; rfl
  have hn : (((idx (n : Int).toNat).length : Nat) : Int) = (n : Int) := by rw [idx_len]; simp
  have hp : proOk (n : Int) m (idx (n : Int).toNat) = true := by
    unfold proOk
    rw [h, hc, hm, hn, (newOk_of_rel h).1]; rfl
  refine ⟨hp, ?_, ?_⟩
  · unfold proM; rw [if_pos hp, hm]; exact (newOk_of_rel h).2
  · unfold proA; rw [if_pos hp]; exact hn
theorem pro_law {ar : Int} {m : List (List Int)} {cols : List Int} (h : proOk ar m cols = true) : (proM ar m cols).length ≤ m.length ∧ ((proM ar m cols).length = 0 ↔ m.length = 0) ∧ relOk ar m = true := by
  have hr : relOk ar m = true := by unfold proOk at h; simp only [Bool.and_eq_true] at h; exact h.1.1
  unfold proM
  rw [if_pos h]
  have h1 := sortI_len _ (m.map (pick cols)) (Nat.le_refl _)
  rw [List.length_map] at h1
  refine ⟨h1, ⟨fun h2 => ?_, fun h2 => by omega⟩, hr⟩
  cases m with
  | nil => rfl
  | cons x t =>
    have := (sortI_mem ((x :: t).map (pick cols)) (pick cols x)).2 (by simp)
    rw [List.length_eq_zero_iff.1 h2] at this
    simp at this
end Go.Proofs.Ytbajnecahojcfaa
