/- Tables set in a database: plain laws. -/
import Derived.Test.YtbajnecahojcfaaLkp
import Derived.Test.YtbajnecahojcfaaDbE
namespace Go.Proofs.Ytbajnecahojcfaa
/-- The tables T with the table n in its place. -/
def putT (n : Tab) : List Tab → List Tab
  | [] => [n]
  | t :: T => if t.1 < n.1 then t :: putT n T else if t.1 = n.1 then n :: T else n :: t :: T
theorem putT_find (n : Tab) : ∀ (T : List Tab), (putT n T).find? (fun t => t.1 == n.1) = some n
  | [] => by simp [putT]
  | t :: T => by
    unfold putT
    split
    · rename_i h
      have hne : (t.1 == n.1) = false := by rw [beq_eq_false_iff_ne]; intro e; rw [e] at h; exact List.lt_irrefl _ h
      rw [List.find?_cons, hne]
      exact putT_find n T
    · split <;> simp
theorem putT_other (n : Tab) (N : List UInt8) (hN : ¬ N = n.1) : ∀ (T : List Tab), (putT n T).find? (fun t => t.1 == N) = T.find? (fun t => t.1 == N)
  | [] => by
    have : (n.1 == N) = false := by rw [beq_eq_false_iff_ne]; exact fun e => hN e.symm
    simp [putT, this]
  | t :: T => by
    have hn : (n.1 == N) = false := by rw [beq_eq_false_iff_ne]; exact fun e => hN e.symm
    unfold putT
    split
    · rw [List.find?_cons, List.find?_cons, putT_other n N hN T]
    · split
      · rename_i h
        have : (t.1 == N) = false := by rw [h]; exact hn
        rw [List.find?_cons, List.find?_cons, hn, this]
      · rw [List.find?_cons, hn]
theorem putT_mem (n : Tab) : ∀ (T : List Tab), n ∈ putT n T
  | [] => by simp [putT]
  | t :: T => by
    unfold putT
    split
    · exact List.mem_cons_of_mem _ (putT_mem n T)
    · split <;> simp
theorem putT_sub (n : Tab) : ∀ (T : List Tab), ∀ x ∈ putT n T, x = n ∨ x ∈ T
  | [] => fun x hx => by simp [putT] at hx; exact .inl hx
  | t :: T => fun x hx => by
    unfold putT at hx
    split at hx
    · rcases List.mem_cons.1 hx with rfl | hx
      · exact .inr (by simp)
      · rcases putT_sub n T x hx with h | h
        · exact .inl h
        · exact .inr (List.mem_cons_of_mem _ h)
    · split at hx
      · rcases List.mem_cons.1 hx with rfl | hx
        · exact .inl rfl
        · exact .inr (List.mem_cons_of_mem _ hx)
      · rcases List.mem_cons.1 hx with rfl | hx
        · exact .inl rfl
        · exact .inr hx
/-- The place k found from the left. -/
theorem putT_at (n : Tab) : ∀ (T : List Tab) (k : Nat), k ≤ T.length → (∀ i (hi : i < T.length), i < k → T[i].1 < n.1) → (∀ hk : k < T.length, ¬ T[k].1 < n.1) →
    putT n T = if (T.getD k ([], 0, [])).1 = n.1 ∧ k < T.length then T.set k n else T.take k ++ n :: T.drop k
  | [], k, hk, _, _ => by
    have : k = 0 := by simpa using hk
    subst this
    simp [putT]
  | t :: T, 0, _, _, h2 => by
    have h := h2 (by simp)
    simp only [List.getElem_cons_zero] at h
    unfold putT
    rw [if_neg h]
    by_cases e : t.1 = n.1
    · rw [if_pos e, if_pos ⟨by simpa using e, by simp⟩]; rfl
    · rw [if_neg e, if_neg (fun hh => e (by simpa using hh.1))]; rfl
  | t :: T, k + 1, hk, h1, h2 => by
    have h := h1 0 (by simp) (by omega)
    simp only [List.getElem_cons_zero] at h
    have ih := putT_at n T k (by simpa using hk) (fun i hi hik => by have := h1 (i + 1) (by simp; omega) (by omega); simpa using this) (fun hk' => by have := h2 (by simp; omega); simpa using this)
    unfold putT
    rw [if_pos h, ih]
    by_cases e : (T.getD k ([], 0, [])).1 = n.1 ∧ k < T.length
    · rw [if_pos e, if_pos ⟨by simpa using e.1, by simp; exact e.2⟩]; rfl
    · rw [if_neg e, if_neg (fun hh => e ⟨by simpa using hh.1, by simpa using hh.2⟩)]; rfl
theorem putT_set {n : Tab} {T : List Tab} {k : Nat} (hk : k < T.length) (h1 : ∀ i (hi : i < T.length), i < k → T[i].1 < n.1) (h2 : ¬ T[k].1 < n.1) (he : T[k].1 = n.1) : putT n T = T.set k n := by
  rw [putT_at n T k (by omega) h1 (fun _ => h2), if_pos]
  rw [getD_at hk]
  exact ⟨he, hk⟩
theorem putT_ins {n : Tab} {T : List Tab} {k : Nat} (hk : k ≤ T.length) (h1 : ∀ i (hi : i < T.length), i < k → T[i].1 < n.1) (h2 : ∀ hk : k < T.length, ¬ T[k].1 < n.1 ∧ ¬ T[k].1 = n.1) : putT n T = T.take k ++ n :: T.drop k := by
  rw [putT_at n T k hk h1 (fun h => (h2 h).1), if_neg]
  rintro ⟨e, hk'⟩
  rw [getD_at hk'] at e
  exact (h2 hk').2 e
theorem lt_step {n : Tab} {T : List Tab} {k : Nat} (hk : k < T.length) (h1 : ∀ i (hi : i < T.length), i < k → T[i].1 < n.1) (h2 : T[k].1 < n.1) : ∀ i (hi : i < T.length), i < k + 1 → T[i].1 < n.1 := by
  intro i hi hik
  rcases Nat.lt_or_ge i k with h' | h'
  · exact h1 i hi h'
  · have : i = k := by omega
    subst this; exact h2
/-- The reference's walk: put tells whether n stands already. -/
def refT (n : Tab) : Bool → List Tab → List Tab
  | true, [] => []
  | false, [] => [n]
  | false, t :: T => if t.1 < n.1 then t :: refT n false T else if t.1 = n.1 then n :: refT n true T else n :: t :: refT n true T
  | true, t :: T => if t.1 = n.1 then refT n true T else t :: refT n true T
theorem refT_true (n : Tab) : ∀ (T : List Tab), (∀ t ∈ T, ¬ t.1 = n.1) → refT n true T = T
  | [], _ => rfl
  | t :: T, h => by
    rw [refT, if_neg (h t (by simp)), refT_true n T (fun x hx => h x (List.mem_cons_of_mem _ hx))]
theorem refT_put (n : Tab) : ∀ (T : List Tab), T.Pairwise (fun a b => a.1 < b.1) → refT n false T = putT n T
  | [], _ => rfl
  | t :: T, h => by
    obtain ⟨h1, h2⟩ := List.pairwise_cons.1 h
    unfold refT putT
    by_cases a : t.1 < n.1
    · rw [if_pos a, if_pos a, refT_put n T h2]
    · rw [if_neg a, if_neg a]
      by_cases e : t.1 = n.1
      · rw [if_pos e, if_pos e, refT_true n T]
        intro x hx e2
        have := h1 x hx
        rw [e, ← e2] at this
        exact List.lt_irrefl _ this
      · rw [if_neg e, if_neg e, refT_true n T]
        intro x hx e2
        have := h1 x hx
        rw [e2] at this
        exact a this
theorem str_trans {a b c : List UInt8} (h : a < b) (k : b < c) : a < c := List.lt_trans h k
theorem db_sorted {T : List Tab} (h : dbOk T = true) : T.Pairwise (fun a b => a.1 < b.1) := by
  have hall : ∀ i, i < T.length → tabAt T i = true := by
    unfold dbOk at h
    rw [Bool.and_eq_true, List.all_eq_true] at h
    exact fun i hi => h.2 i (List.mem_range.2 hi)
  have hadj : ∀ i (hi : i + 1 < T.length), T[i].1 < T[i + 1].1 := by
    intro i hi
    have := hall (i + 1) hi
    unfold tabAt at this
    rw [Bool.and_eq_true, Bool.or_eq_true, decide_eq_true_eq, decide_eq_true_eq, getD_at hi, getD_at (show i + 1 - 1 < T.length by omega)] at this
    rcases this.2 with h | h
    · omega
    · exact h
  have hlt : ∀ (d i : Nat) (hi : i + 1 + d < T.length), T[i].1 < T[i + 1 + d].1 := by
    intro d
    induction d with
    | zero => intro i hi; exact hadj i hi
    | succ d ih => intro i hi; exact str_trans (ih i (by omega)) (hadj (i + 1 + d) hi)
  rw [List.pairwise_iff_getElem]
  intro i j hi hj hij
  obtain ⟨d, rfl⟩ : ∃ d, j = i + 1 + d := ⟨j - i - 1, by omega⟩
  exact hlt d i hj
theorem db_len {T : List Tab} (h : dbOk T = true) : T.length ≤ 6 := by
  unfold dbOk at h
  rw [Bool.and_eq_true, decide_eq_true_eq] at h
  exact h.1
theorem db_tab {T : List Tab} (h : dbOk T = true) {t : Tab} (ht : t ∈ T) : tabOk t = true := by
  unfold dbOk at h
  rw [Bool.and_eq_true, List.all_eq_true] at h
  obtain ⟨i, hi, rfl⟩ := List.mem_iff_getElem.1 ht
  have := h.2 i (List.mem_range.2 hi)
  unfold tabAt at this
  rw [Bool.and_eq_true, getD_at hi] at this
  exact this.1
theorem db_name {T : List Tab} (h : dbOk T = true) {t : Tab} (ht : t ∈ T) : nameB t.1 4 = true := by
  have := db_tab h ht
  unfold tabOk at this
  simp only [Bool.and_eq_true] at this
  exact this.1.1.1
theorem sorted_find {T : List Tab} (h : T.Pairwise (fun a b => a.1 < b.1)) : ∀ {t : Tab}, t ∈ T → T.find? (fun x => x.1 == t.1) = some t := by
  induction T with
  | nil => intro t ht; cases ht
  | cons a T ih =>
    intro t ht
    obtain ⟨h1, h2⟩ := List.pairwise_cons.1 h
    rcases List.mem_cons.1 ht with rfl | ht
    · simp
    · have : (a.1 == t.1) = false := by
        rw [beq_eq_false_iff_ne]; intro e
        have := h1 t ht
        rw [e] at this
        exact List.lt_irrefl _ this
      rw [List.find?_cons, this]
      exact ih h2 ht
/-- Whether setting n succeeds. -/
def setOk (n : Tab) (T : List Tab) : Bool := dbOk T && dbOk (putT n T)
theorem setOk_ref (n : Tab) (T : List Tab) : (dbOk T && dbOk (refT n false T)) = setOk n T := by
  unfold setOk
  cases h : dbOk T with
  | false => rfl
  | true => rw [refT_put n T (db_sorted h)]
theorem set_new {n : Tab} {T : List Tab} (h : setOk n T = true) : lkT (putT n T) n.1 = some n := by
  unfold setOk at h
  rw [Bool.and_eq_true] at h
  unfold lkT
  rw [h.2, if_pos rfl, putT_find]
theorem set_old {n : Tab} {T : List Tab} (h : setOk n T = true) {t : Tab} (ht : t ∈ T) (hne : ¬ t.1 = n.1) : lkT (putT n T) t.1 = some t := by
  unfold setOk at h
  rw [Bool.and_eq_true] at h
  unfold lkT
  rw [h.2, if_pos rfl, putT_other n t.1 hne, sorted_find (db_sorted h.1) ht]
theorem set_same {n : Tab} {T : List Tab} (h : setOk n T = true) {t : Tab} (he : t.1 = n.1) : lkT (putT n T) t.1 = some n := by rw [he]; exact set_new h
theorem set_name {n : Tab} {T : List Tab} (h : setOk n T = true) : nameB n.1 4 = true := by
  unfold setOk at h
  rw [Bool.and_eq_true] at h
  exact db_name h.2 (putT_mem n T)
theorem eqDb_self (T : List Tab) : eqDb T T = true := eqDb_end rfl fun i hi => eqAt_of hi hi ⟨by simp, eqR_self _ _⟩
theorem lk_of {T : List Tab} {N : List UInt8} {t : Tab} (h : lkT T N = some t) : lkA T N = t.2.1 ∧ lkM T N = t.2.2 ∧ lkOk T N = true := by
  unfold lkA lkM lkOk
  rw [h]
  exact ⟨rfl, rfl, rfl⟩
theorem tsz_append (S T : List Tab) : tsz (S ++ T) = tsz S + tsz T := by simp [tsz]
theorem tsz_cons (t : Tab) (T : List Tab) : tsz (t :: T) = tsz1 t + tsz T := by simp [tsz]
theorem putT_tsz (n : Tab) : ∀ (T : List Tab), tsz (putT n T) ≤ tsz1 n + tsz T
  | [] => by rw [putT, tsz_cons]; exact Nat.le_refl _
  | t :: T => by
    have := putT_tsz n T
    unfold putT
    split
    · rw [tsz_cons, tsz_cons]; omega
    · split
      · rw [tsz_cons, tsz_cons]; omega
      · rw [tsz_cons, tsz_cons]; omega
theorem refT_sub (n : Tab) : ∀ (p : Bool) (T : List Tab), ∀ x ∈ refT n p T, x = n ∨ x ∈ T
  | true, [] => fun x hx => by simp [refT] at hx
  | false, [] => fun x hx => by simp [refT] at hx; exact .inl hx
  | false, t :: T => fun x hx => by
    unfold refT at hx
    split at hx
    · rcases List.mem_cons.1 hx with rfl | hx
      · exact .inr (by simp)
      · rcases refT_sub n false T x hx with h | h
        · exact .inl h
        · exact .inr (List.mem_cons_of_mem _ h)
    · split at hx
      · rcases List.mem_cons.1 hx with rfl | hx
        · exact .inl rfl
        · rcases refT_sub n true T x hx with h | h
          · exact .inl h
          · exact .inr (List.mem_cons_of_mem _ h)
      · rcases List.mem_cons.1 hx with rfl | hx
        · exact .inl rfl
        · rcases List.mem_cons.1 hx with rfl | hx
          · exact .inr (by simp)
          · rcases refT_sub n true T x hx with h | h
            · exact .inl h
            · exact .inr (List.mem_cons_of_mem _ h)
  | true, t :: T => fun x hx => by
    unfold refT at hx
    split at hx
    · rcases refT_sub n true T x hx with h | h
      · exact .inl h
      · exact .inr (List.mem_cons_of_mem _ h)
    · rcases List.mem_cons.1 hx with rfl | hx
      · exact .inr (by simp)
      · rcases refT_sub n true T x hx with h | h
        · exact .inl h
        · exact .inr (List.mem_cons_of_mem _ h)
theorem refT_len (n : Tab) : ∀ (p : Bool) (T : List Tab), (refT n p T).length ≤ T.length + (if p then 0 else 1)
  | true, [] => by simp [refT]
  | false, [] => by simp [refT]
  | false, t :: T => by
    have h1 := refT_len n false T
    have h2 := refT_len n true T
    simp only [if_true, Bool.false_eq_true, if_false] at h1 h2
    unfold refT
    split
    · simp; omega
    · split <;> simp <;> omega
  | true, t :: T => by
    have h2 := refT_len n true T
    simp only [if_true] at h2
    unfold refT
    split <;> simp <;> omega
theorem refT_tsz (n : Tab) : ∀ (p : Bool) (T : List Tab), tsz (refT n p T) ≤ tsz T + (if p then 0 else tsz1 n)
  | true, [] => by simp [refT]
  | false, [] => by simp [refT, tsz]
  | false, t :: T => by
    have h1 := refT_tsz n false T
    have h2 := refT_tsz n true T
    simp only [if_true, Bool.false_eq_true, if_false] at h1 h2
    unfold refT
    simp only [Bool.false_eq_true, if_false]
    split
    · rw [tsz_cons, tsz_cons]; omega
    · split
      · rw [tsz_cons, tsz_cons]; omega
      · rw [tsz_cons, tsz_cons, tsz_cons]; omega
  | true, t :: T => by
    have h2 := refT_tsz n true T
    simp only [if_true] at h2
    unfold refT
    simp only [if_true]
    split
    · rw [tsz_cons]; omega
    · rw [tsz_cons, tsz_cons]; omega
end Go.Proofs.Ytbajnecahojcfaa
