/- Rows as lists: merging, sorting, search, the operations on relations. No program in sight. -/
import Derived.Test.YtbajnecahojcfaaRowP
namespace Go.Proofs.Ytbajnecahojcfaa
set_option maxHeartbeats 400000

theorem SL.nil : SL [] := List.Pairwise.nil
theorem SL.push {m : List (List Int)} {x : List Int} (h : SL m) (hx : ∀ y ∈ m, cmpRow y x < 0) : SL (m ++ [x]) := by
  refine List.pairwise_append.2 ⟨h, List.pairwise_singleton _ _, fun a ha b hb => ?_⟩
  rw [List.mem_singleton.1 hb]; exact hx a ha
theorem SL.last {m : List (List Int)} {l : List Int} (h : SL m) (hl : m.getLast? = some l) : l ∈ m ∧ ∀ y ∈ m, cmpRow y l ≤ 0 := by
  obtain ⟨ys, rfl⟩ := List.getLast?_eq_some_iff.1 hl
  refine ⟨by simp, fun y hy => ?_⟩
  rcases List.mem_append.1 hy with hy | hy
  · have := (List.pairwise_append.1 h).2.2 y hy l (by simp); omega
  · rw [List.mem_singleton.1 hy, cmpRow_self]; omega

/-! The program's merge. -/
def mergeI : List (List Int) → List (List Int) → List (List Int)
  | [], b => b
  | x :: a, [] => x :: a
  | x :: a, y :: b => if cmpRow x y < 0 then x :: mergeI a (y :: b) else if cmpRow x y = 0 then x :: mergeI a b else y :: mergeI (x :: a) b
termination_by a b => a.length + b.length
theorem mergeI_nil (b : List (List Int)) : mergeI [] b = b := by unfold mergeI; rfl
theorem mergeI_nil' (a : List (List Int)) : mergeI a [] = a := by
  cases a with
  | nil => exact mergeI_nil []
  | cons x a => unfold mergeI; rfl
theorem mergeI_cons (x y : List Int) (a b : List (List Int)) : mergeI (x :: a) (y :: b) = if cmpRow x y < 0 then x :: mergeI a (y :: b) else if cmpRow x y = 0 then x :: mergeI a b else y :: mergeI (x :: a) b := by
  conv => lhs; unfold mergeI
theorem mergeI_mem (z : List Int) : ∀ (n : Nat) (a b : List (List Int)), a.length + b.length ≤ n → (z ∈ mergeI a b ↔ z ∈ a ∨ z ∈ b) := by
  intro n
  induction n with
  | zero => intro a b h; obtain rfl : a = [] := List.length_eq_zero_iff.1 (by omega); obtain rfl : b = [] := List.length_eq_zero_iff.1 (by omega); rw [mergeI_nil]; simp
  | succ n ih =>
    intro a b h
    match a, b with
    | [], b => rw [mergeI_nil]; simp
    | x :: a, [] => rw [mergeI_nil']; simp
    | x :: a, y :: b =>
      simp only [List.length_cons] at h
      rw [mergeI_cons]
      split
      · rw [List.mem_cons, ih _ _ (by simp only [List.length_cons]; omega), List.mem_cons, List.mem_cons]
        exact or_assoc.symm
      · split
        · rename_i _ he
          have := cmpRow_eq he
          subst this
          rw [List.mem_cons, ih _ _ (by omega), List.mem_cons, List.mem_cons]
          constructor
          · rintro (h | h | h) <;> simp_all
          · rintro ((h | h) | (h | h)) <;> simp_all
        · rw [List.mem_cons, ih _ _ (by simp only [List.length_cons]; omega), List.mem_cons, List.mem_cons]
          constructor
          · rintro (h | (h | h) | h) <;> simp_all
          · rintro ((h | h) | (h | h)) <;> simp_all
theorem mergeI_SL : ∀ (n : Nat) (a b : List (List Int)), a.length + b.length ≤ n → SL a → SL b → SL (mergeI a b) := by
  intro n
  induction n with
  | zero => intro a b h _ _; obtain rfl : a = [] := List.length_eq_zero_iff.1 (by omega); obtain rfl : b = [] := List.length_eq_zero_iff.1 (by omega); rw [mergeI_nil]; exact SL.nil
  | succ n ih =>
    intro a b h ha hb
    match a, b, ha, hb with
    | [], b, _, hb => rw [mergeI_nil]; exact hb
    | x :: a, [], ha, _ => rw [mergeI_nil']; exact ha
    | x :: a, y :: b, ha, hb =>
      simp only [List.length_cons] at h
      have ha' := List.pairwise_cons.1 ha
      have hb' := List.pairwise_cons.1 hb
      rw [mergeI_cons]
      split
      · rename_i hlt
        refine List.pairwise_cons.2 ⟨fun z hz => ?_, ih _ _ (by simp only [List.length_cons]; omega) ha'.2 hb⟩
        rcases (mergeI_mem z _ _ _ (Nat.le_refl _)).1 hz with hz | hz
        · exact ha'.1 z hz
        · rcases List.mem_cons.1 hz with rfl | hz
          · exact hlt
          · exact cmpRow_lt_trans hlt (hb'.1 z hz)
      · split
        · rename_i _ he
          have := cmpRow_eq he
          subst this
          refine List.pairwise_cons.2 ⟨fun z hz => ?_, ih _ _ (by omega) ha'.2 hb'.2⟩
          rcases (mergeI_mem z _ _ _ (Nat.le_refl _)).1 hz with hz | hz
          · exact ha'.1 z hz
          · exact hb'.1 z hz
        · rename_i h1 h2
          have hlt : cmpRow y x < 0 := by rw [cmpRow_neg x y]; omega
          refine List.pairwise_cons.2 ⟨fun z hz => ?_, ih _ _ (by simp only [List.length_cons]; omega) ha hb'.2⟩
          rcases (mergeI_mem z _ _ _ (Nat.le_refl _)).1 hz with hz | hz
          · rcases List.mem_cons.1 hz with rfl | hz
            · exact hlt
            · exact cmpRow_lt_trans hlt (ha'.1 z hz)
          · exact hb'.1 z hz
def sortI (m : List (List Int)) : List (List Int) := if h : m.length < 2 then m else mergeI (sortI (m.take (m.length / 2))) (sortI (m.drop (m.length / 2)))
termination_by m.length
decreasing_by all_goals simp; omega
theorem sortI_small {m : List (List Int)} (h : m.length < 2) : sortI m = m := by unfold sortI; rw [dif_pos h]
theorem sortI_great {m : List (List Int)} (h : ¬ m.length < 2) : sortI m = mergeI (sortI (m.take (m.length / 2))) (sortI (m.drop (m.length / 2))) := by
  conv => lhs; unfold sortI
  rw [dif_neg h]
theorem SL.small {m : List (List Int)} (h : m.length < 2) : SL m := by
  match m, h with
  | [], _ => exact SL.nil
  | [x], _ => exact List.pairwise_singleton _ _
theorem sortI_spec : ∀ (n : Nat) (m : List (List Int)), m.length ≤ n → SL (sortI m) ∧ ∀ x, x ∈ sortI m ↔ x ∈ m := by
  intro n
  induction n with
  | zero => intro m h; rw [sortI_small (by omega)]; exact ⟨SL.small (by omega), fun _ => Iff.rfl⟩
  | succ n ih =>
    intro m h
    by_cases h2 : m.length < 2
    · rw [sortI_small h2]; exact ⟨SL.small h2, fun _ => Iff.rfl⟩
    · rw [sortI_great h2]
      obtain ⟨a1, a2⟩ := ih (m.take (m.length / 2)) (by simp; omega)
      obtain ⟨b1, b2⟩ := ih (m.drop (m.length / 2)) (by simp; omega)
      refine ⟨mergeI_SL _ _ _ (Nat.le_refl _) a1 b1, fun x => ?_⟩
      rw [mergeI_mem x _ _ _ (Nat.le_refl _), a2, b2, ← List.mem_append, List.take_append_drop]
theorem sortI_SL (m : List (List Int)) : SL (sortI m) := (sortI_spec _ m (Nat.le_refl _)).1
theorem sortI_mem (m : List (List Int)) (x : List Int) : x ∈ sortI m ↔ x ∈ m := (sortI_spec _ m (Nat.le_refl _)).2 x
theorem mergeI_len : ∀ (n : Nat) (a b : List (List Int)), a.length + b.length ≤ n → (mergeI a b).length ≤ a.length + b.length := by
  intro n
  induction n with
  | zero => intro a b h; obtain rfl : a = [] := List.length_eq_zero_iff.1 (by omega); rw [mergeI_nil]; simp
  | succ n ih =>
    intro a b h
    match a, b with
    | [], b => rw [mergeI_nil]; simp
    | x :: a, [] => rw [mergeI_nil']; simp
    | x :: a, y :: b =>
      simp only [List.length_cons] at h
      rw [mergeI_cons]
      split
      · have := ih a (y :: b) (by simp only [List.length_cons]; omega); simp only [List.length_cons] at *; omega
      · split
        · have := ih a b (by omega); simp only [List.length_cons] at *; omega
        · have := ih (x :: a) b (by simp only [List.length_cons]; omega); simp only [List.length_cons] at *; omega
theorem sortI_len : ∀ (n : Nat) (m : List (List Int)), m.length ≤ n → (sortI m).length ≤ m.length := by
  intro n
  induction n with
  | zero => intro m h; rw [sortI_small (by omega)]; exact Nat.le_refl _
  | succ n ih =>
    intro m h
    by_cases h2 : m.length < 2
    · rw [sortI_small h2]; exact Nat.le_refl _
    · rw [sortI_great h2]
      have a1 := ih (m.take (m.length / 2)) (by simp; omega)
      have b1 := ih (m.drop (m.length / 2)) (by simp; omega)
      have := mergeI_len _ (sortI (m.take (m.length / 2))) (sortI (m.drop (m.length / 2))) (Nat.le_refl _)
      simp only [List.length_take, List.length_drop] at a1 b1
      omega

/-! The reference's merge. -/
def addS (out : List (List Int)) (x : List Int) : List (List Int) :=
  match out.getLast? with
  | none => out ++ [x]
  | some l => if cmpRow l x = 0 then out else out ++ [x]
def mergeS : List (List Int) → List (List Int) → List (List Int) → List (List Int)
  | out, [], [] => out
  | out, x :: a, [] => mergeS (addS out x) a []
  | out, [], y :: b => mergeS (addS out y) [] b
  | out, x :: a, y :: b => if 0 < cmpRow x y then mergeS (addS out y) (x :: a) b else mergeS (addS out x) a (y :: b)
termination_by _ a b => a.length + b.length
theorem mergeS_nn (o : List (List Int)) : mergeS o [] [] = o := by unfold mergeS; rfl
theorem mergeS_cn (o a : List (List Int)) (x : List Int) : mergeS o (x :: a) [] = mergeS (addS o x) a [] := by conv => lhs; unfold mergeS
theorem mergeS_nc (o b : List (List Int)) (y : List Int) : mergeS o [] (y :: b) = mergeS (addS o y) [] b := by conv => lhs; unfold mergeS
theorem mergeS_cc (o a b : List (List Int)) (x y : List Int) : mergeS o (x :: a) (y :: b) = if 0 < cmpRow x y then mergeS (addS o y) (x :: a) b else mergeS (addS o x) a (y :: b) := by conv => lhs; unfold mergeS
theorem addS_spec {out : List (List Int)} {x : List Int} (h : SL out) (hx : ∀ o ∈ out, cmpRow o x ≤ 0) : SL (addS out x) ∧ (∀ z, z ∈ addS out x ↔ z ∈ out ∨ z = x) := by
  unfold addS
  split
  · rename_i hn
    have : out = [] := by simpa using hn
    subst this
    exact ⟨List.pairwise_singleton _ _, fun z => by simp⟩
  · rename_i l hl
    obtain ⟨hm, hle⟩ := h.last hl
    split
    · rename_i he
      have := cmpRow_eq he
      subst this
      exact ⟨h, fun z => ⟨.inl, fun hz => hz.elim id fun e => e ▸ hm⟩⟩
    · rename_i hne
      have hlt : cmpRow l x < 0 := by have := hx l hm; omega
      exact ⟨h.push fun y hy => cmpRow_le_lt (hle y hy) hlt, fun z => by simp⟩
theorem mergeS_spec : ∀ (n : Nat) (out a b : List (List Int)), a.length + b.length ≤ n → SL out → SL a → SL b → (∀ o ∈ out, ∀ x, x ∈ a ∨ x ∈ b → cmpRow o x ≤ 0) →
    SL (mergeS out a b) ∧ ∀ z, z ∈ mergeS out a b ↔ z ∈ out ∨ z ∈ a ∨ z ∈ b := by
  intro n
  induction n with
  | zero => intro out a b h ho _ _ _; obtain rfl : a = [] := List.length_eq_zero_iff.1 (by omega); obtain rfl : b = [] := List.length_eq_zero_iff.1 (by omega); rw [mergeS_nn]; exact ⟨ho, fun z => by simp⟩
  | succ n ih =>
    intro out a b h ho ha hb hle
    match a, b, ha, hb, hle with
    | [], [], _, _, _ => rw [mergeS_nn]; exact ⟨ho, fun z => by simp⟩
    | x :: a, [], ha, hb, hle =>
      have ha' := List.pairwise_cons.1 ha
      obtain ⟨s1, s2⟩ := addS_spec ho fun o hh => hle o hh x (by simp)
      rw [mergeS_cn]
      obtain ⟨t1, t2⟩ := ih (addS out x) a [] (by simp only [List.length_cons] at h; simp only [List.length_nil] at h ⊢; omega) s1 ha'.2 hb fun o hh z hz => by
        rcases (s2 o).1 hh with h1 | rfl
        · exact hle o h1 z (by simp_all)
        · have := ha'.1 z (by simpa using hz); omega
      refine ⟨t1, fun z => ?_⟩
      rw [t2, s2]
      simp only [List.mem_cons, List.not_mem_nil, or_false]
      constructor
      · rintro ((h | h) | h) <;> simp_all
      · rintro (h | h | h) <;> simp_all
    | [], y :: b, ha, hb, hle =>
      have hb' := List.pairwise_cons.1 hb
      obtain ⟨s1, s2⟩ := addS_spec ho fun o hh => hle o hh y (by simp)
      rw [mergeS_nc]
      obtain ⟨t1, t2⟩ := ih (addS out y) [] b (by simp only [List.length_cons] at h; simp only [List.length_nil] at h ⊢; omega) s1 ha hb'.2 fun o hh z hz => by
        rcases (s2 o).1 hh with h1 | rfl
        · exact hle o h1 z (by simp_all)
        · have := hb'.1 z (by simpa using hz); omega
      refine ⟨t1, fun z => ?_⟩
      rw [t2, s2]
      simp only [List.mem_cons, List.not_mem_nil, false_or]
      constructor
      · rintro ((h | h) | h) <;> simp_all
      · rintro (h | h | h) <;> simp_all
    | x :: a, y :: b, ha, hb, hle =>
      have ha' := List.pairwise_cons.1 ha
      have hb' := List.pairwise_cons.1 hb
      simp only [List.length_cons] at h
      rw [mergeS_cc]
      split
      · rename_i hc
        have hyx : cmpRow y x < 0 := by rw [cmpRow_neg x y]; omega
        obtain ⟨s1, s2⟩ := addS_spec ho fun o hh => hle o hh y (by simp)
        obtain ⟨t1, t2⟩ := ih (addS out y) (x :: a) b (by simp only [List.length_cons]; omega) s1 ha hb'.2 fun o hh z hz => by
          rcases (s2 o).1 hh with h1 | rfl
          · exact hle o h1 z (by rcases hz with hz | hz <;> simp_all)
          · rcases hz with hz | hz
            · rcases List.mem_cons.1 hz with rfl | hz
              · omega
              · have := cmpRow_lt_trans hyx (ha'.1 z hz); omega
            · have := hb'.1 z hz; omega
        refine ⟨t1, fun z => ?_⟩
        rw [t2, s2]
        simp only [List.mem_cons]
        constructor
        · rintro ((h | h) | (h | h) | h) <;> simp_all
        · rintro (h | (h | h) | (h | h)) <;> simp_all
      · rename_i hc
        obtain ⟨s1, s2⟩ := addS_spec ho fun o hh => hle o hh x (by simp)
        obtain ⟨t1, t2⟩ := ih (addS out x) a (y :: b) (by simp only [List.length_cons]; omega) s1 ha'.2 hb fun o hh z hz => by
          rcases (s2 o).1 hh with h1 | rfl
          · exact hle o h1 z (by rcases hz with hz | hz <;> simp_all)
          · rcases hz with hz | hz
            · have := ha'.1 z hz; omega
            · rcases List.mem_cons.1 hz with rfl | hz
              · omega
              · have := cmpRow_le_lt (show cmpRow o y ≤ 0 by omega) (hb'.1 z hz); omega
        refine ⟨t1, fun z => ?_⟩
        rw [t2, s2]
        simp only [List.mem_cons]
        constructor
        · rintro ((h | h) | h | (h | h)) <;> simp_all
        · rintro (h | (h | h) | (h | h)) <;> simp_all
def sortS (m : List (List Int)) : List (List Int) := if h : m.length < 2 then m else mergeS [] (sortS (m.take (m.length / 2))) (sortS (m.drop (m.length / 2)))
termination_by m.length
decreasing_by all_goals simp; omega
theorem sortS_small {m : List (List Int)} (h : m.length < 2) : sortS m = m := by unfold sortS; rw [dif_pos h]
theorem sortS_great {m : List (List Int)} (h : ¬ m.length < 2) : sortS m = mergeS [] (sortS (m.take (m.length / 2))) (sortS (m.drop (m.length / 2))) := by
  conv => lhs; unfold sortS
  rw [dif_neg h]
theorem sortS_spec : ∀ (n : Nat) (m : List (List Int)), m.length ≤ n → SL (sortS m) ∧ ∀ x, x ∈ sortS m ↔ x ∈ m := by
  intro n
  induction n with
  | zero => intro m h; rw [sortS_small (by omega)]; exact ⟨SL.small (by omega), fun _ => Iff.rfl⟩
  | succ n ih =>
    intro m h
    by_cases h2 : m.length < 2
    · rw [sortS_small h2]; exact ⟨SL.small h2, fun _ => Iff.rfl⟩
    · rw [sortS_great h2]
      obtain ⟨a1, a2⟩ := ih (m.take (m.length / 2)) (by simp; omega)
      obtain ⟨b1, b2⟩ := ih (m.drop (m.length / 2)) (by simp; omega)
      obtain ⟨c1, c2⟩ := mergeS_spec _ [] _ _ (Nat.le_refl _) SL.nil a1 b1 (fun o ho => by simp at ho)
      refine ⟨c1, fun x => ?_⟩
      rw [c2, a2, b2]
      simp only [List.not_mem_nil, false_or]
      rw [← List.mem_append, List.take_append_drop]
theorem sort_same (m : List (List Int)) : sortS m = sortI m :=
  SL.unique (sortS_spec _ m (Nat.le_refl _)).1 (sortI_SL m) fun x => ((sortS_spec _ m (Nat.le_refl _)).2 x).trans (sortI_mem m x).symm

/-! The search. -/
def bs (m : List (List Int)) (row : List Int) (lo hi : Nat) : Nat :=
  if h : lo < hi then (if cmpRow (m.getD ((lo + hi) / 2) []) row < 0 then bs m row ((lo + hi) / 2 + 1) hi else bs m row lo ((lo + hi) / 2)) else lo
termination_by hi - lo
theorem bs_end {m : List (List Int)} {row : List Int} {lo hi : Nat} (h : ¬ lo < hi) : bs m row lo hi = lo := by unfold bs; rw [dif_neg h]
theorem bs_up {m : List (List Int)} {row : List Int} {lo hi : Nat} (h : lo < hi) (hm : (lo + hi) / 2 < m.length) (hc : cmpRow m[(lo + hi) / 2] row < 0) : bs m row lo hi = bs m row ((lo + hi) / 2 + 1) hi := by
  conv => lhs; unfold bs
  rw [dif_pos h, if_pos (by rw [getD_at hm]; exact hc)]
theorem bs_down {m : List (List Int)} {row : List Int} {lo hi : Nat} (h : lo < hi) (hm : (lo + hi) / 2 < m.length) (hc : ¬ cmpRow m[(lo + hi) / 2] row < 0) : bs m row lo hi = bs m row lo ((lo + hi) / 2) := by
  conv => lhs; unfold bs
  rw [dif_pos h, if_neg (by rw [getD_at hm]; exact hc)]
def plc (m : List (List Int)) (row : List Int) : Nat := bs m row 0 m.length
def plB (m : List (List Int)) (row : List Int) : Bool := decide (plc m row < m.length) && decide (cmpRow (m.getD (plc m row) []) row = 0)
theorem bs_spec (m : List (List Int)) (row : List Int) (hs : SL m) : ∀ (n lo hi : Nat), hi - lo ≤ n → lo ≤ hi → hi ≤ m.length → (∀ i (h : i < m.length), i < lo → cmpRow m[i] row < 0) → (∀ i (h : i < m.length), hi ≤ i → ¬ cmpRow m[i] row < 0) →
    bs m row lo hi ≤ m.length ∧ (∀ i (h : i < m.length), i < bs m row lo hi → cmpRow m[i] row < 0) ∧ (∀ i (h : i < m.length), bs m row lo hi ≤ i → ¬ cmpRow m[i] row < 0) := by
  intro n
  induction n with
  | zero => intro lo hi h h1 h2 h3 h4; rw [bs_end (by omega)]; exact ⟨by omega, h3, fun i hi' hl => h4 i hi' (by omega)⟩
  | succ n ih =>
    intro lo hi h h1 h2 h3 h4
    by_cases hlt : lo < hi
    · have hm : (lo + hi) / 2 < m.length := by omega
      by_cases hc : cmpRow m[(lo + hi) / 2] row < 0
      · rw [bs_up hlt hm hc]
        refine ih _ _ (by omega) (by omega) h2 (fun i hi' hl => ?_) h4
        rcases Nat.lt_or_ge i ((lo + hi) / 2) with hx | hx
        · exact cmpRow_lt_trans (List.pairwise_iff_getElem.1 hs i ((lo + hi) / 2) hi' hm hx) hc
        · have : i = (lo + hi) / 2 := by omega
          subst this; exact hc
      · rw [bs_down hlt hm hc]
        refine ih _ _ (by omega) (by omega) (by omega) h3 (fun i hi' hl => ?_)
        rcases Nat.lt_or_ge ((lo + hi) / 2) i with hx | hx
        · intro hb
          exact hc (cmpRow_lt_trans (List.pairwise_iff_getElem.1 hs ((lo + hi) / 2) i hm hi' hx) hb)
        · have : i = (lo + hi) / 2 := by omega
          subst this; exact hc
    · rw [bs_end hlt]; exact ⟨by omega, h3, fun i hi' hl => h4 i hi' (by omega)⟩
theorem bs_le (m : List (List Int)) (row : List Int) : ∀ (n lo hi : Nat), hi - lo ≤ n → lo ≤ hi → hi ≤ m.length → bs m row lo hi ≤ m.length := by
  intro n
  induction n with
  | zero => intro lo hi h h1 h2; rw [bs_end (by omega)]; omega
  | succ n ih =>
    intro lo hi h h1 h2
    by_cases hlt : lo < hi
    · have hm : (lo + hi) / 2 < m.length := by omega
      by_cases hc : cmpRow m[(lo + hi) / 2] row < 0
      · rw [bs_up hlt hm hc]; exact ih _ _ (by omega) (by omega) h2
      · rw [bs_down hlt hm hc]; exact ih _ _ (by omega) (by omega) (by omega)
    · rw [bs_end hlt]; omega
theorem plc_le (m : List (List Int)) (row : List Int) : plc m row ≤ m.length := bs_le m row _ 0 m.length (Nat.le_refl _) (by omega) (Nat.le_refl _)
theorem plc_spec {m : List (List Int)} (hs : SL m) (row : List Int) : (∀ i (h : i < m.length), i < plc m row → cmpRow m[i] row < 0) ∧ (∀ i (h : i < m.length), plc m row ≤ i → ¬ cmpRow m[i] row < 0) :=
  (bs_spec m row hs _ 0 m.length (Nat.le_refl _) (by omega) (Nat.le_refl _) (fun i _ h => by omega) (fun i h h' => by omega)).2
theorem plB_iff {m : List (List Int)} (hs : SL m) (row : List Int) : plB m row = true ↔ row ∈ m := by
  obtain ⟨h1, h2⟩ := plc_spec hs row
  unfold plB
  simp only [Bool.and_eq_true, decide_eq_true_eq]
  constructor
  · rintro ⟨h3, h4⟩
    rw [getD_at h3] at h4
    have := cmpRow_eq h4
    rw [← this]; exact List.getElem_mem h3
  · intro hm
    obtain ⟨i, hi, rfl⟩ := List.getElem_of_mem hm
    have h5 : ¬ i < plc m m[i] := fun h => by have := h1 i hi h; rw [cmpRow_self] at this; omega
    have h6 : ¬ plc m m[i] < i := fun h => by
      have h7 := h2 (plc m m[i]) (by omega) (Nat.le_refl _)
      exact h7 (List.pairwise_iff_getElem.1 hs _ i (by omega) hi h)
    have : plc m m[i] = i := by omega
    refine ⟨by omega, ?_⟩
    rw [this, getD_at hi, cmpRow_self]
end Go.Proofs.Ytbajnecahojcfaa
