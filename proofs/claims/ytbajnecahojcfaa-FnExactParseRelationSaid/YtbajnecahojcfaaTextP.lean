/- Relations as texts: what is written, what is read. No program in sight. -/
import Derived.Test.YtbajnecahojcfaaSplit
import Derived.Test.YtbajnecahojcfaaDigits
import Derived.Test.YtbajnecahojcfaaRowS
namespace Go.Proofs.Ytbajnecahojcfaa
set_option maxHeartbeats 1000000

theorem splN_none {c : UInt8} : ∀ (r cur : List UInt8), (∀ b ∈ r, ¬ b = c) → spl c cur r = [cur ++ r]
  | [], _, _ => by simp [spl]
  | b :: r, cur, h => by
    rw [spl, if_neg (h b (by simp)), splN_none r _ (fun x hx => h x (by simp [hx]))]
    simp
theorem splN_one {c : UInt8} : ∀ (r cur s : List UInt8), (∀ b ∈ r, ¬ b = c) → spl c cur (r ++ c :: s) = (cur ++ r) :: spl c [] s
  | [], _, _, _ => by simp [spl]
  | b :: r, cur, s, h => by
    show spl c cur (b :: (r ++ c :: s)) = _
    rw [spl, if_neg (h b (by simp)), splN_one r _ s (fun x hx => h x (by simp [hx]))]
    simp
def joinL (by_ : List UInt8) : List (List UInt8) → List UInt8
  | [] => []
  | [x] => x
  | x :: y :: t => x ++ by_ ++ joinL by_ (y :: t)
theorem joinL_snoc (by_ : List UInt8) : ∀ (l : List (List UInt8)) (x : List UInt8), l ≠ [] → joinL by_ (l ++ [x]) = joinL by_ l ++ by_ ++ x
  | [], _, h => absurd rfl h
  | [a], x, _ => rfl
  | a :: b :: t, x, _ => by
    show a ++ by_ ++ joinL by_ (b :: t ++ [x]) = _
    rw [joinL_snoc by_ (b :: t) x (by simp)]
    show _ = a ++ by_ ++ joinL by_ (b :: t) ++ by_ ++ x
    simp
theorem joinL_take0 (by_ : List UInt8) {l : List (List UInt8)} (h : 0 < l.length) : joinL by_ (l.take 1) = l[0] := by
  cases l with
  | nil => simp at h
  | cons a t => rfl
theorem joinL_take (by_ : List UInt8) {l : List (List UInt8)} {k : Nat} (h : k < l.length) (hk : 0 < k) : joinL by_ (l.take (k + 1)) = joinL by_ (l.take k) ++ by_ ++ l[k] := by
  rw [List.take_succ_eq_append_getElem h, joinL_snoc]
  intro e
  have := congrArg List.length e
  rw [List.length_take, List.length_nil] at this; omega
theorem splN_join {c : UInt8} : ∀ (l : List (List UInt8)), l ≠ [] → (∀ x ∈ l, ∀ b ∈ x, ¬ b = c) → splitL c (joinL [c] l) = l
  | [], h, _ => absurd rfl h
  | [x], _, h => by
    show spl c [] x = _
    rw [splN_none x [] (h x (by simp))]; rfl
  | x :: y :: t, _, h => by
    show spl c [] (x ++ [c] ++ joinL [c] (y :: t)) = _
    rw [List.append_assoc, List.singleton_append, splN_one x [] _ (h x (by simp))]
    have := splN_join (c := c) (y :: t) (by simp) (fun z hz => h z (by simp [hz]))
    unfold splitL at this
    rw [this]; rfl
theorem joinL_mem {c : List UInt8} : ∀ (l : List (List UInt8)) (b : UInt8), b ∈ joinL c l → b ∈ c ∨ ∃ x ∈ l, b ∈ x
  | [], _, h => by simp [joinL] at h
  | [x], b, h => .inr ⟨x, by simp, h⟩
  | x :: y :: t, b, h => by
    have h' : b ∈ x ++ c ++ joinL c (y :: t) := h
    rcases List.mem_append.1 h' with h1 | h1
    · rcases List.mem_append.1 h1 with h2 | h2
      · exact .inr ⟨x, by simp, h2⟩
      · exact .inl h2
    · rcases joinL_mem (y :: t) b h1 with h2 | ⟨z, hz, h2⟩
      · exact .inl h2
      · exact .inr ⟨z, by simp [hz], h2⟩
theorem joinL_len (c : List UInt8) (hc : c.length ≤ 1) (B : Nat) : ∀ (l : List (List UInt8)), (∀ x ∈ l, x.length ≤ B) → (joinL c l).length ≤ l.length * (B + 1)
  | [], _ => by simp [joinL]
  | [x], h => by have := h x (by simp); simp [joinL]; omega
  | x :: y :: t, h => by
    have h1 := h x (by simp)
    have h2 := joinL_len c hc B (y :: t) (fun z hz => h z (by simp [hz]))
    show (x ++ c ++ joinL c (y :: t)).length ≤ _
    rw [List.length_append, List.length_append, List.length_cons, Nat.add_mul]
    omega

/-- The text of a row; of a relation. -/
def rowTx (r : List Int) : List UInt8 := [40] ++ joinL [44] (r.map fmtInt) ++ [41]
def relTx (ar : Int) (m : List (List Int)) : List UInt8 := fmtInt ar ++ [58] ++ joinL [32] (m.map rowTx)
def fmtRel (ar : Int) (m : List (List Int)) : List UInt8 := if relOk ar m then relTx ar m else []
def IsRel (l : List UInt8) (ar : Int) (m : List (List Int)) : Prop := relOk ar m = true ∧ relTx ar m = l

theorem fmt_byte (n : Int) : ∀ b ∈ fmtInt n, b = 45 ∨ isDig b = true := by
  intro b hb
  unfold fmtInt at hb
  split at hb
  · rcases List.mem_cons.1 hb with h | h
    · exact .inl h
    · exact .inr (digs_all _ b h)
  · exact .inr (digs_all _ b hb)
theorem fmt_no {c : UInt8} (h1 : c ≠ 45) (h2 : isDig c = false) (n : Int) : ∀ b ∈ fmtInt n, ¬ b = c := by
  intro b hb e
  subst e
  rcases fmt_byte n b hb with h | h
  · exact h1 h
  · rw [h2] at h; cases h
theorem fmtN_ne (n : Int) : fmtInt n ≠ [] := by
  unfold fmtInt
  split
  · simp
  · intro h; have := digs_pos n.natAbs; rw [h] at this; simp at this
theorem rowTx_no {c : UInt8} (h1 : c ≠ 45) (h2 : isDig c = false) (h3 : c ≠ 40) (h4 : c ≠ 41) (h5 : c ≠ 44) (r : List Int) : ∀ b ∈ rowTx r, ¬ b = c := by
  intro b hb e
  subst e
  unfold rowTx at hb
  simp only [List.mem_append, List.mem_singleton] at hb
  rcases hb with (hb | hb) | hb
  · exact h3 hb
  · rcases joinL_mem _ _ hb with h | ⟨x, hx, h⟩
    · exact h5 (by simpa using h)
    · obtain ⟨n, _, rfl⟩ := List.mem_map.1 hx
      exact fmt_no h1 h2 n b h rfl
  · exact h4 hb
theorem parse_fmt {n : Int} (h : -1000000000 < n ∧ n < 1000000000) : parseOk (fmtInt n) = true ∧ parseV (fmtInt n) = n := by
  have hd : (digs n.natAbs).length ≤ 9 := digs_len 8 _ (by omega)
  have hc : digCnt (digs n.natAbs) = (digs n.natAbs).length := digCnt_full _ (digs_all _)
  have ok : parseOk (fmtInt n) = true := by
    refine parse_yes ?_ ?_ (by rw [pInt_fmt])
    · unfold fmtInt; split
      · rw [digCnt_cons _ _ (by decide)]; omega
      · omega
    · unfold fmtInt; split
      · simp; omega
      · omega
  exact ⟨ok, by unfold parseV; rw [ok, if_pos rfl, pInt_fmt]⟩
theorem parseV_no {l : List UInt8} (h : parseOk l = false) : parseV l = 0 := by unfold parseV; rw [h]; rfl
theorem parse_bd (l : List UInt8) : -10000000000 < parseV l ∧ parseV l < 10000000000 := by
  cases h : parseOk l with
  | false => rw [parseV_no h]; omega
  | true =>
    have h2 : l.length ≤ 10 := by
      unfold parseOk at h
      simp only [Bool.and_eq_true, decide_eq_true_eq] at h
      exact h.1.2
    unfold parseV; rw [h, if_pos rfl]; exact pInt_bd l h2

/-! What the program reads. -/
/-- The part between a word's first and last byte. -/
def innerT (w : List UInt8) : List UInt8 := (w.drop 1).take (w.length - 1 - 1)
def parL (s : List UInt8) : Option (List Int) := if s = [] then some [] else if (splitL 44 s).all parseOk then some ((splitL 44 s).map parseV) else none
def wordI (w : List UInt8) : Option (List Int) := if w.length < 2 then none else parL (innerT w)
def wordsI : List (List UInt8) → Option (List (List Int))
  | [] => some []
  | w :: t => match wordI w with
    | none => none
    | some r => match wordsI t with
      | none => none
      | some m => some (r :: m)
def bodyI (s : List UInt8) : Option (List (List Int)) := if s = [] then some [] else wordsI (splitL 32 s)
/-- What the reference reads. -/
def wordS (w : List UInt8) : List Int := if 2 < w.length then (splitL 44 (innerT w)).map parseV else []
def bodyS (s : List UInt8) : List (List Int) := if s = [] then [] else (splitL 32 s).map wordS
theorem innerT_row (r : List Int) : innerT (rowTx r) = joinL [44] (r.map fmtInt) := by
  unfold innerT rowTx
  simp
theorem rowTx_len (r : List Int) : 2 ≤ (rowTx r).length := by unfold rowTx; simp
theorem joinF_ne {r : List Int} (h : r ≠ []) : joinL [44] (r.map fmtInt) ≠ [] := by
  cases r with
  | nil => exact absurd rfl h
  | cons a t =>
    cases t with
    | nil => exact fmtN_ne a
    | cons b t =>
      intro e
      have : fmtInt a ++ [44] ++ joinL [44] (fmtInt b :: t.map fmtInt) = [] := e
      simp at this
theorem joinR_ne {m : List (List Int)} (h : m ≠ []) : joinL [32] (m.map rowTx) ≠ [] := by
  cases m with
  | nil => exact absurd rfl h
  | cons a t =>
    cases t with
    | nil => intro e; have := rowTx_len a; have e' : rowTx a = [] := e; rw [e'] at this; simp at this
    | cons b t =>
      intro e
      have : rowTx a ++ [32] ++ joinL [32] (rowTx b :: t.map rowTx) = [] := e
      simp at this
theorem word_row {r : List Int} (h : vrow r = true) : wordI (rowTx r) = some r ∧ wordS (rowTx r) = r := by
  have hb := vrow_yes h
  have hl := rowTx_len r
  by_cases hr : r = []
  · subst hr
    constructor
    · unfold wordI; rw [if_neg (by omega), innerT_row]; rfl
    · unfold wordS; rw [if_neg (by simp [rowTx, joinL])]
  · have hne := joinF_ne hr
    have hs : splitL 44 (joinL [44] (r.map fmtInt)) = r.map fmtInt := splN_join _ (by simpa using hr) fun x hx => by
      obtain ⟨n, _, rfl⟩ := List.mem_map.1 hx
      exact fmt_no (by decide) (by decide) n
    have hm : (r.map fmtInt).map parseV = r := by
      rw [List.map_map]
      conv => rhs; rw [← List.map_id r]
      refine List.map_congr_left fun n hn => ?_
      have := hb n hn
      exact (parse_fmt (n := n) (by omega)).2
    constructor
    · unfold wordI parL
      rw [if_neg (by omega), innerT_row, if_neg hne, hs, if_pos ?_, hm]
      rw [List.all_eq_true]
      intro x hx
      obtain ⟨n, hn, rfl⟩ := List.mem_map.1 hx
      have := hb n hn
      exact (parse_fmt (n := n) (by omega)).1
    · have h2 : 2 < (rowTx r).length := by
        unfold rowTx
        simp only [List.length_append, List.length_singleton]
        have : (joinL [44] (r.map fmtInt)).length ≠ 0 := fun e => hne (List.length_eq_zero_iff.1 e)
        omega
      unfold wordS
      rw [if_pos h2, innerT_row, hs, hm]
theorem wordsI_rows : ∀ {m : List (List Int)}, (∀ r ∈ m, vrow r = true) → wordsI (m.map rowTx) = some m
  | [], _ => rfl
  | r :: m, h => by
    rw [List.map_cons, wordsI, (word_row (h r (by simp))).1, wordsI_rows (fun x hx => h x (by simp [hx]))]
theorem IsRel.cut {l : List UInt8} {ar : Int} {m : List (List Int)} (h : IsRel l ar m) :
    splitL 58 l = [fmtInt ar, joinL [32] (m.map rowTx)] ∧ (parseOk (fmtInt ar) = true ∧ parseV (fmtInt ar) = ar) ∧ bodyI (joinL [32] (m.map rowTx)) = some m ∧ bodyS (joinL [32] (m.map rowTx)) = m := by
  obtain ⟨h1, rfl⟩ := h
  obtain ⟨q1, q2, q3, q4⟩ := relOk_iff.1 h1
  have hb : ∀ b ∈ joinL [32] (m.map rowTx), ¬ b = 58 := by
    intro b hb e
    subst e
    rcases joinL_mem _ _ hb with h | ⟨x, hx, h⟩
    · revert h; decide
    · obtain ⟨r, _, rfl⟩ := List.mem_map.1 hx
      exact rowTx_no (by decide) (by decide) (by decide) (by decide) (by decide) r _ h rfl
  refine ⟨?_, parse_fmt (by omega), ?_⟩
  · unfold relTx splitL
    rw [List.append_assoc, List.singleton_append, splN_one _ [] _ (fmt_no (by decide) (by decide) ar), splN_none _ [] hb]
    rfl
  · by_cases hm : m = []
    · subst hm; exact ⟨rfl, rfl⟩
    · have hs : splitL 32 (joinL [32] (m.map rowTx)) = m.map rowTx := splN_join _ (by simpa using hm) fun x hx => by
        obtain ⟨r, _, rfl⟩ := List.mem_map.1 hx
        exact rowTx_no (by decide) (by decide) (by decide) (by decide) (by decide) r
      unfold bodyI bodyS
      rw [if_neg (joinR_ne hm), if_neg (joinR_ne hm), hs]
      refine ⟨wordsI_rows fun r hr => (q3 r hr).2, ?_⟩
      rw [List.map_map]
      conv => rhs; rw [← List.map_id m]
      exact List.map_congr_left fun r hr => (word_row (q3 r hr).2).2
theorem IsRel.inj {l : List UInt8} {ar ar' : Int} {m m' : List (List Int)} (h : IsRel l ar m) (h' : IsRel l ar' m') : ar = ar' ∧ m = m' := by
  obtain ⟨a1, a2, a3, a4⟩ := h.cut
  obtain ⟨b1, b2, b3, b4⟩ := h'.cut
  rw [a1] at b1
  simp only [List.cons.injEq, and_true] at b1
  exact ⟨fmt_inj b1.1, by rw [← a4, ← b4, b1.2]⟩
theorem IsRel.ne {l : List UInt8} {ar : Int} {m : List (List Int)} (h : IsRel l ar m) : l ≠ [] := by
  obtain ⟨_, rfl⟩ := h
  unfold relTx; simp
/-- What ParseRelation hands back. -/
noncomputable def parRel (l : List UInt8) : Int × List (List Int) × Bool := by
  classical exact if h : ∃ p : Int × List (List Int), IsRel l p.1 p.2 then (h.choose.1, h.choose.2, true) else (0, [], false)
theorem parRel_yes {l : List UInt8} {ar : Int} {m : List (List Int)} (h : IsRel l ar m) : parRel l = (ar, m, true) := by
  have hx : ∃ p : Int × List (List Int), IsRel l p.1 p.2 := ⟨(ar, m), h⟩
  unfold parRel
  rw [dif_pos hx]
  obtain ⟨e1, e2⟩ := hx.choose_spec.inj h
  rw [e1, e2]
theorem parRel_no {l : List UInt8} (h : ∀ ar m, ¬ IsRel l ar m) : parRel l = (0, [], false) := by
  unfold parRel
  rw [dif_neg]
  rintro ⟨p, hp⟩
  exact h _ _ hp
theorem isRel_of_fmt {l : List UInt8} {ar : Int} {m : List (List Int)} (h : fmtRel ar m = l) (hl : l ≠ []) : IsRel l ar m := by
  unfold fmtRel at h
  split at h
  · rename_i h1; exact ⟨h1, h⟩
  · exact absurd h.symm hl
theorem fmt_of_isRel {l : List UInt8} {ar : Int} {m : List (List Int)} (h : IsRel l ar m) : fmtRel ar m = l := by
  unfold fmtRel; rw [if_pos h.1, h.2]
end Go.Proofs.Ytbajnecahojcfaa
