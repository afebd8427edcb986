/- What reading a relation comes to. No program in sight. -/
import Derived.Test.YtbajnecahojcfaaTextP
import Derived.Test.YtbajnecahojcfaaRelP
namespace Go.Proofs.Ytbajnecahojcfaa
set_option maxHeartbeats 1000000

theorem splitL_ne (c : UInt8) (l : List UInt8) : 0 < (splitL c l).length := by have := spl_pos c l []; unfold splitL; omega
theorem parL_nil : parL [] = some [] := rfl
theorem parL_bad {s : List UInt8} (hs : s ≠ []) {k : Nat} (hk : k < (splitL 44 s).length) (h : parseOk (splitL 44 s)[k] = false) : parL s = none := by
  unfold parL
  rw [if_neg hs, if_neg]
  intro h'
  rw [List.all_eq_true] at h'
  rw [h' _ (List.getElem_mem hk)] at h; cases h
theorem parL_end {s : List UInt8} (hs : s ≠ []) (h : ∀ i (hi : i < (splitL 44 s).length), parseOk (splitL 44 s)[i] = true) : parL s = some ((splitL 44 s).map parseV) := by
  unfold parL
  rw [if_neg hs, if_pos]
  rw [List.all_eq_true]
  intro x hx
  obtain ⟨i, hi, rfl⟩ := List.getElem_of_mem hx
  exact h i hi
theorem wordI_short {w : List UInt8} (h : w.length < 2) : wordI w = none := by unfold wordI; rw [if_pos h]
theorem wordI_long {w : List UInt8} (h : ¬ w.length < 2) : wordI w = parL (innerT w) := by unfold wordI; rw [if_neg h]
theorem wordsI_append : ∀ (a b : List (List UInt8)), wordsI (a ++ b) = match wordsI a with | none => none | some m => match wordsI b with | none => none | some m' => some (m ++ m')
  | [], b => by
    rw [List.nil_append]
    show wordsI b = match wordsI b with | none => none | some m' => some m'
    cases wordsI b <;> rfl
  | w :: t, b => by
    rw [List.cons_append, wordsI, wordsI]
    cases h : wordI w with
    | none => rfl
    | some r =>
      simp only
      rw [wordsI_append t b]
      cases wordsI t with
      | none => rfl
      | some m =>
        simp only
        cases wordsI b <;> rfl
theorem wordsI_bad {W : List (List UInt8)} {k : Nat} (hk : k < W.length) (h : wordI W[k] = none) : wordsI W = none := by
  have e : W = W.take k ++ (W[k] :: W.drop (k + 1)) := by rw [← List.drop_eq_getElem_cons hk, List.take_append_drop]
  rw [e, wordsI_append]
  cases wordsI (W.take k) with
  | none => rfl
  | some m => simp only; rw [wordsI, h]
theorem wordsI_step {W : List (List UInt8)} {k : Nat} {D : List (List Int)} {r : List Int} (hk : k < W.length) (hD : wordsI (W.take k) = some D) (h : wordI W[k] = some r) : wordsI (W.take (k + 1)) = some (D ++ [r]) := by
  rw [List.take_succ_eq_append_getElem hk, wordsI_append, hD]
  simp only
  rw [wordsI, h]; rfl
theorem bodyI_ne {b : List UInt8} (h : b ≠ []) : bodyI b = wordsI (splitL 32 b) := by unfold bodyI; rw [if_neg h]
/-! The program's ways out. -/
theorem parI_head {l : List UInt8} (h : parseOk (splitL 58 l)[0]! = false ∨ (splitL 58 l).length ≠ 2) : parRel l = (0, [], false) := by
  refine parRel_no fun ar m h' => ?_
  obtain ⟨e, ⟨h1, _⟩, _⟩ := h'.cut
  rw [e] at h
  rcases h with h | h
  · have : parseOk (fmtInt ar) = false := h
    rw [h1] at this; cases this
  · exact h rfl
theorem parI_body {l a b : List UInt8} (hs : splitL 58 l = [a, b]) (h : bodyI b = none) : parRel l = (0, [], false) := by
  refine parRel_no fun ar m h' => ?_
  obtain ⟨e, _, h1, _⟩ := h'.cut
  rw [e] at hs
  simp only [List.cons.injEq, and_true] at hs
  rw [← hs.2, h1] at h; cases h
theorem parI_not {l a b : List UInt8} {m : List (List Int)} (hs : splitL 58 l = [a, b]) (h : bodyI b = some m) (hf : fmtRel (parseV a) m ≠ l) : parRel l = (0, [], false) := by
  refine parRel_no fun ar m' h' => ?_
  obtain ⟨e, ⟨_, h2⟩, h1, _⟩ := h'.cut
  rw [e] at hs
  simp only [List.cons.injEq, and_true] at hs
  rw [← hs.2, h1] at h
  have hm := Option.some.inj h
  rw [← hs.1, h2, ← hm, fmt_of_isRel h'] at hf
  exact hf rfl
theorem parI_yes {l a b : List UInt8} {m : List (List Int)} (hs : splitL 58 l = [a, b]) (hf : fmtRel (parseV a) m = l) : parRel l = (parseV a, m, true) := by
  refine parRel_yes (isRel_of_fmt hf fun e => ?_)
  subst e
  have : splitL 58 [] = [[]] := rfl
  rw [this] at hs
  have := congrArg List.length hs
  simp at this
/-! The reference's. -/
def bodyT : List (List UInt8) → List (List Int)
  | [_, b] => bodyS b
  | _ => []
theorem parS_not {l a : List UInt8} {t : List (List UInt8)} (hs : splitL 58 l = a :: t) (hf : fmtRel (parseV a) (bodyT (a :: t)) ≠ l) : parRel l = (0, [], false) := by
  refine parRel_no fun ar m' h' => ?_
  obtain ⟨e, ⟨_, h2⟩, _, h1⟩ := h'.cut
  rw [e] at hs
  rw [← hs] at hf
  simp only [List.cons.injEq] at hs
  have e2 : bodyT [fmtInt ar, joinL [32] (m'.map rowTx)] = m' := h1
  rw [← hs.1, h2, e2, fmt_of_isRel h'] at hf
  exact hf rfl
theorem parS_nil : parRel [] = (0, [], false) := parRel_no fun ar m h => h.ne rfl
theorem parS_yes {l a : List UInt8} {t : List (List UInt8)} (hl : l ≠ []) (hf : fmtRel (parseV a) (bodyT (a :: t)) = l) : parRel l = (parseV a, bodyT (a :: t), true) := parRel_yes (isRel_of_fmt hf hl)
theorem parRel_total (l : List UInt8) : total (parRel l).2.1 ≤ 20000 ∧ (parRel l).2.1.length ≤ 4000 := by
  by_cases h : ∃ p : Int × List (List Int), IsRel l p.1 p.2
  · obtain ⟨p, hp⟩ := h
    rw [parRel_yes hp]
    exact relOk_total hp.1
  · rw [parRel_no fun ar m h' => h ⟨(ar, m), h'⟩]
    simp [total]
end Go.Proofs.Ytbajnecahojcfaa
