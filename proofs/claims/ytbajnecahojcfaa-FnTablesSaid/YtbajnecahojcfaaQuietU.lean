/- The lexical walk of a region, one operation at a time, by its guard. (Behind a structure: a walk's tactics would run it otherwise.) -/
import Derived.Test.YtbajnecahojcfaaQuiet
namespace Go.Proofs.Ytbajnecahojcfaa
open Go.RowKit Go.Sort
structure WQ (P : Program) (oa : Array Oper) (C : World → Prop) (Q : Act → Prop) (l : List Oper) (a : Act) : Prop where
  out : wpQuiet P oa C Q l a
section
variable {P : Program} {C : World → Prop} {Q : Act → Prop} {oa : Array Oper} {o : Oper} {rest : List Oper} {a : Act}
theorem WQ.nil (h : Q a) : WQ P oa C Q [] a := ⟨wpQuiet_nil h⟩
theorem WQ.go (hg : o.guard = none) (h : ∀ K : Act → Prop, (∀ a, WQ P oa C Q rest a → K a) → o.quiet P a C K) : WQ P oa C Q (o :: rest) a := by
  refine ⟨?_⟩
  unfold wpQuiet
  rw [if_pos (by simp [Region.wanted, hg])]
  exact h _ (fun _ h => h.out)
theorem yielded_of {j d : Nat} {c : Bool} (hd : (oa[j]?).bind (·.dst) = some d) (hv : a.tmps[d]? = some (.bool c)) : yielded oa a.tmps j = some c := by
  unfold yielded
  rw [hd, Option.bind_some, hv]
theorem WQ.yes {l : List Value} {ds : List Deferred} {j d : Nat} {b : Bool} (hg : o.guard = some (j, b)) (hd : (oa[j]?).bind (·.dst) = some d) (hv : l[d]? = some (.bool b)) (h : ∀ K : Act → Prop, (∀ a, WQ P oa C Q rest a → K a) → o.quiet P ⟨l.toArray, ds⟩ C K) : WQ P oa C Q (o :: rest) ⟨l.toArray, ds⟩ := by
  refine ⟨?_⟩
  unfold wpQuiet
  rw [if_pos (by simp [Region.wanted, hg, yielded_of (a := ⟨l.toArray, ds⟩) hd (by simpa using hv)])]
  exact h _ (fun _ h => h.out)
theorem put_lit {l : List Value} {ds : List Deferred} {d0 : Nat} (hd0 : o.dst = some d0) : (⟨l.toArray, ds⟩ : Act).put o.dst undef = ⟨(l.set d0 undef).toArray, ds⟩ := by
  rw [hd0]; simp only [Act.put, List.setIfInBounds_toArray]
theorem WQ.no {l : List Value} {ds : List Deferred} {j d d0 : Nat} {b c : Bool} (hg : o.guard = some (j, b)) (hd0 : o.dst = some d0) (hd : (oa[j]?).bind (·.dst) = some d) (hv : l[d]? = some (.bool c)) (hne : c ≠ b) (h : ∀ K : Act → Prop, (∀ a, WQ P oa C Q rest a → K a) → K ⟨(l.set d0 undef).toArray, ds⟩) : WQ P oa C Q (o :: rest) ⟨l.toArray, ds⟩ := by
  refine ⟨?_⟩
  unfold wpQuiet
  rw [if_neg (by simp [Region.wanted, hg, yielded_of (a := ⟨l.toArray, ds⟩) hd (by simpa using hv), hne]), put_lit hd0]
  exact h _ (fun _ h => h.out)
theorem WQ.un {l : List Value} {ds : List Deferred} {j d d0 : Nat} {b : Bool} (hg : o.guard = some (j, b)) (hd0 : o.dst = some d0) (hd : (oa[j]?).bind (·.dst) = some d) (hv : l[d]? = some undef) (h : ∀ K : Act → Prop, (∀ a, WQ P oa C Q rest a → K a) → K ⟨(l.set d0 undef).toArray, ds⟩) : WQ P oa C Q (o :: rest) ⟨l.toArray, ds⟩ := by
  have e : yielded oa l.toArray j = none := by
    unfold yielded
    rw [hd, Option.bind_some, List.getElem?_toArray, hv]
    rfl
  refine ⟨?_⟩
  unfold wpQuiet
  rw [if_neg (by simp [Region.wanted, hg, e]), put_lit hd0]
  exact h _ (fun _ h => h.out)
end
end Go.Proofs.Ytbajnecahojcfaa
