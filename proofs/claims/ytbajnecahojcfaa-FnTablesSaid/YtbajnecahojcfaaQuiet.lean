/- A region that draws its order, whose head of n operations is quiet in a class of worlds and whose tail stands in one forced order: one walk of the text's order serves every order. -/
import Derived.Test.YtbajnecahojcfaaProg
import Derived.StillTail
import Derived.Deep.QuietTactic
import Derived.Below
import Derived.Lib.QuietBelow
import Derived.Test.YtbajnecahojcfaaBase
namespace Go.Proofs.Ytbajnecahojcfaa
open Go.RowKit Go.Sort

section
variable {P : Program} {ops : Array Oper} {md : Region.Mode} {C : World → Prop}

def headQ (P : Program) (md : Region.Mode) (ops : Array Oper) (C : World → Prop) (n : Nat) (L : Array Bool → Act → Prop) : Nat → Array Bool → Act → Prop
  | 0, done, a => L done a
  | f + 1, done, a => Region.ready md ops done ≠ [] ∧ ∀ i ∈ Region.ready md ops done, i < n ∧ qOp P ops C i (headQ P md ops C n L f (done.setIfInBounds i true)) a

theorem any_of_headQ {n g : Nat} {L : Array Bool → Act → Prop} {Q : Exit → Act → World → Prop} (hL : ∀ done a w, C w → L done a → wpAny P md ops Q g done a w) (f : Nat) :
    ∀ (done : Array Bool) (a : Act) (w : World), C w → headQ P md ops C n L f done a → wpAny P md ops Q (f + g) done a w := by
  induction f with
  | zero => intro done a w hw h; rw [Nat.zero_add]; exact hL _ _ _ hw h
  | succ f ih =>
    intro done a w hw h
    rw [Nat.succ_add]
    exact ⟨fun h0 => absurd h0 h.1, fun i hi => wpOp_of_qOp hw (fun a' w' hw' hh => ih _ a' w' hw' hh) (h.2 i hi).2⟩

def sinkFrom (md : Region.Mode) (ops : Array Oper) (j n : Nat) : Bool :=
  (List.range n).all fun i => decide (i < j) || (List.range (n + 1)).any fun k => decide (i < k) && Region.waitsFor md ops k i

/-- While an operation of the head (from j on) is still to come, none of the tail may come up. -/
theorem tail_late {j n : Nat} {done : Array Bool} (hs : sinkFrom md ops j n = true) (hc : Region.chainB md ops n = true) (inv : HeadInv md ops n done) (hj : ∀ i, i < j → done.getD i true = true) (d : Nat) :
    ∀ (i : Nat), n - i = d → i < n → done.getD i true = false → ∀ t, n ≤ t → t ∉ Region.ready md ops done := by
  induction d using Nat.strongRecOn with
  | _ d ih =>
    intro i hd hi hun t ht hr
    have hij : j ≤ i := by
      rcases Nat.lt_or_ge i j with h | h
      · rw [hj i h] at hun; cases hun
      · exact h
    obtain ⟨_, ot, hot, hall⟩ := mem_ready.1 hr
    have htlt : t < ops.size := (Array.getElem?_eq_some_iff.1 hot).1
    by_cases htn : t = n
    · subst htn
      have h1 := List.all_eq_true.1 hs i (List.mem_range.2 hi)
      rw [Bool.or_eq_true, decide_eq_true_eq] at h1
      obtain ⟨k, hk, hk2⟩ := List.any_eq_true.1 (h1.resolve_left (by omega))
      simp only [Bool.and_eq_true, decide_eq_true_eq] at hk2
      obtain ⟨ok, hok, e, he, hb, hon⟩ := Region.waitsFor_spec hk2.2
      have hkle : k ≤ t := by have := List.mem_range.1 hk; omega
      by_cases hkt : k = t
      · subst hkt
        obtain rfl : ok = ot := Option.some.inj (hok.symm.trans hot)
        have h2 := hall e he hb
        rw [hon, getD_both hun] at h2
        cases h2
      · cases hl : done.getD k false with
        | true =>
          have h2 := inv.closed k ok hok hl e he hb
          rw [hon, getD_both hun] at h2
          cases h2
        | false =>
          have hks : k < done.size := by rw [inv.size]; omega
          exact ih (t - k) (by omega) k rfl (by omega) (getD_in hks hl) t (Nat.le_refl _) hr
    · have h1 := List.all_eq_true.1 hc t (List.mem_range.2 htlt)
      simp only [Bool.or_eq_true, decide_eq_true_eq] at h1
      rcases h1 with h1 | h1
      · omega
      · obtain ⟨o', ho', e, he, hb, hon⟩ := Region.waitsFor_spec h1
        obtain rfl : o' = ot := Option.some.inj (ho'.symm.trans hot)
        have h2 := hall e he hb
        rw [hon, getD_both (inv.tail (t - 1) (by omega) (by omega))] at h2
        cases h2

theorem past_set {j i : Nat} {done : Array Bool} (hj : ∀ k, k < j → done.getD k true = true) : ∀ k, k < j → (done.setIfInBounds i true).getD k true = true := by
  intro k hk
  by_cases h : i = k
  · subst h
    have := hj i hk
    rcases Nat.lt_or_ge i done.size with h' | h'
    · simp [h']
    · simp [h']
  · rw [getD_set_ne true h]; exact hj k hk

theorem headQ_first {m n i : Nat} {oi : Oper} {v : Value} {L : Array Bool → Act → Prop} (hi : ops[i]? = some oi) (hsel : ∀ (j : Nat) (o : Oper) cs b, ops[j]? = some o → o.op ≠ .select cs b)
    (hs : sinkFrom md ops m n = true) (hc : Region.chainB md ops n = true) (hin : i < n)
    (hdone : ∀ done a, L done a → ∀ j ∈ Region.ready md ops done, n ≤ j) (f : Nat) :
    ∀ (done : Array Bool) (a : Act), HeadInv md ops n done → (∀ k, k < m → done.getD k true = true) →
      (∀ j oj, ops[j]? = some oj → j ≠ i → done.getD j true = false → (∀ e ∈ oj.after, Region.binds md e = true → e.on ≠ i) → oi.apart ops oj = true) →
      i ∈ Region.ready md ops done → YieldsIn P ops C oi v a →
      headQ P md ops C n L f (done.setIfInBounds i true) (a.put oi.dst v) → headQ P md ops C n L (f + 1) done a := by
  have early : ∀ (done : Array Bool), HeadInv md ops n done → (∀ k, k < m → done.getD k true = true) → i ∈ Region.ready md ops done → ∀ j ∈ Region.ready md ops done, j < n := by
    intro done inv hp hr j hj
    rcases Nat.lt_or_ge j n with h | h
    · exact h
    · exact absurd hj (tail_late hs hc inv hp _ i rfl hin (mem_ready.1 hr).1 j h)
  induction f with
  | zero =>
    intro done a inv hp _ hr hy H
    refine ⟨fun h => (by rw [h] at hr; cases hr), fun j hj => ⟨early done inv hp hr j hj, ?_⟩⟩
    by_cases hji : j = i
    · subst hji; exact hy.qOp hi H
    · have h1 := hdone _ _ H j (ready_mono hj hji)
      have h2 := early done inv hp hr j hj
      omega
  | succ f ih =>
    intro done a inv hp hfree hr hy H
    refine ⟨fun h => (by rw [h] at hr; cases hr), fun j hj => ⟨early done inv hp hr j hj, ?_⟩⟩
    by_cases hji : j = i
    · subst hji; exact hy.qOp hi H
    · have h1 := (H.2 j (ready_mono hj hji)).2
      obtain ⟨hjun, oj, hoj, hall⟩ := mem_ready.1 hj
      have hnot : ∀ e ∈ oj.after, Region.binds md e = true → e.on ≠ i := fun e he hb heq => by
        have h3 := hall e he hb
        rw [heq, getD_both (mem_ready.1 hr).1] at h3
        cases h3
      have h2 := qOp_put hoj (hfree j oj hoj hji hjun hnot) (fun cs b => hsel i oi cs b hi) (fun cs b => hsel j oj cs b hoj) hy h1
      refine qOp_mono (fun a' h3 => ih (done.setIfInBounds j true) a' (inv.set hj (early done inv hp hr j hj)) (past_set hp) (fun k ok hk hki hun hno => ?_) (ready_mono hr (Ne.symm hji)) h3.1 ?_) h2
      · refine hfree k ok hk hki ?_ hno
        by_cases hjk : j = k
        · subst hjk; exact hjun
        · rw [getD_set_ne true hjk] at hun; exact hun
      · rw [Array.setIfInBounds_comm _ _ hji]
        exact h3.2

theorem headQ_lex {m n g : Nat} {Lq : Act → Prop} (hsel : Region.noSelect ops = true) (hs : sinkFrom md ops m n = true) (hc : Region.chainB md ops n = true) :
    ∀ (l : List Oper) (k : Nat) (done : Array Bool) (a : Act), (∀ j, j < l.length → l[j]? = ops[k + j]?) → k + l.length = n → HeadInv md ops n done → (∀ k, k < m → done.getD k true = true) →
    Region.lexHead md ops g l.length k done = true → wpQuiet P ops C Lq l a → headQ P md ops C n (fun d a' => Region.seqB md ops g n d = true ∧ Lq a') l.length done a := by
  intro l
  induction l with
  | nil =>
    intro k done a _ hk _ _ hB h
    obtain rfl : k = n := by simpa using hk
    exact ⟨by simpa [Region.lexHead] using hB, h⟩
  | cons o l ih =>
    intro k done a hl hk inv hp hB h
    have h0 : ops[k]? = some o := by simpa using (hl 0 (by simp)).symm
    simp only [List.length_cons, Region.lexHead, Bool.and_eq_true] at hB
    obtain ⟨⟨hr, hf⟩, hB'⟩ := hB
    have hkn : k < n := by simp only [List.length_cons] at hk; omega
    have hr' : k ∈ Region.ready md ops done := by simpa using hr
    have hst : qOp P ops C k (wpQuiet P ops C Lq l) a := by unfold qOp; simp only [h0]; exact h
    obtain ⟨v, hy, hK⟩ := yieldsIn_of_qOp h0 hst
    exact headQ_first h0 (Region.noSelect_spec hsel) hs hc hkn (fun d a' hL => seqB_ready hL.1) l.length done a inv hp (Region.free_spec h0 hf) hr' hy
      (ih (k + 1) _ _ (fun j hj => by have := hl (j + 1) (by simp; omega); simpa [Nat.add_assoc, Nat.add_comm 1 j] using this) (by simp only [List.length_cons] at hk; omega) (inv.set hr' hkn) (past_set hp) hB' hK)

theorem wpQuiet_mono' {Q Q' : Act → Prop} (h : ∀ a, Q a → Q' a) (l : List Oper) : ∀ (a : Act), wpQuiet P ops C Q l a → wpQuiet P ops C Q' l a := by
  induction l with
  | nil => intro a hh; exact h _ hh
  | cons o l ih =>
    intro a hh
    unfold wpQuiet at hh ⊢
    split
    · rename_i hw; rw [if_pos hw] at hh; exact Oper.quiet_mono ih hh
    · rename_i hw; rw [if_neg hw] at hh; exact ih _ hh

/-- What is checked of the region: the first m operations have been taken; those up to n are quiet; the rest stand in one order. -/
def tailFromB (md : Region.Mode) (ops : Array Oper) (m n : Nat) (done : Array Bool) : Bool :=
  Region.noSelect ops && decide (m ≤ n) && decide (n < ops.size) && sinkFrom md ops m n && Region.chainB md ops n && decide (done.size = ops.size) &&
  ((List.range ops.size).all fun j => !done.getD j false || (decide (j < m) && (ops.getD j default).after.all fun e => !Region.binds md e || done.getD e.on false)) &&
  ((List.range m).all fun j => done.getD j false) &&
  Region.lexHead md ops (ops.size - n) (n - m) m done

theorem any_quiet_tail {Q : Exit → Act → World → Prop} {a : Act} {w : World} {l : List Oper} {done : Array Bool} {fuel : Nat} (m n : Nat) (hB : tailFromB .any l.toArray m n done = true) (hf : fuel = l.length - m)
    (hC : C w) (h : wpQuiet P l.toArray C (fun a' => ∀ w', C w' → wpList P l.toArray Q (l.drop n) a' w') ((l.take n).drop m) a) : wpAny P .any l.toArray Q fuel done a w := by
  simp only [tailFromB, Bool.and_eq_true, decide_eq_true_eq] at hB
  obtain ⟨⟨⟨⟨⟨⟨⟨⟨hsel, hmn⟩, hn⟩, hs⟩, hc⟩, hsz⟩, hcl⟩, hpast⟩, hlex⟩ := hB
  have hn' : n < l.length := by simpa using hn
  have htl : ((l.take n).drop m).length = n - m := by simp; omega
  have hdl : (l.drop n).length = l.toArray.size - n := by simp
  have hin : ∀ j, done.getD j false = true → j < done.size := by
    intro j hj
    rcases Nat.lt_or_ge j done.size with h' | h'
    · exact h'
    · simp [Array.getElem?_eq_none h'] at hj
  have hall := List.all_eq_true.1 hcl
  have inv0 : HeadInv .any l.toArray n done := by
    refine ⟨hsz, fun j oj hoj hl e he hb => ?_, fun t ht ht' => ?_⟩
    · have h1 := hall j (List.mem_range.2 (by rw [← hsz]; exact hin j hl))
      rw [hl] at h1
      simp only [Bool.not_true, Bool.false_or, Bool.and_eq_true] at h1
      have ho : l.toArray.getD j default = oj := by rw [Array.getD_eq_getD_getElem?, hoj]; rfl
      rw [ho] at h1
      have h2 := (Array.all_eq_true'.1 h1.2) e he
      rw [hb] at h2
      simpa using h2
    · cases hd : done.getD t false with
      | false => exact getD_in (by rw [hsz]; exact ht') hd
      | true =>
        have h1 := hall t (List.mem_range.2 ht')
        rw [hd] at h1
        simp only [Bool.not_true, Bool.false_or, Bool.and_eq_true, decide_eq_true_eq] at h1
        omega
  have hp : ∀ k, k < m → done.getD k true = true := by
    intro k hk
    have h1 := List.all_eq_true.1 hpast k (List.mem_range.2 hk)
    have h2 := hin k h1
    simp [h2] at h1 ⊢
    exact h1
  have H := headQ_lex (C := C) (md := .any) (g := l.toArray.size - n) hsel hs hc ((l.take n).drop m) m done a (fun j hj => by
    rw [htl] at hj
    simp [List.getElem?_drop, show m + j < n by omega]) (by rw [htl]; omega) inv0 hp (by rw [htl]; exact hlex) h
  have := any_of_headQ (Q := Q) (g := l.toArray.size - n) (fun d a' w' hw' hL => by
    have := wpAny_of_seq (md := .any) (Q' := Q) (l.drop n) n d a' w' (fun j => by simp [List.getElem?_drop]) (by rw [hdl]; exact hL.1) (hL.2 w' hw')
    rwa [hdl] at this) _ _ _ _ hC H
  rw [htl, show n - m + (l.toArray.size - n) = fuel by simp; omega] at this
  exact this

theorem wp_region_quiet_tail {id : Nat} {Q : Exit → Act → World → Prop} {a : Act} {w : World} {l : List Oper} (n : Nat) (hm : P.follows .mixedOrders = true) (hB : tailFromB .any l.toArray 0 n (Array.replicate l.toArray.size false) = true)
    (hC : C { w with drawn := w.drawn + 1 }) (h : wpQuiet P l.toArray C (fun a' => ∀ w', C w' → wpList P l.toArray Q (l.drop n) a' w') (l.take n) a) : (Code.region id l.toArray true).wp P Q a w :=
  wp_region_any hm (any_quiet_tail 0 n hB (by simp) hC (by simpa using h))

/-- An operation whose guard says no, its temporary untouched as yet. -/
theorem quiet_skip {Q : Act → Prop} {l : List Value} {ds : List Deferred} {o : Oper} {rest : List Oper} {oa : List Oper} {j d d0 : Nat} {b c : Bool} (hg : o.guard = some (j, b)) (hd : (oa[j]?).bind (·.dst) = some d) (hv : l[d]? = some (.bool c)) (hbc : (c == b) = false)
    (hd0 : o.dst = some d0) (hu : l[d0]? = some undef) (h : wpQuiet P oa.toArray C Q rest ⟨l.toArray, ds⟩) : wpQuiet P oa.toArray C Q (o :: rest) ⟨l.toArray, ds⟩ := by
  have hw : Region.wanted o (yielded oa.toArray l.toArray) = false := by
    have e : yielded oa.toArray l.toArray j = some c := by
      unfold yielded
      rw [List.getElem?_toArray, hd, Option.bind_some, List.getElem?_toArray, hv]
    simp only [Region.wanted, hg, e]
    simpa using hbc
  have ha : (⟨l.toArray, ds⟩ : Act).put o.dst undef = ⟨l.toArray, ds⟩ := by
    rw [hd0]
    simp only [Act.put, List.setIfInBounds_toArray]
    congr 2
    have hlt : d0 < l.length := (List.getElem?_eq_some_iff.1 hu).1
    apply List.ext_getElem?
    intro k
    by_cases hk : d0 = k
    · subst hk; rw [List.getElem?_set_self hlt, hu]
    · rw [List.getElem?_set_ne hk]
  unfold wpQuiet
  rw [if_neg (by rw [hw]; decide), ha]
  exact h

theorem wp_region_below_tail {id : Nat} {Q : Exit → Act → World → Prop} {a : Act} {w : World} {l : List Oper} (n : Nat) (hm : P.follows .mixedOrders = true) (hB : tailFromB .any l.toArray 0 n (Array.replicate l.toArray.size false) = true)
    (h : wpQuiet P l.toArray (fun w' => ∃ p : Regrown, w' = grow (redrawn w p.d) p.os) (fun a' => ∀ w', Below w.heap.size w w' → wpList P l.toArray Q (l.drop n) a' w') (l.take n) a) : (Code.region id l.toArray true).wp P Q a w := by
  refine wp_region_quiet_tail (C := fun w' => ∃ p : Regrown, w' = grow (redrawn w p.d) p.os) n hm hB ⟨⟨w.drawn + 1, #[]⟩, by rw [grow_empty]; rfl⟩ ?_
  refine wpQuiet_mono' (fun a' h' w' hw' => ?_) _ _ h
  obtain ⟨p, rfl⟩ := hw'
  exact h' _ (below_regrown _ _ _)
/-- The first operation (a plain move, apart from all others) is taken first; then as above. -/
theorem wp_region_below_tail1 {id : Nat} {Q : Exit → Act → World → Prop} {a : Act} {w : World} {o : Oper} {l : List Oper} (n : Nat) (v : Value) (hm : P.follows .mixedOrders = true)
    (hf : Region.free .any (o :: l).toArray (Array.replicate (l.length + 1) false) 0 = true) (hr : (Region.ready .any (o :: l).toArray (Array.replicate (l.length + 1) false)).contains 0 = true)
    (hB : tailFromB .any (o :: l).toArray 1 n ((Array.replicate (l.length + 1) false).setIfInBounds 0 true) = true) (hQ : ∀ c a w, Q (.panic c) (a.put o.dst v) w → Q (.panic c) a w)
    (hg : o.guard = none) (hv : ∀ w', (execOp a.eval o).run P w' = .ok (.value v) w')
    (h : wpQuiet P (o :: l).toArray (fun w' => ∃ p : Regrown, w' = grow (redrawn w p.d) p.os) (fun a' => ∀ w', Below w.heap.size w w' → wpList P (o :: l).toArray Q ((o :: l).drop n) a' w') (((o :: l).take n).drop 1) (a.put o.dst v)) :
    (Code.region id (o :: l).toArray true).wp P Q a w := by
  refine wp_region_any hm ?_
  have hs : Region.noSelect (o :: l).toArray = true := by
    simp only [tailFromB, Bool.and_eq_true] at hB
    exact hB.1.1.1.1.1.1.1.1
  simp only [List.size_toArray, List.length_cons]
  refine wpAny_take (i := 0) (v := v) (oi := o) rfl hs hf hr hQ (.inl ⟨by simp [Region.wanted, hg], hv⟩) ?_
  refine any_quiet_tail (C := fun w' => ∃ p : Regrown, w' = grow (redrawn w p.d) p.os) 1 n hB (by simp) ⟨⟨w.drawn + 1, #[]⟩, by rw [grow_empty]; rfl⟩ ?_
  refine wpQuiet_mono' (fun a' h' w' hw' => ?_) _ _ h
  obtain ⟨p, rfl⟩ := hw'
  exact h' _ (below_regrown _ _ _)
theorem wp_region_below {id : Nat} {Q : Exit → Act → World → Prop} {a : Act} {w : World} {l : List Oper} (hm : P.follows .mixedOrders = true) (hB : Region.lexB .any l.toArray = true)
    (h : wpQuiet P l.toArray (fun w' => ∃ p : Regrown, w' = grow (redrawn w p.d) p.os) (fun a' => ∀ w', Below w.heap.size w w' → Q .normal a' w') l a) : (Code.region id l.toArray true).wp P Q a w := by
  refine wp_region_quiet_below hm hB ?_
  refine wpQuiet_mono' (fun a' h' w' hw' => ?_) _ _ h
  obtain ⟨p, rfl⟩ := hw'
  exact h' _ (below_regrown _ _ _)

/-- A callee met inside such a region. -/
theorem regB {f : FuncId} {args : Array Value} {w : World} {d : Nat} {os : Array Obj} {v : Value}
    (h : Calls P f args (grow (redrawn w d) os) (RetB v (grow (redrawn w d) os))) : Calls P f args (grow (redrawn w d) os) fun e w'' => e = .returned v ∧ ∃ p : Regrown, w'' = grow (redrawn w p.d) p.os := Calls.regrown_of h
theorem regR {f : FuncId} {args : Array Value} {w : World} {d : Nat} {os : Array Obj} {v : Value}
    (h : Calls P f args (grow (redrawn w d) os) (Ret v (grow (redrawn w d) os))) : Calls P f args (grow (redrawn w d) os) fun e w'' => e = .returned v ∧ ∃ p : Regrown, w'' = grow (redrawn w p.d) p.os :=
  regB (h.mono fun _ _ ⟨he, hw⟩ => ⟨he, hw ▸ Below.refl _ _⟩)
end
end Go.Proofs.Ytbajnecahojcfaa
