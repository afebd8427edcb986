/- XFlow's theorem with facts that may look at which operations are done. (Written by mkflowd.py.) -/
import Derived.Test.YtbajnecahojcfaaFlow
namespace Go.Proofs.Ytbajnecahojcfaa
open Go.RowKit Go.Sort

/-- What is known of a value, in a world, when those operations are done. -/
structure FactD where
  p : (Nat → Bool) → Value → World → Prop
  st : ∀ d d' v w w', (∀ k, d k = true → d' k = true) → p d v w → Below w.heap.size w w' → p d' v w'
def FactD.of (F : Fact) : FactD := ⟨fun _ v w => F.p v w, fun _ _ v w w' _ h hb => F.st v w w' h hb⟩
/-- Known until s is done. -/
def FactD.till (s : Nat) (F : Fact) : FactD := ⟨fun d v w => d s = true ∨ F.p v w, fun _ _ v w w' hd h hb => h.elim (fun h => .inl (hd s h)) fun h => .inr (F.st v w w' h hb)⟩
/-- Known behind s only. -/
def FactD.since (s : Nat) (F : Fact) : FactD := ⟨fun d v w => d s = true ∧ F.p v w, fun _ _ v w w' hd h hb => ⟨hd s h.1, F.st v w w' h.2 hb⟩⟩
instance : Inhabited FactD := ⟨FactD.of (Fact.is undef)⟩
def doneB (done : Array Bool) (k : Nat) : Bool := done.getD k false
def setB (d : Nat → Bool) (i k : Nat) : Bool := if k = i then true else d k
theorem setB_mono (d : Nat → Bool) (i : Nat) : ∀ k, d k = true → setB d i k = true := fun k h => by unfold setB; split <;> simp_all
theorem setB_self (d : Nat → Bool) (i : Nat) : setB d i i = true := if_pos rfl
theorem setB_ne {d : Nat → Bool} {i k : Nat} (h : k ≠ i) : setB d i k = d k := if_neg h
def allD (F : List FactD) (dn : Nat → Bool) (vs : Nat → Value) (w : World) : List Nat → Prop
  | [] => True
  | j :: js => (F.getD j default).p dn (vs j) w ∧ allD F dn vs w js
theorem allD_of {F : List FactD} {dn : Nat → Bool} {vs : Nat → Value} {w : World} : ∀ {l : List Nat}, (∀ j ∈ l, (F.getD j default).p dn (vs j) w) → allD F dn vs w l
  | [], _ => trivial
  | _ :: _, h => ⟨h _ (by simp), allD_of fun j hj => h j (by simp [hj])⟩
section
variable {P : Program} {ops : Array Oper} {md : Region.Mode}
def flowQD (F : List FactD) (a0 : Act) (w0 : World) (i : Nat) (d : Option Tmp) (w : World) (dn : Nat → Bool) (ex : Exit) (a' : Act) (w' : World) : Prop :=
  ex = .normal ∧ a'.defers = a0.defers ∧ (∃ t v, d = some t ∧ a'.tmps[t]? = some v ∧ (F.getD i default).p (setB dn i) v w') ∧ Below w0.heap.size w w' ∧ ∀ j, j ≠ i → dn j = true → ∀ u, (F.getD j default).p dn u w → (F.getD j default).p (setB dn i) u w'
theorem keep_below {F : List FactD} {w0 w w' : World} {dn : Nat → Bool} {i : Nat} (h0 : Below w0.heap.size w0 w) (h : Below w.heap.size w w') : Below w0.heap.size w w' ∧ ∀ j, j ≠ i → dn j = true → ∀ u, (F.getD j default).p dn u w → (F.getD j default).p (setB dn i) u w' :=
  ⟨h.mono h0.size, fun j _ _ u hu => (F.getD j default).st _ _ _ _ _ (setB_mono _ _) hu h⟩
def flowStepD (P : Program) (ops : Array Oper) (F : List FactD) (a0 : Act) (w0 : World) (DS : List (List Nat)) (i : Nat) (o : Oper) (D : List Nat) : Prop :=
  ∀ w vs dn, Below w0.heap.size w0 w → allD F dn vs w D → (∀ j ∈ D, dn j = true) → dn i = false → (∀ k, k < DS.length → dn k = true → ∀ j ∈ DS.getD k [], dn j = true) → wpList P ops (flowQD F a0 w0 i o.dst w dn) [o] (putAll ops vs D a0) w
def flowPureD (P : Program) (ops : Array Oper) (F : List FactD) (a0 : Act) (w0 : World) (DS : List (List Nat)) (i : Nat) (o : Oper) (D : List Nat) : Prop :=
  ∀ w vs dn, Below w0.heap.size w0 w → allD F dn vs w D → (∀ j ∈ D, dn j = true) → dn i = false → (∀ k, k < DS.length → dn k = true → ∀ j ∈ DS.getD k [], dn j = true) → Region.wanted o (yielded ops (putAll ops vs D a0).tmps) = true ∧
    ∃ v, (∀ w', (execOp (putAll ops vs D a0).eval o).run P w' = .ok (.value v) w') ∧ (F.getD i default).p (setB dn i) v w
def flowAllD (P : Program) (ops : Array Oper) (F : List FactD) (a0 : Act) (w0 : World) (DS : List (List Nat)) (J : List Nat) : List Oper → List (List Nat) → Nat → Prop
  | o :: l, D :: Ds, i => (bif J.contains i then flowPureD P ops F a0 w0 DS i o D else flowStepD P ops F a0 w0 DS i o D) ∧ flowAllD P ops F a0 w0 DS J l Ds (i + 1)
  | _, _, _ => True
structure FlowInvD (md : Region.Mode) (ops : Array Oper) (n : Nat) (F : List FactD) (a0 : Act) (w0 : World) (vs : Nat → Value) (done : Array Bool) (a : Act) (w : World) : Prop where
  inv : HeadInv md ops n done
  below : Below w0.heap.size w0 w
  defers : a.defers = a0.defers
  size : a.tmps.size = a0.tmps.size
  at_ : ∀ j, j < n → done.getD j false = true → ∀ d, dstAt ops j = some d → a.tmps[d]? = some (vs j)
  off : ∀ t, (∀ j, j < n → done.getD j false = true → dstAt ops j ≠ some t) → a.tmps[t]? = a0.tmps[t]?
  facts : ∀ j, j < n → done.getD j false = true → (F.getD j default).p (doneB done) (vs j) w

theorem FlowInvD.put {n : Nat} {F : List FactD} {a0 : Act} {w0 : World} {vs : Nat → Value} {done : Array Bool} {a : Act} {w : World} (h : FlowInvD md ops n F a0 w0 vs done a w) {i d : Nat} {v : Value} {w' : World}
    (hi : i < n) (hr : i ∈ Region.ready md ops done) (hd : dstAt ops i = some d) (hds : d < a0.tmps.size) (huniq : ∀ j, j < n → j ≠ i → dstAt ops j ≠ some d) (hb : Below w0.heap.size w w') (hkeep : ∀ j, j < n → j ≠ i → doneB done j = true → ∀ u, (F.getD j default).p (doneB done) u w → (F.getD j default).p (setB (doneB done) i) u w') (hf : (F.getD i default).p (setB (doneB done) i) v w') :
    FlowInvD md ops n F a0 w0 (upd vs i v) (done.setIfInBounds i true) (a.put (some d) v) w' := by
  have hold : ∀ j, j ≠ i → (done.setIfInBounds i true).getD j false = done.getD j false := fun j hj => getD_set_ne false (Ne.symm hj)
  have hdone : (done.setIfInBounds i true).getD i false = true := by
    have : i < done.size := by
      rw [h.inv.size]; obtain ⟨_, o, ho, _⟩ := mem_ready.1 hr; exact (Array.getElem?_eq_some_iff.1 ho).1
    simp [this]
  have hfn : doneB (done.setIfInBounds i true) = setB (doneB done) i := by
    funext k
    unfold doneB setB
    by_cases hk : k = i
    · subst hk; rw [if_pos rfl]; exact hdone
    · rw [if_neg hk]; exact hold k hk
  refine ⟨h.inv.set hr hi, h.below.trans hb, h.defers, by simpa [Act.put] using h.size, ?_, ?_, ?_⟩
  · intro j hj hjd d' hd'
    by_cases hji : j = i
    · subst hji
      obtain rfl : d = d' := by rw [hd] at hd'; exact Option.some.inj hd'
      simp [Act.put, upd, h.size, hds]
    · rw [hold j hji] at hjd
      have : d ≠ d' := fun e => huniq j hj hji (by rw [hd', e])
      simp only [Act.put, upd, if_neg hji, Array.getElem?_setIfInBounds_ne this]
      exact h.at_ j hj hjd d' hd'
  · intro t ht
    have hne : d ≠ t := fun e => ht i hi hdone (by rw [hd, e])
    simp only [Act.put, Array.getElem?_setIfInBounds_ne hne]
    refine h.off t fun j hj hjd => ?_
    by_cases hji : j = i
    · subst hji; rw [hd]; simpa using hne
    · exact ht j hj (by rw [hold j hji]; exact hjd)
  · intro j hj hjd
    by_cases hji : j = i
    · subst hji; rw [hfn]; simpa [upd] using hf
    · rw [hold j hji] at hjd
      simp only [upd, if_neg hji]
      rw [hfn]
      exact hkeep j hj hji hjd _ (h.facts j hj hjd)

theorem flowAllD_at {F : List FactD} {a0 : Act} {w0 : World} {J : List Nat} {DS : List (List Nat)} : ∀ {l : List Oper} {Ds : List (List Nat)} {k : Nat}, flowAllD P ops F a0 w0 DS J l Ds k → ∀ {i : Nat} {o : Oper}, l[i]? = some o → i < Ds.length →
    (bif J.contains (k + i) then flowPureD P ops F a0 w0 DS (k + i) o (Ds.getD i []) else flowStepD P ops F a0 w0 DS (k + i) o (Ds.getD i []))
  | [], _, _, _, i, o, hl, _ => by simp at hl
  | _ :: _, [], _, _, i, o, _, hD => by simp at hD
  | o0 :: l, D :: Ds, k, h, 0, o, hl, _ => by
    obtain rfl : o0 = o := by simpa using hl
    exact h.1
  | o0 :: l, D :: Ds, k, h, i + 1, o, hl, hD => by
    have := flowAllD_at h.2 (i := i) (o := o) (by simpa using hl) (by simpa using hD)
    rw [show k + (i + 1) = k + 1 + i by omega]
    simpa using this

theorem any_of_flowD {n : Nat} {F : List FactD} {a0 : Act} {w0 : World} {J : List Nat} {Ds : List (List Nat)} {Q : Exit → Act → World → Prop} (hB : flowB md ops a0.tmps.size n J Ds = true)
    (hQ : ∀ c d v a w, Q (.panic c) (a.put d v) w → Q (.panic c) a w) (hall : flowAllD P ops F a0 w0 Ds J (ops.toList.take n) Ds 0)
    (hfin : ∀ w vs dn, (∀ j, j < n → dn j = true) → Below w0.heap.size w0 w → allD F dn vs w (List.range n) → wpList P ops Q (ops.toList.drop n) (putAll ops vs (List.range n) a0) w) :
    ∀ (m : Nat) (done : Array Bool) (a : Act) (w : World) (vs : Nat → Value), cnt done n = m → FlowInvD md ops n F a0 w0 vs done a w → wpAny P md ops Q (m + (ops.size - n)) done a w := by
  simp only [flowB, Bool.and_eq_true, decide_eq_true_eq] at hB
  obtain ⟨⟨⟨⟨⟨⟨⟨⟨hsel, hn⟩, hDl⟩, hchain⟩, hsink⟩, hops⟩, hJ⟩, hself⟩, hseq⟩ := hB
  have hsel' := Region.noSelect_spec hsel
  -- what is checked of each operation of the head
  have hop : ∀ i, i < n → ∃ o d, ops[i]? = some o ∧ o.dst = some d ∧ dstAt ops i = some d ∧ d < a0.tmps.size ∧ (∀ e ∈ o.after, Region.binds md e = true → e.on < i) ∧
      (∀ j ∈ Ds.getD i [], j < n ∧ Region.waitsFor md ops i j = true) ∧ (∀ j, j < n → j ≠ i → dstAt ops j ≠ some d) ∧
      (∀ j, j < n → j ∉ Ds.getD i [] → ∀ d', dstAt ops j = some d' → d' ∉ o.looksAt ops) := by
    intro i hi
    have h1 := List.all_eq_true.1 hops i (List.mem_range.2 hi)
    cases ho : ops[i]? with
    | none => rw [ho] at h1; cases h1
    | some o =>
      rw [ho] at h1
      simp only [Bool.and_eq_true] at h1
      obtain ⟨⟨⟨h2, h3⟩, h4⟩, h5⟩ := h1
      cases hd : o.dst with
      | none => rw [hd] at h2; cases h2
      | some d =>
        rw [hd] at h2
        have hda : dstAt ops i = some d := by simp [dstAt, ho, hd]
        have h6 := List.all_eq_true.1 hself i (List.mem_range.2 hi)
        rw [ho] at h6
        simp only [hd] at h6
        refine ⟨o, d, rfl, hd, hda, by simpa using h2, fun e he hb => ?_, fun j hj => ?_, fun j hj hji => ?_, fun j hj hjD d' hd' => ?_⟩
        · have := Array.all_eq_true'.1 h3 e he
          rw [hb] at this
          simpa using this
        · have := List.all_eq_true.1 h4 j hj
          simpa using this
        · have h7 := List.all_eq_true.1 h5 j (List.mem_range.2 hj)
          simp only [Bool.or_eq_true, beq_iff_eq, Bool.and_eq_true, bne_iff_ne] at h7
          rcases h7 with h7 | h7
          · exact absurd h7.symm hji
          · intro e; exact h7.1 (by rw [hda, e])
        · have h7 := List.all_eq_true.1 h5 j (List.mem_range.2 hj)
          simp only [Bool.or_eq_true, beq_iff_eq, Bool.and_eq_true, bne_iff_ne] at h7
          rcases h7 with h7 | h7
          · subst h7
            obtain rfl : d = d' := by rw [hda] at hd'; exact Option.some.inj hd'
            simpa using h6
          · have h8 := h7.2.resolve_left (by simpa using hjD)
            rw [hd'] at h8
            simpa using h8
  -- the small frame serves for the great one
  have hsame : ∀ {vs done a w i o d}, FlowInvD md ops n F a0 w0 vs done a w → i < n → i ∈ Region.ready md ops done → ops[i]? = some o → dstAt ops i = some d →
      (∀ t ∈ o.looksAt ops, a.tmps[t]? = (putAll ops vs (Ds.getD i []) a0).tmps[t]?) ∧ allD F (doneB done) vs w (Ds.getD i []) ∧ (∀ j ∈ Ds.getD i [], doneB done j = true) ∧ doneB done i = false ∧ (∀ k, k < Ds.length → doneB done k = true → ∀ j ∈ Ds.getD k [], doneB done j = true) := by
    intro vs done a w i o d h hi hr ho hd
    obtain ⟨o', d', ho', hd1, hd2, hds, haft, hD, huniq, hlook⟩ := hop i hi
    obtain rfl : o = o' := by rw [ho] at ho'; exact Option.some.inj ho'
    have hDdone : ∀ j ∈ Ds.getD i [], done.getD j false = true := by
      intro j hj
      obtain ⟨o'', ho'', e, he, hb, hon⟩ := Region.waitsFor_spec (hD j hj).2
      obtain rfl : o'' = o := by rw [ho''] at ho; exact Option.some.inj ho
      obtain ⟨_, o3, ho3, h3⟩ := mem_ready.1 hr
      obtain rfl : o3 = o'' := by rw [ho3] at ho; exact Option.some.inj ho
      rw [← hon]; exact h3 e he hb
    refine ⟨fun t ht => ?_, allD_of fun j hj => h.facts j (hD j hj).1 (hDdone j hj), hDdone, getD_both (mem_ready.1 hr).1, fun k hk hkd j hj => by
      obtain ⟨ok, dk, hok, _, _, _, _, hDk, _, _⟩ := hop k (by omega)
      obtain ⟨o'', ho'', e, he, hb, hon⟩ := Region.waitsFor_spec (hDk j hj).2
      rw [← hon]
      exact h.inv.closed k o'' ho'' hkd e he hb⟩
    by_cases hex : ∃ j ∈ Ds.getD i [], dstAt ops j = some t
    · obtain ⟨j, hj, hjt⟩ := hex
      rw [h.at_ j (hD j hj).1 (hDdone j hj) t hjt]
      obtain ⟨oj, dj, hoj, _, hdj, hdjs, _, _, huj, _⟩ := hop j (hD j hj).1
      obtain rfl : dj = t := by rw [hjt] at hdj; exact (Option.some.inj hdj).symm
      rw [putAll_at hjt _ _ hj (fun k hk hkj => huj k (hD k hk).1 hkj) hdjs]
    · rw [putAll_ne _ _ (fun j hj e => hex ⟨j, hj, e⟩)]
      refine h.off t fun j hj _ e => ?_
      by_cases hjD : j ∈ Ds.getD i []
      · exact hex ⟨j, hjD, e⟩
      · exact hlook j hj hjD t e ht
  intro m
  induction m with
  | zero =>
    intro done a w vs hc h
    have hd : done = headDone ops.size n := by
      apply Array.ext
      · simp [headDone, h.inv.size]
      · intro j h1 h2
        have h3 : j < ops.size := by rw [h.inv.size] at h1; exact h1
        rcases Nat.lt_or_ge j n with h' | h'
        · have := cnt_zero hc j h'
          simp [h1] at this
          simp [headDone, this, h']
        · have := h.inv.tail j h' h3
          simp [h1] at this
          simp [headDone, this]
          omega
    have hdl : (ops.toList.drop n).length = ops.size - n := by simp
    have ha : a = putAll ops vs (List.range n) a0 := by
      have h1 : a.tmps = (putAll ops vs (List.range n) a0).tmps := by
        apply Array.ext_getElem?
        intro t
        by_cases hex : ∃ j, j < n ∧ dstAt ops j = some t
        · obtain ⟨j, hj, hjt⟩ := hex
          rw [h.at_ j hj (cnt_zero hc j hj) t hjt]
          obtain ⟨oj, dj, hoj, _, hdj, hdjs, _, _, huj, _⟩ := hop j hj
          obtain rfl : dj = t := by rw [hjt] at hdj; exact (Option.some.inj hdj).symm
          rw [putAll_at hjt _ _ (List.mem_range.2 hj) (fun k hk hkj => huj k (List.mem_range.1 hk) hkj) hdjs]
        · rw [putAll_ne _ _ (fun j hj e => hex ⟨j, List.mem_range.1 hj, e⟩)]
          exact h.off t fun j hj _ e => hex ⟨j, hj, e⟩
      have h2 : a.defers = (putAll ops vs (List.range n) a0).defers := by rw [putAll_defers]; exact h.defers
      cases a; simp only at h1 h2; subst h1 h2; rfl
    have := wpAny_of_seq (ops := ops) (md := md) (Q' := Q) (ops.toList.drop n) n done a w (fun j => by simp [List.getElem?_drop]) (by rw [hdl, hd]; exact hseq)
      (by rw [ha]; exact hfin w vs (doneB done) (fun j hj => cnt_zero hc j hj) h.below (allD_of fun j hj => h.facts j (List.mem_range.1 hj) (cnt_zero hc j (List.mem_range.1 hj))))
    rw [hdl] at this
    rwa [Nat.zero_add]
  | succ m ih =>
    intro done a w vs hc h
    obtain ⟨j0, hj0, hun0, hbef⟩ := cnt_pos (d := done) (n := n) (by omega)
    have hinb : ∀ i, i < n → i < done.size := fun i hi => by rw [h.inv.size]; omega
    have hr0 : j0 ∈ Region.ready md ops done := by
      obtain ⟨o, d, ho, _, _, _, haft, _⟩ := hop j0 hj0
      exact mem_ready.2 ⟨getD_in (hinb j0 hj0) hun0, o, ho, fun e he hb => hbef _ (haft e he hb)⟩
    rw [show m + 1 + (ops.size - n) = (m + (ops.size - n)) + 1 by omega]
    by_cases hfl : ∃ j ∈ Region.ready md ops done, j ∈ J
    · obtain ⟨j, hjr, hjJ⟩ := hfl
      have hj1 := List.all_eq_true.1 hJ j hjJ
      simp only [Bool.and_eq_true, decide_eq_true_eq] at hj1
      obtain ⟨hjn, hjk⟩ := hj1
      obtain ⟨o, d, ho, hod, hda, hds, haft, hD, huniq, hlook⟩ := hop j hjn
      obtain ⟨hlk, hf, hfd, hfi, hcl⟩ := hsame h hjn hjr ho hda
      have hpu := flowAllD_at hall (i := j) (o := o) (by rw [List.getElem?_take_of_lt hjn]; simpa using ho) (by omega)
      rw [Nat.zero_add, show J.contains j = true by simpa using hjJ, cond_true] at hpu
      obtain ⟨hw, v, hv, hF⟩ := hpu w vs _ h.below hf hfd hfi hcl
      have hy : Yields P ops o v a := .inl ⟨by rw [wanted_same hlk]; exact hw, fun w' => by rw [eval_same hlk (fun cs b => hsel' j o cs b ho)]; exact hv w'⟩
      refine wpAny_first ho hsel' (fun c a w => hQ c _ _ a w) _ done a w ?_ hjr hy ?_
      · intro k ok hk hkj hkun hno
        have h1 := List.all_eq_true.1 hjk k (List.mem_range.2 (Array.getElem?_eq_some_iff.1 hk).1)
        simp only [Bool.or_eq_true, beq_iff_eq] at h1
        rcases h1 with ((h1 | h1) | h1) | h1
        · exact absurd h1 hkj
        · exfalso
          obtain ⟨o2, ho2, e, he, hb, hon⟩ := Region.waitsFor_spec h1
          obtain ⟨_, o3, ho3, h3⟩ := mem_ready.1 hjr
          obtain rfl : o2 = o3 := by rw [ho2] at ho3; exact Option.some.inj ho3
          have := h3 e he hb
          rw [hon, getD_both hkun] at this
          cases this
        · exfalso
          obtain ⟨o2, ho2, e, he, hb, hon⟩ := Region.waitsFor_spec h1
          obtain rfl : o2 = ok := by rw [ho2] at hk; exact Option.some.inj hk
          exact hno e he hb hon
        · rw [ho, hk] at h1; exact h1
      · rw [hod]
        refine ih _ _ _ (upd vs j v) ?_ (h.put hjn hjr hda hds huniq (Below.refl _ _) (fun k _ _ _ u hu => (F.getD k default).st _ _ _ _ _ (setB_mono _ _) hu (Below.refl _ _)) hF)
        have := cnt_set (hinb j hjn) (getD_both (mem_ready.1 hjr).1) hjn
        omega
    · refine ⟨fun h0 => (by rw [h0] at hr0; cases hr0), fun i hi => ?_⟩
      have hin : i < n := by
        rcases Nat.lt_or_ge i n with h' | h'
        · exact h'
        · exfalso
          have hi2 := hi
          obtain ⟨hiun, oi, hoi, hia⟩ := mem_ready.1 hi2
          have hilt : i < ops.size := (Array.getElem?_eq_some_iff.1 hoi).1
          by_cases hin : i = n
          · subst hin
            have h1 := List.all_eq_true.1 hsink j0 (List.mem_range.2 hj0)
            simp only [Bool.or_eq_true, decide_eq_true_eq] at h1
            rcases h1 with (h1 | h1) | h1
            · exact hfl ⟨j0, hr0, by simpa using h1⟩
            · omega
            · obtain ⟨o2, ho2, e, he, hb, hon⟩ := Region.waitsFor_spec h1
              obtain rfl : o2 = oi := by rw [ho2] at hoi; exact Option.some.inj hoi
              have := hia e he hb
              rw [hon, hun0] at this
              cases this
          · have h1 := List.all_eq_true.1 hchain i (List.mem_range.2 hilt)
            simp only [Bool.or_eq_true, decide_eq_true_eq] at h1
            rcases h1 with h1 | h1
            · omega
            · obtain ⟨o2, ho2, e, he, hb, hon⟩ := Region.waitsFor_spec h1
              obtain rfl : o2 = oi := by rw [ho2] at hoi; exact Option.some.inj hoi
              have := hia e he hb
              rw [hon, getD_both (h.inv.tail (i - 1) (by omega) (by omega))] at this
              cases this
      obtain ⟨o, d, ho, hod, hda, hds, haft, hD, huniq, hlook⟩ := hop i hin
      obtain ⟨hlk, hf, hfd, hfi, hcl⟩ := hsame h hin hi ho hda
      have hst := flowAllD_at hall (i := i) (o := o) (by rw [List.getElem?_take_of_lt hin]; simpa using ho) (by omega)
      have hnJ : J.contains i = false := by
        rw [← Bool.not_eq_true]; intro hc'
        exact hfl ⟨i, hi, by simpa using hc'⟩
      rw [Nat.zero_add, hnJ, cond_false] at hst
      have h1 := hst w vs _ h.below hf hfd hfi hcl
      have hcnt : cnt (done.setIfInBounds i true) n = m := by
        have := cnt_set (hinb i hin) (getD_both (mem_ready.1 hi).1) hin
        omega
      have hput : ∀ v w', (F.getD i default).p (setB (doneB done) i) v w' → Below w0.heap.size w w' → (∀ j, j ≠ i → doneB done j = true → ∀ u, (F.getD j default).p (doneB done) u w → (F.getD j default).p (setB (doneB done) i) u w') → wpAny P md ops Q (m + (ops.size - n)) (done.setIfInBounds i true) (a.put o.dst v) w' := by
        intro v w' hF hb hk
        rw [hod]
        exact ih _ _ _ (upd vs i v) hcnt (h.put hin hi hda hds huniq hb (fun j _ h1 h2 => hk j h1 h2) hF)
      generalize hb0 : putAll ops vs (Ds.getD i []) a0 = b at h1 hlk
      have hbd : b.defers = a0.defers := by rw [← hb0, putAll_defers]
      have hbs : d < b.tmps.size := by rw [← hb0, putAll_size]; exact hds
      have hq : ∀ {v w'}, flowQD F a0 w0 i o.dst w (doneB done) .normal (b.put o.dst v) w' → (F.getD i default).p (setB (doneB done) i) v w' ∧ Below w0.heap.size w w' ∧ (∀ j, j ≠ i → doneB done j = true → ∀ u, (F.getD j default).p (doneB done) u w → (F.getD j default).p (setB (doneB done) i) u w') := by
        rintro v w' ⟨_, _, ⟨t, v', ht, hv', hF⟩, hb, hk⟩
        rw [hod] at ht hv'
        obtain rfl := Option.some.inj ht
        simp [Act.put, hbs] at hv'
        subst hv'
        exact ⟨hF, hb, hk⟩
      unfold wpOp
      simp only [ho]
      unfold wpList at h1
      rw [wanted_same hlk]
      split
      · rename_i hw
        rw [if_pos hw] at h1
        rcases h1 with h1 | ⟨_, _, _, h1⟩
        · refine .inl ?_
          unfold Oper.wp at h1 ⊢
          rw [eval_same hlk (fun cs b => hsel' i o cs b ho)]
          generalize (execOp b.eval o).run P w = r at h1
          cases r with
          | ok nx w' =>
            cases nx with
            | value v => obtain ⟨hF, hb, hk⟩ := hq h1; exact hput v w' hF hb hk
            | skip => obtain ⟨hF, hb, hk⟩ := hq h1; exact hput _ w' hF hb hk
            | defer dd =>
              exfalso
              have : dd :: b.defers = a0.defers := by
                have := h1.2.1
                rw [hod] at this
                exact this
              rw [hbd] at this
              have := congrArg List.length this
              simp at this
            | enter f args =>
              refine Calls.mono h1 fun e w'' he => ?_
              cases e with
              | returned v => obtain ⟨hF, hb, hk⟩ := hq he; exact hput v w'' hF hb hk
              | panicked c => exact absurd he.1 (by simp)
              | outgrown => obtain ⟨_, _, he⟩ := he; exact absurd he.1 (by simp)
            | row row args => exact Rows.mono h1 fun v w'' he => by obtain ⟨hF, hb, hk⟩ := hq he; exact hput v w'' hF hb hk
            | _ => exact h1.elim
          | halt x w' =>
            cases x <;> first | exact h1.elim | exact absurd h1.1 (by simp)
        · exact absurd h1.1 (by simp)
      · rename_i hw
        rw [if_neg hw] at h1
        obtain ⟨hF, hb, hk⟩ := hq h1
        exact hput _ _ hF hb hk

theorem wp_region_flowD {id : Nat} {Q : Exit → Act → World → Prop} {l : List Oper} {a0 : Act} {w0 : World} (n : Nat) (J : List Nat) (Ds : List (List Nat)) (F : List FactD) (hm : P.follows .mixedOrders = true)
    (hB : flowB .any l.toArray a0.tmps.size n J Ds = true) (hQ : ∀ c d v a w, Q (.panic c) (a.put d v) w → Q (.panic c) a w)
    (hall : flowAllD P l.toArray F a0 w0 Ds J (l.take n) Ds 0)
    (hfin : ∀ w vs dn, (∀ j, j < n → dn j = true) → Below w0.heap.size w0 w → allD F dn vs w (List.range n) → wpList P l.toArray Q (l.drop n) (putAll l.toArray vs (List.range n) a0) w) : (Code.region id l.toArray true).wp P Q a0 w0 := by
  refine wp_region_any hm ?_
  have hn : n ≤ l.length := by
    simp only [flowB, Bool.and_eq_true, decide_eq_true_eq] at hB
    simpa using hB.1.1.1.1.1.1.1.2
  have hc : cnt (Array.replicate l.toArray.size false) n = n := by
    clear hB hall hfin hn
    induction n with
    | zero => rfl
    | succ n ih => unfold cnt; rw [ih, getD_replicate_false]; rfl
  have := any_of_flowD (P := P) (md := .any) (F := F) (w0 := w0) hB hQ (by simpa using hall) (by simpa using hfin) n (Array.replicate l.toArray.size false) a0 { w0 with drawn := w0.drawn + 1 } (fun _ => undef) hc
    ⟨⟨by simp, fun j oj _ hl => by rw [getD_replicate_false] at hl; (cases hl), fun t _ ht => by simp at ht; simp [ht]⟩, (Below.refl _ _).drew, rfl, rfl, fun j _ hj => by rw [getD_replicate_false] at hj; (cases hj), fun _ _ => rfl, fun j _ hj => by rw [getD_replicate_false] at hj; (cases hj)⟩
  rwa [show n + (l.toArray.size - n) = l.toArray.size by simp; omega] at this
end
end Go.Proofs.Ytbajnecahojcfaa
