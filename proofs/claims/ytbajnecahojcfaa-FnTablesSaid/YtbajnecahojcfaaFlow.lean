/- A region that draws its order, whose head holds calls AND allocations: a fact for each operation's value (a fact that lasts while the heap grows), shown from the facts of those it waits for; then the forced tail. Every order is served at once. -/
import Derived.Test.YtbajnecahojcfaaQuiet
namespace Go.Proofs.Ytbajnecahojcfaa
open Go.RowKit Go.Sort

/-- What is known of a value in a world that has grown out of w0. -/
structure Fact where
  p : Value → World → Prop
  st : ∀ v w w', p v w → Below w.heap.size w w' → p v w'

def Fact.is (c : Value) : Fact := ⟨fun v _ => v = c, fun _ _ _ h _ => h⟩
instance : Inhabited Fact := ⟨Fact.is undef⟩

def dstAt (ops : Array Oper) (j : Nat) : Option Tmp := (ops[j]?).bind (·.dst)
def putAll (ops : Array Oper) (vs : Nat → Value) : List Nat → Act → Act
  | [], a => a
  | j :: js, a => putAll ops vs js (a.put (dstAt ops j) (vs j))
def allF (F : List Fact) (vs : Nat → Value) (w : World) : List Nat → Prop
  | [] => True
  | j :: js => (F.getD j default).p (vs j) w ∧ allF F vs w js
theorem allF_of {F : List Fact} {vs : Nat → Value} {w : World} : ∀ {l : List Nat}, (∀ j ∈ l, (F.getD j default).p (vs j) w) → allF F vs w l
  | [], _ => trivial
  | _ :: _, h => ⟨h _ (by simp), allF_of fun j hj => h j (by simp [hj])⟩

section
variable {P : Program} {ops : Array Oper} {md : Region.Mode}

/-- What an operation of the head leaves. -/
def flowQ (F : List Fact) (a0 : Act) (i : Nat) (d : Option Tmp) (w : World) (ex : Exit) (a' : Act) (w' : World) : Prop :=
  ex = .normal ∧ a'.defers = a0.defers ∧ (∃ t v, d = some t ∧ a'.tmps[t]? = some v ∧ (F.getD i default).p v w') ∧ Below w.heap.size w w'

def flowStep (P : Program) (ops : Array Oper) (F : List Fact) (a0 : Act) (w0 : World) (i : Nat) (o : Oper) (D : List Nat) : Prop :=
  ∀ w vs, Below w0.heap.size w0 w → allF F vs w D → wpList P ops (flowQ F a0 i o.dst w) [o] (putAll ops vs D a0) w
def flowPure (P : Program) (ops : Array Oper) (F : List Fact) (a0 : Act) (w0 : World) (i : Nat) (o : Oper) (D : List Nat) : Prop :=
  ∀ w vs, Below w0.heap.size w0 w → allF F vs w D → Region.wanted o (yielded ops (putAll ops vs D a0).tmps) = true ∧
    ∃ v, (∀ w', (execOp (putAll ops vs D a0).eval o).run P w' = .ok (.value v) w') ∧ (F.getD i default).p v w

def flowAll (P : Program) (ops : Array Oper) (F : List Fact) (a0 : Act) (w0 : World) (J : List Nat) : List Oper → List (List Nat) → Nat → Prop
  | o :: l, D :: Ds, i => (bif J.contains i then flowPure P ops F a0 w0 i o D else flowStep P ops F a0 w0 i o D) ∧ flowAll P ops F a0 w0 J l Ds (i + 1)
  | _, _, _ => True

def headDone (s n : Nat) : Array Bool := ((List.range s).map fun j => decide (j < n)).toArray

/-- What is checked of the region: n operations of the head, J of them plain ones that may come late; Ds: whose values each looks at. -/
def flowB (md : Region.Mode) (ops : Array Oper) (sz n : Nat) (J : List Nat) (Ds : List (List Nat)) : Bool :=
  Region.noSelect ops && decide (n ≤ ops.size) && decide (Ds.length = n) && Region.chainB md ops n &&
  ((List.range n).all fun i => J.contains i || decide (n = ops.size) || Region.waitsFor md ops n i) &&
  ((List.range n).all fun i => match ops[i]? with
    | none => false
    | some o => (match o.dst with | some d => decide (d < sz) | none => false) &&
      (o.after.all fun e => !Region.binds md e || decide (e.on < i)) &&
      ((Ds.getD i []).all fun j => decide (j < n) && Region.waitsFor md ops i j) &&
      ((List.range n).all fun j => i == j || ((dstAt ops i != dstAt ops j) && ((Ds.getD i []).contains j || match dstAt ops j with | some d => !(o.looksAt ops).contains d | none => true)))) &&
  (J.all fun j => decide (j < n) && (List.range ops.size).all fun k => k == j || Region.waitsFor md ops j k || Region.waitsFor md ops k j || match ops[j]?, ops[k]? with | some oj, some ok => oj.apart ops ok | _, _ => false) &&
  ((List.range n).all fun i => match ops[i]? with | some o => (match o.dst with | some d => !(o.looksAt ops).contains d | none => true) | none => true) &&
  Region.seqB md ops (ops.size - n) n (headDone ops.size n)

def cnt (d : Array Bool) : Nat → Nat
  | 0 => 0
  | n + 1 => cnt d n + if d.getD n false then 0 else 1
theorem cnt_set_ge {d : Array Bool} {i : Nat} : ∀ {n : Nat}, n ≤ i → cnt (d.setIfInBounds i true) n = cnt d n
  | 0, _ => rfl
  | n + 1, h => by unfold cnt; rw [cnt_set_ge (by omega), getD_set_ne false (by omega)]
theorem cnt_set {d : Array Bool} {i : Nat} (hs : i < d.size) (h0 : d.getD i false = false) : ∀ {n : Nat}, i < n → cnt (d.setIfInBounds i true) n + 1 = cnt d n
  | 0, h => by omega
  | n + 1, h => by
    unfold cnt
    rcases Nat.lt_or_ge i n with h' | h'
    · rw [getD_set_ne false (by omega)]
      have := cnt_set hs h0 h'
      omega
    · obtain rfl : i = n := by omega
      rw [cnt_set_ge (Nat.le_refl _), h0]
      simp [hs]
theorem cnt_zero {d : Array Bool} : ∀ {n : Nat}, cnt d n = 0 → ∀ j, j < n → d.getD j false = true
  | 0, _, _, h => by omega
  | n + 1, h, j, hj => by
    unfold cnt at h
    split at h
    · rename_i h1
      rcases Nat.lt_or_ge j n with h' | h'
      · exact cnt_zero (by omega) j h'
      · obtain rfl : j = n := by omega
        exact h1
    · omega
theorem cnt_pos {d : Array Bool} : ∀ {n : Nat}, cnt d n ≠ 0 → ∃ j, j < n ∧ d.getD j false = false ∧ ∀ k, k < j → d.getD k false = true
  | 0, h => absurd rfl h
  | n + 1, h => by
    by_cases h0 : cnt d n = 0
    · have h1 := cnt_zero h0
      refine ⟨n, by omega, ?_, fun k hk => h1 k hk⟩
      unfold cnt at h
      rw [h0] at h
      cases hd : d.getD n false with
      | false => rfl
      | true => rw [hd] at h; simp at h
    · obtain ⟨j, hj, h1, h2⟩ := cnt_pos h0
      exact ⟨j, by omega, h1, h2⟩

theorem putAll_defers {vs : Nat → Value} : ∀ (D : List Nat) (a : Act), (putAll ops vs D a).defers = a.defers
  | [], _ => rfl
  | j :: js, a => by unfold putAll; rw [putAll_defers js]; cases dstAt ops j <;> rfl
theorem putAll_size {vs : Nat → Value} : ∀ (D : List Nat) (a : Act), (putAll ops vs D a).tmps.size = a.tmps.size
  | [], _ => rfl
  | j :: js, a => by unfold putAll; rw [putAll_size js]; cases dstAt ops j <;> simp [Act.put]
theorem putAll_ne {vs : Nat → Value} {t : Nat} : ∀ (D : List Nat) (a : Act), (∀ j ∈ D, dstAt ops j ≠ some t) → (putAll ops vs D a).tmps[t]? = a.tmps[t]?
  | [], _, _ => rfl
  | j :: js, a, h => by
    unfold putAll
    rw [putAll_ne js _ (fun k hk => h k (by simp [hk]))]
    have h1 := h j (by simp)
    cases hd : dstAt ops j with
    | none => rfl
    | some d =>
      have : d ≠ t := fun e => h1 (by rw [hd, e])
      simp [Act.put, Array.getElem?_setIfInBounds_ne this]
theorem putAll_at {vs : Nat → Value} {t k : Nat} (hk : dstAt ops k = some t) : ∀ (D : List Nat) (a : Act), k ∈ D → (∀ j ∈ D, j ≠ k → dstAt ops j ≠ some t) → t < a.tmps.size → (putAll ops vs D a).tmps[t]? = some (vs k)
  | [], _, h, _, _ => by cases h
  | j :: js, a, h, hne, hs => by
    unfold putAll
    have hs' : t < (a.put (dstAt ops j) (vs j)).tmps.size := by cases dstAt ops j <;> simpa [Act.put] using hs
    by_cases hin : k ∈ js
    · exact putAll_at hk js _ hin (fun i hi => hne i (by simp [hi])) hs'
    · have hj : j = k := by
        rcases List.mem_cons.1 h with h | h
        · exact h.symm
        · exact absurd h hin
      subst hj
      rw [putAll_ne js _ (fun i hi => hne i (by simp [hi]) (fun e => hin (e ▸ hi))), hk]
      simp [Act.put, hs]

theorem eval_same {o : Oper} {a b : Act} (h : ∀ t ∈ o.looksAt ops, a.tmps[t]? = b.tmps[t]?) (hs : ∀ cs b, o.op ≠ .select cs b) : execOp a.eval o = execOp b.eval o := by
  refine execOp_congr o hs fun x hx => ?_
  cases x with
  | tmp t =>
    have := h t (List.mem_append_left _ (List.mem_filterMap.2 ⟨.tmp t, by simpa using hx, rfl⟩))
    simp [Act.eval, Array.getD_eq_getD_getElem?, this]
  | _ => rfl
theorem wanted_same {o : Oper} {a b : Act} (h : ∀ t ∈ o.looksAt ops, a.tmps[t]? = b.tmps[t]?) : Region.wanted o (yielded ops a.tmps) = Region.wanted o (yielded ops b.tmps) := by
  unfold Region.wanted
  cases hg : o.guard with
  | none => rfl
  | some gw =>
    obtain ⟨g, want⟩ := gw
    have hy : yielded ops a.tmps g = yielded ops b.tmps g := by
      unfold yielded
      cases ht : (ops[g]?).bind (·.dst) with
      | none => rfl
      | some t => simp only [Option.bind_some]; rw [h t (by simp [Oper.looksAt, hg, ht])]
    simp only [hy]

structure FlowInv (md : Region.Mode) (ops : Array Oper) (n : Nat) (F : List Fact) (a0 : Act) (w0 : World) (vs : Nat → Value) (done : Array Bool) (a : Act) (w : World) : Prop where
  inv : HeadInv md ops n done
  below : Below w0.heap.size w0 w
  defers : a.defers = a0.defers
  size : a.tmps.size = a0.tmps.size
  at_ : ∀ j, j < n → done.getD j false = true → ∀ d, dstAt ops j = some d → a.tmps[d]? = some (vs j)
  off : ∀ t, (∀ j, j < n → done.getD j false = true → dstAt ops j ≠ some t) → a.tmps[t]? = a0.tmps[t]?
  facts : ∀ j, j < n → done.getD j false = true → (F.getD j default).p (vs j) w

def upd (vs : Nat → Value) (i : Nat) (v : Value) : Nat → Value := fun j => if j = i then v else vs j

theorem FlowInv.put {n : Nat} {F : List Fact} {a0 : Act} {w0 : World} {vs : Nat → Value} {done : Array Bool} {a : Act} {w : World} (h : FlowInv md ops n F a0 w0 vs done a w) {i d : Nat} {v : Value} {w' : World}
    (hi : i < n) (hr : i ∈ Region.ready md ops done) (hd : dstAt ops i = some d) (hds : d < a0.tmps.size) (huniq : ∀ j, j < n → j ≠ i → dstAt ops j ≠ some d) (hb : Below w.heap.size w w') (hf : (F.getD i default).p v w') :
    FlowInv md ops n F a0 w0 (upd vs i v) (done.setIfInBounds i true) (a.put (some d) v) w' := by
  have hold : ∀ j, j ≠ i → (done.setIfInBounds i true).getD j false = done.getD j false := fun j hj => getD_set_ne false (Ne.symm hj)
  have hdone : (done.setIfInBounds i true).getD i false = true := by
    have : i < done.size := by
      rw [h.inv.size]; obtain ⟨_, o, ho, _⟩ := mem_ready.1 hr; exact (Array.getElem?_eq_some_iff.1 ho).1
    simp [this]
  refine ⟨h.inv.set hr hi, h.below.trans (hb.mono h.below.size), h.defers, by simpa [Act.put] using h.size, ?_, ?_, ?_⟩
  · intro j hj hjd d' hd'
    by_cases hji : j = i
    · subst hji
      obtain rfl : d = d' := by rw [hd] at hd'; exact Option.some.inj hd'
      simp [Act.put, upd, h.size, hds]
    · rw [hold j hji] at hjd
      have : d ≠ d' := fun e => huniq j hj hji (by rw [hd', e])
      simp only [Act.put, upd, if_neg hji, Array.getElem?_setIfInBounds_ne this]
      exact h.at_ j hj hjd d' hd'
  · intro t ht
    have hne : d ≠ t := fun e => ht i hi hdone (by rw [hd, e])
    simp only [Act.put, Array.getElem?_setIfInBounds_ne hne]
    refine h.off t fun j hj hjd => ?_
    by_cases hji : j = i
    · subst hji; rw [hd]; simpa using hne
    · exact ht j hj (by rw [hold j hji]; exact hjd)
  · intro j hj hjd
    by_cases hji : j = i
    · subst hji; simpa [upd] using hf
    · rw [hold j hji] at hjd
      simp only [upd, if_neg hji]
      exact (F.getD j default).st _ _ _ (h.facts j hj hjd) hb

theorem flowAll_at {F : List Fact} {a0 : Act} {w0 : World} {J : List Nat} : ∀ {l : List Oper} {Ds : List (List Nat)} {k : Nat}, flowAll P ops F a0 w0 J l Ds k → ∀ {i : Nat} {o : Oper}, l[i]? = some o → i < Ds.length →
    (bif J.contains (k + i) then flowPure P ops F a0 w0 (k + i) o (Ds.getD i []) else flowStep P ops F a0 w0 (k + i) o (Ds.getD i []))
  | [], _, _, _, i, o, hl, _ => by simp at hl
  | _ :: _, [], _, _, i, o, _, hD => by simp at hD
  | o0 :: l, D :: Ds, k, h, 0, o, hl, _ => by
    obtain rfl : o0 = o := by simpa using hl
    exact h.1
  | o0 :: l, D :: Ds, k, h, i + 1, o, hl, hD => by
    have := flowAll_at h.2 (i := i) (o := o) (by simpa using hl) (by simpa using hD)
    rw [show k + (i + 1) = k + 1 + i by omega]
    simpa using this

theorem any_of_flow {n : Nat} {F : List Fact} {a0 : Act} {w0 : World} {J : List Nat} {Ds : List (List Nat)} {Q : Exit → Act → World → Prop} (hB : flowB md ops a0.tmps.size n J Ds = true)
    (hQ : ∀ c d v a w, Q (.panic c) (a.put d v) w → Q (.panic c) a w) (hall : flowAll P ops F a0 w0 J (ops.toList.take n) Ds 0)
    (hfin : ∀ w vs, Below w0.heap.size w0 w → allF F vs w (List.range n) → wpList P ops Q (ops.toList.drop n) (putAll ops vs (List.range n) a0) w) :
    ∀ (m : Nat) (done : Array Bool) (a : Act) (w : World) (vs : Nat → Value), cnt done n = m → FlowInv md ops n F a0 w0 vs done a w → wpAny P md ops Q (m + (ops.size - n)) done a w := by
  simp only [flowB, Bool.and_eq_true, decide_eq_true_eq] at hB
  obtain ⟨⟨⟨⟨⟨⟨⟨⟨hsel, hn⟩, hDl⟩, hchain⟩, hsink⟩, hops⟩, hJ⟩, hself⟩, hseq⟩ := hB
  have hsel' := Region.noSelect_spec hsel
  -- what is checked of each operation of the head
  have hop : ∀ i, i < n → ∃ o d, ops[i]? = some o ∧ o.dst = some d ∧ dstAt ops i = some d ∧ d < a0.tmps.size ∧ (∀ e ∈ o.after, Region.binds md e = true → e.on < i) ∧
      (∀ j ∈ Ds.getD i [], j < n ∧ Region.waitsFor md ops i j = true) ∧ (∀ j, j < n → j ≠ i → dstAt ops j ≠ some d) ∧
      (∀ j, j < n → j ∉ Ds.getD i [] → ∀ d', dstAt ops j = some d' → d' ∉ o.looksAt ops) := by
    intro i hi
    have h1 := List.all_eq_true.1 hops i (List.mem_range.2 hi)
    cases ho : ops[i]? with
    | none => rw [ho] at h1; cases h1
    | some o =>
      rw [ho] at h1
      simp only [Bool.and_eq_true] at h1
      obtain ⟨⟨⟨h2, h3⟩, h4⟩, h5⟩ := h1
      cases hd : o.dst with
      | none => rw [hd] at h2; cases h2
      | some d =>
        rw [hd] at h2
        have hda : dstAt ops i = some d := by simp [dstAt, ho, hd]
        have h6 := List.all_eq_true.1 hself i (List.mem_range.2 hi)
        rw [ho] at h6
        simp only [hd] at h6
        refine ⟨o, d, rfl, hd, hda, by simpa using h2, fun e he hb => ?_, fun j hj => ?_, fun j hj hji => ?_, fun j hj hjD d' hd' => ?_⟩
        · have := Array.all_eq_true'.1 h3 e he
          rw [hb] at this
          simpa using this
        · have := List.all_eq_true.1 h4 j hj
          simpa using this
        · have h7 := List.all_eq_true.1 h5 j (List.mem_range.2 hj)
          simp only [Bool.or_eq_true, beq_iff_eq, Bool.and_eq_true, bne_iff_ne] at h7
          rcases h7 with h7 | h7
          · exact absurd h7.symm hji
          · intro e; exact h7.1 (by rw [hda, e])
        · have h7 := List.all_eq_true.1 h5 j (List.mem_range.2 hj)
          simp only [Bool.or_eq_true, beq_iff_eq, Bool.and_eq_true, bne_iff_ne] at h7
          rcases h7 with h7 | h7
          · subst h7
            obtain rfl : d = d' := by rw [hda] at hd'; exact Option.some.inj hd'
            simpa using h6
          · have h8 := h7.2.resolve_left (by simpa using hjD)
            rw [hd'] at h8
            simpa using h8
  -- the small frame serves for the great one
  have hsame : ∀ {vs done a w i o d}, FlowInv md ops n F a0 w0 vs done a w → i < n → i ∈ Region.ready md ops done → ops[i]? = some o → dstAt ops i = some d →
      (∀ t ∈ o.looksAt ops, a.tmps[t]? = (putAll ops vs (Ds.getD i []) a0).tmps[t]?) ∧ allF F vs w (Ds.getD i []) := by
    intro vs done a w i o d h hi hr ho hd
    obtain ⟨o', d', ho', hd1, hd2, hds, haft, hD, huniq, hlook⟩ := hop i hi
    obtain rfl : o = o' := by rw [ho] at ho'; exact Option.some.inj ho'
    have hDdone : ∀ j ∈ Ds.getD i [], done.getD j false = true := by
      intro j hj
      obtain ⟨o'', ho'', e, he, hb, hon⟩ := Region.waitsFor_spec (hD j hj).2
      obtain rfl : o'' = o := by rw [ho''] at ho; exact Option.some.inj ho
      obtain ⟨_, o3, ho3, h3⟩ := mem_ready.1 hr
      obtain rfl : o3 = o'' := by rw [ho3] at ho; exact Option.some.inj ho
      rw [← hon]; exact h3 e he hb
    refine ⟨fun t ht => ?_, allF_of fun j hj => h.facts j (hD j hj).1 (hDdone j hj)⟩
    by_cases hex : ∃ j ∈ Ds.getD i [], dstAt ops j = some t
    · obtain ⟨j, hj, hjt⟩ := hex
      rw [h.at_ j (hD j hj).1 (hDdone j hj) t hjt]
      obtain ⟨oj, dj, hoj, _, hdj, hdjs, _, _, huj, _⟩ := hop j (hD j hj).1
      obtain rfl : dj = t := by rw [hjt] at hdj; exact (Option.some.inj hdj).symm
      rw [putAll_at hjt _ _ hj (fun k hk hkj => huj k (hD k hk).1 hkj) hdjs]
    · rw [putAll_ne _ _ (fun j hj e => hex ⟨j, hj, e⟩)]
      refine h.off t fun j hj _ e => ?_
      by_cases hjD : j ∈ Ds.getD i []
      · exact hex ⟨j, hjD, e⟩
      · exact hlook j hj hjD t e ht
  intro m
  induction m with
  | zero =>
    intro done a w vs hc h
    have hd : done = headDone ops.size n := by
      apply Array.ext
      · simp [headDone, h.inv.size]
      · intro j h1 h2
        have h3 : j < ops.size := by rw [h.inv.size] at h1; exact h1
        rcases Nat.lt_or_ge j n with h' | h'
        · have := cnt_zero hc j h'
          simp [h1] at this
          simp [headDone, this, h']
        · have := h.inv.tail j h' h3
          simp [h1] at this
          simp [headDone, this]
          omega
    have hdl : (ops.toList.drop n).length = ops.size - n := by simp
    have ha : a = putAll ops vs (List.range n) a0 := by
      have h1 : a.tmps = (putAll ops vs (List.range n) a0).tmps := by
        apply Array.ext_getElem?
        intro t
        by_cases hex : ∃ j, j < n ∧ dstAt ops j = some t
        · obtain ⟨j, hj, hjt⟩ := hex
          rw [h.at_ j hj (cnt_zero hc j hj) t hjt]
          obtain ⟨oj, dj, hoj, _, hdj, hdjs, _, _, huj, _⟩ := hop j hj
          obtain rfl : dj = t := by rw [hjt] at hdj; exact (Option.some.inj hdj).symm
          rw [putAll_at hjt _ _ (List.mem_range.2 hj) (fun k hk hkj => huj k (List.mem_range.1 hk) hkj) hdjs]
        · rw [putAll_ne _ _ (fun j hj e => hex ⟨j, List.mem_range.1 hj, e⟩)]
          exact h.off t fun j hj _ e => hex ⟨j, hj, e⟩
      have h2 : a.defers = (putAll ops vs (List.range n) a0).defers := by rw [putAll_defers]; exact h.defers
      cases a; simp only at h1 h2; subst h1 h2; rfl
    have := wpAny_of_seq (ops := ops) (md := md) (Q' := Q) (ops.toList.drop n) n done a w (fun j => by simp [List.getElem?_drop]) (by rw [hdl, hd]; exact hseq)
      (by rw [ha]; exact hfin w vs h.below (allF_of fun j hj => h.facts j (List.mem_range.1 hj) (cnt_zero hc j (List.mem_range.1 hj))))
    rw [hdl] at this
    rwa [Nat.zero_add]
  | succ m ih =>
    intro done a w vs hc h
    obtain ⟨j0, hj0, hun0, hbef⟩ := cnt_pos (d := done) (n := n) (by omega)
    have hinb : ∀ i, i < n → i < done.size := fun i hi => by rw [h.inv.size]; omega
    have hr0 : j0 ∈ Region.ready md ops done := by
      obtain ⟨o, d, ho, _, _, _, haft, _⟩ := hop j0 hj0
      exact mem_ready.2 ⟨getD_in (hinb j0 hj0) hun0, o, ho, fun e he hb => hbef _ (haft e he hb)⟩
    rw [show m + 1 + (ops.size - n) = (m + (ops.size - n)) + 1 by omega]
    by_cases hfl : ∃ j ∈ Region.ready md ops done, j ∈ J
    · obtain ⟨j, hjr, hjJ⟩ := hfl
      have hj1 := List.all_eq_true.1 hJ j hjJ
      simp only [Bool.and_eq_true, decide_eq_true_eq] at hj1
      obtain ⟨hjn, hjk⟩ := hj1
      obtain ⟨o, d, ho, hod, hda, hds, haft, hD, huniq, hlook⟩ := hop j hjn
      obtain ⟨hlk, hf⟩ := hsame h hjn hjr ho hda
      have hpu := flowAll_at hall (i := j) (o := o) (by rw [List.getElem?_take_of_lt hjn]; simpa using ho) (by omega)
      rw [Nat.zero_add, show J.contains j = true by simpa using hjJ, cond_true] at hpu
      obtain ⟨hw, v, hv, hF⟩ := hpu w vs h.below hf
      have hy : Yields P ops o v a := .inl ⟨by rw [wanted_same hlk]; exact hw, fun w' => by rw [eval_same hlk (fun cs b => hsel' j o cs b ho)]; exact hv w'⟩
      refine wpAny_first ho hsel' (fun c a w => hQ c _ _ a w) _ done a w ?_ hjr hy ?_
      · intro k ok hk hkj hkun hno
        have h1 := List.all_eq_true.1 hjk k (List.mem_range.2 (Array.getElem?_eq_some_iff.1 hk).1)
        simp only [Bool.or_eq_true, beq_iff_eq] at h1
        rcases h1 with ((h1 | h1) | h1) | h1
        · exact absurd h1 hkj
        · exfalso
          obtain ⟨o2, ho2, e, he, hb, hon⟩ := Region.waitsFor_spec h1
          obtain ⟨_, o3, ho3, h3⟩ := mem_ready.1 hjr
          obtain rfl : o2 = o3 := by rw [ho2] at ho3; exact Option.some.inj ho3
          have := h3 e he hb
          rw [hon, getD_both hkun] at this
          cases this
        · exfalso
          obtain ⟨o2, ho2, e, he, hb, hon⟩ := Region.waitsFor_spec h1
          obtain rfl : o2 = ok := by rw [ho2] at hk; exact Option.some.inj hk
          exact hno e he hb hon
        · rw [ho, hk] at h1; exact h1
      · rw [hod]
        refine ih _ _ _ (upd vs j v) ?_ (h.put hjn hjr hda hds huniq (Below.refl _ _) hF)
        have := cnt_set (hinb j hjn) (getD_both (mem_ready.1 hjr).1) hjn
        omega
    · refine ⟨fun h0 => (by rw [h0] at hr0; cases hr0), fun i hi => ?_⟩
      have hin : i < n := by
        rcases Nat.lt_or_ge i n with h' | h'
        · exact h'
        · exfalso
          have hi2 := hi
          obtain ⟨hiun, oi, hoi, hia⟩ := mem_ready.1 hi2
          have hilt : i < ops.size := (Array.getElem?_eq_some_iff.1 hoi).1
          by_cases hin : i = n
          · subst hin
            have h1 := List.all_eq_true.1 hsink j0 (List.mem_range.2 hj0)
            simp only [Bool.or_eq_true, decide_eq_true_eq] at h1
            rcases h1 with (h1 | h1) | h1
            · exact hfl ⟨j0, hr0, by simpa using h1⟩
            · omega
            · obtain ⟨o2, ho2, e, he, hb, hon⟩ := Region.waitsFor_spec h1
              obtain rfl : o2 = oi := by rw [ho2] at hoi; exact Option.some.inj hoi
              have := hia e he hb
              rw [hon, hun0] at this
              cases this
          · have h1 := List.all_eq_true.1 hchain i (List.mem_range.2 hilt)
            simp only [Bool.or_eq_true, decide_eq_true_eq] at h1
            rcases h1 with h1 | h1
            · omega
            · obtain ⟨o2, ho2, e, he, hb, hon⟩ := Region.waitsFor_spec h1
              obtain rfl : o2 = oi := by rw [ho2] at hoi; exact Option.some.inj hoi
              have := hia e he hb
              rw [hon, getD_both (h.inv.tail (i - 1) (by omega) (by omega))] at this
              cases this
      obtain ⟨o, d, ho, hod, hda, hds, haft, hD, huniq, hlook⟩ := hop i hin
      obtain ⟨hlk, hf⟩ := hsame h hin hi ho hda
      have hst := flowAll_at hall (i := i) (o := o) (by rw [List.getElem?_take_of_lt hin]; simpa using ho) (by omega)
      have hnJ : J.contains i = false := by
        rw [← Bool.not_eq_true]; intro hc'
        exact hfl ⟨i, hi, by simpa using hc'⟩
      rw [Nat.zero_add, hnJ, cond_false] at hst
      have h1 := hst w vs h.below hf
      have hcnt : cnt (done.setIfInBounds i true) n = m := by
        have := cnt_set (hinb i hin) (getD_both (mem_ready.1 hi).1) hin
        omega
      have hput : ∀ v w', (F.getD i default).p v w' → Below w.heap.size w w' → wpAny P md ops Q (m + (ops.size - n)) (done.setIfInBounds i true) (a.put o.dst v) w' := by
        intro v w' hF hb
        rw [hod]
        exact ih _ _ _ (upd vs i v) hcnt (h.put hin hi hda hds huniq hb hF)
      generalize hb0 : putAll ops vs (Ds.getD i []) a0 = b at h1 hlk
      have hbd : b.defers = a0.defers := by rw [← hb0, putAll_defers]
      have hbs : d < b.tmps.size := by rw [← hb0, putAll_size]; exact hds
      have hq : ∀ {v w'}, flowQ F a0 i o.dst w .normal (b.put o.dst v) w' → (F.getD i default).p v w' ∧ Below w.heap.size w w' := by
        rintro v w' ⟨_, _, ⟨t, v', ht, hv', hF⟩, hb⟩
        rw [hod] at ht hv'
        obtain rfl := Option.some.inj ht
        simp [Act.put, hbs] at hv'
        subst hv'
        exact ⟨hF, hb⟩
      unfold wpOp
      simp only [ho]
      unfold wpList at h1
      rw [wanted_same hlk]
      split
      · rename_i hw
        rw [if_pos hw] at h1
        rcases h1 with h1 | ⟨_, _, _, h1⟩
        · refine .inl ?_
          unfold Oper.wp at h1 ⊢
          rw [eval_same hlk (fun cs b => hsel' i o cs b ho)]
          generalize (execOp b.eval o).run P w = r at h1
          cases r with
          | ok nx w' =>
            cases nx with
            | value v => obtain ⟨hF, hb⟩ := hq h1; exact hput v w' hF hb
            | skip => obtain ⟨hF, hb⟩ := hq h1; exact hput _ w' hF hb
            | defer dd =>
              exfalso
              have : dd :: b.defers = a0.defers := by
                have := h1.2.1
                rw [hod] at this
                exact this
              rw [hbd] at this
              have := congrArg List.length this
              simp at this
            | enter f args =>
              refine Calls.mono h1 fun e w'' he => ?_
              cases e with
              | returned v => obtain ⟨hF, hb⟩ := hq he; exact hput v w'' hF hb
              | panicked c => exact absurd he.1 (by simp)
              | outgrown => obtain ⟨_, _, he⟩ := he; exact absurd he.1 (by simp)
            | row row args => exact Rows.mono h1 fun v w'' he => by obtain ⟨hF, hb⟩ := hq he; exact hput v w'' hF hb
            | _ => exact h1.elim
          | halt x w' =>
            cases x <;> first | exact h1.elim | exact absurd h1.1 (by simp)
        · exact absurd h1.1 (by simp)
      · rename_i hw
        rw [if_neg hw] at h1
        obtain ⟨hF, hb⟩ := hq h1
        exact hput _ _ hF hb

theorem wp_region_flow {id : Nat} {Q : Exit → Act → World → Prop} {l : List Oper} {a0 : Act} {w0 : World} (n : Nat) (J : List Nat) (Ds : List (List Nat)) (F : List Fact) (hm : P.follows .mixedOrders = true)
    (hB : flowB .any l.toArray a0.tmps.size n J Ds = true) (hQ : ∀ c d v a w, Q (.panic c) (a.put d v) w → Q (.panic c) a w)
    (hall : flowAll P l.toArray F a0 w0 J (l.take n) Ds 0)
    (hfin : ∀ w vs, Below w0.heap.size w0 w → allF F vs w (List.range n) → wpList P l.toArray Q (l.drop n) (putAll l.toArray vs (List.range n) a0) w) : (Code.region id l.toArray true).wp P Q a0 w0 := by
  refine wp_region_any hm ?_
  have hn : n ≤ l.length := by
    simp only [flowB, Bool.and_eq_true, decide_eq_true_eq] at hB
    simpa using hB.1.1.1.1.1.1.1.2
  have hc : cnt (Array.replicate l.toArray.size false) n = n := by
    clear hB hall hfin hn
    induction n with
    | zero => rfl
    | succ n ih => unfold cnt; rw [ih, getD_replicate_false]; rfl
  have := any_of_flow (P := P) (md := .any) (F := F) (w0 := w0) hB hQ (by simpa using hall) (by simpa using hfin) n (Array.replicate l.toArray.size false) a0 { w0 with drawn := w0.drawn + 1 } (fun _ => undef) hc
    ⟨⟨by simp, fun j oj _ hl => by rw [getD_replicate_false] at hl; (cases hl), fun t _ ht => by simp at ht; simp [ht]⟩, (Below.refl _ _).drew, rfl, rfl, fun j _ hj => by rw [getD_replicate_false] at hj; (cases hj), fun _ _ => rfl, fun j _ hj => by rw [getD_replicate_false] at hj; (cases hj)⟩
  rwa [show n + (l.toArray.size - n) = l.toArray.size by simp; omega] at this
end

/-- A new variable's block. -/
def Fact.new (w0 : World) (T : TypeId) (cs : Array Value) : Fact :=
  ⟨fun v w => ∃ g, v = .pointer (some ⟨g, 0, none⟩) ∧ w0.heap.size ≤ g ∧ w.heap[g]? = some (.cells cs T (0, 0)), fun _ w _ ⟨g, h1, h2, h3⟩ hb => ⟨g, h1, h2, (hb.block g (by
    rcases Nat.lt_or_ge g w.heap.size with h | h
    · exact h
    · rw [Array.getElem?_eq_none h] at h3; cases h3)).trans h3⟩⟩
theorem wp_store_new {P : Program} {w : World} {ops : Array Oper} {rest : List Oper} {o : Oper} {a : Act} {Q : Exit → Act → World → Prop} (hgd : o.guard = none) (ty : TypeId) (x y : Operand) (ho : o.op = .store ty x y)
    (g : Nat) (cells : Array Value) (hx : a.eval x = .pointer (some ⟨g, 0, none⟩)) (hy : a.eval y = .agg cells)
    (t : TypeId) (old : Array Value) (hg : w.heap[g]? = some (.cells old t (0, 0))) (hi : (P.info? ty).map (·.size) = some cells.size)
    (hold : old.size = cells.size) (h1 : cells.all (·.oneCell') = true)
    (h : ∀ w', w'.heap[g]? = some (.cells cells t (0, 0)) → Below g w w' → (∀ k, k ≠ g → w'.heap[k]? = w.heap[k]?) → wpList P ops Q rest (a.put o.dst undef) w') : wpList P ops Q (o :: rest) a w :=
  wpList_store_row hgd ty x y ho g cells hx hy t old hg hi hold h1 (h _ (setRow_heap w g old cells t _ hg) ⟨rfl, rfl, rfl, by simp, fun k hk => setRow_other w g k cells (by omega)⟩ (fun k hk => setRow_other w g k cells hk))
theorem blockB {w w' : World} {g : Nat} {o : Obj} (hb : Below w.heap.size w w') (h : w.heap[g]? = some o) : w'.heap[g]? = some o := (hb.block g (Array.getElem?_eq_some_iff.1 h).1).trans h
theorem frozen0 {w : World} {g j : Nat} {cs : Array Value} {T : TypeId} (h : w.heap[g]? = some (.cells cs T (0, 0))) : w.frozen? ⟨g, j, none⟩ = false := by simp [World.frozen?, h]
theorem cellAt {w : World} {g : Nat} {cs : Array Value} {T : TypeId} {fr : Nat × Nat} (h : w.heap[g]? = some (.cells cs T fr)) (j : Nat) : w.cell? ⟨g, j, none⟩ = cs[j]? := by simp [World.cell?, h]
theorem setCell_at {w : World} {a : Addr} {u : Value} (h : w.cell? a = some u) (hs : a.spot = none) (v : Value) : (w.setCell a v).cell? a = some v := by
  have h' := h
  unfold World.cell? at h'
  split at h'
  · rename_i cs T fr hb
    rw [hs] at h'
    have hlt : a.off < cs.size := by
      rcases Nat.lt_or_ge a.off cs.size with h1 | h1
      · exact h1
      · simp [Array.getElem?_eq_none h1] at h'
    simp [World.cell?, World.setCell, Array.getElem?_modify, hb, hs, hlt]
  · cases h'
theorem setCell_two {w : World} {g : Nat} {u v : Value} (t1 : w.cell? ⟨g, 1, none⟩ = some v) (x y : Value) : ((w.setCell ⟨g, 0, none⟩ x).setCell ⟨g, 1, none⟩ y).cell? ⟨g, 1, none⟩ = some y :=
  setCell_at (u := v) (by rw [World.cell?_setCell_other]; exact t1; simp) rfl y
theorem lt_of_heap {w : World} {g : Nat} {o : Obj} (h : w.heap[g]? = some o) : g < w.heap.size := (Array.getElem?_eq_some_iff.1 h).1
theorem cellB {w w' : World} {a : Addr} {v : Value} (hb : Below w.heap.size w w') (h : w.cell? a = some v) : w'.cell? a = some v := (hb.cell (block_lt_of_cell h)).trans h
end Go.Proofs.Ytbajnecahojcfaa
