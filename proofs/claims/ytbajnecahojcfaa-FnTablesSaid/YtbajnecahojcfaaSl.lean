/- Slices of elements of one cell: read (VRow), owned (ownsRow), appended to, made; numbers, strings, rows. -/
import Derived.Test.YtbajnecahojcfaaMem
import Derived.Laws.MakeOwn
import Derived.Laws.CopyOwn
namespace Go.Proofs.Ytbajnecahojcfaa
open Go.RowKit Go.Sort
set_option maxHeartbeats 400000

/-- v is a slice whose elements are vs. -/
def VRow (w : World) (v : Value) (vs : List Value) : Prop :=
  ∃ A c, v = .slice A vs.length c ∧ vs.length ≤ c ∧ c ≤ maxLen ∧ (A = none → c = 0) ∧ ∀ i u, vs[i]? = some u → ∃ b off, A = some ⟨b, off, none⟩ ∧ w.cell? ⟨b, off + i, none⟩ = some u

theorem VRow.nil (w : World) : VRow w (.slice none 0 0) [] := ⟨none, 0, rfl, Nat.le_refl _, by decide, fun _ => rfl, fun _ _ h => by simp at h⟩
theorem VRow.below {w w' : World} {v : Value} {vs : List Value} (h : VRow w v vs) (hb : Below w.heap.size w w') : VRow w' v vs := by
  obtain ⟨A, c, h1, h2, h3, h4, h5⟩ := h
  refine ⟨A, c, h1, h2, h3, h4, fun i u hu => ?_⟩
  obtain ⟨b, off, e, h6⟩ := h5 i u hu
  exact ⟨b, off, e, cellB hb h6⟩
theorem VRow.alloc {w : World} {v : Value} {vs : List Value} (h : VRow w v vs) (o : Obj) : VRow (w.alloc o) v vs := h.below ((Below.refl _ _).alloc (Nat.le_refl _) o)
/-- The cells, the address laid open. -/
theorem VRow.at {w : World} {A : Option Addr} {vs : List Value} (h5 : ∀ i u, vs[i]? = some u → ∃ b off, A = some ⟨b, off, none⟩ ∧ w.cell? ⟨b, off + i, none⟩ = some u) (hp : 0 < vs.length) :
    ∃ b off, A = some ⟨b, off, none⟩ ∧ ∀ i u, vs[i]? = some u → w.cell? ⟨b, off + i, none⟩ = some u := by
  obtain ⟨b, off, rfl, _⟩ := h5 0 _ (List.getElem?_eq_getElem hp)
  refine ⟨b, off, rfl, fun i u hu => ?_⟩
  obtain ⟨b', off', e, h6⟩ := h5 i u hu
  simp at e
  rw [e.1, e.2]; exact h6
/-- The cell at i. -/
theorem VRow.get {w : World} {v : Value} {vs : List Value} (h : VRow w v vs) (i : Nat) (hi : i < vs.length) : ∃ b off c, v = .slice (some ⟨b, off, none⟩) vs.length c ∧ w.cell? ⟨b, off + i, none⟩ = some vs[i] := by
  obtain ⟨A, c, h1, h2, h3, h4, h5⟩ := h
  obtain ⟨b, off, rfl, h6⟩ := VRow.at h5 (by omega)
  exact ⟨b, off, c, h1, h6 i _ (List.getElem?_eq_getElem hi)⟩
theorem VRow.own {w : World} {base : Nat} {e : TypeId} {v : Value} {n : Nat} {xs : List Value} (h : w.ownsRow base e 1 v n xs) : VRow w v xs := by
  have hl : xs.length = n := by have := h.1; omega
  rcases h.2 with ⟨rfl, h0⟩ | ⟨g, cap, cur, rfl, hg, hh, hnc, hm, hsz, htk⟩
  · have : xs = [] := List.length_eq_zero_iff.1 (by omega)
    subst this; exact VRow.nil w
  · refine ⟨some ⟨g, 0, none⟩, cap, by rw [hl], by omega, hm, (fun h => by cases h), fun i u hu => ⟨g, 0, rfl, ?_⟩⟩
    have hi : i < n := by have := (List.getElem?_eq_some_iff.1 hu).1; omega
    rw [Nat.zero_add, h.cellAt i (by omega)]; exact hu
theorem VRow.len {w : World} {v : Value} {vs : List Value} (h : VRow w v vs) : vs.length ≤ 9223372036854775807 := by
  obtain ⟨A, c, h1, h2, h3, h4, h5⟩ := h
  unfold maxLen at h3; omega

theorem grown_trans {a b c : World} {r : Option Nat} (h : a.grownBy b r) (k : b.grownBy c r) : a.grownBy c r :=
  ⟨k.os.trans h.os, k.tape.trans h.tape, k.output.trans h.output, Nat.le_trans h.size k.size, fun i hi hr => (k.block i (Nat.lt_of_lt_of_le hi h.size) hr).trans (h.block i hi hr)⟩

def IRow (w : World) (v : Value) (l : List Int) : Prop := VRow w v (l.map intV)
theorem IRow.below {w w' : World} {v : Value} {l : List Int} (h : IRow w v l) (hb : Below w.heap.size w w') : IRow w' v l := VRow.below h hb
theorem IRow.alloc {w : World} {v : Value} {l : List Int} (h : IRow w v l) (o : Obj) : IRow (w.alloc o) v l := VRow.alloc h o
theorem IRow.nil (w : World) : IRow w (.slice none 0 0) [] := VRow.nil w
/-- Opened for a walk: the address stays behind a name until an element is asked for. -/
theorem IRow.open {w : World} {v : Value} {l : List Int} (h : IRow w v l) : ∃ A c, v = .slice A l.length c ∧ l.length ≤ c ∧ c ≤ 9223372036854775807 ∧ (A = none → c = 0) ∧ (∀ i (_ : i < l.length), ∃ b off, A = some ⟨b, off, none⟩ ∧ ∀ j (hj : j < l.length), w.cell? ⟨b, off + j, none⟩ = some (.int .i64 (l[j]))) := by
  obtain ⟨A, c, h1, h2, h3, h4, h5⟩ := h
  rw [List.length_map] at h1 h2
  refine ⟨A, c, h1, h2, by unfold maxLen at h3; omega, h4, fun i hi => ?_⟩
  obtain ⟨b, off, rfl, h6⟩ := VRow.at h5 (by simp; omega)
  exact ⟨b, off, rfl, fun j hj => h6 j _ (by simp [intV, hj])⟩
abbrev OwnI (w : World) (base : Nat) (v : Value) (l : List Int) : Prop := w.ownsRow base 3 1 v l.length (l.map intV)
theorem OwnI.row {w : World} {base : Nat} {v : Value} {l : List Int} (h : OwnI w base v l) : IRow w v l := VRow.own h
theorem int_one (l : List Int) : ∀ u ∈ l.map intV, u.oneCell' = true := by
  intro u hu
  obtain ⟨_, _, rfl⟩ := List.mem_map.1 hu
  rfl

/-- An element type of one cell. -/
structure ElemT (t e : TypeId) (z : Value) (bytes : Nat) : Prop where
  und : Try.prog.underlying t = some (.slice e)
  info : (Try.prog.info? e).map (fun i => (i.zero, i.size, i.bytes)) = some (some z, 1, bytes)
  one : z.cells.size = 1
  by_ : bytes ≤ 64
theorem intT : ElemT 22 3 (.int .i64 0) 8 := ⟨Try.underlying22, by kernel_rfl, rfl, by decide⟩
theorem strT : ElemT 102 9 (.string ByteArray.empty) 16 := ⟨Try.underlying102, by kernel_rfl, rfl, by decide⟩
theorem rowT : ElemT 42 22 (.slice none 0 0) 24 := ⟨Try.underlying42, by kernel_rfl, rfl, by decide⟩

section
variable {t e : TypeId} {z : Value} {bytes : Nat}
/-- append(s, x...): what is read at x behind a row of the call's own. -/
theorem wp_append_vrowK (E : ElemT t e z bytes) {w : World} {o : Oper} {a : Act} {K : Act → World → Prop} {Q : Exit → Act → World → Prop} (s x : Operand)
    (ho : o.op = .call { callee := .builtin .append, args := #[s, x], argTypes := #[t, t] }) (base : Nat) (v : Value) (n : Nat) (xs : List Value) (hs : a.eval s = v) (hown : w.ownsRow base e 1 v n xs)
    (v2 : Value) (ys : List Value) (hx : a.eval x = v2) (hsrc : VRow w v2 ys) (h1 : ∀ u ∈ ys, u.oneCell' = true) (hn : n + ys.length ≤ 1099511627776) (hbase : base ≤ w.heap.size)
    (h : ∀ v' w', w'.ownsRow base e 1 v' (n + ys.length) (xs ++ ys) → w.grownBy w' v.ownBlock → Below base w w' → K (a.put o.dst v') w') : o.wp Try.prog a w K Q := by
  obtain ⟨i0, hi, hz0, hz1, hz2⟩ := info_parts E.info
  obtain ⟨A, c, rfl, h2, h3, h4, h5⟩ := hsrc
  have hby := E.by_
  have hlt := hown.lt
  cases A with
  | none =>
    have hc := h4 rfl
    subst hc
    have hy : ys = [] := List.length_eq_zero_iff.1 (by omega)
    subst hy
    have hr := run_append_owned_none (P := Try.prog) w base t o.type e i0 1 E.und hi v n xs hown
    unfold Oper.wp execOp
    simp only [ho, resolve, invoke, builtin, Sem.run_bind, Sem.run_pure, Result.andThen_ok, List.map_toArray, List.map_cons, List.map_nil, hs, hx, List.length_nil, hr]
    exact h v w (by simpa using hown) (World.grownBy.refl _ _) (Below.refl _ _)
  | some ad =>
    refine wp_append_own _ s x t ho base e i0 z 1 bytes E.und hi hz0 hz1 hz2 E.one (by decide) v n xs hs hown ad ys.length c ys hx (by omega) (fun j u hu => by obtain ⟨b, off, e', h6⟩ := h5 j u hu; rw [Option.some.inj e', Addr.add_lit]; exact h6) h1 (by unfold maxLen; omega) ?_ hbase ?_
    · exact Nat.le_trans (Nat.mul_le_mul hn hby) (by decide)
    · intro v' w' hown' hgr _
      exact h v' w' hown' hgr ((Below.refl base w).grown hgr hbase fun k hk => (hlt k hk).1)
theorem wp_append_vrow (E : ElemT t e z bytes) {w : World} {ops : Array Oper} {rest : List Oper} {o : Oper} {a : Act} {Q : Exit → Act → World → Prop} (hgd : o.guard = none) (s x : Operand)
    (ho : o.op = .call { callee := .builtin .append, args := #[s, x], argTypes := #[t, t] }) (base : Nat) (v : Value) (n : Nat) (xs : List Value) (hs : a.eval s = v) (hown : w.ownsRow base e 1 v n xs)
    (v2 : Value) (ys : List Value) (hx : a.eval x = v2) (hsrc : VRow w v2 ys) (h1 : ∀ u ∈ ys, u.oneCell' = true) (hn : n + ys.length ≤ 1099511627776) (hbase : base ≤ w.heap.size)
    (h : ∀ v' w', w'.ownsRow base e 1 v' (n + ys.length) (xs ++ ys) → w.grownBy w' v.ownBlock → Below base w w' → wpList Try.prog ops Q rest (a.put o.dst v') w') : wpList Try.prog ops Q (o :: rest) a w :=
  wpList_plain hgd fun _ hK => wp_append_vrowK E s x ho base v n xs hs hown v2 ys hx hsrc h1 hn hbase fun v' w' h1 h2 h3 => hK _ _ (h v' w' h1 h2 h3)
/-- append(s, u): one element, laid in a block of its own. -/
theorem wp_append_oneK (E : ElemT t e z bytes) {w : World} {o : Oper} {a : Act} {K : Act → World → Prop} {Q : Exit → Act → World → Prop} (s x : Operand)
    (ho : o.op = .call { callee := .builtin .append, args := #[s, x], argTypes := #[t, t] }) (base : Nat) (v : Value) (n : Nat) (xs : List Value) (hs : a.eval s = v) (hown : w.ownsRow base e 1 v n xs)
    (g : Nat) (u : Value) (hx : a.eval x = .slice (some ⟨g, 0, none⟩) 1 1) (hg : w.heap[g]? = some (.cells #[u] e (0, 0))) (h1 : u.oneCell' = true) (hn : n + 1 ≤ 1099511627776) (hbase : base ≤ w.heap.size)
    (h : ∀ v' w', w'.ownsRow base e 1 v' (n + 1) (xs ++ [u]) → w.grownBy w' v.ownBlock → Below base w w' → K (a.put o.dst v') w') : o.wp Try.prog a w K Q := by
  refine wp_append_vrowK E s x ho base v n xs hs hown _ [u] hx ⟨some ⟨g, 0, none⟩, 1, rfl, Nat.le_refl _, by decide, (fun h => by cases h), fun i y hy => ⟨g, 0, rfl, ?_⟩⟩ (fun y hy => by rw [List.mem_singleton.1 hy]; exact h1) hn hbase h
  rw [Nat.zero_add, cell_of_row _ _ _ _ _ _ hg]
  simpa using hy
theorem wp_append_one (E : ElemT t e z bytes) {w : World} {ops : Array Oper} {rest : List Oper} {o : Oper} {a : Act} {Q : Exit → Act → World → Prop} (hgd : o.guard = none) (s x : Operand)
    (ho : o.op = .call { callee := .builtin .append, args := #[s, x], argTypes := #[t, t] }) (base : Nat) (v : Value) (n : Nat) (xs : List Value) (hs : a.eval s = v) (hown : w.ownsRow base e 1 v n xs)
    (u : Value) (hx : a.eval x = .slice (some ⟨w.heap.size, 0, none⟩) 1 1) (h1 : u.oneCell' = true) (hn : n + 1 ≤ 1099511627776) (hbase : base ≤ w.heap.size)
    (h : ∀ v' w', w'.ownsRow base e 1 v' (n + 1) (xs ++ [u]) → w.grownBy w' v.ownBlock → Below base w w' → wpList Try.prog ops Q rest (a.put o.dst v') w') : wpList Try.prog ops Q (o :: rest) a (w.alloc (.cells #[u] e)) :=
  wpList_plain hgd fun _ hK => wp_append_oneK E s x ho base v n xs hs (hown.alloc _) w.heap.size u hx (heap_alloc_new w _) h1 hn (by simp; omega) fun v' w' h1 h2 h3 =>
    hK _ _ (h v' w' h1 (grown_trans (World.grownBy_alloc w _ _) h2) (((Below.refl base w).alloc hbase _).trans h3))
end

/-- make([]int, n). -/
theorem wp_make_ints {w : World} {ops : Array Oper} {rest : List Oper} {o : Oper} {a : Act} {Q : Exit → Act → World → Prop} (hg : o.guard = none) (l c : Operand) (hop : o.op = Op.makeSlice 22 l c)
    (base : Nat) (kl kc : IntKind) (L C : Int) (n : Nat) (hl : a.eval l = .int kl L) (hc : a.eval c = .int kc C) (hL : L = (n : Int)) (hC : C = (n : Int)) (hn : n ≤ 1099511627776) (hb : base ≤ w.heap.size)
    (hK : ∀ w', OwnI w' base (.slice (some ⟨w.heap.size, 0, none⟩) n n) (List.replicate n 0) → Below base w w' → wpList Try.prog ops Q rest (a.put o.dst (.slice (some ⟨w.heap.size, 0, none⟩) n n)) w') :
    wpList Try.prog ops Q (o :: rest) a w := by
  obtain ⟨i0, hi, hz0, hz1, hz2⟩ := info_parts intT.info
  refine wpList_make_full w hg l c 22 hop base 3 i0 (.int .i64 0) 1 Try.underlying22 hi hz0 hz1 kl kc L C n hl hc hL hC (by rw [hz2]; omega) (by unfold maxLen; omega) hb ?_
  intro w' hown hgr
  refine hK w' ?_ ((Below.refl base w).grown hgr hb (fun k hk => by cases hk))
  have e : (madeCells (Value.int IntKind.i64 0).cells (n * 1)).toList = (List.replicate n (0 : Int)).map intV := by
    rw [Nat.mul_one]
    show (madeCells #[Value.int IntKind.i64 0] n).toList = _
    rw [toList_madeCells_one, List.map_replicate]; rfl
  rw [e] at hown
  show w'.ownsRow _ _ _ _ (List.replicate n (0 : Int)).length _
  rw [List.length_replicate]
  exact hown
/-- out[j] = x. -/
theorem ownI_set {w : World} {base g n cap : Nat} {l : List Int} (h : w.ownsRow base 3 1 (.slice (some ⟨g, 0, none⟩) n cap) n (l.map intV)) (j : Nat) (x : Int) :
    (w.setCell ⟨g, j, none⟩ (.int .i64 x)).ownsRow base 3 1 (.slice (some ⟨g, 0, none⟩) n cap) n ((l.set j x).map intV) := by
  have := (h.stored j (.int .i64 x)).1
  rwa [show Value.int .i64 x = intV x from rfl, ← List.map_set] at this
theorem ownI_cell {w : World} {base g n cap : Nat} {l : List Int} (h : w.ownsRow base 3 1 (.slice (some ⟨g, 0, none⟩) n cap) n (l.map intV)) (j : Nat) (hj : j < l.length) :
    w.cell? ⟨g, j, none⟩ = some (.int .i64 l[j]) := by
  have hl : l.length = n := by simpa using h.1
  rw [h.cellAt j (by omega), List.getElem?_map, List.getElem?_eq_getElem hj]
  rfl
/-- A literal slice, inside a region that draws. -/
def Fact.lit (B : Nat) (e : TypeId) (n : Nat) (xs : List Value) : Fact :=
  ⟨fun v w => ∃ g, v = .slice (some ⟨g, 0, none⟩) n n ∧ w.ownsRow B e 1 (.slice (some ⟨g, 0, none⟩) n n) n xs, fun _ _ _ ⟨g, h1, h2⟩ hb => ⟨g, h1, own_below h2 hb⟩⟩
/-- An owned row that is not empty, laid open. -/
theorem own_open {w : World} {base : Nat} {e : TypeId} {v : Value} {n : Nat} {xs : List Value} (h : w.ownsRow base e 1 v n xs) (hp : 0 < xs.length) :
    ∃ g cap, v = .slice (some ⟨g, 0, none⟩) n cap ∧ base ≤ g ∧ g < w.heap.size ∧ n ≤ cap ∧ cap ≤ 9223372036854775807 ∧ ∀ i u, xs[i]? = some u → w.cell? ⟨g, i, none⟩ = some u := by
  have hl : xs.length = n := by have := h.1; omega
  rcases h.2 with ⟨rfl, h0⟩ | ⟨g, cap, cur, rfl, hg, hh, hnc, hm, hsz, htk⟩
  · omega
  · refine ⟨g, cap, rfl, hg, lt_of_heap hh, hnc, by unfold maxLen at hm; omega, fun i u hu => ?_⟩
    have hi : i < n := by have := (List.getElem?_eq_some_iff.1 hu).1; omega
    rw [h.cellAt i (by omega)]; exact hu
theorem set0 {w : World} {g : Nat} {x y : Value} {T : TypeId} (h : w.heap[g]? = some (.cells #[x, y] T (0, 0))) (u : Value) : (w.setCell ⟨g, 0, none⟩ u).heap[g]? = some (.cells #[u, y] T (0, 0)) := heap_setCell_same w g 0 #[x, y] T u h
theorem set1 {w : World} {g : Nat} {x y : Value} {T : TypeId} (h : w.heap[g]? = some (.cells #[x, y] T (0, 0))) (u : Value) : (w.setCell ⟨g, 1, none⟩ u).heap[g]? = some (.cells #[x, u] T (0, 0)) := heap_setCell_same w g 1 #[x, y] T u h
theorem setO {w : World} {g k j : Nat} {o : Obj} (hne : k ≠ g) (h : w.heap[k]? = some o) (u : Value) : (w.setCell ⟨g, j, none⟩ u).heap[k]? = some o := (Below.heap_setCell w ⟨g, j, none⟩ u k hne).trans h
theorem setC {w : World} {g j : Nat} {a : Addr} {v : Value} (hne : a.block ≠ g) (h : w.cell? a = some v) (u : Value) : (w.setCell ⟨g, j, none⟩ u).cell? a = some v := (World.cell?_of_block (Below.heap_setCell w ⟨g, j, none⟩ u a.block hne)).trans h
end Go.Proofs.Ytbajnecahojcfaa
