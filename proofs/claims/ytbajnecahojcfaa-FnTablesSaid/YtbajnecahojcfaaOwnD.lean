/- Slices of tables of their own, the tables' rows each by itself. -/
import Derived.Test.YtbajnecahojcfaaDbO
import Derived.Test.YtbajnecahojcfaaDrawA
namespace Go.Proofs.Ytbajnecahojcfaa
open Go.RowKit Go.Sort
set_option maxHeartbeats 1000000
abbrev TP := List (Tab × Value)
def cellsT (p : Tab × Value) : List Value := [.string ⟨p.1.1.toArray⟩, .int .i64 p.1.2.1, p.2]
def flatT (ps : TP) : List Value := ps.flatMap cellsT
/-- Rows that lie at lr or above. -/
def RowsT (w : World) (lr : Nat) (ps : TP) : Prop := ∀ p ∈ ps, SegM w lr w.heap.size p.2 p.1.2.2
/-- A slice of tables of its own (cells from lo on), the tables' rows from lr on. -/
def OwnD (w : World) (lo lr : Nat) (v : Value) (T : List Tab) : Prop :=
  ∃ ps : TP, ps.map Prod.fst = T ∧ w.ownsRow lo 60 3 v ps.length (flatT ps) ∧ RowsT w lr ps
theorem flatT_len : ∀ (ps : TP), (flatT ps).length = ps.length * 3
  | [] => rfl
  | p :: ps => by
    have e : flatT (p :: ps) = cellsT p ++ flatT ps := rfl
    rw [e, List.length_append, flatT_len ps, List.length_cons]
    simp [cellsT]; omega
theorem flatT_append (ps qs : TP) : flatT (ps ++ qs) = flatT ps ++ flatT qs := List.flatMap_append ..
theorem flatT_tail (p : Tab × Value) (ps : TP) (j : Nat) : (flatT (p :: ps))[j + 3]? = (flatT ps)[j]? := rfl
theorem flatT_at : ∀ (ps : TP) (i : Nat) (hi : i < ps.length), (flatT ps)[i * 3]? = some (.string ⟨ps[i].1.1.toArray⟩) ∧ (flatT ps)[i * 3 + 1]? = some (.int .i64 ps[i].1.2.1) ∧ (flatT ps)[i * 3 + 2]? = some ps[i].2
  | [], i, hi => by simp at hi
  | p :: ps, 0, _ => ⟨rfl, rfl, rfl⟩
  | p :: ps, i + 1, hi => by
    have h := flatT_at ps i (by simpa using hi)
    refine ⟨?_, ?_, ?_⟩
    · rw [show (i + 1) * 3 = i * 3 + 3 by omega, flatT_tail]; exact h.1
    · rw [show (i + 1) * 3 + 1 = i * 3 + 1 + 3 by omega, flatT_tail]; exact h.2.1
    · rw [show (i + 1) * 3 + 2 = i * 3 + 2 + 3 by omega, flatT_tail]; exact h.2.2
theorem flatT_set : ∀ (ps : TP) (i : Nat) (N : List UInt8) (ar : Int) (m : List (List Int)) (u : Value), (((flatT ps).set (i * 3) (.string ⟨N.toArray⟩)).set (i * 3 + 1) (.int .i64 ar)).set (i * 3 + 2) u = flatT (ps.set i ((N, ar, m), u))
  | [], i, _, _, _, _ => rfl
  | p :: ps, 0, _, _, _, _ => rfl
  | p :: ps, i + 1, N, ar, m, u => by
    have h := flatT_set ps i N ar m u
    rw [List.set_cons_succ, show (i + 1) * 3 = i * 3 + 3 by omega]
    show (((cellsT p ++ flatT ps).set (i * 3 + 3) _).set (i * 3 + 3 + 1) _).set (i * 3 + 3 + 2) _ = cellsT p ++ flatT _
    rw [← h]
    rfl
theorem flatT_mem {ps : TP} (h : ∀ p ∈ ps, p.2.oneCell' = true) : ∀ u ∈ flatT ps, u.oneCell' = true := by
  intro u hu
  obtain ⟨p, hp, h2⟩ := List.mem_flatMap.1 hu
  simp only [cellsT, List.mem_cons, List.not_mem_nil, or_false] at h2
  rcases h2 with rfl | rfl | rfl
  · rfl
  · rfl
  · exact h p hp
theorem SegM.one {w : World} {lo hi : Nat} {v : Value} {m : List (List Int)} (h : SegM w lo hi v m) : v.oneCell' = true := by
  obtain ⟨A, c, rfl⟩ := MRow.opened h.row
  rfl
theorem RowsT.one {w : World} {lr : Nat} {ps : TP} (h : RowsT w lr ps) : ∀ u ∈ flatT ps, u.oneCell' = true := flatT_mem fun p hp => (h p hp).one
theorem OwnD.nil (w : World) (lo lr : Nat) : OwnD w lo lr (.slice none 0 0) [] := ⟨[], rfl, World.ownsRow_nil _ _ _ _, fun p hp => by cases hp⟩
theorem OwnD.lit (w : World) (lr : Nat) {lo : Nat} (h : lo ≤ w.heap.size) : OwnD (w.alloc (.cells #[] 60)) lo lr (.slice (some ⟨w.heap.size, 0, none⟩) 0 0) [] := ⟨[], rfl, World.ownsRow_lit w #[] 0 h (by decide) rfl, fun p hp => by cases hp⟩
theorem SegM.grownT {w w' : World} {lo lr n : Nat} {v u : Value} {m : List (List Int)} {xs : List Value} (h : SegM w lr w.heap.size u m) (ho : w.ownsRow lo 60 3 v n xs) (hg : w.grownBy w' v.ownBlock) : SegM w' lr w'.heap.size u m := by
  obtain ⟨ps, h1, h2, h3, h4⟩ := h
  have h5 : SegM w' lr w.heap.size u m := ⟨ps, h1, own_grown_ne h2 hg fun b h5 h6 => own_ne_block h2 ho (by decide) h5 h6, h3, fun p hp => ⟨own_grown_ne (h4.1 p hp).1 hg fun b h5 h6 => own_ne_block (h4.1 p hp).1 ho (by decide) h5 h6, (h4.1 p hp).2⟩, h4.2⟩
  exact h5.wide (Nat.le_refl _) hg.size
theorem RowsT.grownT {w w' : World} {lo lr n : Nat} {v : Value} {ps : TP} {xs : List Value} (h : RowsT w lr ps) (ho : w.ownsRow lo 60 3 v n xs) (hg : w.grownBy w' v.ownBlock) : RowsT w' lr ps := fun p hp => SegM.grownT (h p hp) ho hg
theorem RowsT.below {w w' : World} {lr : Nat} {ps : TP} (h : RowsT w lr ps) (hb : Below w.heap.size w w') : RowsT w' lr ps := fun p hp => SegM.wide ((h p hp).below hb) (Nat.le_refl _) hb.size
theorem OwnD.below {w w' : World} {lo lr : Nat} {v : Value} {T : List Tab} (h : OwnD w lo lr v T) (hb : Below w.heap.size w w') : OwnD w' lo lr v T := by
  obtain ⟨ps, h1, h2, h3⟩ := h
  exact ⟨ps, h1, own_below h2 hb, h3.below hb⟩
theorem OwnD.alloc {w : World} {lo lr : Nat} {v : Value} {T : List Tab} (h : OwnD w lo lr v T) (o : Obj) : OwnD (w.alloc o) lo lr v T := h.below ((Below.refl _ _).alloc (Nat.le_refl _) o)
/-- Through a draw: the cursor's block g lies below all. -/
theorem OwnD.draw {w w' : World} {lo lr g : Nat} {v : Value} {T : List Tab} (h : OwnD w lo lr v T) (hg : w.grownBy w' (some g)) (h1 : g < lo) (h2 : g < lr) : OwnD w' lo lr v T := by
  obtain ⟨ps, e, h3, h4⟩ := h
  refine ⟨ps, e, ?_, fun p hp => ownM_draw (h4 p hp) hg h2⟩
  refine own_grown_ne h3 hg fun b hb hg2 => ?_
  have := (h3.lt b hb).1
  have := Option.some.inj hg2
  omega
theorem OwnD.setO {w : World} {lo lr g j : Nat} {E : TypeId} {v : Value} {T : List Tab} {cs : Array Value} {fr : Nat × Nat} (h : OwnD w lo lr v T) (y : w.heap[g]? = some (.cells cs E fr)) (hE : 60 ≠ E ∧ 22 ≠ E ∧ 3 ≠ E) (u : Value) : OwnD (w.setCell ⟨g, j, none⟩ u) lo lr v T := by
  obtain ⟨ps, e, h3, h4⟩ := h
  exact ⟨ps, e, own_set_other h3 y hE.1 u, fun p hp => SegM.wide (SegM.setO (h4 p hp) y hE.2.1 hE.2.2 u) (Nat.le_refl _) (by simp [World.setCell])⟩
theorem OwnD.mono {w : World} {lo lr lo' lr' : Nat} {v : Value} {T : List Tab} (h : OwnD w lo lr v T) (h1 : lo' ≤ lo) (h2 : lr' ≤ lr) : OwnD w lo' lr' v T := by
  obtain ⟨ps, e, h3, h4⟩ := h
  exact ⟨ps, e, ownsRow_mono h3 h1, fun p hp => SegM.wide (h4 p hp) h2 (Nat.le_refl _)⟩
theorem OwnD.opened {w : World} {lo lr : Nat} {v : Value} {T : List Tab} (h : OwnD w lo lr v T) : ∃ A c, v = .slice A T.length c ∧ T.length ≤ c ∧ c ≤ 9223372036854775807 := by
  obtain ⟨ps, rfl, h3, h4⟩ := h
  rw [List.length_map]
  rcases h3.2 with ⟨rfl, h0⟩ | ⟨g, cap, cur, rfl, hg, hh, hnc, hm, hsz, htk⟩
  · exact ⟨none, 0, by rw [h0], by omega, by omega⟩
  · exact ⟨_, cap, rfl, hnc, by unfold maxLen at hm; omega⟩
theorem OwnD.shape {w : World} {lo lr : Nat} {v : Value} {T : List Tab} (h : OwnD w lo lr v T) (hp : 0 < T.length) : ∃ g c, v = .slice (some ⟨g, 0, none⟩) T.length c ∧ T.length ≤ c ∧ c ≤ 9223372036854775807 ∧ lo ≤ g ∧ g < w.heap.size ∧ ∃ cs, w.heap[g]? = some (.cells cs 60 (0, 0)) ∧ T.length * 3 ≤ cs.size := by
  obtain ⟨ps, rfl, h3, h4⟩ := h
  rw [List.length_map] at hp ⊢
  rcases h3.2 with ⟨rfl, h0⟩ | ⟨g, cap, cur, rfl, hg, hh, hnc, hm, hsz, htk⟩
  · omega
  · exact ⟨g, cap, rfl, hnc, by unfold maxLen at hm; omega, hg, lt_of_heap hh, cur, hh, by omega⟩

/-- Tables to be read, the cells from lo on, the rows from lr on. -/
def DRow (w : World) (lo : Nat) (v : Value) (T : List Tab) : Prop :=
  ∃ A c, v = .slice A T.length c ∧ T.length ≤ c ∧ c ≤ maxLen ∧ (A = none → c = 0) ∧ ∀ i (hi : i < T.length), ∃ b off, A = some ⟨b, off, none⟩ ∧ lo ≤ b ∧ w.cell? ⟨b, off + i * 3, none⟩ = some (strV T[i].1) ∧ w.cell? ⟨b, off + i * 3 + 1, none⟩ = some (.int .i64 T[i].2.1) ∧
    ∃ A' c', w.cell? ⟨b, off + i * 3 + 2, none⟩ = some (.slice A' T[i].2.2.length c') ∧ SegM w lo w.heap.size (.slice A' T[i].2.2.length c') T[i].2.2
theorem DRow.row {w : World} {lo : Nat} {v : Value} {T : List Tab} (h : DRow w lo v T) : TRow w v T := by
  obtain ⟨A, c, h1, h2, h3, h4, h5⟩ := h
  refine ⟨A, c, h1, h2, h3, h4, fun i hi => ?_⟩
  obtain ⟨b, off, e, _, c0, c1, A', c', c2, hm⟩ := h5 i hi
  exact ⟨b, off, e, c0, c1, A', c', c2, hm.row⟩
theorem DRow.below {w w' : World} {lo : Nat} {v : Value} {T : List Tab} (h : DRow w lo v T) (hb : Below w.heap.size w w') : DRow w' lo v T := by
  obtain ⟨A, c, h1, h2, h3, h4, h5⟩ := h
  refine ⟨A, c, h1, h2, h3, h4, fun i hi => ?_⟩
  obtain ⟨b, off, e, hl, c0, c1, A', c', c2, hm⟩ := h5 i hi
  exact ⟨b, off, e, hl, cellB hb c0, cellB hb c1, A', c', cellB hb c2, SegM.wide (hm.below hb) (Nat.le_refl _) hb.size⟩
theorem DRow.alloc {w : World} {lo : Nat} {v : Value} {T : List Tab} (h : DRow w lo v T) (o : Obj) : DRow (w.alloc o) lo v T := h.below ((Below.refl _ _).alloc (Nat.le_refl _) o)
theorem DRow.draw {w w' : World} {lo g : Nat} {v : Value} {T : List Tab} (h : DRow w lo v T) (hg : w.grownBy w' (some g)) (hlo : g < lo) : DRow w' lo v T := by
  obtain ⟨A, c, h1, h2, h3, h4, h5⟩ := h
  refine ⟨A, c, h1, h2, h3, h4, fun i hi => ?_⟩
  obtain ⟨b, off, e, hl, c0, c1, A', c', c2, hm⟩ := h5 i hi
  have hk : ∀ j x, w.cell? ⟨b, j, none⟩ = some x → w'.cell? ⟨b, j, none⟩ = some x := fun j x hx => (World.cell?_of_block (a := ⟨b, j, none⟩) (hg.block b (block_lt_of_cell (a := ⟨b, j, none⟩) hx) (by simp; omega))).trans hx
  exact ⟨b, off, e, hl, hk _ _ c0, hk _ _ c1, A', c', hk _ _ c2, ownM_draw hm hg hlo⟩
theorem DRow.mono {w : World} {lo lo' : Nat} {v : Value} {T : List Tab} (h : DRow w lo v T) (hl : lo' ≤ lo) : DRow w lo' v T := by
  obtain ⟨A, c, h1, h2, h3, h4, h5⟩ := h
  refine ⟨A, c, h1, h2, h3, h4, fun i hi => ?_⟩
  obtain ⟨b, off, e, hb, c0, c1, A', c', c2, hm⟩ := h5 i hi
  exact ⟨b, off, e, by omega, c0, c1, A', c', c2, SegM.wide hm hl (Nat.le_refl _)⟩
theorem DRow.opened {w : World} {lo : Nat} {v : Value} {T : List Tab} (h : DRow w lo v T) : ∃ A c, v = .slice A T.length c := TRow.opened h.row
theorem DRow.at {w : World} {lo : Nat} {A : Option Addr} {c : Nat} {T : List Tab} (h : DRow w lo (.slice A T.length c) T) (k : Nat) (hk : k < T.length) : ∃ b off, A = some ⟨b, off, none⟩ ∧ w.cell? ⟨b, off + k * 3, none⟩ = some (strV T[k].1) ∧ w.cell? ⟨b, off + k * 3 + 1, none⟩ = some (.int .i64 T[k].2.1) ∧
    ∃ A' c', w.cell? ⟨b, off + k * 3 + 2, none⟩ = some (.slice A' T[k].2.2.length c') ∧ SegM w lo w.heap.size (.slice A' T[k].2.2.length c') T[k].2.2 := by
  obtain ⟨A9, c9, e9, -, -, -, h9⟩ := h
  simp only [Value.slice.injEq] at e9
  obtain ⟨rfl, -, rfl⟩ := e9
  obtain ⟨b, off, e, -, r⟩ := h9 k hk
  exact ⟨b, off, e, r⟩
/-- Owned tables, read. -/
theorem OwnD.drow {w : World} {lo lr : Nat} {v : Value} {T : List Tab} (h : OwnD w lo lr v T) (hl : lr ≤ lo) : DRow w lr v T := by
  obtain ⟨ps, rfl, h3, h4⟩ := h
  rcases h3.2 with ⟨rfl, h0⟩ | ⟨g, cap, cur, rfl, hg, hh, hnc, hm, hsz, htk⟩
  · have : ps = [] := List.eq_nil_of_length_eq_zero h0
    subst this
    exact ⟨none, 0, rfl, Nat.le_refl _, by decide, fun _ => rfl, fun i hi => by simp at hi⟩
  · refine ⟨_, cap, by rw [List.length_map], by rw [List.length_map]; exact hnc, hm, (fun h => by cases h), fun i hi => ⟨g, 0, rfl, by omega, ?_⟩⟩
    rw [List.length_map] at hi
    have hr := h4 ps[i] (List.getElem_mem hi)
    obtain ⟨A', c', e⟩ := MRow.opened hr.row
    obtain ⟨k0, k1, k2⟩ := flatT_at ps i hi
    rw [List.getElem_map, Nat.zero_add]
    refine ⟨?_, ?_, A', c', ?_, e ▸ hr⟩
    · rw [h3.cellAt _ (by omega)]; exact k0
    · rw [h3.cellAt _ (by omega)]; exact k1
    · rw [h3.cellAt _ (by omega), k2, e]
theorem OwnD.trow {w : World} {lo lr : Nat} {v : Value} {T : List Tab} (h : OwnD w lo lr v T) : TRow w v T := (OwnD.drow (h.mono (Nat.le_refl _) (Nat.zero_le _)) (Nat.zero_le _)).row

/-- What an append of tables reads. -/
def SrcD (w : World) (lr : Nat) (v : Value) (T : List Tab) : Prop :=
  ∃ (qs : TP) (A : Option Addr) (c : Nat), qs.map Prod.fst = T ∧ v = .slice A qs.length c ∧ (A = none → qs = [] ∧ c = 0) ∧ (∀ ad, A = some ad → ∀ j u, (flatT qs)[j]? = some u → w.cell? (ad.add j) = some u) ∧ RowsT w lr qs
theorem SrcD.one {w : World} {lr g : Nat} {t : Tab} {u : Value} {cap : Nat} (hg : w.heap[g]? = some (.cells #[.string ⟨t.1.toArray⟩, .int .i64 t.2.1, u] 60 (0, 0))) (hu : SegM w lr w.heap.size u t.2.2) : SrcD w lr (.slice (some ⟨g, 0, none⟩) 1 cap) [t] := by
  refine ⟨[(t, u)], _, cap, rfl, rfl, (fun h => by cases h), fun ad e j x hx => ?_, fun p hp => by rw [List.mem_singleton.1 hp]; exact hu⟩
  obtain rfl := Option.some.inj e
  rw [Addr.add_lit, Nat.zero_add, cell_of_row _ _ _ _ _ _ hg]
  have : flatT [(t, u)] = [.string ⟨t.1.toArray⟩, .int .i64 t.2.1, u] := rfl
  rw [this] at hx
  simpa using hx
theorem flatT_take (ps : TP) (k : Nat) (hk : k ≤ ps.length) (j : Nat) (u : Value) (h : (flatT (ps.take k))[j]? = some u) : (flatT ps)[j]? = some u := by
  have e : flatT ps = flatT (ps.take k) ++ flatT (ps.drop k) := by rw [← flatT_append, List.take_append_drop]
  rw [e, List.getElem?_append_left (List.getElem?_eq_some_iff.1 h).1]; exact h
theorem flatT_drop (ps : TP) (k : Nat) (hk : k ≤ ps.length) (j : Nat) (u : Value) (h : (flatT (ps.drop k))[j]? = some u) : (flatT ps)[k * 3 + j]? = some u := by
  have e : flatT ps = flatT (ps.take k) ++ flatT (ps.drop k) := by rw [← flatT_append, List.take_append_drop]
  have hl : (flatT (ps.take k)).length = k * 3 := by rw [flatT_len, List.length_take, Nat.min_eq_left hk]
  rw [e, List.getElem?_append_right (by omega), hl, show k * 3 + j - k * 3 = j by omega]; exact h
/-- The first k of owned tables. -/
theorem OwnD.srcTake {w : World} {lo lr g n cap c : Nat} {T : List Tab} (h : OwnD w lo lr (.slice (some ⟨g, 0, none⟩) n cap) T) (k : Nat) (hk : k ≤ T.length) : SrcD w lr (.slice (some ⟨g, 0, none⟩) k c) (T.take k) := by
  obtain ⟨ps, rfl, h3, h4⟩ := h
  rw [List.length_map] at hk
  refine ⟨ps.take k, some ⟨g, 0, none⟩, c, by rw [List.map_take], by rw [List.length_take, Nat.min_eq_left hk], (fun h => by cases h), fun ad e j u hu => ?_, fun p hp => h4 p (List.mem_of_mem_take hp)⟩
  obtain rfl := Option.some.inj e
  have h5 := flatT_take ps k hk j u hu
  rw [Addr.add_lit, Nat.zero_add]
  have hn : n = ps.length := by
    rcases h3.2 with ⟨e, _⟩ | ⟨g', cap', cur, e, _⟩
    · cases e
    · simp only [Value.slice.injEq] at e; exact e.2.1
  subst hn
  have hj := (List.getElem?_eq_some_iff.1 h5).1
  rw [flatT_len] at hj
  rw [h3.cellAt j hj]; exact h5
theorem OwnD.srcDrop {w : World} {lo lr g n cap c l : Nat} {T : List Tab} (h : OwnD w lo lr (.slice (some ⟨g, 0, none⟩) n cap) T) (k : Nat) (hk : k ≤ T.length) (hl : l = T.length - k) : SrcD w lr (.slice (some ⟨g, k * 3, none⟩) l c) (T.drop k) := by
  obtain ⟨ps, rfl, h3, h4⟩ := h
  rw [List.length_map] at hk hl
  refine ⟨ps.drop k, some ⟨g, k * 3, none⟩, c, by rw [List.map_drop], by rw [List.length_drop, hl], (fun h => by cases h), fun ad e j u hu => ?_, fun p hp => h4 p (List.mem_of_mem_drop hp)⟩
  obtain rfl := Option.some.inj e
  have h5 := flatT_drop ps k hk j u hu
  rw [Addr.add_lit]
  have hn : n = ps.length := by
    rcases h3.2 with ⟨e, _⟩ | ⟨g', cap', cur, e, _⟩
    · cases e
    · simp only [Value.slice.injEq] at e; exact e.2.1
  subst hn
  have hj := (List.getElem?_eq_some_iff.1 h5).1
  rw [flatT_len] at hj
  rw [h3.cellAt _ hj]; exact h5
theorem SrcD.nil (w : World) (lr : Nat) : SrcD w lr (.slice none 0 0) [] := ⟨[], none, 0, rfl, rfl, fun _ => ⟨rfl, rfl⟩, (fun ad h => by cases h), fun p hp => by cases hp⟩
theorem SrcD.below {w w' : World} {lr : Nat} {v : Value} {T : List Tab} (h : SrcD w lr v T) (hb : Below w.heap.size w w') : SrcD w' lr v T := by
  obtain ⟨qs, A, c, h1, h2, h3, h4, h5⟩ := h
  exact ⟨qs, A, c, h1, h2, h3, fun ad e j u hu => cellB hb (h4 ad e j u hu), h5.below hb⟩

theorem wp_append_tabsK {w : World} {o : Oper} {a : Act} {K : Act → World → Prop} {Q : Exit → Act → World → Prop} (s x : Operand)
    (ho : o.op = .call { callee := .builtin .append, args := #[s, x], argTypes := #[50, 50] }) (lo lr : Nat) (v : Value) (T : List Tab) (hs : a.eval s = v) (hown : OwnD w lo lr v T)
    (v2 : Value) (T2 : List Tab) (hx : a.eval x = v2) (hsrc : SrcD w lr v2 T2) (hn : T.length + T2.length ≤ 1099511627776) (hbase : lo ≤ w.heap.size)
    (h : ∀ v' w', OwnD w' lo lr v' (T ++ T2) → w.grownBy w' v.ownBlock → Below lo w w' → K (a.put o.dst v') w') : o.wp Try.prog a w K Q := by
  obtain ⟨i0, hi, hz0, hz1, hz2⟩ := info_parts info_tab
  obtain ⟨ps, rfl, h3, h4⟩ := hown
  obtain ⟨qs, A, c, rfl, rfl, h5, h6, h7⟩ := hsrc
  rw [List.length_map, List.length_map] at hn
  have hlt := h3.lt
  cases A with
  | none =>
    obtain ⟨rfl, rfl⟩ := h5 rfl
    have hr := run_append_owned_none (P := Try.prog) w lo 50 o.type 60 i0 3 Try.underlying50 hi v _ _ h3
    unfold Oper.wp execOp
    simp only [ho, resolve, invoke, builtin, Sem.run_bind, Sem.run_pure, Result.andThen_ok, List.map_toArray, List.map_cons, List.map_nil, hs, hx, List.length_nil, hr]
    exact h v w (by simpa using ⟨ps, rfl, h3, h4⟩) (World.grownBy.refl _ _) (Below.refl _ _)
  | some ad =>
    refine wp_append_own _ s x 50 ho lo 60 i0 _ 3 48 Try.underlying50 hi hz0 hz1 hz2 rfl (by decide) v ps.length (flatT ps) hs h3 ad qs.length c (flatT qs) hx (flatT_len qs) (h6 ad rfl) h7.one (by unfold maxLen; omega) (by omega) hbase ?_
    intro v' w' hown' hgr _
    refine h v' w' ⟨ps ++ qs, by simp, ?_, fun p hp => ?_⟩ hgr ((Below.refl lo w).grown hgr hbase fun k hk => (hlt k hk).1)
    · rw [List.length_append, flatT_append]; exact hown'
    · rcases List.mem_append.1 hp with hp | hp
      · exact h4.grownT h3 hgr p hp
      · exact h7.grownT h3 hgr p hp
theorem wp_append_tabs {w : World} {ops : Array Oper} {rest : List Oper} {o : Oper} {a : Act} {Q : Exit → Act → World → Prop} (hgd : o.guard = none) (s x : Operand)
    (ho : o.op = .call { callee := .builtin .append, args := #[s, x], argTypes := #[50, 50] }) (lo lr : Nat) (v : Value) (T : List Tab) (hs : a.eval s = v) (hown : OwnD w lo lr v T)
    (v2 : Value) (T2 : List Tab) (hx : a.eval x = v2) (hsrc : SrcD w lr v2 T2) (hn : T.length + T2.length ≤ 1099511627776) (hbase : lo ≤ w.heap.size)
    (h : ∀ v' w', OwnD w' lo lr v' (T ++ T2) → w.grownBy w' v.ownBlock → Below lo w w' → wpList Try.prog ops Q rest (a.put o.dst v') w') : wpList Try.prog ops Q (o :: rest) a w :=
  wpList_plain hgd fun _ hK => wp_append_tabsK s x ho lo lr v T hs hown v2 T2 hx hsrc hn hbase fun v' w' h1 h2 h3 => hK _ _ (h v' w' h1 h2 h3)
/-- One table, laid in a block of its own. -/
theorem wp_append_tab {w : World} {ops : Array Oper} {rest : List Oper} {o : Oper} {a : Act} {Q : Exit → Act → World → Prop} (hgd : o.guard = none) (s x : Operand)
    (ho : o.op = .call { callee := .builtin .append, args := #[s, x], argTypes := #[50, 50] }) (lo lr : Nat) (v : Value) (T : List Tab) (hs : a.eval s = v) (hown : OwnD w lo lr v T)
    (t : Tab) (u : Value) (hu : SegM w lr w.heap.size u t.2.2) (hx : a.eval x = .slice (some ⟨w.heap.size, 0, none⟩) 1 1) (hn : T.length + 1 ≤ 1099511627776) (hbase : lo ≤ w.heap.size)
    (h : ∀ v' w', OwnD w' lo lr v' (T ++ [t]) → w.grownBy w' v.ownBlock → Below lo w w' → wpList Try.prog ops Q rest (a.put o.dst v') w') : wpList Try.prog ops Q (o :: rest) a (w.alloc (.cells #[.string ⟨t.1.toArray⟩, .int .i64 t.2.1, u] 60)) := by
  refine wp_append_tabs hgd s x ho lo lr v T hs (hown.alloc _) _ [t] hx (SrcD.one (heap_alloc_new w _) (SegM.wide (SegM.alloc hu _) (Nat.le_refl _) (by simp))) (by simpa using hn) (by simp; omega) fun v' w' h1 h2 h3 => ?_
  exact h v' w' h1 (grown_trans (World.grownBy_alloc w _ _) h2) (((Below.refl lo w).alloc hbase _).trans h3)
theorem step_append_tab {w : World} {ops : Array Oper} {o : Oper} {a : Act} {K : Act → World → Prop} {Q : Exit → Act → World → Prop} {F : Prop} (hgd : o.guard = none) (s x : Operand)
    (ho : o.op = .call { callee := .builtin .append, args := #[s, x], argTypes := #[50, 50] }) (lo lr : Nat) (v : Value) (T : List Tab) (hs : a.eval s = v) (hown : OwnD w lo lr v T)
    (v2 : Value) (T2 : List Tab) (hx : a.eval x = v2) (hsrc : SrcD w lr v2 T2) (hn : T.length + T2.length ≤ 1099511627776) (hbase : lo ≤ w.heap.size)
    (h : ∀ v' w', OwnD w' lo lr v' (T ++ T2) → w.grownBy w' v.ownBlock → Below lo w w' → K (a.put o.dst v') w') : if Region.wanted o (yielded ops a.tmps) = true then Oper.wp Try.prog o a w K Q else F := by
  rw [if_pos (by simp [Region.wanted, hgd])]
  exact wp_append_tabsK s x ho lo lr v T hs hown v2 T2 hx hsrc hn hbase h
/-- Blocks of other types stay while owned tables grow. -/
theorem OwnD.kept {w w' : World} {lo lr k : Nat} {E : TypeId} {v : Value} {T : List Tab} {cs : Array Value} {fr : Nat × Nat} (ho : OwnD w lo lr v T) (hg : w.grownBy w' v.ownBlock) (y : w.heap[k]? = some (.cells cs E fr)) (hE : 60 ≠ E) : w'.heap[k]? = some (.cells cs E fr) := by
  obtain ⟨ps, -, h2, -⟩ := ho
  refine (hg.block k (lt_of_heap y) fun e => ?_).trans y
  rcases h2.2 with ⟨rfl, _⟩ | ⟨q, cap, cur, rfl, _, hh, _⟩
  · cases e
  · simp only [Value.ownBlock, Option.some.injEq] at e
    subst e
    rw [hh] at y
    simp only [Option.some.injEq, Obj.cells.injEq] at y
    exact hE y.2.1
/-- A block newer than the owned tables stays while they grow. -/
theorem OwnD.newer {w W w' : World} {lo lr k : Nat} {v : Value} {T : List Tab} {o : Obj} (ho : OwnD w lo lr v T) (hk : w.heap.size ≤ k) (hg : W.grownBy w' v.ownBlock) (y : W.heap[k]? = some o) : w'.heap[k]? = some o := by
  obtain ⟨ps, -, h2, -⟩ := ho
  refine (hg.block k (lt_of_heap y) fun e => ?_).trans y
  have := (h2.lt k e.symm).2
  omega
theorem SegM.grownD {w w' : World} {lo lr lr' : Nat} {v u : Value} {T : List Tab} {m : List (List Int)} (h : SegM w lr w.heap.size u m) (ho : OwnD w lo lr' v T) (hg : w.grownBy w' v.ownBlock) : SegM w' lr w'.heap.size u m := by
  obtain ⟨ps, -, h2, -⟩ := ho
  exact SegM.grownT h h2 hg
theorem segM_setT {w : World} {lr g j : Nat} {E : TypeId} {v : Value} {m : List (List Int)} {cs : Array Value} {fr : Nat × Nat} (h : SegM w lr w.heap.size v m) (y : w.heap[g]? = some (.cells cs E fr)) (hE : 22 ≠ E ∧ 3 ≠ E) (u : Value) : SegM (w.setCell ⟨g, j, none⟩ u) lr (w.setCell ⟨g, j, none⟩ u).heap.size v m :=
  SegM.wide (SegM.setO h y hE.1 hE.2 u) (Nat.le_refl _) (by simp [World.setCell])
/-- out[k] = t. -/
theorem OwnD.put {w : World} {lo lr g n cap : Nat} {T : List Tab} (h : OwnD w lo lr (.slice (some ⟨g, 0, none⟩) n cap) T) (k : Nat) (N : List UInt8) (ar : Int) (m : List (List Int)) (u : Value) (hu : SegM w lr w.heap.size u m) :
    OwnD (((w.setCell ⟨g, k * 3, none⟩ (.string ⟨N.toArray⟩)).setCell ⟨g, k * 3 + 1, none⟩ (.int .i64 ar)).setCell ⟨g, k * 3 + 2, none⟩ u) lo lr (.slice (some ⟨g, 0, none⟩) n cap) (T.set k (N, ar, m)) := by
  obtain ⟨ps, rfl, h3, h4⟩ := h
  rcases h3.2 with ⟨e, _⟩ | ⟨g', cap', cur, e, hg, hh, hnc, hm, hsz, htk⟩
  · cases e
  simp only [Value.slice.injEq, Option.some.injEq, Addr.mk.injEq, and_true, true_and] at e
  obtain ⟨rfl, hn, rfl⟩ := e
  subst hn
  have y1 := heap_setCell_same w g (k * 3) cur 60 (.string ⟨N.toArray⟩) hh
  have y2 := heap_setCell_same _ g (k * 3 + 1) _ 60 (.int .i64 ar) y1
  have keep : ∀ v m, SegM w lr w.heap.size v m → SegM (((w.setCell ⟨g, k * 3, none⟩ (.string ⟨N.toArray⟩)).setCell ⟨g, k * 3 + 1, none⟩ (.int .i64 ar)).setCell ⟨g, k * 3 + 2, none⟩ u) lr (((w.setCell ⟨g, k * 3, none⟩ (.string ⟨N.toArray⟩)).setCell ⟨g, k * 3 + 1, none⟩ (.int .i64 ar)).setCell ⟨g, k * 3 + 2, none⟩ u).heap.size v m := fun v m hm =>
    SegM.wide (SegM.setO (SegM.setO (SegM.setO hm hh (by decide) (by decide) _) y1 (by decide) (by decide) _) y2 (by decide) (by decide) _) (Nat.le_refl _) (by simp [World.setCell])
  have h5 := ((((h3.stored (k * 3) (.string ⟨N.toArray⟩)).1).stored (k * 3 + 1) (.int .i64 ar)).1.stored (k * 3 + 2) u).1
  rw [flatT_set ps k N ar m u] at h5
  refine ⟨ps.set k ((N, ar, m), u), by rw [List.map_set], by rw [List.length_set]; exact h5, fun p hp => ?_⟩
  rcases List.mem_or_eq_of_mem_set hp with hp | rfl
  · exact keep _ _ (h4 p hp)
  · exact keep _ _ hu
theorem flatT_setN : ∀ (ps : TP) (i : Nat) (hi : i < ps.length) (N : List UInt8), (flatT ps).set (i * 3) (.string ⟨N.toArray⟩) = flatT (ps.set i ((N, ps[i].1.2), ps[i].2))
  | [], i, hi, _ => by simp at hi
  | p :: ps, 0, _, _ => rfl
  | p :: ps, i + 1, hi, N => by
    have h := flatT_setN ps i (by simpa using hi) N
    rw [show (i + 1) * 3 = i * 3 + 3 by omega]
    show cellsT p ++ (flatT ps).set (i * 3) _ = cellsT p ++ flatT (ps.set i _)
    rw [h]
    rfl
theorem flatT_setA : ∀ (ps : TP) (i : Nat) (hi : i < ps.length) (ar : Int), (flatT ps).set (i * 3 + 1) (.int .i64 ar) = flatT (ps.set i ((ps[i].1.1, ar, ps[i].1.2.2), ps[i].2))
  | [], i, hi, _ => by simp at hi
  | p :: ps, 0, _, _ => rfl
  | p :: ps, i + 1, hi, N => by
    have h := flatT_setA ps i (by simpa using hi) N
    rw [show (i + 1) * 3 + 1 = i * 3 + 1 + 3 by omega]
    show cellsT p ++ (flatT ps).set (i * 3 + 1) _ = cellsT p ++ flatT (ps.set i _)
    rw [h]
    rfl
theorem flatT_setR : ∀ (ps : TP) (i : Nat) (hi : i < ps.length) (m : List (List Int)) (u : Value), (flatT ps).set (i * 3 + 2) u = flatT (ps.set i ((ps[i].1.1, ps[i].1.2.1, m), u))
  | [], i, hi, _, _ => by simp at hi
  | p :: ps, 0, _, _, _ => rfl
  | p :: ps, i + 1, hi, m, u => by
    have h := flatT_setR ps i (by simpa using hi) m u
    rw [show (i + 1) * 3 + 2 = i * 3 + 2 + 3 by omega]
    show cellsT p ++ (flatT ps).set (i * 3 + 2) _ = cellsT p ++ flatT (ps.set i _)
    rw [h]
    rfl
theorem OwnD.cell {w : World} {lo lr g n cap : Nat} {T T' : List Tab} (h : OwnD w lo lr (.slice (some ⟨g, 0, none⟩) n cap) T) (j : Nat) (x : Value)
    (hf : ∀ ps : TP, ps.map Prod.fst = T → ∃ ps' : TP, (flatT ps).set j x = flatT ps' ∧ ps'.length = ps.length ∧ ps'.map Prod.fst = T' ∧ ∀ p' ∈ ps', (∃ p ∈ ps, p'.2 = p.2 ∧ p'.1.2.2 = p.1.2.2) ∨ SegM w lr w.heap.size p'.2 p'.1.2.2) :
    OwnD (w.setCell ⟨g, j, none⟩ x) lo lr (.slice (some ⟨g, 0, none⟩) n cap) T' := by
  obtain ⟨ps, e0, h3, h4⟩ := h
  obtain ⟨ps', e1, e2, e3, h5⟩ := hf ps e0
  rcases h3.2 with ⟨e, _⟩ | ⟨g', cap', cur, e, hg, hh, hnc, hm, hsz, htk⟩
  · cases e
  simp only [Value.slice.injEq, Option.some.injEq, Addr.mk.injEq, and_true, true_and] at e
  obtain ⟨rfl, hn, rfl⟩ := e
  subst hn
  have keep : ∀ v m, SegM w lr w.heap.size v m → SegM (w.setCell ⟨g, j, none⟩ x) lr (w.setCell ⟨g, j, none⟩ x).heap.size v m := fun v m hm => SegM.wide (SegM.setO hm hh (by decide) (by decide) _) (Nat.le_refl _) (by simp [World.setCell])
  have h6 := (h3.stored j x).1
  rw [e1] at h6
  refine ⟨ps', e3, by rw [e2]; exact h6, fun p' hp' => ?_⟩
  rcases h5 p' hp' with ⟨p, hp, k1, k2⟩ | k
  · rw [k1, k2]; exact keep _ _ (h4 p hp)
  · exact keep _ _ k
theorem map_fst_at {ps : TP} {T : List Tab} (h : ps.map Prod.fst = T) {k : Nat} (hk : k < T.length) : ∃ hk' : k < ps.length, ps[k].1 = T[k] := by
  subst h
  exact ⟨by simpa using hk, by simp⟩
theorem OwnD.setName {w : World} {lo lr g n cap : Nat} {T : List Tab} (h : OwnD w lo lr (.slice (some ⟨g, 0, none⟩) n cap) T) (k : Nat) (hk : k < T.length) (N : List UInt8) : OwnD (w.setCell ⟨g, k * 3, none⟩ (.string ⟨N.toArray⟩)) lo lr (.slice (some ⟨g, 0, none⟩) n cap) (T.set k (N, T[k].2)) := by
  refine h.cell _ _ fun ps e => ?_
  obtain ⟨hk', e2⟩ := map_fst_at e hk
  refine ⟨_, flatT_setN ps k hk' N, List.length_set, by rw [List.map_set, e, e2], fun p' hp' => ?_⟩
  rcases List.mem_or_eq_of_mem_set hp' with hp' | rfl
  · exact .inl ⟨p', hp', rfl, rfl⟩
  · exact .inl ⟨ps[k], List.getElem_mem hk', rfl, rfl⟩
theorem OwnD.setAr {w : World} {lo lr g n cap : Nat} {T : List Tab} (h : OwnD w lo lr (.slice (some ⟨g, 0, none⟩) n cap) T) (k : Nat) (hk : k < T.length) (ar : Int) : OwnD (w.setCell ⟨g, k * 3 + 1, none⟩ (.int .i64 ar)) lo lr (.slice (some ⟨g, 0, none⟩) n cap) (T.set k (T[k].1, ar, T[k].2.2)) := by
  refine h.cell _ _ fun ps e => ?_
  obtain ⟨hk', e2⟩ := map_fst_at e hk
  refine ⟨_, flatT_setA ps k hk' ar, List.length_set, by rw [List.map_set, e, e2], fun p' hp' => ?_⟩
  rcases List.mem_or_eq_of_mem_set hp' with hp' | rfl
  · exact .inl ⟨p', hp', rfl, rfl⟩
  · exact .inl ⟨ps[k], List.getElem_mem hk', rfl, rfl⟩
theorem OwnD.setRows {w : World} {lo lr g n cap : Nat} {T : List Tab} (h : OwnD w lo lr (.slice (some ⟨g, 0, none⟩) n cap) T) (k : Nat) (hk : k < T.length) {m : List (List Int)} {u : Value} (hu : SegM w lr w.heap.size u m) : OwnD (w.setCell ⟨g, k * 3 + 2, none⟩ u) lo lr (.slice (some ⟨g, 0, none⟩) n cap) (T.set k (T[k].1, T[k].2.1, m)) := by
  refine h.cell _ _ fun ps e => ?_
  obtain ⟨hk', e2⟩ := map_fst_at e hk
  refine ⟨_, flatT_setR ps k hk' m u, List.length_set, by rw [List.map_set, e, e2], fun p' hp' => ?_⟩
  rcases List.mem_or_eq_of_mem_set hp' with hp' | rfl
  · exact .inl ⟨p', hp', rfl, rfl⟩
  · exact .inr hu
end Go.Proofs.Ytbajnecahojcfaa
