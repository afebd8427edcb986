/- Tables owned; the laws' copies of databases. -/
import Derived.Test.YtbajnecahojcfaaDbL
import Derived.Test.YtbajnecahojcfaaFactR
namespace Go.Proofs.Ytbajnecahojcfaa
open Go.RowKit Go.Sort
set_option maxHeartbeats 2000000
set_option maxRecDepth 100000
/-- The table at i of block g, its rows between lo and hi. -/
def TabC (w : World) (g i : Nat) (t : Tab) (lo hi : Nat) : Prop :=
  w.cell? ⟨g, i * 3, none⟩ = some (.string ⟨t.1.toArray⟩) ∧ w.cell? ⟨g, i * 3 + 1, none⟩ = some (.int .i64 t.2.1) ∧
    ∃ A c, w.cell? ⟨g, i * 3 + 2, none⟩ = some (.slice A t.2.2.length c) ∧ SegM w lo hi (.slice A t.2.2.length c) t.2.2
theorem TabC.same {w w' : World} {g i lo hi : Nat} {t : Tab} (h : TabC w g i t lo hi) (hg : w'.heap[g]? = w.heap[g]?) (hm : ∀ v m, SegM w lo hi v m → SegM w' lo hi v m) : TabC w' g i t lo hi := by
  obtain ⟨c0, c1, A, c, c2, h3⟩ := h
  exact ⟨(World.cell?_of_block (a := ⟨g, i * 3, none⟩) hg).trans c0, (World.cell?_of_block (a := ⟨g, i * 3 + 1, none⟩) hg).trans c1, A, c, (World.cell?_of_block (a := ⟨g, i * 3 + 2, none⟩) hg).trans c2, hm _ _ h3⟩
/-- v is a slice of the tables T, its block and the tables' rows between lo and hi. -/
def SegT (w : World) (lo hi : Nat) (v : Value) (T : List Tab) : Prop :=
  ∃ (g cap : Nat) (cs : Array Value) (L : Nat → Nat), v = .slice (some ⟨g, 0, none⟩) T.length cap ∧ T.length ≤ cap ∧ cap ≤ maxLen ∧ w.heap[g]? = some (.cells cs 60 (0, 0)) ∧ lo ≤ g ∧ g < hi ∧ g < L 0 ∧ (∀ i, L i ≤ L (i + 1)) ∧ (∀ i, L i ≤ hi) ∧
    ∀ i (hi : i < T.length), TabC w g i T[i] (L i) (L (i + 1))
abbrev OwnT (w : World) (lo : Nat) (v : Value) (T : List Tab) : Prop := SegT w lo w.heap.size v T
theorem SegT.of {w : World} {lo : Nat} {v : Value} {T : List Tab} (h : OwnT w lo v T) : SegT w lo w.heap.size v T := h
theorem SegT.row {w : World} {lo hi : Nat} {v : Value} {T : List Tab} (h : SegT w lo hi v T) : TRow w v T := by
  obtain ⟨g, cap, cs, L, rfl, h1, h2, -, -, -, -, -, -, h3⟩ := h
  refine ⟨_, _, rfl, h1, h2, (fun h => by cases h), fun i hi => ⟨g, 0, rfl, ?_⟩⟩
  obtain ⟨c0, c1, A, c, c2, hm⟩ := h3 i hi
  rw [Nat.zero_add]
  exact ⟨c0, c1, A, c, c2, hm.row⟩
theorem L_mono {L : Nat → Nat} (h : ∀ i, L i ≤ L (i + 1)) : ∀ i, L 0 ≤ L i
  | 0 => Nat.le_refl _
  | i + 1 => Nat.le_trans (L_mono h i) (h i)
theorem SegT.below {w w' : World} {lo hi : Nat} {v : Value} {T : List Tab} (h : SegT w lo hi v T) (hb : Below w.heap.size w w') : SegT w' lo hi v T := by
  obtain ⟨g, cap, cs, L, e, h1, h2, y, a1, a2, a3, a4, a5, h3⟩ := h
  have y' := blockB hb y
  exact ⟨g, cap, cs, L, e, h1, h2, y', a1, a2, a3, a4, a5, fun i hi => (h3 i hi).same (y'.trans y.symm) fun v m hm => hm.below hb⟩
theorem SegT.alloc {w : World} {lo hi : Nat} {v : Value} {T : List Tab} (h : SegT w lo hi v T) (o : Obj) : SegT (w.alloc o) lo hi v T := h.below ((Below.refl _ _).alloc (Nat.le_refl _) o)
theorem SegT.within {w w' : World} {lo hi lo2 hi2 : Nat} {v : Value} {T : List Tab} (h : SegT w lo2 hi2 v T) (hw : Within lo hi w w') (hd : hi2 ≤ lo ∨ hi ≤ lo2) : SegT w' lo2 hi2 v T := by
  obtain ⟨g, cap, cs, L, e, h1, h2, y, a1, a2, a3, a4, a5, h3⟩ := h
  have y' := blockW hw (by omega) y
  exact ⟨g, cap, cs, L, e, h1, h2, y', a1, a2, a3, a4, a5, fun i hi => (h3 i hi).same (y'.trans y.symm) fun v m hm => hm.within hw (by have := a5 (i + 1); have := L_mono a4 i; omega)⟩
theorem SegT.wide {w : World} {lo hi lo' hi' : Nat} {v : Value} {T : List Tab} (h : SegT w lo hi v T) (k1 : lo' ≤ lo) (k2 : hi ≤ hi') : SegT w lo' hi' v T := by
  obtain ⟨g, cap, cs, L, e, h1, h2, y, a1, a2, a3, a4, a5, h3⟩ := h
  exact ⟨g, cap, cs, L, e, h1, h2, y, by omega, by omega, a3, a4, fun i => Nat.le_trans (a5 i) k2, h3⟩
theorem ownT_mono {w : World} {B B' : Nat} {v : Value} {T : List Tab} (h : OwnT w B v T) (hB : B' ≤ B) : OwnT w B' v T := SegT.wide h hB (Nat.le_refl _)
theorem segT_store {w w' : World} {lo hi g : Nat} {E : TypeId} {v : Value} {T : List Tab} {cs : Array Value} {fr : Nat × Nat} (h : SegT w lo hi v T) (y : w.heap[g]? = some (.cells cs E fr)) (hE : 60 ≠ E ∧ 22 ≠ E ∧ 3 ≠ E) (hw : Within g (g + 1) w w') : SegT w' lo hi v T := by
  obtain ⟨g2, cap, cs2, L, e, h1, h2, y2, a1, a2, a3, a4, a5, h3⟩ := h
  have hne : g2 ≠ g := by
    rintro rfl
    rw [y2] at y
    simp only [Option.some.injEq, Obj.cells.injEq] at y
    exact hE.1 y.2.1
  have y' := blockW hw (by omega) y2
  exact ⟨g2, cap, cs2, L, e, h1, h2, y', a1, a2, a3, a4, a5, fun i hi => (h3 i hi).same (y'.trans y2.symm) fun v m hm => SegM.store hm y hE.2.1 hE.2.2 hw⟩
/-- The tables [0, k) of T laid in block g. -/
def Laid (w : World) (g k : Nat) (T : List Tab) : Prop :=
  ∃ (cs : Array Value) (L : Nat → Nat), w.heap[g]? = some (.cells cs 60 (0, 0)) ∧ T.length * 3 ≤ cs.size ∧ g < L 0 ∧ (∀ i, L i ≤ L (i + 1)) ∧ (∀ i, L i ≤ w.heap.size) ∧ ∀ i (hi : i < T.length), i < k → TabC w g i T[i] (L i) (L (i + 1))
theorem Laid.done {w : World} {lo g cap : Nat} {T : List Tab} (h : Laid w g T.length T) (h1 : T.length ≤ cap) (h2 : cap ≤ maxLen) (hlo : lo ≤ g) : OwnT w lo (.slice (some ⟨g, 0, none⟩) T.length cap) T := by
  obtain ⟨cs, L, y, -, a3, a4, a5, h3⟩ := h
  exact ⟨g, cap, cs, L, rfl, h1, h2, y, hlo, lt_of_heap y, a3, a4, a5, fun i hi => h3 i hi hi⟩
theorem Laid.put {w0 w : World} {g k : Nat} {T : List Tab} (h : Laid w0 g k T) (hb : Below w0.heap.size w0 w) (hk : k < T.length) {N : List UInt8} {ar : Int} {m : List (List Int)} (ht : T[k] = (N, ar, m)) {A : Option Addr} {c : Nat} (own : OwnM w w0.heap.size (.slice A m.length c) m) :
    Laid (((w.setCell ⟨g, k * 3, none⟩ (.string ⟨N.toArray⟩)).setCell ⟨g, k * 3 + 1, none⟩ (.int .i64 ar)).setCell ⟨g, k * 3 + 2, none⟩ (.slice A m.length c)) g (k + 1) T := by
  obtain ⟨cs, L, y0, hsz, a3, a4, a5, h3⟩ := h
  have y := blockB hb y0
  have y1 := heap_setCell_same w g (k * 3) cs _ (.string ⟨N.toArray⟩) y
  have y2 := heap_setCell_same _ g (k * 3 + 1) _ _ (.int .i64 ar) y1
  have y3 := heap_setCell_same _ g (k * 3 + 2) _ _ (.slice A m.length c) y2
  have keep : ∀ {lo hi : Nat} {v m'}, SegM w lo hi v m' → SegM (((w.setCell ⟨g, k * 3, none⟩ (.string ⟨N.toArray⟩)).setCell ⟨g, k * 3 + 1, none⟩ (.int .i64 ar)).setCell ⟨g, k * 3 + 2, none⟩ (.slice A m.length c)) lo hi v m' := fun {lo hi v m'} h =>
    SegM.setO (SegM.setO (SegM.setO h y (by decide) (by decide) _) y1 (by decide) (by decide) _) y2 (by decide) (by decide) _
  have hs : (((w.setCell ⟨g, k * 3, none⟩ (.string ⟨N.toArray⟩)).setCell ⟨g, k * 3 + 1, none⟩ (.int .i64 ar)).setCell ⟨g, k * 3 + 2, none⟩ (.slice A m.length c)).heap.size = w.heap.size := by simp [World.setCell]
  have hle := hb.size
  refine ⟨_, fun i => if i ≤ k then L i else w.heap.size, y3, by simpa using hsz, by simpa using a3, fun i => ?_, fun i => ?_, fun i hi hik => ?_⟩
  · show (if i ≤ k then L i else w.heap.size) ≤ (if i + 1 ≤ k then L (i + 1) else w.heap.size)
    by_cases h1 : i + 1 ≤ k
    · rw [if_pos (by omega), if_pos h1]; exact a4 i
    · rw [if_neg h1]
      split
      · exact Nat.le_trans (a5 i) hle
      · exact Nat.le_refl _
  · show (if i ≤ k then L i else w.heap.size) ≤ _
    rw [hs]
    split
    · exact Nat.le_trans (a5 i) hle
    · exact Nat.le_refl _
  · show TabC _ g i T[i] (if i ≤ k then L i else w.heap.size) (if i + 1 ≤ k then L (i + 1) else w.heap.size)
    by_cases hi2 : i < k
    · rw [if_pos (by omega), if_pos (by omega)]
      obtain ⟨c0, c1, A2, c', c2, hm⟩ := h3 i hi hi2
      have c0 := (cellAt y (i * 3)).symm.trans (cellB hb c0)
      have c1 := (cellAt y (i * 3 + 1)).symm.trans (cellB hb c1)
      have c2 := (cellAt y (i * 3 + 2)).symm.trans (cellB hb c2)
      refine ⟨?_, ?_, A2, c', ?_, keep (hm.below hb)⟩
      · rw [cellAt y3, Array.getElem?_setIfInBounds_ne (by omega), Array.getElem?_setIfInBounds_ne (by omega), Array.getElem?_setIfInBounds_ne (by omega), c0]
      · rw [cellAt y3, Array.getElem?_setIfInBounds_ne (by omega), Array.getElem?_setIfInBounds_ne (by omega), Array.getElem?_setIfInBounds_ne (by omega), c1]
      · rw [cellAt y3, Array.getElem?_setIfInBounds_ne (by omega), Array.getElem?_setIfInBounds_ne (by omega), Array.getElem?_setIfInBounds_ne (by omega), c2]
    · obtain rfl : i = k := by omega
      rw [if_pos (Nat.le_refl _), if_neg (by omega), ht]
      refine ⟨?_, ?_, A, c, ?_, keep (SegM.wide own (a5 i) (Nat.le_refl _))⟩
      · rw [cellAt y3, Array.getElem?_setIfInBounds_ne (by omega), Array.getElem?_setIfInBounds_ne (by omega), Array.getElem?_setIfInBounds_self_of_lt (by omega)]
      · rw [cellAt y3, Array.getElem?_setIfInBounds_ne (by omega), Array.getElem?_setIfInBounds_self_of_lt (by rw [Array.size_setIfInBounds]; omega)]
      · rw [cellAt y3, Array.getElem?_setIfInBounds_self_of_lt (by rw [Array.size_setIfInBounds, Array.size_setIfInBounds]; omega)]
theorem info_tab : (Try.prog.info? 60).map (fun i => (i.zero, i.size, i.bytes)) = some (some (.agg #[.string ⟨#[]⟩, .int .i64 0, .slice none 0 0]), 3, 48) := by kernel_rfl
theorem wp_make_tabs {w : World} {ops : Array Oper} {rest : List Oper} {o : Oper} {a : Act} {Q : Exit → Act → World → Prop} (hg : o.guard = none) (l c : Operand) (hop : o.op = Op.makeSlice 50 l c)
    (base : Nat) (kl kc : IntKind) (L C : Int) (T : List Tab) (hl : a.eval l = .int kl L) (hc : a.eval c = .int kc C) (hL : L = (T.length : Int)) (hC : C = (T.length : Int)) (hn : T.length ≤ 1099511627776) (hb : base ≤ w.heap.size)
    (hK : ∀ w', Laid w' w.heap.size 0 T → Below base w w' → wpList Try.prog ops Q rest (a.put o.dst (.slice (some ⟨w.heap.size, 0, none⟩) T.length T.length)) w') :
    wpList Try.prog ops Q (o :: rest) a w := by
  obtain ⟨i0, hi, hz0, hz1, hz2⟩ := info_parts info_tab
  refine wpList_make_full w hg l c 50 hop base 60 i0 _ 3 Try.underlying50 hi hz0 hz1 kl kc L C T.length hl hc hL hC (by rw [hz2]; omega) (by unfold maxLen; omega) hb ?_
  intro w' hown hgr
  refine hK w' ?_ ((Below.refl base w).grown hgr hb (fun k hk => by cases hk))
  rcases hown.2 with ⟨h1, -⟩ | ⟨g, cap, cur, h1, -, hh, -, -, hcs, -⟩
  · cases h1
  · simp only [Value.slice.injEq, Option.some.injEq, Addr.mk.injEq, and_true, true_and] at h1
    obtain ⟨h1, h2⟩ := h1
    subst h1
    subst h2
    have hlt := lt_of_heap hh
    exact ⟨cur, fun _ => w'.heap.size, hh, by omega, hlt, fun _ => Nat.le_refl _, fun _ => Nat.le_refl _, fun i _ h => absurd h (Nat.not_lt_zero _)⟩
theorem setS1 {w : World} {g : Nat} {x : Value} {T : TypeId} (h : w.heap[g]? = some (.cells #[x] T (0, 0))) (u : Value) : (w.setCell ⟨g, 0, none⟩ u).heap[g]? = some (.cells #[u] T (0, 0)) := heap_setCell_same w g 0 #[x] T u h
theorem within_set (w : World) (g j : Nat) (u : Value) : Within g (g + 1) w (w.setCell ⟨g, j, none⟩ u) := ⟨rfl, rfl, rfl, by simp [World.setCell], fun k _ hk => Below.heap_setCell w ⟨g, j, none⟩ u k (by show k ≠ g; omega)⟩
theorem s3_0 {w : World} {g : Nat} {x y z : Value} {T : TypeId} (h : w.heap[g]? = some (.cells #[x, y, z] T (0, 0))) (u : Value) : (w.setCell ⟨g, 0, none⟩ u).heap[g]? = some (.cells #[u, y, z] T (0, 0)) := heap_setCell_same w g 0 #[x, y, z] T u h
theorem s3_1 {w : World} {g : Nat} {x y z : Value} {T : TypeId} (h : w.heap[g]? = some (.cells #[x, y, z] T (0, 0))) (u : Value) : (w.setCell ⟨g, 1, none⟩ u).heap[g]? = some (.cells #[x, u, z] T (0, 0)) := heap_setCell_same w g 1 #[x, y, z] T u h
theorem s3_2 {w : World} {g : Nat} {x y z : Value} {T : TypeId} (h : w.heap[g]? = some (.cells #[x, y, z] T (0, 0))) (u : Value) : (w.setCell ⟨g, 2, none⟩ u).heap[g]? = some (.cells #[x, y, u] T (0, 0)) := heap_setCell_same w g 2 #[x, y, z] T u h
theorem res_tab {fn : Func} {t : Tmp} (h : fn.results = #[.cell t 60]) {tmps : Array Value} {k : Nat} (ht : tmps[t]? = some (.pointer (some ⟨k, 0, none⟩))) {w : World} {a b c : Value} (y : w.heap[k]? = some (.cells #[a, b, c] 60 (0, 0))) :
    (results fn tmps).run Try.prog w = .ok (.agg #[a, b, c]) w := by
  have r0 := cellAt y 0
  have r1 := cellAt y 1
  have r2 := cellAt y 2
  simp at r0 r1 r2
  simp [results, h, go_sem, ht, r0, r1, r2]
theorem res_db {fn : Func} {t : Tmp} (h : fn.results = #[.cell t 52]) {tmps : Array Value} {k : Nat} (ht : tmps[t]? = some (.pointer (some ⟨k, 0, none⟩))) {w : World} {a : Value} (y : w.heap[k]? = some (.cells #[a] 52 (0, 0))) :
    (results fn tmps).run Try.prog w = .ok (.agg #[a]) w := by
  have r0 := cellAt y 0
  simp at r0
  simp [results, h, go_sem, ht, r0]
theorem toTab_law (N : List UInt8) (ar : Int) (v : Value) (m : List (List Int)) (w : World) (hv : MRow w v m) (hl : m.length + total m ≤ 1048576) :
    Calls Try.prog 148 #[.agg #[.string ⟨N.toArray⟩, .int .i64 ar, v]] w (fun e w' => ∃ A c, e = .returned (.agg #[.string ⟨N.toArray⟩, .int .i64 ar, .slice A m.length c]) ∧ OwnM w' w.heap.size (.slice A m.length c) m ∧ Below w.heap.size w w') := by
  have y2 := heapN (heap_new1 w (.cells #[.string ⟨N.toArray⟩, .int .i64 ar, v] 128) (.cells #[.string ⟨#[]⟩, .int .i64 0, .slice none 0 0] 60)) (.cells #[.string ⟨N.toArray⟩, .int .i64 0, .slice none 0 0] 60)
  have y3 := heap_new2 w (.cells #[.string ⟨N.toArray⟩, .int .i64 ar, v] 128) (.cells #[.string ⟨#[]⟩, .int .i64 0, .slice none 0 0] 60) (.cells #[.string ⟨N.toArray⟩, .int .i64 0, .slice none 0 0] 60)
  have hB : Below w.heap.size w (((w.alloc (.cells #[.string ⟨N.toArray⟩, .int .i64 ar, v] 128)).alloc (.cells #[.string ⟨#[]⟩, .int .i64 0, .slice none 0 0] 60)).alloc (.cells #[.string ⟨N.toArray⟩, .int .i64 0, .slice none 0 0] 60)) := (((Below.refl _ _).alloc (Nat.le_refl _) _).alloc (by simp) _).alloc (by simp; omega) _
  have k1 := toRel_law v ar m _ (hv.below hB) hl
  obtain ⟨A, c, rfl⟩ := MRow.opened hv
  have Hhv := Lib.hid hv; clear hv
  go_enter Try.func148, Try.ntmps148
  go_wp2_with (go_at_call 65; ((with_reducible refine (k1).mono ?_); rintro e w1 ⟨A', c', rfl, hown, hb⟩; (replace y2 := blockB hb y2; replace y3 := blockB hb y3; replace hB := below_tr hB hb; have l3 := lt_of_heap y3; have t0 := cellAt y3 0; have t1 := cellAt y3 1; have t2 := cellAt y3 2; have f1 := frozen0 (j := 1) y3; have f2 := frozen0 (j := 2) y3; have u0 := cellAt y2 0; have u1 := cellAt y2 1; have u2 := cellAt y2 2; have p0 := frozen0 (j := 0) y2; have p1 := frozen0 (j := 1) y2; have p2 := frozen0 (j := 2) y2; have hle : w.heap.size + 2 ≤ w1.heap.size := (by omega))))
  have z2 := setO (g := w.heap.size + 1 + 1) (j := 2) (by omega) (setO (g := w.heap.size + 1 + 1) (j := 1) (by omega) y2 (.int .i64 ar)) (.slice A' m.length c')
  have x3 := s3_1 y3 (.int .i64 ar)
  have z3 := s3_0 z2 (.string ⟨N.toArray⟩)
  have z4 := s3_1 z3 (.int .i64 ar)
  have h1 := SegM.setO (j := 1) hown y3 (by decide) (by decide) (.int .i64 ar)
  have h2 := SegM.setO (j := 2) h1 x3 (by decide) (by decide) (.slice A' m.length c')
  have h3 := SegM.setO (j := 0) h2 z2 (by decide) (by decide) (.string ⟨N.toArray⟩)
  have h4 := SegM.setO (j := 1) h3 z3 (by decide) (by decide) (.int .i64 ar)
  have h5 := SegM.setO (j := 2) h4 z4 (by decide) (by decide) (.slice A' m.length c')
  refine bodyPost_ret (res_tab rfl rfl (s3_2 z4 _)) rfl ⟨_, _, rfl, SegM.wide h5 (by simp; omega) (by simp [World.setCell]), ?_⟩
  exact ((((hB.setCell (p := ⟨w.heap.size + 1 + 1, 1, none⟩) (by show w.heap.size ≤ w.heap.size + 1 + 1; omega) _).setCell (p := ⟨w.heap.size + 1 + 1, 2, none⟩) (by show w.heap.size ≤ w.heap.size + 1 + 1; omega) _).setCell (p := ⟨w.heap.size + 1, 0, none⟩) (Nat.le_succ _) _).setCell (p := ⟨w.heap.size + 1, 1, none⟩) (Nat.le_succ _) _).setCell (p := ⟨w.heap.size + 1, 2, none⟩) (Nat.le_succ _) _
theorem tsz_mem : ∀ {T : List Tab} {t : Tab} (_ : t ∈ T), tsz1 t ≤ tsz T
  | a :: T, t, h => by
    have e : tsz (a :: T) = tsz1 a + tsz T := by simp [tsz]
    rcases List.mem_cons.1 h with rfl | h
    · omega
    · have := tsz_mem h; omega
theorem toTabs_law (v : Value) (T : List Tab) (w : World) (hv : TRow w v T) (hl : T.length + tsz T ≤ 1048576) :
    Calls Try.prog 121 #[v] w (fun e w' => ∃ A c, e = .returned (.slice A T.length c) ∧ OwnT w' w.heap.size (.slice A T.length c) T ∧ Below w.heap.size w w') := by
  obtain ⟨A, c, rfl⟩ := TRow.opened hv
  have Hhv := Lib.hid hv; clear hv
  go_enter Try.func121, Try.ntmps121
  go_wp2_with (at_make; go_must (refine wp_make_tabs rfl _ _ rfl w.heap.size .i64 .i64 _ _ T rfl rfl rfl rfl (by omega) (Nat.le_refl _) ?_; intro w1 hown hb1))
  go_loopw [4] (fun i wr => ∃ k : Nat, i = .int .i64 k ∧ k ≤ T.length ∧ Laid wr w.heap.size k T ∧ Below w.heap.size w wr) (fun i _ => T.length - (intOf i).toNat)
  case atStart => exact ⟨0, rfl, Nat.zero_le _, hown, hb1⟩
  case round =>
    clear hown
    obtain ⟨k, rfl, hk, hown, hb⟩ := hrel
    by_cases hlt : k < T.length
    · have g0 : (k : Int) < (T.length : Int) := by omega
      obtain ⟨b, off, rfl, c0, c1, A1, q1, c2, hm1⟩ := TRow.at (Hhv.out.below hb) k hlt
      have hsz := tsz_mem (List.getElem_mem hlt)
      obtain ⟨t, ht⟩ : ∃ t, T[k] = t := ⟨_, rfl⟩
      rw [ht] at c0 c1 c2 hm1 hsz
      obtain ⟨N, ar, m⟩ := t
      unfold tsz1 at hsz
      simp only at c0 c1 c2 hm1 hsz
      replace c0 : wr.cell? ⟨b, off + k * 3, none⟩ = some (.string ⟨N.toArray⟩) := c0
      have hml : m.length + total m ≤ 1048576 := by omega
      have k1 := fun W h => toTab_law N ar (.slice A1 m.length q1) m W h hml
      obtain ⟨cs, L, y, hcs, -⟩ := id hown
      have Hhm1 := Lib.hid hm1; clear hm1; have Hht := Lib.hid ht; clear ht; have Hk1 := Lib.hid k1; clear k1; have Hhsz := Lib.hid hsz; clear hsz; have Hhml := Lib.hid hml; clear hml
      go_wp2_with (go_at_call 148; ((with_reducible refine (Hk1.out _ Hhm1.out).mono ?_); rintro e w2 ⟨A2, q2, rfl, own2, hb2⟩; (have y2 := blockB hb2 y; have d0 := frozen0 (j := k * 3) y2; have d1 := frozen0 (j := k * 3 + 1) y2; have d2 := frozen0 (j := k * 3 + 2) y2; have e0 := (cellAt y2 (k * 3)).trans (Array.getElem?_eq_getElem (show k * 3 < cs.size by omega)); have e1 := (cellAt y2 (k * 3 + 1)).trans (Array.getElem?_eq_getElem (show k * 3 + 1 < cs.size by omega)); have e2 := (cellAt y2 (k * 3 + 2)).trans (Array.getElem?_eq_getElem (show k * 3 + 2 < cs.size by omega)); have h3 := Laid.put hown hb2 hlt Hht.out own2; clear y y2)))
      go_roundw
      case rel => exact ⟨k + 1, by go_num, by omega, h3, (((hb.trans (hb2.mono hb.size)).setCell (p := ⟨w.heap.size, k * 3, none⟩) (Nat.le_refl _) _).setCell (p := ⟨w.heap.size, k * 3 + 1, none⟩) (Nat.le_refl _) _).setCell (p := ⟨w.heap.size, k * 3 + 2, none⟩) (Nat.le_refl _) _⟩
      case measure => simp [intOf] <;> omega
    · obtain rfl : k = T.length := by omega
      have g0 : ¬ (T.length : Int) < (T.length : Int) := by omega
      have Hhown := Lib.hid hown; clear hown
      go_wp2_with fail
      go_ret
      exact ⟨_, _, rfl, Hhown.out.done (Nat.le_refl _) (by unfold maxLen; omega) (Nat.le_refl _), hb⟩
theorem toDb_law (v : Value) (T : List Tab) (w : World) (hv : TRow w v T) (hl : T.length + tsz T ≤ 1048576) :
    Calls Try.prog 61 #[.agg #[v]] w (fun e w' => ∃ A c, e = .returned (.agg #[.slice A T.length c]) ∧ OwnT w' w.heap.size (.slice A T.length c) T ∧ Below w.heap.size w w') := by
  have y2 := heapN (heap_new1 w (.cells #[v] 64) (.cells #[.slice none 0 0] 52)) (.cells #[.slice none 0 0] 52)
  have y3 := heap_new2 w (.cells #[v] 64) (.cells #[.slice none 0 0] 52) (.cells #[.slice none 0 0] 52)
  have hB : Below w.heap.size w (((w.alloc (.cells #[v] 64)).alloc (.cells #[.slice none 0 0] 52)).alloc (.cells #[.slice none 0 0] 52)) := (((Below.refl _ _).alloc (Nat.le_refl _) _).alloc (by simp) _).alloc (by simp; omega) _
  have k1 := toTabs_law v T _ (hv.below hB) hl
  obtain ⟨A, c, rfl⟩ := TRow.opened hv
  have Hhv := Lib.hid hv; clear hv
  go_enter Try.func61, Try.ntmps61
  go_wp2_with (go_at_call 121; ((with_reducible refine (k1).mono ?_); rintro e w1 ⟨A', c', rfl, hown, hb⟩; (replace y2 := blockB hb y2; replace y3 := blockB hb y3; replace hB := below_tr hB hb; have l3 := lt_of_heap y3; have t0 := cellAt y3 0; have f1 := frozen0 (j := 0) y3; have u0 := cellAt y2 0; have p0 := frozen0 (j := 0) y2; have hle : w.heap.size + 2 ≤ w1.heap.size := (by omega))))
  have z2 := setO (g := w.heap.size + 1 + 1) (j := 0) (by omega) y2 (.slice A' T.length c')
  have q1 : Within (w.heap.size + 1 + 1) (w.heap.size + 1 + 1 + 1) w1 (w1.setCell ⟨w.heap.size + 1 + 1, 0, none⟩ (.slice A' T.length c')) := within_set w1 _ 0 _
  have q2 : Within (w.heap.size + 1) (w.heap.size + 1 + 1) (w1.setCell ⟨w.heap.size + 1 + 1, 0, none⟩ (.slice A' T.length c')) ((w1.setCell ⟨w.heap.size + 1 + 1, 0, none⟩ (.slice A' T.length c')).setCell ⟨w.heap.size + 1, 0, none⟩ (.slice A' T.length c')) := within_set _ _ 0 _
  have h1 := segT_store hown y3 (by decide) q1
  have h2 := segT_store h1 z2 (by decide) q2
  refine bodyPost_ret (res_db rfl rfl (setS1 z2 _)) rfl ⟨_, _, rfl, SegT.wide h2 (by simp; omega) (by simp [World.setCell]), ?_⟩
  exact (hB.setCell (p := ⟨w.heap.size + 1 + 1, 0, none⟩) (by show w.heap.size ≤ w.heap.size + 1 + 1; omega) _).setCell (p := ⟨w.heap.size + 1, 0, none⟩) (Nat.le_succ _) _
def Fact.db (B : Nat) (T : List Tab) : Fact :=
  ⟨fun v w => ∃ A c, v = .agg #[.slice A T.length c] ∧ OwnT w B (.slice A T.length c) T, fun _ _ _ ⟨A, c, h1, h2⟩ hb => ⟨A, c, h1, SegT.wide (SegT.below h2 hb) (Nat.le_refl _) hb.size⟩⟩
end Go.Proofs.Ytbajnecahojcfaa
