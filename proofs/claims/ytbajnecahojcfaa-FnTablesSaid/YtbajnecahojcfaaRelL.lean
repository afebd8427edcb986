/- What the laws do with relations: copied, measured, compared, marked, held; results that lie in cells. -/
import Derived.Test.YtbajnecahojcfaaMatL
namespace Go.Proofs.Ytbajnecahojcfaa
open Go.RowKit Go.Sort
set_option maxHeartbeats 1000000
set_option maxRecDepth 100000

theorem res_rel {fn : Func} {t : Tmp} (h : fn.results = #[.cell t 44]) {tmps : Array Value} {k : Nat} (ht : tmps[t]? = some (.pointer (some ⟨k, 0, none⟩))) {w : World} {a b : Value} (y : w.heap[k]? = some (.cells #[a, b] 44 (0, 0))) :
    (results fn tmps).run Try.prog w = .ok (.agg #[a, b]) w := by
  have r0 := cellAt y 0
  have r1 := cellAt y 1
  simp at r0 r1
  simp [results, h, go_sem, ht, r0, r1]
theorem res_rel_tmp {fn : Func} {t u : Tmp} (h : fn.results = #[.cell t 44, .tmp u]) {tmps : Array Value} {k : Nat} (ht : tmps[t]? = some (.pointer (some ⟨k, 0, none⟩))) {x : Value} (hu : tmps[u]? = some x) {w : World} {a b : Value} (y : w.heap[k]? = some (.cells #[a, b] 44 (0, 0))) :
    (results fn tmps).run Try.prog w = .ok (.tuple #[.agg #[a, b], x]) w := by
  have r0 := cellAt y 0
  have r1 := cellAt y 1
  simp at r0 r1
  simp [results, h, go_sem, ht, hu, r0, r1]
/-- A relation's rows are stored to in no other block: a store into a block of another type. -/
theorem own_set_other {w : World} {lo size n g j : Nat} {e T : TypeId} {v : Value} {xs : List Value} {cs : Array Value} {fr : Nat × Nat} (h : w.ownsRow lo e size v n xs) (y : w.heap[g]? = some (.cells cs T fr)) (hT : e ≠ T) (u : Value) : (w.setCell ⟨g, j, none⟩ u).ownsRow lo e size v n xs := by
  refine own_grown_ne h (grown_set1 w g j u) fun b hb hg => ?_
  obtain rfl : g = b := Option.some.inj hg
  rcases h.2 with ⟨rfl, _⟩ | ⟨k, cap, cur, rfl, _, hh, _⟩
  · cases hb
  · simp only [Value.ownBlock, Option.some.injEq] at hb
    subst hb
    rw [hh] at y
    simp only [Option.some.injEq, Obj.cells.injEq] at y
    exact hT y.2.1
theorem SegM.setO {w : World} {lo hi g j : Nat} {T : TypeId} {v : Value} {m : List (List Int)} {cs : Array Value} {fr : Nat × Nat} (h : SegM w lo hi v m) (y : w.heap[g]? = some (.cells cs T fr)) (hT : 22 ≠ T) (hT2 : 3 ≠ T) (u : Value) : SegM (w.setCell ⟨g, j, none⟩ u) lo hi v m := by
  obtain ⟨ps, h1, h2, h3, h4⟩ := h
  exact ⟨ps, h1, own_set_other h2 y hT u, h3, fun p hp => ⟨own_set_other (h4.1 p hp).1 y hT2 u, (h4.1 p hp).2⟩, h4.2⟩
theorem SegM.store {w w' : World} {lo hi g : Nat} {T : TypeId} {v : Value} {m : List (List Int)} {cs : Array Value} {fr : Nat × Nat} (h : SegM w lo hi v m) (y : w.heap[g]? = some (.cells cs T fr)) (hT : 22 ≠ T) (hT2 : 3 ≠ T) (hw : Within g (g + 1) w w') : SegM w' lo hi v m := by
  have hg : w.grownBy w' (some g) := ⟨hw.os, hw.tape, hw.output, hw.size, fun k hk hr => hw.block k hk (by
    rcases Nat.lt_trichotomy k g with h | h | h
    · exact .inl h
    · exact absurd (by rw [h]) hr
    · exact .inr h)⟩
  have keep : ∀ {lo2 size n : Nat} {e : TypeId} {u : Value} {xs : List Value}, e ≠ T → w.ownsRow lo2 e size u n xs → w'.ownsRow lo2 e size u n xs := fun {lo2 size n e u xs} hne ho => by
    refine own_grown_ne ho hg fun b hb hg => ?_
    obtain rfl : g = b := Option.some.inj hg
    rcases ho.2 with ⟨rfl, _⟩ | ⟨k, cap, cur, rfl, _, hh, _⟩
    · cases hb
    · simp only [Value.ownBlock, Option.some.injEq] at hb
      subst hb
      rw [hh] at y
      simp only [Option.some.injEq, Obj.cells.injEq] at y
      exact hne y.2.1
  obtain ⟨ps, h1, h2, h3, h4⟩ := h
  exact ⟨ps, h1, keep hT h2, h3, fun p hp => ⟨keep hT2 (h4.1 p hp).1, (h4.1 p hp).2⟩, h4.2⟩
/-- What a function that hands back a relation leaves. -/
def RetM (ar : Int) (m : List (List Int)) (w : World) (e : Ending) (w' : World) : Prop := ∃ A c, e = .returned (.agg #[.int .i64 ar, .slice A m.length c]) ∧ OwnM w' w.heap.size (.slice A m.length c) m ∧ Below w.heap.size w w'
def RetMB (ar : Int) (m : List (List Int)) (ok : Bool) (w : World) (e : Ending) (w' : World) : Prop := ∃ A c, e = .returned (.tuple #[.agg #[.int .i64 ar, .slice A m.length c], .bool ok]) ∧ OwnM w' w.heap.size (.slice A m.length c) m ∧ Below w.heap.size w w'
theorem eqRel_law (a b : Value) (ar : Int) (m : List (List Int)) (w : World) (ha : MRow w a m) (hb : MRow w b m) : Calls Try.prog 48 #[.agg #[.int .i64 ar, a], .agg #[.int .i64 ar, b]] w (RetB (.bool true) w) := by
  have k1 := eqMat_law a b m _ ((ha.alloc (.cells #[.int .i64 ar, a] 44)).alloc (.cells #[.int .i64 ar, b] 44)) ((hb.alloc (.cells #[.int .i64 ar, a] 44)).alloc (.cells #[.int .i64 ar, b] 44))
  have hB : Below w.heap.size w ((w.alloc (.cells #[.int .i64 ar, a] 44)).alloc (.cells #[.int .i64 ar, b] 44)) := ((Below.refl _ _).alloc (Nat.le_refl _) _).alloc (by simp) _
  obtain ⟨A, c, rfl⟩ := MRow.opened ha
  obtain ⟨A', c', rfl⟩ := MRow.opened hb
  clear ha hb
  have Hk1 := Lib.hid k1; clear k1
  go_enter Try.func48, Try.ntmps48
  go_wp2_with (go_at_call 86; ((with_reducible refine (Hk1.out).mono ?_); rintro e w1 ⟨rfl, hb1⟩))
  go_ret
  exact ⟨rfl, below_tr hB hb1⟩
theorem szRel_l (v : Value) (ar : Int) (m : List (List Int)) (left : Int) (w : World) (hv : MRow w v m) (hl : 0 ≤ left ∧ left ≤ 1048576) :
    Calls Try.prog 64 #[.agg #[.int .i64 ar, v], .int .i64 left] w (RetB (.int .i64 (szM m left)) w) := by
  have k1 := szMat_l v m left _ (hv.alloc (.cells #[.int .i64 ar, v] 69)) hl
  obtain ⟨A, c, rfl⟩ := MRow.opened hv
  clear hv
  by_cases h : (m.length + total m : Int) ≤ left
  · have e : szM m left = left - (m.length + total m : Int) := if_pos h
    rw [e] at k1 ⊢
    have d1 : decide (left - ((m.length : Int) + (total m : Int)) < 0) = false := by rw [decide_eq_false_iff_not]; omega
    have d2 : decide (left < (m.length : Int) + (total m : Int)) = false := by rw [decide_eq_false_iff_not]; omega
    have Hk1 := Lib.hid k1; clear k1; have He := Lib.hid e; clear e
    go_enter Try.func64, Try.ntmps64
    go_wp2_with (go_at_call 84; ((with_reducible refine (Hk1.out).mono ?_); rintro e w1 ⟨rfl, rfl⟩))
    go_ret
    exact ⟨rfl, (Below.refl _ _).alloc (Nat.le_refl _) _⟩
  · have e : szM m left = -1 := if_neg h
    rw [e] at k1 ⊢
    have Hk1 := Lib.hid k1; clear k1; have He := Lib.hid e; clear e
    go_enter Try.func64, Try.ntmps64
    go_wp2_with (go_at_call 84; ((with_reducible refine (Hk1.out).mono ?_); rintro e w1 ⟨rfl, rfl⟩))
    go_ret
    exact ⟨rfl, (Below.refl _ _).alloc (Nat.le_refl _) _⟩
theorem szRel_yes (v : Value) (ar : Int) (m : List (List Int)) (left : Int) (w : World) (hv : MRow w v m) (hl : 0 ≤ left ∧ left ≤ 1048576) (h : (m.length + total m : Int) ≤ left) : Calls Try.prog 64 #[.agg #[.int .i64 ar, v], .int .i64 left] w (RetB (.int .i64 (left - (m.length + total m : Int))) w) := by
  have := szRel_l v ar m left w hv hl
  rwa [show szM m left = left - (m.length + total m : Int) from if_pos h] at this
theorem szRel_no (v : Value) (ar : Int) (m : List (List Int)) (left : Int) (w : World) (hv : MRow w v m) (hl : 0 ≤ left ∧ left ≤ 1048576) (h : ¬ (m.length + total m : Int) ≤ left) : Calls Try.prog 64 #[.agg #[.int .i64 ar, v], .int .i64 left] w (RetB (.int .i64 (-1)) w) := by
  have := szRel_l v ar m left w hv hl
  rwa [show szM m left = -1 from if_neg h] at this
theorem szMat_yes (v : Value) (m : List (List Int)) (left : Int) (w : World) (hv : MRow w v m) (hl : 0 ≤ left ∧ left ≤ 1048576) (h : (m.length + total m : Int) ≤ left) : Calls Try.prog 84 #[v, .int .i64 left] w (RetB (.int .i64 (left - (m.length + total m : Int))) w) := by
  have := szMat_l v m left w hv hl
  rw [show szM m left = left - (m.length + total m : Int) from if_pos h] at this
  exact this.mono fun _ _ ⟨h1, h2⟩ => ⟨h1, h2 ▸ Below.refl _ _⟩
theorem szMat_no (v : Value) (m : List (List Int)) (left : Int) (w : World) (hv : MRow w v m) (hl : 0 ≤ left ∧ left ≤ 1048576) (h : ¬ (m.length + total m : Int) ≤ left) : Calls Try.prog 84 #[v, .int .i64 left] w (RetB (.int .i64 (-1)) w) := by
  have := szMat_l v m left w hv hl
  rw [show szM m left = -1 from if_neg h] at this
  exact this.mono fun _ _ ⟨h1, h2⟩ => ⟨h1, h2 ▸ Below.refl _ _⟩
theorem markMat_law (v : Value) (m : List (List Int)) (k : Int) (lo hi : Nat) (w : World) (hv : SegM w lo hi v m) (hk : 0 ≤ k ∧ k + total m ≤ 1099511627776) (hm : m.length ≤ 1099511627776) :
    Calls Try.prog 87 #[v, .int .i64 k] w (fun e w' => e = .returned (.int .i64 (k + total m)) ∧ SegM w' lo hi v (mmarks k.toNat m) ∧ Within lo hi w w') := by
  obtain ⟨n, rfl⟩ := Int.eq_ofNat_of_zero_le hk.1
  refine (markMat_l v m n lo hi w hv (by omega) hm).mono fun e w' ⟨h1, h2, h3⟩ => ⟨h1.trans (ret_int (by omega)), h2, h3⟩
theorem markRel_law (v : Value) (ar : Int) (m : List (List Int)) (k : Int) (lo hi : Nat) (w : World) (hv : SegM w lo hi v m) (hk : 0 ≤ k ∧ k + total m ≤ 1099511627776) (hm : m.length ≤ 1099511627776) :
    Calls Try.prog 49 #[.agg #[.int .i64 ar, v], .int .i64 k] w (fun e w' => e = .returned (.int .i64 (k + total m)) ∧ SegM w' lo hi v (mmarks k.toNat m) ∧ Within lo hi w w') := by
  have k1 := markMat_law v m k lo hi _ (hv.alloc (.cells #[.int .i64 ar, v] 44)) hk hm
  have hg : Within lo hi w (w.alloc (.cells #[.int .i64 ar, v] 44)) := Within.of_below ((Below.refl _ _).alloc (Nat.le_refl _) _)
  obtain ⟨A, c, e⟩ := MRow.opened hv.row
  subst e
  have Hk1 := Lib.hid k1; clear k1; have Hhv := Lib.hid hv; clear hv; have Hhg := Lib.hid hg; clear hg
  go_enter Try.func49, Try.ntmps49
  go_wp2_with (go_at_call 87; ((with_reducible refine (Hk1.out).mono ?_); rintro e w1 ⟨rfl, hown, hg1⟩))
  go_ret
  exact ⟨rfl, hown, Hhg.out.trans hg1⟩
theorem heldMat_law (v : Value) (k : Int) (m : List (List Int)) (w : World) (hv : MRow w v (mmarks k.toNat m)) (hk : 0 ≤ k ∧ k + total m ≤ 1099511627776) :
    Calls Try.prog 111 #[v, .int .i64 k] w (RetB (.int .i64 (k + total m)) w) := by
  obtain ⟨n, rfl⟩ := Int.eq_ofNat_of_zero_le hk.1
  refine (heldMat_l v n m w hv (by omega)).mono fun e w' ⟨h1, h2⟩ => ⟨h1.trans (ret_int (by omega)), h2⟩
theorem heldRel_law (v : Value) (ar : Int) (k : Int) (m : List (List Int)) (w : World) (hv : MRow w v (mmarks k.toNat m)) (hk : 0 ≤ k ∧ k + total m ≤ 1099511627776) :
    Calls Try.prog 50 #[.agg #[.int .i64 ar, v], .int .i64 k] w (RetB (.int .i64 (k + total m)) w) := by
  have k1 := heldMat_law v k m _ (hv.alloc (.cells #[.int .i64 ar, v] 44)) hk
  have hB : Below w.heap.size w (w.alloc (.cells #[.int .i64 ar, v] 44)) := (Below.refl _ _).alloc (Nat.le_refl _) _
  obtain ⟨A, c, rfl⟩ := MRow.opened hv
  have d1 : decide (k + (total m : Int) < 0) = false := by rw [decide_eq_false_iff_not]; omega
  have d2 : ¬ k + (total m : Int) < 0 := by omega
  have Hk1 := Lib.hid k1; clear k1; have Hhv := Lib.hid hv; clear hv; have HhB := Lib.hid hB; clear hB
  go_enter Try.func50, Try.ntmps50
  go_wp2_with (go_at_call 111; ((with_reducible refine (Hk1.out).mono ?_); rintro e w1 ⟨rfl, hb1⟩))
  go_ret
  exact ⟨rfl, below_tr HhB.out hb1⟩
theorem toRel_law (v : Value) (ar : Int) (m : List (List Int)) (w : World) (hv : MRow w v m) (hl : m.length + total m ≤ 1048576) :
    Calls Try.prog 65 #[.agg #[.int .i64 ar, v]] w (RetM ar m w) := by
  have y2 := heapN (heap_new1 w (.cells #[.int .i64 ar, v] 69) (.cells #[.int .i64 0, .slice none 0 0] 44)) (.cells #[.int .i64 ar, .slice none 0 0] 44)
  have y3 := heap_new2 w (.cells #[.int .i64 ar, v] 69) (.cells #[.int .i64 0, .slice none 0 0] 44) (.cells #[.int .i64 ar, .slice none 0 0] 44)
  have hB : Below w.heap.size w (((w.alloc (.cells #[.int .i64 ar, v] 69)).alloc (.cells #[.int .i64 0, .slice none 0 0] 44)).alloc (.cells #[.int .i64 ar, .slice none 0 0] 44)) := (((Below.refl _ _).alloc (Nat.le_refl _) _).alloc (by simp) _).alloc (by simp; omega) _
  have k1 := toMat_law v m _ (hv.below hB) hl
  obtain ⟨A, c, rfl⟩ := MRow.opened hv
  have Hhv := Lib.hid hv; clear hv
  go_enter Try.func65, Try.ntmps65
  go_wp2_with (go_at_call 85; ((with_reducible refine (k1).mono ?_); rintro e w1 ⟨A', c', rfl, hown, hb⟩; (replace y2 := blockB hb y2; replace y3 := blockB hb y3; replace hB := below_tr hB hb; have l3 := lt_of_heap y3; have t0 := cellAt y3 0; have t1 := cellAt y3 1; have t2 := frozen0 (j := 1) y3; have u0 := cellAt y2 0; have u1 := frozen0 (j := 0) y2; have u2 := frozen0 (j := 1) y2; have u3 := cellAt y2 1; have r0 := setCell_at t1 rfl; have hle : w.heap.size + 2 ≤ w1.heap.size := (by omega))))
  have z2 := setO (g := w.heap.size + 1 + 1) (j := 1) (by omega) y2 (.slice A' m.length c')
  have z3 := set0 z2 (.int .i64 ar)
  have h1 := SegM.setO (j := 1) hown y3 (by decide) (by decide) (.slice A' m.length c')
  have h2 := SegM.setO (j := 0) h1 z2 (by decide) (by decide) (.int .i64 ar)
  have h3 := SegM.setO (j := 1) h2 z3 (by decide) (by decide) (.slice A' m.length c')
  refine bodyPost_ret (res_rel rfl rfl (set1 z3 _)) rfl ⟨_, _, rfl, SegM.wide h3 (by simp; omega) (by simp [World.setCell]), ?_⟩
  exact ((hB.setCell (p := ⟨w.heap.size + 1 + 1, 1, none⟩) (by show w.heap.size ≤ w.heap.size + 1 + 1; omega) _).setCell (p := ⟨w.heap.size + 1, 0, none⟩) (Nat.le_succ _) _).setCell (p := ⟨w.heap.size + 1, 1, none⟩) (Nat.le_succ _) _
end Go.Proofs.Ytbajnecahojcfaa
