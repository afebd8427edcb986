/- The draw of any relation. -/
import Derived.Test.YtbajnecahojcfaaDrawT
import Derived.Lib.MinMax
namespace Go.Proofs.Ytbajnecahojcfaa
open Go.RowKit Go.Sort
set_option maxHeartbeats 4000000
set_option maxRecDepth 100000
def AnyR (a : Int) (m : List (List Int)) : Prop := (-1 ≤ a ∧ a ≤ 6) ∧ m.length ≤ 7 ∧ ∀ r ∈ m, r.length ≤ 6
theorem rel_any {a : Int} {m : List (List Int)} (h : relOk a m = true) (hl : (m.length : Int) ≤ 6) : AnyR a m := by
  obtain ⟨a1, a2, a3, a4⟩ := relOk_iff.1 h
  exact ⟨by omega, by omega, fun r hr => by have := (a3 r hr).1; omega⟩
theorem rel_end {P : Int → List (List Int) → Prop} {g R lo hi : Nat} {w W : World} {a : Int} {m : List (List Int)} {A : Option Addr} {c : Nat} (y : W.heap[R]? = some (.cells #[.int .i64 0, .slice none 0 0] 44 (0, 0))) (hR : w.heap.size ≤ R) (hg : g < R) (hP : P a m) (hown : SegM W lo hi (.slice A m.length c) m) (hlo : w.heap.size ≤ lo) (hhi : hi ≤ W.heap.size) (hc : Cur W g) (hG : w.grownBy W (some g)) :
    RelG P g w (.returned (.agg #[.int .i64 a, .slice A m.length c])) ((W.setCell ⟨R, 0, none⟩ (.int .i64 a)).setCell ⟨R, 1, none⟩ (.slice A m.length c)) := by
  have oa := SegM.setO (j := 0) hown y (by decide) (by decide) (.int .i64 a)
  have ob := SegM.setO (j := 1) oa (set0 y (.int .i64 a)) (by decide) (by decide) (.slice A m.length c)
  exact relG_of rfl hP (ob.wide hlo (by simpa [World.setCell] using hhi)) ((hc.set hg _).set hg _) (grown_new (grown_new hG hR _) hR _)
theorem rel_endN {P : Int → List (List Int) → Prop} {g R lo hi n : Nat} {w W : World} {a : Int} {m : List (List Int)} {A : Option Addr} {c : Nat} (hn : m.length = n) (y : W.heap[R]? = some (.cells #[.int .i64 0, .slice none 0 0] 44 (0, 0))) (hR : w.heap.size ≤ R) (hg : g < R) (hP : P a m) (hown : SegM W lo hi (.slice A n c) m) (hlo : w.heap.size ≤ lo) (hhi : hi ≤ W.heap.size) (hc : Cur W g) (hG : w.grownBy W (some g)) :
    RelG P g w (.returned (.agg #[.int .i64 a, .slice A n c])) ((W.setCell ⟨R, 0, none⟩ (.int .i64 a)).setCell ⟨R, 1, none⟩ (.slice A n c)) := by
  subst hn
  exact rel_end y hR hg hP hown hlo hhi hc hG
theorem segM_setX {w : World} {lo hi g j : Nat} {T : TypeId} {v : Value} {m : List (List Int)} {cs : Array Value} {fr : Nat × Nat} (h : SegM w lo hi v m) (y : w.heap[g]? = some (.cells cs T fr)) (hT : 22 ≠ T ∧ 3 ≠ T) (u : Value) : SegM (w.setCell ⟨g, j, none⟩ u) lo hi v m := SegM.setO h y hT.1 hT.2 u
/-- The first row's first value stored. -/
theorem segM_set00 {w : World} {lo hi gm n cap : Nat} {m : List (List Int)} (h : SegM w lo hi (.slice (some ⟨gm, 0, none⟩) n cap) m) (hp : 0 < m.length) (hr : 0 < m[0].length) :
    ∃ q c, w.cell? ⟨gm, 0, none⟩ = some (.slice (some ⟨q, 0, none⟩) m[0].length c) ∧ lo ≤ q ∧ q < hi ∧ w.frozen? ⟨q, 0, none⟩ = false ∧ w.cell? ⟨q, 0, none⟩ = some (.int .i64 m[0][0]) ∧ ∀ y : Int, SegM (w.setCell ⟨q, 0, none⟩ (.int .i64 y)) lo hi (.slice (some ⟨gm, 0, none⟩) n cap) (m.set 0 (m[0].set 0 y)) := by
  obtain ⟨A1, c1, h1, -, s1, keep⟩ := SegM.at h 0 hp
  obtain ⟨q, rfl, hq1, hq2⟩ := own_int_pos (SegI.own s1) hr
  have hq3 := s1.2 q rfl
  refine ⟨q, c1, h1, hq1, hq3, (SegI.own s1).frozenAt 0, ownI_cell (SegI.own s1) 0 hr, fun y => ?_⟩
  refine keep _ _ (by rw [List.length_set]) ⟨?_, fun g hg => s1.2 g hg⟩ (grown_set1 w q 0 _)
  unfold OwnI
  rw [List.length_set]
  exact ownI_set (SegI.own s1) 0 y
theorem any_set00 {a y : Int} {m : List (List Int)} (hp : 0 < m.length) (h : AnyR a m) : AnyR a (m.set 0 (m[0].set 0 y)) := by
  obtain ⟨h1, h2, h3⟩ := h
  refine ⟨h1, by rw [List.length_set]; exact h2, fun r hr => ?_⟩
  rcases List.mem_or_eq_of_mem_set hr with hr | rfl
  · exact h3 r hr
  · rw [List.length_set]; exact h3 _ (List.getElem_mem hp)
theorem block_grownM {w w' : World} {lo hi k : Nat} {T : TypeId} {v : Value} {m : List (List Int)} {cs : Array Value} {fr : Nat × Nat} (ho : SegM w lo hi v m) (hg : w.grownBy w' v.ownBlock) (y : w.heap[k]? = some (.cells cs T fr)) (hT : 22 ≠ T) : w'.heap[k]? = some (.cells cs T fr) := by
  obtain ⟨ps, h1, h2, h3, h4⟩ := ho
  refine (hg.block k (lt_of_heap y) fun e => ?_).trans y
  rcases h2.2 with ⟨rfl, _⟩ | ⟨q, cap, cur, rfl, _, hh, _⟩
  · cases e
  · simp only [Value.ownBlock, Option.some.injEq] at e
    subst e
    rw [hh] at y
    simp only [Option.some.injEq, Obj.cells.injEq] at y
    exact hT y.2.1
theorem any_push {a : Int} {m : List (List Int)} {r : List Int} (h : AnyR a m) (hl : (m.length : Int) ≤ 6) (hr : r.length ≤ 6) : AnyR a (m ++ [r]) := ⟨h.1, by rw [List.length_append, List.length_singleton]; omega, mem_rows h.2.2 hr⟩
theorem l5Any_s (g : Nat) (w : World) (hc : Cur w g) : Calls Try.prog 114 #[.pointer (some ⟨g, 0, none⟩)] w (RelG AnyR g w) := by
  have hlt := hc.lt
  have y0 := heap_alloc_new w (.cells #[.int .i64 0, .slice none 0 0] 44)
  have hB : Below w.heap.size w (w.alloc (.cells #[.int .i64 0, .slice none 0 0] 44)) := (Below.refl _ _).alloc (Nat.le_refl _) _
  have hG := grown_of_below hB (some g)
  have hbs := hB.size
  replace hc := hc.below hB
  have Hhc := Lib.hid hc; clear hc; have HhG := Lib.hid hG; clear hG; have HhB := Lib.hid hB; clear hB; have Hhbs := Lib.hid hbs; clear hbs; have Hy0 := Lib.hid y0; clear y0
  go_enter Try.func114, Try.ntmps114
  go_wp2_with (first
    | (go_at_call 102; ((with_reducible refine (l1Below_s g 4 (by omega) _ Hhc.out).mono ?_); rintro e w1 ⟨x, rfl, hx, hc1, hg1⟩; (have hx5 : 0 ≤ x ∧ x ≤ 6 := (by omega); clear hx; have hG1 := Lib.hid (grown_trans HhG.out hg1); have y1 := Lib.hid (blockG hg1 (by omega) Hy0.out); have hs1 := Lib.hid (hg1.size); clear hg1)))
    | (go_at_call 139; ((with_reducible refine (l5Rel_s g x 6 4 hx5 (by omega) (by omega) _ hc1).mono ?_); rintro e w2 ⟨a, m, A, c, rfl, hr, own2, hc2, hg2⟩; (have hr6 : (m.length : Int) ≤ 6 := hr.2; have ha1 := (relOk_iff.1 hr.1).1.1; have ha2 := (relOk_iff.1 hr.1).1.2; have Hr := Lib.hid hr.1; clear hr; have hG2 := Lib.hid (grown_trans hG1.out hg2); have y2 := blockG hg2 (by omega) y1.out; have yX := heap_alloc_new w2 (.cells #[.int .i64 a, .slice A m.length c] 44); have y2a := Lib.hid (heapN y2 (.cells #[.int .i64 a, .slice A m.length c] 44)); have hs2 := Lib.hid hg2.size; have hcl := Lib.hid hc2.lt; have hca := cur_alloc hc2 (.cells #[.int .i64 a, .slice A m.length c] 44); have hGa := Lib.hid (grown_trans hG2.out (World.grownBy_alloc w2 (.cells #[.int .i64 a, .slice A m.length c] 44) (some g))); have owna := Lib.hid (SegM.alloc own2 (.cells #[.int .i64 a, .slice A m.length c] 44)); have hRw := Lib.hid (lt_of_heap y2); clear own2 hg2 y2)))
    | (go_at_call 102; ((with_reducible refine (l1Below_s g 14 (by omega) _ hca).mono ?_); rintro e w3 ⟨k, rfl, hk, hc3, hg3⟩; (clear hk; have hG3 := Lib.hid (grown_trans hGa.out hg3); have X3 := blockG hg3 (by have := hcl.out; omega) yX; have y3 := blockG hg3 (by omega) y2a.out; have own3 := Lib.hid (segM_draw owna.out hg3 (by have := HhG.out.size; have := Hhbs.out; have := hs1.out; omega)); have t0 := cellAt X3 0; have t1 := cellAt X3 1; have t0a := fun o => cellAt (heapN X3 o) 0; have u0 := cellAt y3 0; have u1 := cellAt y3 1; have f0 := frozen0 (j := 0) y3; have f1 := frozen0 (j := 1) y3)))
    | (go_at_call 134; ((with_reducible refine (l1PickInt_s g (.slice (some ⟨w3.heap.size, 0, none⟩) 3 3) 0 [-1, 6, a + 1] (by simp) (by simp) _ (cur_alloc hc3 _) (lit3_own _ _ _ _)).mono ?_); rintro e w4 ⟨z, rfl, hz, hc4, hg4⟩; (have hX4 := hcl.out; have X4 := blockG hg4 (by omega) (heapN X3 (.cells #[.int .i64 (-1), .int .i64 6, .int .i64 (a + 1)] 3)); have y4 := blockG hg4 (by omega) (heapN y3 (.cells #[.int .i64 (-1), .int .i64 6, .int .i64 (a + 1)] 3)); have own4 := Lib.hid (segM_draw (SegM.alloc own3.out (.cells #[.int .i64 (-1), .int .i64 6, .int .i64 (a + 1)] 3)) hg4 (by have := HhG.out.size; have := Hhbs.out; have := hs1.out; omega)); have hG4 := Lib.hid (grown_trans (grown_trans hG3.out (World.grownBy_alloc w3 (.cells #[.int .i64 (-1), .int .i64 6, .int .i64 (a + 1)] 3) (some g))) hg4); clear t0 t1 t0a u0 u1 f0 f1; have t0 := cellAt X4 0; have p0 := frozen0 (j := 0) X4; have X5 := set0 X4 (.int .i64 z); have hne := hRw.out; have y5 := setO (g := w2.heap.size) (j := 0) (by omega) y4 (.int .i64 z); have t1 := cellAt X5 0; have t2 := cellAt X5 1; have u0 := cellAt y5 0; have u1 := cellAt y5 1; have f0 := frozen0 (j := 0) y5; have f1 := frozen0 (j := 1) y5; clear hX4 hne))))
  all_goals
    have hcl2 := hcl.out
    have hRw2 := hRw.out
    have hRw1 := lt_of_heap y1.out
    have hs12 := hs1.out
    have hs22 := hs2.out
    have hbs2 := Hhbs.out
    have hGs := HhG.out.size
    have hany := rel_any Hr.out hr6
  rotate_left 3
  · exact bodyPost_ret (res_rel rfl rfl (set1 (set0 y3 _) _)) rfl (rel_end y3 (Nat.le_refl _) hlt hany own3.out (by omega) (by have := hG3.out.size; have := lt_of_heap X3; omega) hc3 hG3.out)
  · exact bodyPost_ret (res_rel rfl rfl (set1 (set0 y3 _) _)) rfl (rel_end y3 (Nat.le_refl _) hlt hany own3.out (by omega) (by have := hG3.out.size; have := lt_of_heap X3; omega) hc3 hG3.out)
  · exact bodyPost_ret (res_rel rfl rfl (set1 (set0 y3 _) _)) rfl (rel_end y3 (Nat.le_refl _) hlt hany own3.out (by omega) (by have := hG3.out.size; have := lt_of_heap X3; omega) hc3 hG3.out)
  · have hz2 : -1 ≤ z ∧ z ≤ 6 := by simp at hz; omega
    exact bodyPost_ret (res_rel rfl rfl (set1 (set0 y5 _) _)) rfl (rel_end y5 (Nat.le_refl _) hlt ⟨hz2, hany.2⟩ (segM_setX own4.out X4 (by decide) _) (by omega) (by have := lt_of_heap X4; simp [World.setCell]; omega) (hc4.set (by omega) _) (grown_new hG4.out (by omega) _))
  · have hdb : Below w3.heap.size w3 w3.drew := (Below.refl _ _).drew
    have hgd : w3.grownBy w3.drew (some g) := grown_of_below hdb _
    have hcd : Cur w3.drew g := hc3.below hdb
    have X3d := blockB hdb X3
    have y3d := blockB hdb y3
    have ownd := Lib.hid (SegM.below own3.out hdb)
    have hX3l := lt_of_heap X3
    have hmx : max 0 a = a := by omega
    clear u0 u1 f0 f1 t0a
    go_region_law (first
      | (go_simp; (go_at_call 101; ((with_reducible refine (l4Row_i g a 4 ⟨ha1, by omega⟩ (by omega) _ hcd).mono ?_); rintro e w5 ⟨r, A2, c2, rfl, hrl, hrb, own5, hc5, hg5⟩; (have X5 := blockG hg5 (by omega) X3d; have y5 := blockG hg5 (by omega) y3d; have t5 := cellAt X5 1; have t5a := (fun o => cellAt (heapN X5 o) 1); have ownD : SegM w5 w1.heap.size w3.heap.size (.slice A m.length c) m := SegM.wide (segM_draw ownd.out hg5 (by omega)) (Nat.le_refl _) (by omega); have hs5 : w3.heap.size ≤ w5.heap.size := hg5.size; have hG5 := grown_trans (grown_trans hG3.out hgd) hg5; clear hrb))))
      | (refine step_append_rowM rfl (.tmp 22) (.tmp 28) rfl w1.heap.size w3.heap.size _ m ?_ ownD _ r own5 ?_ (by omega) (by omega) (by omega) ?_; (first | rfl | (simp [Act.eval, Act.put])); (first | rfl | (simp [Act.eval, Act.put])); intro v2 w7 hown7 hb7 hgr7; obtain ⟨A7, q7, e7⟩ := MRow.opened (SegM.row hown7); rw [show (m ++ [r]).length = m.length + 1 by simp] at e7; subst e7; have X7 := block_grownM ownD hgr7 X5 (by decide); have y7 := block_grownM ownD hgr7 y5 (by decide); have t7 := cellAt X7 1; have p7 := frozen0 (j := 1) X7; have X8 := set1 X7 (.slice A7 (m.length + 1) q7); have y8 := setO (g := w2.heap.size) (j := 1) (by omega) y7 (.slice A7 (m.length + 1) q7); have t8 := cellAt X8 0; have t9 := cellAt X8 1; have u8 := cellAt y8 0; have u9 := cellAt y8 1; have f8 := frozen0 (j := 0) y8; have f9 := frozen0 (j := 1) y8))
    all_goals
      have hcz := Cur.low hc5 hb7 (by omega)
      have hGz := grown_low hG5 hb7 (by omega)
      clear hgd hG5 hb7 hgr7
      go_wp2_with fail
      exact bodyPost_ret (res_rel rfl rfl (set1 (set0 y8 _) _)) rfl (rel_endN (by simp) y8 (Nat.le_refl _) hlt (any_push hany hr6 (by omega)) (segM_setX hown7 X7 (by decide) _) (by omega) (by simp [World.setCell]) (hcz.set (by omega) _) (grown_new hGz (by omega) _))
  · have hml0 : 0 < m.length := by omega
    have hrm : 0 < m[0].length := by have := ((relOk_iff.1 Hr.out).2.2.1 m[0] (List.getElem_mem hml0)).1; omega
    obtain ⟨gm, capm, em, hgm1, hgm2, hgm3, -, -⟩ := SegM.open own3.out hml0
    simp only [Value.slice.injEq] at em
    obtain ⟨rfl, -, -⟩ := em
    have hdb : Below w3.heap.size w3 (w3.alloc (.cells #[.int .i64 (-1), .int .i64 100, .int .i64 99] 3)).drew := ((Below.refl _ _).alloc (Nat.le_refl _) _).drew
    have hgd : w3.grownBy (w3.alloc (.cells #[.int .i64 (-1), .int .i64 100, .int .i64 99] 3)).drew (some g) := grown_of_below hdb _
    have hcd := hc3.below hdb
    have X3d := blockB hdb X3
    have y3d := blockB hdb y3
    have ownd := SegM.below own3.out hdb
    obtain ⟨q, cq, cr, hq1, hq2, -, -, -⟩ := segM_set00 own3.out hml0 hrm
    have crd := cellB hdb cr
    have hX3l := lt_of_heap X3
    have hll := lit3_own w3 (-1) 100 99
    have hLd : OwnI (w3.alloc (.cells #[.int .i64 (-1), .int .i64 100, .int .i64 99] 3)).drew 0 (.slice (some ⟨w3.heap.size, 0, none⟩) 3 3) [-1, 100, 99] := hll.drew
    have t1a := fun o => cellAt (heapN X3 o) 1
    have cra := fun o => cellN cr o
    have Hownd := Lib.hid ownd
    have HhLd := Lib.hid hLd
    clear u0 u1 f0 f1 ownd hll hLd
    go_region_law (first
      | (go_simp; (go_at_call 134; ((with_reducible refine (l1PickInt_s g (.slice (some ⟨w3.heap.size, 0, none⟩) 3 3) 0 [-1, 100, 99] (by simp) (by simp) _ hcd HhLd.out).mono ?_); rintro e w5 ⟨z, rfl, hz, hc5, hg5⟩; (have X5 := blockG hg5 (by omega) X3d; have y5 := blockG hg5 (by omega) y3d; have t5 := cellAt X5 1; have own5 := segM_draw Hownd.out hg5 (by omega); have cr5 := (World.cell?_of_block (hg5.block gm (block_lt_of_cell crd) (by simp; omega))).trans crd; obtain ⟨q', cq', cr', hq1', hq2', fq, c5, kp⟩ := segM_set00 own5 hml0 hrm; have eqq := cr'.symm.trans cr5; simp only [Option.some.injEq, Value.slice.injEq, Addr.mk.injEq, and_true, true_and] at eqq; obtain ⟨rfl, rfl⟩ := eqq; have hG5 := grown_trans (grown_trans hG3.out hgd) hg5; have hs5 : w3.heap.size ≤ w5.heap.size := Nat.le_trans hdb.size hg5.size; have hX2 : ¬ w2.heap.size = q' := (by omega); have hy2 : ¬ w.heap.size = q' := (by omega); clear t1a cra crd cr; have X6 := setO (g := q') (j := 0) hX2 X5 (.int .i64 z); have y6 := setO (g := q') (j := 0) hy2 y5 (.int .i64 z); have t6 := cellAt X6 0; have t7 := cellAt X6 1; have u6 := cellAt y6 0; have u7 := cellAt y6 1; have f6 := frozen0 (j := 0) y6; have f7 := frozen0 (j := 1) y6)))))
    all_goals
      have hke := kp z
      have hcz := hc5.set (k := q') (j := 0) (by omega) (.int .i64 z)
      have hGz := grown_new hG5 (k := q') (j := 0) (by omega) (.int .i64 z)
      clear hG5 hgd kp hg5
      go_wp2_with fail
      exact bodyPost_ret (res_rel rfl rfl (set1 (set0 y6 _) _)) rfl (rel_endN (by rw [List.length_set]) y6 (Nat.le_refl _) hlt (any_set00 hml0 hany) hke (by omega) (by simp [World.setCell]; omega) hcz hGz)
end Go.Proofs.Ytbajnecahojcfaa
