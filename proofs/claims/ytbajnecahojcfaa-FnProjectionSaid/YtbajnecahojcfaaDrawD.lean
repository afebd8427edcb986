/- The draws of the laws on relations. -/
import Derived.Test.YtbajnecahojcfaaDrawA
namespace Go.Proofs.Ytbajnecahojcfaa
open Go.RowKit Go.Sort
set_option maxHeartbeats 4000000
set_option maxRecDepth 100000
theorem l5RowFor_s (g lo hi : Nat) (v : Value) (a : Int) (m : List (List Int)) (ha : AnyR a m) (w : World) (hc : Cur w g) (hv : SegM w lo hi v m) (hg : g < lo) : Calls Try.prog 152 #[.pointer (some ⟨g, 0, none⟩), .agg #[.int .i64 a, v]] w (fun e w' => ∃ (r : List Int) (A : Option Addr) (c : Nat), e = .returned (.slice A r.length c) ∧ r.length ≤ 7 ∧ OwnI w' w.heap.size (.slice A r.length c) r ∧ Cur w' g ∧ w.grownBy w' (some g)) := by
  have hlt := hc.lt
  have y0 := heap_alloc_new w (.cells #[.int .i64 a, v] 44)
  have hB : Below w.heap.size w (w.alloc (.cells #[.int .i64 a, v] 44)) := (Below.refl _ _).alloc (Nat.le_refl _) _
  have hG := Lib.hid (grown_of_below hB (some g))
  replace hc := hc.below hB
  replace hv := Lib.hid (SegM.below hv hB)
  obtain ⟨⟨ha1, ha2⟩, hml, hrl⟩ := ha
  obtain ⟨z, hz⟩ : ∃ z, max 0 (min 6 a) = z := ⟨_, rfl⟩
  have hz2 : 0 ≤ z ∧ z ≤ 6 := by omega
  obtain ⟨A, c, e⟩ := MRow.opened (SegM.row hv.out)
  subst e
  have hrl2 := Lib.hid hrl
  have hBs := Lib.hid hB.size
  clear hrl hB
  have t0 := cellAt y0 0
  have t1 := cellAt y0 1
  go_enter Try.func152, Try.ntmps152
  go_wp2_with (first
    | (go_at_call 104; ((with_reducible refine (l1Once_s g 2 (by omega) _ hc).mono ?_); rintro e w1 ⟨bb, rfl, hc1, hg1⟩; (replace hG := Lib.hid (grown_trans hG.out hg1); replace hc := hc1; replace hv := Lib.hid (segM_draw hv.out hg1 hg); replace y0 := blockG hg1 (by omega) y0; replace hBs := Lib.hid (Nat.le_trans hBs.out hg1.size); clear t0 t1 hc1 hg1; have t0 := cellAt y0 0; have t1 := cellAt y0 1)))
    | (go_at_call 101; ((with_reducible refine (l4Row_i g z 4 ⟨hz2.1, by omega⟩ (by omega) _ hc).mono ?_); rintro e w2 ⟨r, A2, c2, rfl, hr, hrb, own2, hc2, hg2⟩; (replace hG := Lib.hid (grown_trans hG.out hg2); replace hc := hc2; have own2 := Lib.hid (own_mono own2 hBs.out); clear hrb hc2; replace hBs := Lib.hid (Nat.le_trans hBs.out hg2.size); clear hg2)))
    | (go_at_call 104; ((with_reducible refine (l1Once_s g 10 (by omega) _ hc).mono ?_); rintro e w3 ⟨bb2, rfl, hc3, hg3⟩; (replace hG := Lib.hid (grown_trans hG.out hg3); replace hc := hc3; have own3 := ownR_grown own2.out hg3 hlt; replace hBs := Lib.hid (Nat.le_trans hBs.out hg3.size); clear hc3 hg3)))
    | (at_builtin; go_must (refine wp_append_one intT rfl _ _ rfl w.heap.size _ r.length (r.map intV) rfl own3 _ rfl rfl (by omega) hBs.out ?_; intro v4 w4 own4 hgr4 hb4; replace own4 := own_push own4; obtain ⟨A4, q4, e4⟩ := own_int_open own4; subst e4)))
  rotate_left
  · go_ret
    exact ⟨r ++ [1], A4, q4, by rw [List.length_append]; rfl, by simp; omega, own4, Cur.low hc hb4 hlt, grown_low hG.out hb4 (Nat.le_refl _)⟩
  · go_ret
    exact ⟨r, A2, c2, rfl, by omega, own3, hc, hG.out⟩
  · go_ret
    exact ⟨r ++ [1], A4, q4, by rw [List.length_append]; rfl, by simp; omega, own4, Cur.low hc hb4 hlt, grown_low hG.out hb4 (Nat.le_refl _)⟩
  · go_ret
    exact ⟨r, A2, c2, rfl, by omega, own3, hc, hG.out⟩
  · have hml0 : 0 < m.length := by omega
    obtain ⟨gm, capm, em, hgm1, hgm2, hgm3, -, -⟩ := SegM.open hv.out hml0
    simp only [Value.slice.injEq] at em
    obtain ⟨rfl, -, -⟩ := em
    have hdb : Below w1.heap.size w1 (w1.alloc (.cells #[] 3)).drew := ((Below.refl _ _).alloc (Nat.le_refl _) _).drew
    have hgd : w1.grownBy (w1.alloc (.cells #[] 3)).drew (some g) := grown_of_below hdb _
    have hcd := hc.below hdb
    have y0d := blockB hdb y0
    have hvd := SegM.below hv.out hdb
    have t1a := fun o => cellAt (heapN y0 o) 1
    have hl0 : (w1.alloc (.cells #[] 3)).drew.ownsRow w1.heap.size 3 1 (.slice (some ⟨w1.heap.size, 0, none⟩) 0 0) 0 [] := own_below (lit_nil w1 3 (Nat.le_refl w1.heap.size)) ((Below.refl _ _).drew)
    have Hvd := Lib.hid hvd
    have Hl0 := Lib.hid hl0
    have hbw := hBs.out
    have hgw := hc.lt
    have hy0 := lt_of_heap y0
    have hd2 : Below w1.heap.size w1 w1.drew := (Below.refl _ _).drew
    have hgd2 : w1.grownBy w1.drew (some g) := grown_of_below hd2 _
    have hcd2 : Cur w1.drew g := hc.below hd2
    have y0d2 := blockB hd2 y0
    have Hvd2 := Lib.hid (SegM.below hv.out hd2)
    clear hvd hl0 t0
    go_region_law (first
      | (go_simp; (go_at_call 102; ((with_reducible refine (l1Below_s g m.length (by omega) _ hcd).mono ?_); rintro e w5 ⟨x, rfl, hx, hc5, hg5⟩; (obtain ⟨k, rfl⟩ := Int.eq_ofNat_of_zero_le hx.1; have hk : k < m.length := (by omega); have own5 := segM_draw Hvd.out hg5 hg; obtain ⟨A1, q1, cr, -, s1, -⟩ := SegM.at own5 k hk; have hrk := hrl2.out m[k] (List.getElem_mem hk); have hl5 := ownR_grown Hl0.out hg5 hgw; have y5 := blockG hg5 (by omega) y0d; have t5 := cellAt y5 1; have g5 : (k : Int) < (m.length : Int) := (by omega); have hG5 := grown_trans (grown_trans hG.out hgd) hg5; have hs5 : w1.heap.size ≤ w5.heap.size := Nat.le_trans hdb.size hg5.size; clear hx hg5 own5))))
      | (go_simp; (go_at_call 102; ((with_reducible refine (l1Below_s g m.length (by omega) _ hcd2).mono ?_); rintro e w5 ⟨x, rfl, hx, hc5, hg5⟩; (obtain ⟨k, rfl⟩ := Int.eq_ofNat_of_zero_le hx.1; have hk : k < m.length := (by omega); have own5 := segM_draw Hvd2.out hg5 hg; obtain ⟨A1, q1, cr, -, s1, -⟩ := SegM.at own5 k hk; have cra := (fun o => cellN cr o); have hrk := hrl2.out m[k] (List.getElem_mem hk); have hl6 := lit_nil w5 3 (Nat.le_refl w5.heap.size); have y5 := blockG hg5 (by omega) y0d2; have t5 := cellAt y5 1; have t5a := (fun o => cellAt (heapN y5 o) 1); have g5 : (k : Int) < (m.length : Int) := (by omega); have hG5 := grown_trans (grown_trans hG.out hgd2) hg5; have hs5 : w1.heap.size ≤ w5.heap.size := Nat.le_trans hd2.size hg5.size; clear hx hg5 own5))))
      | (refine step_append_empty intT rfl (.tmp 14) (.tmp 23) rfl w1.heap.size w1.heap.size ?_ hl5 _ (m[k].map intV) ?_ (SegI.row s1) (int_one _) (by simp; omega) hs5 ?_; (first | rfl | (simp [Act.eval, Act.put])); (first | rfl | (simp [Act.eval, Act.put])); intro v9 w9 own9 hb9; rw [List.length_map] at own9; obtain ⟨A9, c9, e9, -⟩ := IRow.open (OwnI.row own9); subst e9; have hcz := hc5.below hb9; have hGz := grown_trans hG5 (grown_of_below hb9 _); have hoz : OwnI w9 w.heap.size _ _ := own_mono own9 hbw)
      | (refine step_append_empty intT rfl (.tmp 14) (.tmp 23) rfl w5.heap.size w5.heap.size ?_ hl6 _ (m[k].map intV) ?_ (IRow.below (SegI.row s1) ((Below.refl _ _).alloc (Nat.le_refl _) (.cells #[] 3))) (int_one _) (by simp; omega) (by simp) ?_; (first | rfl | (simp [Act.eval, Act.put])); (first | rfl | (simp [Act.eval, Act.put])); intro v9 w9 own9 hb9; rw [List.length_map] at own9; obtain ⟨A9, c9, e9, -⟩ := IRow.open (OwnI.row own9); subst e9; have hcz := (cur_alloc hc5 (.cells #[] 3)).below hb9; have hGz := grown_trans (grown_trans hG5 (World.grownBy_alloc w5 (.cells #[] 3) (some g))) (grown_of_below hb9 _); have hoz : OwnI w9 w.heap.size _ _ := own_mono own9 (by omega)))
    all_goals
      clear hgd hgd2 hG5
      go_wp2_with fail
      go_ret
      exact ⟨m[k], A9, c9, rfl, by omega, hoz, hcz, hGz⟩
end Go.Proofs.Ytbajnecahojcfaa
