/- Union, both. -/
import Derived.Test.YtbajnecahojcfaaNewR
namespace Go.Proofs.Ytbajnecahojcfaa
open Go.RowKit Go.Sort
set_option maxHeartbeats 8000000
set_option maxRecDepth 100000
theorem row_one {w : World} {u : Value} {r : List Int} (h : IRow w u r) : u.oneCell' = true := by
  obtain ⟨A, c, e, -⟩ := IRow.open h
  rw [e]; rfl
theorem step_append_vrow {t e : TypeId} {z : Value} {bytes : Nat} (E : ElemT t e z bytes) {w : World} {ops : Array Oper} {o : Oper} {a : Act} {K : Act → World → Prop} {Q : Exit → Act → World → Prop} {F : Prop} (hgd : o.guard = none) (s x : Operand)
    (ho : o.op = .call { callee := .builtin .append, args := #[s, x], argTypes := #[t, t] }) (base : Nat) (v : Value) (n : Nat) (xs : List Value) (hs : a.eval s = v) (hown : w.ownsRow base e 1 v n xs)
    (v2 : Value) (ys : List Value) (hx : a.eval x = v2) (hsrc : VRow w v2 ys) (h1 : ∀ u ∈ ys, u.oneCell' = true) (hn : n + ys.length ≤ 1099511627776) (hbase : base ≤ w.heap.size)
    (h : ∀ v' w', w'.ownsRow base e 1 v' (n + ys.length) (xs ++ ys) → w.grownBy w' v.ownBlock → Below base w w' → K (a.put o.dst v') w') : if Region.wanted o (yielded ops a.tmps) = true then Oper.wp Try.prog o a w K Q else F := by
  rw [if_pos (by simp [Region.wanted, hgd])]
  exact wp_append_vrowK E s x ho base v n xs hs hown v2 ys hx hsrc h1 hn hbase h
/-- append(rows of my own, other rows..): what is read then. -/
theorem step_append_mat {w w0 : World} {ops : Array Oper} {o : Oper} {a : Act} {K : Act → World → Prop} {Q : Exit → Act → World → Prop} {F : Prop} (hgd : o.guard = none) (s x : Operand)
    (ho : o.op = .call { callee := .builtin .append, args := #[s, x], argTypes := #[42, 42] }) (hi : Nat) (v : Value) (m : List (List Int)) (hs : a.eval s = v) (hown : SegM w w0.heap.size hi v m)
    (v2 : Value) (m2 : List (List Int)) (hx : a.eval x = v2) (hsrc : MRow w0 v2 m2) (hb : Below w0.heap.size w0 w) (hn : m.length + m2.length ≤ 1099511627776)
    (h : ∀ A' c' w', MRow w' (.slice A' (m ++ m2).length c') (m ++ m2) → Below w0.heap.size w w' → K (a.put o.dst (.slice A' (m ++ m2).length c')) w') : if Region.wanted o (yielded ops a.tmps) = true then Oper.wp Try.prog o a w K Q else F := by
  obtain ⟨ps, rfl, h2, h3, h4⟩ := hown
  obtain ⟨qs, rfl, k2, k3⟩ := hsrc
  refine step_append_vrow rowT hgd s x ho w0.heap.size v _ _ hs h2 v2 (qs.map Prod.fst) hx (k2.below hb) (fun u hu => by
    obtain ⟨p, hp, rfl⟩ := List.mem_map.1 hu
    exact row_one (k3 p hp)) (by simpa using hn) hb.size fun v' w' hown' hgr hb' => ?_
  have hr : MRow w' v' (ps.map Prod.snd ++ qs.map Prod.snd) := ⟨ps ++ qs, by simp, by rw [List.map_append]; exact VRow.own hown', fun p hp => by
    rcases List.mem_append.1 hp with hp | hp
    · exact ((rows_grown h4 h2 hgr).1 p hp).row
    · exact (k3 p hp).below (hb.trans hb')⟩
  obtain ⟨A', c', e⟩ := MRow.opened hr
  subst e
  exact h A' c' w' hr hb'
theorem unOk_two {a b : Int} {ma mb : List (List Int)} (h : twoOk a ma b mb = false) : unOk a ma b mb = false := by unfold unOk; rw [h]; rfl
def RetU (a : Int) (ma : List (List Int)) (b : Int) (mb : List (List Int)) (w : World) (e : Ending) (w' : World) : Prop := RetMB (unA a ma b mb) (unM a ma b mb) (unOk a ma b mb) w e w'
theorem retU_no {a b : Int} {ma mb : List (List Int)} {w w' : World} {e : Ending} (h : unOk a ma b mb = false) (he : e = .returned (.tuple #[.agg #[.int .i64 0, .slice none 0 0], .bool false])) (hb : Below w.heap.size w w') : RetU a ma b mb w e w' := by
  unfold RetU unA unM
  rw [h]
  exact ⟨none, 0, he, OwnM.nil _ _, hb⟩
theorem retU_new {a b : Int} {ma mb : List (List Int)} {w w' : World} {e : Ending} {A : Option Addr} {c : Nat} (h : twoOk a ma b mb = true) (he : e = .returned (.tuple #[.agg #[.int .i64 (newA a (ma ++ mb)), .slice A (newM a (ma ++ mb)).length c], .bool (newOk a (ma ++ mb))])) (hown : OwnM w' w.heap.size (.slice A (newM a (ma ++ mb)).length c) (newM a (ma ++ mb))) (hb : Below w.heap.size w w') : RetU a ma b mb w e w' := by
  have e1 : unOk a ma b mb = newOk a (ma ++ mb) := by unfold unOk; rw [h]; rfl
  have e2 : unA a ma b mb = newA a (ma ++ mb) := by unfold unA newA; rw [e1]
  have e3 : unM a ma b mb = newM a (ma ++ mb) := by unfold unM newM; rw [e1]
  unfold RetU
  rw [e1, e2, e3]
  exact ⟨A, c, he, hown, hb⟩
theorem two_a {a b : Int} {ma mb : List (List Int)} (h : relOk a ma = false) : twoOk a ma b mb = false := by unfold twoOk; rw [h]; rfl
theorem two_b {a b : Int} {ma mb : List (List Int)} (h : relOk b mb = false) : twoOk a ma b mb = false := by unfold twoOk; rw [h]; simp
theorem two_ab {a b : Int} {ma mb : List (List Int)} (h : ¬ a = b) : twoOk a ma b mb = false := by unfold twoOk; rw [show decide (a = b) = false by rw [decide_eq_false_iff_not]; exact h]; simp
theorem two_yes {a b : Int} {ma mb : List (List Int)} (h1 : relOk a ma = true) (h2 : relOk b mb = true) (h : a = b) : twoOk a ma b mb = true := by unfold twoOk; rw [h1, h2, show decide (a = b) = true by rw [decide_eq_true_eq]; exact h]; rfl
theorem Union_i (u v : Value) (a b : Int) (ma mb : List (List Int)) (w : World) (hu : MRow w u ma) (hv : MRow w v mb) (hl : ma.length + mb.length + total ma + total mb ≤ 1099511627775) : Calls Try.prog 89 #[.agg #[.int .i64 a, u], .agg #[.int .i64 b, v]] w (RetU a ma b mb w) := by
  have y0 := heapN (heapN (heap_alloc_new w (.cells #[.int .i64 a, u] 44)) (.cells #[.int .i64 b, v] 44)) (.cells #[.int .i64 0, .slice none 0 0] 44)
  have y1 := heapN (heap_new1 w (.cells #[.int .i64 a, u] 44) (.cells #[.int .i64 b, v] 44)) (.cells #[.int .i64 0, .slice none 0 0] 44)
  have y2 := heap_new2 w (.cells #[.int .i64 a, u] 44) (.cells #[.int .i64 b, v] 44) (.cells #[.int .i64 0, .slice none 0 0] 44)
  have hB : Below w.heap.size w (((w.alloc (.cells #[.int .i64 a, u] 44)).alloc (.cells #[.int .i64 b, v] 44)).alloc (.cells #[.int .i64 0, .slice none 0 0] 44)) := (((Below.refl _ _).alloc (Nat.le_refl _) _).alloc (by simp) _).alloc (by simp; omega) _
  replace hu := hu.below hB
  replace hv := hv.below hB
  obtain ⟨A, c, rfl⟩ := MRow.opened hu
  obtain ⟨A', c', rfl⟩ := MRow.opened hv
  have k1 := IsValidRelation_i (.slice A ma.length c) a ma _ hu
  have k2 := fun W (h : MRow W (.slice A' mb.length c') mb) => IsValidRelation_i (.slice A' mb.length c') b mb W h
  cases h1 : relOk a ma with
  | false =>
    rw [h1] at k1
    have e := unOk_two (two_a (b := b) (mb := mb) h1)
    have Hhu := Lib.hid hu; clear hu; have Hhv := Lib.hid hv; clear hv; have HhB := Lib.hid hB; clear hB; have Hy0 := Lib.hid y0; clear y0; have Hy1 := Lib.hid y1; clear y1; have Hk1 := Lib.hid k1; clear k1; have Hk2 := Lib.hid k2; clear k2; have Hh1 := Lib.hid h1; clear h1; have He := Lib.hid e; clear e
    go_enter Try.func89, Try.ntmps89
    go_wp2_with (go_at_call 68; ((with_reducible refine (Hk1.out).mono ?_); rintro e w1 ⟨rfl, hb1⟩; (have z2 := blockB hb1 y2; have u0 := cellAt z2 0; have u1 := cellAt z2 1; have f0 := frozen0 (j := 0) z2; have f1 := frozen0 (j := 1) z2)))
    refine bodyPost_ret (res_rel_tmp rfl rfl rfl (set1 (set0 z2 _) _)) rfl (retU_no He.out rfl ?_)
    exact ((below_tr HhB.out hb1).setCell (p := ⟨w.heap.size + 2, 0, none⟩) (by show w.heap.size ≤ w.heap.size + 2; omega) _).setCell (p := ⟨w.heap.size + 2, 1, none⟩) (by show w.heap.size ≤ w.heap.size + 2; omega) _
  | true =>
    rw [h1] at k1
    cases h2 : relOk b mb with
    | false =>
      rw [h2] at k2
      have e := unOk_two (two_b (a := a) (ma := ma) h2)
      have Hhu := Lib.hid hu; clear hu; have Hhv := Lib.hid hv; clear hv; have HhB := Lib.hid hB; clear hB; have Hy0 := Lib.hid y0; clear y0; have Hy1 := Lib.hid y1; clear y1; have Hk1 := Lib.hid k1; clear k1; have Hk2 := Lib.hid k2; clear k2; have Hh1 := Lib.hid h1; clear h1; have Hh2 := Lib.hid h2; clear h2; have He := Lib.hid e; clear e
      go_enter Try.func89, Try.ntmps89
      go_wp2_with (first
        | (go_at_call 68; ((with_reducible refine (Hk1.out).mono ?_); rintro e w1 ⟨rfl, hb1⟩; (have z1 := blockB hb1 Hy1.out; have z2 := blockB hb1 y2; have t0 := cellAt z1 0; have t1 := cellAt z1 1; have hv1 := Hhv.out.below hb1)))
        | (go_at_call 68; ((with_reducible refine (Hk2.out _ hv1).mono ?_); rintro e w2 ⟨rfl, hb2⟩; (have x2 := blockB hb2 z2; have u0 := cellAt x2 0; have u1 := cellAt x2 1; have f0 := frozen0 (j := 0) x2; have f1 := frozen0 (j := 1) x2))))
      refine bodyPost_ret (res_rel_tmp rfl rfl rfl (set1 (set0 x2 _) _)) rfl (retU_no He.out rfl ?_)
      exact ((below_tr (below_tr HhB.out hb1) hb2).setCell (p := ⟨w.heap.size + 2, 0, none⟩) (by show w.heap.size ≤ w.heap.size + 2; omega) _).setCell (p := ⟨w.heap.size + 2, 1, none⟩) (by show w.heap.size ≤ w.heap.size + 2; omega) _
    | true =>
      rw [h2] at k2
      by_cases hab : a = b
      rotate_left
      · have e := unOk_two (two_ab (ma := ma) (mb := mb) hab)
        have d1 : (a != b) = true := by rw [bne_iff_ne]; exact hab
        have Hhu := Lib.hid hu; clear hu; have Hhv := Lib.hid hv; clear hv; have HhB := Lib.hid hB; clear hB; have Hy0 := Lib.hid y0; clear y0; have Hy1 := Lib.hid y1; clear y1; have Hk1 := Lib.hid k1; clear k1; have Hk2 := Lib.hid k2; clear k2; have Hh1 := Lib.hid h1; clear h1; have Hh2 := Lib.hid h2; clear h2; have He := Lib.hid e; clear e; have Hhab := Lib.hid hab; clear hab
        go_enter Try.func89, Try.ntmps89
        go_wp2_with (first
          | (go_at_call 68; ((with_reducible refine (Hk1.out).mono ?_); rintro e w1 ⟨rfl, hb1⟩; (have z0 := blockB hb1 Hy0.out; have z1 := blockB hb1 Hy1.out; have z2 := blockB hb1 y2; have t0 := cellAt z1 0; have t1 := cellAt z1 1; have hv1 := Hhv.out.below hb1)))
          | (go_at_call 68; ((with_reducible refine (Hk2.out _ hv1).mono ?_); rintro e w2 ⟨rfl, hb2⟩; (have x0 := blockB hb2 z0; have x1 := blockB hb2 z1; have v0 := cellAt x0 0; have v1 := cellAt x1 0; have x2 := blockB hb2 z2; have u0 := cellAt x2 0; have u1 := cellAt x2 1; have f0 := frozen0 (j := 0) x2; have f1 := frozen0 (j := 1) x2))))
        refine bodyPost_ret (res_rel_tmp rfl rfl rfl (set1 (set0 x2 _) _)) rfl (retU_no He.out rfl ?_)
        exact ((below_tr (below_tr HhB.out hb1) hb2).setCell (p := ⟨w.heap.size + 2, 0, none⟩) (by show w.heap.size ≤ w.heap.size + 2; omega) _).setCell (p := ⟨w.heap.size + 2, 1, none⟩) (by show w.heap.size ≤ w.heap.size + 2; omega) _
      have d1 : (a != b) = false := by simp [hab]
      have e := two_yes h1 h2 hab
      have Hhu := Lib.hid hu; clear hu; have Hhv := Lib.hid hv; clear hv; have HhB := Lib.hid hB; clear hB; have Hy0 := Lib.hid y0; clear y0; have Hy1 := Lib.hid y1; clear y1; have Hk1 := Lib.hid k1; clear k1; have Hk2 := Lib.hid k2; clear k2; have Hh1 := Lib.hid h1; clear h1; have Hh2 := Lib.hid h2; clear h2; have He := Lib.hid e; clear e; have Hhab := Lib.hid hab; clear hab
      go_enter Try.func89, Try.ntmps89
      go_wp2_with (first
        | (go_at_call 68; ((with_reducible refine (Hk1.out).mono ?_); rintro e w1 ⟨rfl, hb1⟩; (have z0 := blockB hb1 Hy0.out; have z1 := blockB hb1 Hy1.out; have z2 := blockB hb1 y2; have t0 := cellAt z1 0; have t1 := cellAt z1 1; have hv1 := Hhv.out.below hb1; have hu1 := Hhu.out.below hb1; have hB1 := below_tr HhB.out hb1)))
        | (go_at_call 68; ((with_reducible refine (Hk2.out _ hv1).mono ?_); rintro e w2 ⟨rfl, hb2⟩; (have x0 := blockB hb2 z0; have x1 := blockB hb2 z1; have v0 := cellAt x0 0; have v1 := cellAt x1 0; have x2 := blockB hb2 z2; have hv2 := hv1.below hb2; have hu2 := hu1.below hb2; have hB2 := below_tr hB1 hb2))))
      clear z0 z1 z2 t0 t1 hv1 hu1 hB1 hb1 hb2 y2
      have hdb : Below w2.heap.size w2 w2.drew := (Below.refl _ _).drew
      have p0 := cellAt x0 0
      have p1 := cellAt x0 1
      have q1 := cellAt x1 1
      have hud := hu2.below hdb
      have hvd := hv2.below hdb
      have hgt : w.heap.size + 3 ≤ w2.heap.size := lt_of_heap x2
      have hnl : (ma ++ mb).length + total (ma ++ mb) ≤ 1099511627775 := by rw [List.length_append, total_append]; omega
      go_region_law (first
        | (go_simp; (go_at_call 140; ((with_reducible refine (copyRows_i _ ma _ hud (by omega)).mono ?_); rintro e w3 ⟨A5, c5, rfl, own5, hb3⟩; (have r0 := cellAt (blockB hb3 (blockB hdb x0)) 0; have r1 := cellAt (blockB hb3 (blockB hdb x1)) 1; have m0 := blockB hb3 (blockB hdb x0); have m2 := blockB hb3 (blockB hdb x2); have hB3 := below_tr (below_tr hB2 hdb) hb3))))
        | (refine step_append_mat (w0 := w2.drew) rfl (.tmp 26) (.tmp 28) rfl _ _ ma ?_ own5 _ mb ?_ hvd hb3 (by omega) ?_; (first | rfl | (simp [Act.eval, Act.put])); (first | rfl | (simp [Act.eval, Act.put])); intro A6 c6 w4 row6 hb4; simp only [List.length_append] at row6; have hs4 : w2.heap.size ≤ w3.heap.size := hb3.size; have n0 := blockL hb4 (show w.heap.size < w2.drew.heap.size by show w.heap.size < w2.heap.size; omega) m0; have n2 := blockL hb4 (show w.heap.size + 2 < w2.drew.heap.size by show w.heap.size + 2 < w2.heap.size; omega) m2; have s0 := cellAt n0 0; have hB4 := hB3.trans (hb4.mono (show w.heap.size ≤ w2.drew.heap.size by show w.heap.size ≤ w2.heap.size; omega)))
        | (go_simp; (go_at_call 77; ((with_reducible refine (NewRelation_i a _ (ma ++ mb) _ row6 hnl).mono ?_); rintro e w5 ⟨A7, c7, rfl, own7, hb5⟩; (have o2 := blockB hb5 n2; have f0 := frozen0 (j := 0) o2; have f1 := frozen0 (j := 1) o2; have g0 := cellAt o2 0; have g1 := cellAt o2 1; have hs5 := hb5.size; have hs4b := hB4.size; have hB5 := below_tr hB4 hb5)))))
      all_goals
        have z1 := set0 o2 (.int .i64 (newA a (ma ++ mb)))
        have oa := SegM.setO (j := 0) own7 o2 (by decide) (by decide) (.int .i64 (newA a (ma ++ mb)))
        have ob := SegM.setO (j := 1) oa z1 (by decide) (by decide) (.slice A7 (newM a (ma ++ mb)).length c7)
        clear oa own7 row6 own5
        go_wp2_with fail
        refine bodyPost_ret (res_rel_tmp rfl rfl rfl (set1 z1 _)) rfl (retU_new He.out rfl (ob.wide hs4b (by simp [World.setCell])) ?_)
        exact (hB5.setCell (p := ⟨w.heap.size + 1 + 1, 0, none⟩) (by show w.heap.size ≤ w.heap.size + 1 + 1; omega) _).setCell (p := ⟨w.heap.size + 1 + 1, 1, none⟩) (by show w.heap.size ≤ w.heap.size + 1 + 1; omega) _
end Go.Proofs.Ytbajnecahojcfaa
