/- Project, the program's. (Written by mkpro.py.) -/
import Derived.Test.YtbajnecahojcfaaPro
namespace Go.Proofs.Ytbajnecahojcfaa
open Go.RowKit Go.Sort
set_option maxHeartbeats 8000000
set_option maxRecDepth 100000
theorem Project_i (v u : Value) (ar : Int) (m : List (List Int)) (cols : List Int) (w : World) (hv : MRow w v m) (hu : IRow w u cols) (hl : cols.length ≤ 1048576) : Calls Try.prog 93 #[.agg #[.int .i64 ar, v], u] w (RetPr ar m cols w) := by
  have y0 := heapN (heap_alloc_new w (.cells #[.int .i64 ar, v] 44)) (.cells #[.int .i64 0, .slice none 0 0] 44)
  have y1 := heap_new1 w (.cells #[.int .i64 ar, v] 44) (.cells #[.int .i64 0, .slice none 0 0] 44)
  have hB : Below w.heap.size w ((w.alloc (.cells #[.int .i64 ar, v] 44)).alloc (.cells #[.int .i64 0, .slice none 0 0] 44)) := ((Below.refl _ _).alloc (Nat.le_refl _) _).alloc (by simp) _
  replace hv := hv.below hB
  replace hu := hu.below hB
  obtain ⟨A, c, rfl⟩ := MRow.opened hv
  obtain ⟨A', c', rfl, -⟩ := IRow.open hu
  have k1 := IsValidRelation_i (.slice A m.length c) ar m _ hv
  cases h0 : relOk ar m with
  | false =>
    have e := proOk_rel (cols := cols) h0
    rw [h0] at k1
    have Hhv := Lib.hid hv; clear hv; have Hhu := Lib.hid hu; clear hu; have HhB := Lib.hid hB; clear hB; have Hy0 := Lib.hid y0; clear y0; have Hk1 := Lib.hid k1; clear k1; have Hh0 := Lib.hid h0; clear h0; have He := Lib.hid e; clear e
    go_enter Try.func93, Try.ntmps93
    go_wp2_with (go_at_call 68; ((with_reducible refine (Hk1.out).mono ?_); rintro e w1 ⟨rfl, hb1⟩; (have z1 := blockB hb1 y1; have u0 := cellAt z1 0; have u1 := cellAt z1 1; have f0 := frozen0 (j := 0) z1; have f1 := frozen0 (j := 1) z1; have hB1 := below_tr HhB.out hb1)))
    refine bodyPost_ret (res_rel_tmp rfl rfl rfl (set1 (set0 z1 _) _)) rfl (retPr_no He.out rfl ?_)
    exact (hB1.setCell (p := ⟨w.heap.size + 1, 0, none⟩) (Nat.le_succ _) _).setCell (p := ⟨w.heap.size + 1, 1, none⟩) (Nat.le_succ _) _
  | true =>
  rw [h0] at k1
  obtain ⟨⟨a1, a1b⟩, a2, a3, a4⟩ := relOk_iff.1 h0
  have k2 := fun W h => columnsFit_i ar ⟨a1, a1b⟩ (.slice A' cols.length c') cols W h
  cases hc : colsOk ar cols with
  | false =>
    have e := proOk_cols (m := m) hc
    rw [hc] at k2
    have Hhv := Lib.hid hv; clear hv; have Hhu := Lib.hid hu; clear hu; have HhB := Lib.hid hB; clear hB; have Hy0 := Lib.hid y0; clear y0; have Hk1 := Lib.hid k1; clear k1; have Hh0 := Lib.hid h0; clear h0; have He := Lib.hid e; clear e; have Hk2 := Lib.hid k2; clear k2; have Ha3 := Lib.hid a3; clear a3; have Ha4 := Lib.hid a4; clear a4; have Hhc := Lib.hid hc; clear hc
    go_enter Try.func93, Try.ntmps93
    go_wp2_with (first
          | (go_at_call 68; ((with_reducible refine (Hk1.out).mono ?_); rintro e w1 ⟨rfl, hb1⟩; (have z0 := blockB hb1 Hy0.out; have z1 := blockB hb1 y1; have t0 := cellAt z0 0; have hB1 := below_tr HhB.out hb1; have hu1 := Hhu.out.below hb1)))
          | (go_at_call 142; ((with_reducible refine (Hk2.out _ hu1).mono ?_); rintro e w2 ⟨rfl, hb2⟩; (have x1 := blockB hb2 z1; have u0 := cellAt x1 0; have u1 := cellAt x1 1; have f0 := frozen0 (j := 0) x1; have f1 := frozen0 (j := 1) x1; have hB2 := below_tr hB1 hb2))))
    refine bodyPost_ret (res_rel_tmp rfl rfl rfl (set1 (set0 x1 _) _)) rfl (retPr_no He.out rfl ?_)
    exact (hB2.setCell (p := ⟨w.heap.size + 1, 0, none⟩) (Nat.le_succ _) _).setCell (p := ⟨w.heap.size + 1, 1, none⟩) (Nat.le_succ _) _
  | true =>
  rw [hc] at k2
  have hcs := cols_in hc
  have hpt := pick_total m cols hcs.1
  have Hhv := Lib.hid hv; clear hv; have Hhu := Lib.hid hu; clear hu; have HhB := Lib.hid hB; clear hB; have Hy0 := Lib.hid y0; clear y0; have Hk1 := Lib.hid k1; clear k1; have Hh0 := Lib.hid h0; clear h0; have Hk2 := Lib.hid k2; clear k2; have Ha3 := Lib.hid a3; clear a3; have Ha4 := Lib.hid a4; clear a4; have Hhc := Lib.hid hc; clear hc; have Hhcs := Lib.hid hcs; clear hcs
  go_enter Try.func93, Try.ntmps93
  go_wp2_with (first
    | (go_at_call 68; ((with_reducible refine (Hk1.out).mono ?_); rintro e w1 ⟨rfl, hb1⟩; (have z0 := blockB hb1 Hy0.out; have z1 := blockB hb1 y1; have t0 := cellAt z0 0; have hB1 := below_tr HhB.out hb1; have hu1 := Hhu.out.below hb1; have hv1 := Hhv.out.below hb1)))
    | (go_at_call 142; ((with_reducible refine (Hk2.out _ hu1).mono ?_); rintro e w2 ⟨rfl, hb2⟩; (have x0 := blockB hb2 z0; have x1 := blockB hb2 z1; have hB2 := below_tr hB1 hb2; have hu2 := hu1.below hb2; have hv2 := hv1.below hb2; have s1 := cellAt x0 1))))
  clear z0 z1 t0 s1 hu1 hv1
  obtain ⟨-, hA⟩ : True ∧ ∀ i (_ : i < m.length), ∃ b off, A = some ⟨b, off, none⟩ ∧ ∀ j (hj : j < m.length), ∃ A' c', w2.cell? ⟨b, off + j, none⟩ = some (.slice A' m[j].length c') ∧ IRow w2 (.slice A' m[j].length c') m[j] := by
    obtain ⟨A9, c9, e9, -, -, -, h9⟩ := MRow.open hv2
    simp only [Value.slice.injEq] at e9
    obtain ⟨rfl, -, rfl⟩ := e9
    exact ⟨trivial, h9⟩
  have HhA := Lib.hid hA; clear hA; have Hhv2 := Lib.hid hv2; clear hv2; have Hhu2 := Lib.hid hu2; clear hu2; have Hx0 := Lib.hid x0; clear x0; have HhB2 := Lib.hid hB2; clear hB2
  go_loopw [6, 23] (fun o i wr => ∃ (k : Nat) (D : List (List Int)), i = .int .i64 k ∧ k ≤ m.length ∧ D.length ≤ k ∧ D = (m.take k).map (pick cols) ∧ OwnM wr w2.heap.size o D ∧ Below w2.heap.size w2 wr) (fun _ i _ => m.length - (intOf i).toNat)
  case atStart => exact ⟨0, [], rfl, Nat.zero_le _, Nat.le_refl _, rfl, OwnM.nil _ _, Below.refl _ _⟩
  case round =>
    obtain ⟨k, D, rfl, hk, hDk, hD, hown, hb⟩ := hrel
    by_cases hlt : k < m.length
    · have g0 : (k : Int) < (m.length : Int) := by omega
      obtain ⟨b, off, rfl, h1⟩ := HhA.out k hlt
      obtain ⟨A1, q1, c1, r1⟩ := h1 k hlt
      replace r1 := r1.below hb
      replace c1 := cellB hb c1
      clear h1
      have hu3 := Hhu2.out.below hb
      have hx := Ha3.out m[k] (List.getElem_mem hlt)
      have hn : D ++ [pick cols m[k]] = (m.take (k + 1)).map (pick cols) := by rw [List.take_succ_eq_append_getElem hlt, List.map_append, hD]; rfl
      obtain ⟨r, hr⟩ : ∃ r, m[k] = r := ⟨_, rfl⟩
      rw [hr] at c1 r1 hx hn
      have hin : ∀ c ∈ cols, 0 ≤ c ∧ c < r.length := fun c hc => by have := Hhcs.out.2 c hc; omega
      have k3 := fun W h h' => pick_i (.slice A1 r.length q1) (.slice A' cols.length c') r cols hin hl W h h'
      generalize pick cols r = P at *
      have Hr1 := Lib.hid r1; clear r1; have Hhn := Lib.hid hn; clear hn; have HhD := Lib.hid hD; clear hD; have Hhx := Lib.hid hx; clear hx; have Hhr := Lib.hid hr; clear hr; have Hhu3 := Lib.hid hu3; clear hu3; have Hk3 := Lib.hid k3; clear k3; have Hhin := Lib.hid hin; clear hin
      go_wp2_with (first
        | (go_at_call 143; ((with_reducible refine (Hk3.out _ Hr1.out Hhu3.out).mono ?_); rintro e w3 ⟨A2, q2, rfl, own1, hb1⟩; (have hown1 := SegM.below hown hb1; have hs1 := hb.size; have hs2 := hb1.size)))
        | (at_builtin; go_must (refine wp_append_rowM rfl _ _ rfl w2.heap.size _ _ D rfl hown1 _ P own1 rfl (by omega) hs1 hs2 ?_; intro v5 w5 hown5 hb5 hgr5)))
      go_roundw
      case rel => exact ⟨k + 1, _, by go_num, by omega, by simp; omega, Hhn.out, hown5, (hb.trans (hb1.mono hb.size)).trans hb5⟩
      case measure => simp [intOf] <;> omega
    · obtain rfl : k = m.length := by omega
      have g0 : ¬ (m.length : Int) < (m.length : Int) := by omega
      rw [List.take_length] at hD
      have hMr : MRow wr _ D := SegM.row hown
      have hMt : D.length + total D ≤ 1099511627775 := by rw [hD, List.length_map]; omega
      obtain ⟨A2, q2, e2⟩ := MRow.opened hMr
      subst e2
      have k4 := NewRelation_i cols.length _ D wr hMr hMt
      have xr := blockB hb x1
      have hbw := HhB2.out.trans (hb.mono HhB2.out.size)
      have Hhown := Lib.hid hown; clear hown; have HhD := Lib.hid hD; clear hD; have HhMr := Lib.hid hMr; clear hMr; have Hk4 := Lib.hid k4; clear k4
      go_wp2_with (go_at_call 77; ((with_reducible refine (Hk4.out).mono ?_); rintro e w5 ⟨A7, c7, rfl, own7, hb5⟩; (have o2 := blockB hb5 xr; have f0 := frozen0 (j := 0) o2; have f1 := frozen0 (j := 1) o2; have g0 := cellAt o2 0; have g1 := cellAt o2 1)))
      have hs5 := hbw.size
      have z1 := set0 o2 (.int .i64 (newA cols.length D))
      have oa := SegM.setO (j := 0) own7 o2 (by decide) (by decide) (.int .i64 (newA cols.length D))
      have ob := SegM.setO (j := 1) oa z1 (by decide) (by decide) (.slice A7 (newM cols.length D).length c7)
      refine bodyPost_ret (res_rel_tmp rfl rfl rfl (set1 z1 _)) rfl (retPr_new Hh0.out Hhc.out HhD.out.symm rfl (ob.wide hs5 (by simp [World.setCell])) ?_)
      exact ((hbw.trans (hb5.mono hbw.size)).setCell (p := ⟨w.heap.size + 1, 0, none⟩) (Nat.le_succ _) _).setCell (p := ⟨w.heap.size + 1, 1, none⟩) (Nat.le_succ _) _
end Go.Proofs.Ytbajnecahojcfaa
