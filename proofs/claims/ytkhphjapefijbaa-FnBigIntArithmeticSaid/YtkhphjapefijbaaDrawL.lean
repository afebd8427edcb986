/- The draws of big integers: rows. (Written by mkdrawb.py.) -/
import Derived.Test.YtkhphjapefijbaaDrawB
import Derived.Test.YtkhphjapefijbaaSeg
import Derived.Test.YtkhphjapefijbaaCarry
import Derived.Test.YtkhphjapefijbaaBig
import Derived.Deep.LoopGhost
import Derived.Deep.RegionLaw
namespace Go.Proofs.Ytkhphjapefijbaa
open Go.RowKit Go.Sort
set_option maxHeartbeats 4000000
set_option maxRecDepth 100000
theorem own_grown {w w' : World} {B g : Nat} {v : Value} {l : List Int} (h : OwnI w B v l) (hg : w.grownBy w' (some g)) (hB : g < B) : OwnI w' B v l := by
  refine ⟨h.1, ?_⟩
  rcases h.2 with h2 | ⟨g', cap, cur, hv, hgg, hh, r⟩
  · exact .inl h2
  · exact .inr ⟨g', cap, cur, hv, hgg, blockG hg (by omega) hh, r⟩
theorem Cur.low {w w' : World} {g B : Nat} (h : Cur w g) (hb : Below B w w') (hg : g < B) : Cur w' g := by
  obtain ⟨v, bs, i, hh, h1, h2, h3, h4, h5⟩ := h
  exact ⟨v, bs, i, hh, blockL hb hg h1, h2, h3, h4, h5.keep (hb.mono (by omega))⟩
theorem grown_low {w w2 w3 : World} {B : Nat} {r : Option Nat} (hG : w.grownBy w2 r) (hb : Below B w2 w3) (hB : w.heap.size ≤ B) : w.grownBy w3 r :=
  ⟨hb.os.trans hG.os, hb.tape.trans hG.tape, hb.output.trans hG.output, Nat.le_trans hG.size hb.size, fun k hk hr => (hb.block k (by omega)).trans (hG.block k hk hr)⟩
theorem ownR_grown {w w' : World} {B g n : Nat} {e : TypeId} {v : Value} {xs : List Value} (h : w.ownsRow B e 1 v n xs) (hg : w.grownBy w' (some g)) (hB : g < B) : w'.ownsRow B e 1 v n xs := by
  refine ⟨h.1, ?_⟩
  rcases h.2 with h2 | ⟨g', cap, cur, hv, hgg, hh, r⟩
  · exact .inl h2
  · exact .inr ⟨g', cap, cur, hv, hgg, blockG hg (by omega) hh, r⟩
theorem step_append_int {w : World} {ops : Array Oper} {o : Oper} {a : Act} {K : Act → World → Prop} {Q : Exit → Act → World → Prop} {E : Prop} (hgd : o.guard = none) (s x : Operand)
    (ho : o.op = .call { callee := .builtin .append, args := #[s, x], argTypes := #[44, 44] }) (base : Nat) (v : Value) (n : Nat) (xs : List Value) (hs : a.eval s = v) (hown : w.ownsRow base 3 1 v n xs)
    (u : Value) (hx : a.eval x = .slice (some ⟨w.heap.size, 0, none⟩) 1 1) (h1 : u.oneCell' = true) (hn : n + 1 ≤ 1099511627776) (hbase : base ≤ w.heap.size)
    (h : ∀ v' w', w'.ownsRow base 3 1 v' (n + 1) (xs ++ [u]) → w.grownBy w' v.ownBlock → Below base w w' → K (a.put o.dst v') w') : if Region.wanted o (yielded ops a.tmps) = true then Oper.wp Try.prog o a (w.alloc (.cells #[u] 3)) K Q else E := by
  rw [if_pos (by simp [Region.wanted, hgd])]
  exact wp_append_oneK intT s x ho base v n xs hs (hown.alloc _) w.heap.size u hx (heap_alloc_new w _) h1 hn (by simp; omega) fun v' w' h1 h2 h3 =>
    h v' w' h1 (grown_trans (World.grownBy_alloc w _ _) h2) (((Below.refl base w).alloc hbase _).trans h3)
theorem l3Big_s (g : Nat) (w : World) (hc : Cur w g) : Calls Try.prog 92 #[.pointer (some ⟨g, 0, none⟩)] w (fun e w' => ∃ (l : List Int) (A : Option Addr) (c : Nat), e = .returned (.agg #[.slice A l.length c]) ∧ l.length ≤ 62 ∧ OwnI w' w.heap.size (.slice A l.length c) l ∧ Cur w' g ∧ w.grownBy w' (some g)) := by
  have hlt := hc.lt
  have hG := World.grownBy_alloc w (.cells #[.slice none 0 0] 46) (some g)
  have y0 := heap_alloc_new w (.cells #[.slice none 0 0] 46)
  replace hc := hc.below ((Below.refl _ _).alloc (Nat.le_refl _) (.cells #[.slice none 0 0] 46))
  go_enter Try.func92, Try.ntmps92
  go_wp2_with (first
    | (go_at_call 80; ((with_reducible refine (l1Below_s g _ (by omega) _ hc).mono ?_); rintro e w1 ⟨x, rfl, hx, hc1, hg1⟩; (replace hG := grown_trans hG hg1; replace hc := hc1; replace y0 := blockG hg1 (by omega) y0; clear hc1 hg1)))
    | (go_at_call 78; ((with_reducible refine (l1Once_s g _ (by omega) _ hc).mono ?_); rintro e w1 ⟨bb, rfl, hc1, hg1⟩; (replace hG := grown_trans hG hg1; replace hc := hc1; replace y0 := blockG hg1 (by omega) y0; clear hc1 hg1))))
  rotate_left
  · subst_vars
    obtain ⟨m, rfl⟩ : ∃ m : Nat, x = (m : Int) := ⟨x.toNat, by omega⟩
    have hm : m ≤ 61 := by omega
    have hlw := lt_of_heap y0
    have hcg := hc.lt
    generalize hB1 : w1.heap.size = B1 at *
    go_loopw [5] (fun ii wr => ∃ (D : List Int) (A : Option Addr) (q : Nat), ii = .int .i64 (D.length : Int) ∧ D.length ≤ m ∧ wr.heap[B1]? = some (.cells #[.slice A D.length q] 46 (0, 0)) ∧ wr.heap[w.heap.size]? = some (.cells #[.slice none 0 0] 46 (0, 0)) ∧ OwnI wr (B1 + 1) (.slice A D.length q) D ∧ Cur wr g ∧ w.grownBy wr (some g)) (fun ii _ => m - (intOf ii).toNat)
    case atStart => exact ⟨[], none, 0, rfl, Nat.zero_le _, hB1 ▸ heap_alloc_new w1 _, heapN y0 _, own_nil, hc.below ((Below.refl _ _).alloc (Nat.le_refl _) _), grown_trans hG (World.grownBy_alloc _ _ _)⟩
    case round =>
      clear y0 hc hG hB1
      obtain ⟨D, A, q, rfl, hD, y1, y0, hown, hc, hG⟩ := hrel
      have hs := lt_of_heap y1
      have z1 := cellAt y1 0; have f1 := frozen0 (j := 0) y1; have z0 := cellAt y0 0; have f0 := frozen0 (j := 0) y0
      by_cases hlt : D.length < m
      · have g0 : (D.length : Int) < (m : Int) := by omega
        have Hhown := Lib.hid hown; clear hown
        go_wp2_with fail
        have hgd : wr.grownBy wr.drew (some g) := grown_of_below ((Below.refl _ _).drew) _
        have hcd : Cur wr.drew g := hc.below ((Below.refl _ _).drew)
        have hownd : OwnI wr.drew (B1 + 1) (.slice A D.length q) D := own_grown Hhown.out hgd (by omega)
        have y1d := blockG hgd (by omega) y1
        have y0d := blockG hgd (by omega) y0
        have z1d := cellAt y1d 0
        have Hownd := Lib.hid hownd
        clear hownd
        go_region_law (first
          | (go_simp; (go_at_call 80; ((with_reducible refine (l1Below_s g _ (by omega) _ hcd).mono ?_); rintro e w2 ⟨d, rfl, hd, hcc, hg2⟩; (have hGc := grown_trans (grown_trans hG hgd) hg2; have hown2 := own_grown Hownd.out hg2 (by omega); have y1c := blockG hg2 (by omega) y1d; have y0c := blockG hg2 (by omega) y0d; have z1c := cellAt y1c 0; have hs2 := lt_of_heap y1c; clear hg2))))
          | (refine step_append_int rfl (.tmp 20) (.tmp 23) rfl (B1 + 1) (.slice A D.length q) D.length (D.map intV) ?_ hown2 (.int .i64 d) ?_ rfl (by omega) (by omega) ?_; (first | rfl | (simp [Act.eval, Act.put])); (first | rfl | (simp [Act.eval, Act.put])); intro v2 w3 hown3 hgr2 hb2; replace hown3 := own_push hown3; obtain ⟨A2, c2, rfl, -⟩ := IRow.open hown3.row; have y0e := blockL hb2 (by omega) y0c; have y1e := blockL hb2 (by omega) y1c; have hce := Cur.low hcc hb2 (by omega); have hGe := grown_low hGc hb2 (by omega); have z1e := cellAt y1e 0; have f1e := frozen0 (j := 0) y1e))
        all_goals
          go_wp2_with fail
          go_roundw
          case rel => exact ⟨D ++ [d], A2, c2, (by rw [List.length_append]; go_num), by simp; omega, (by rw [show (D ++ [d]).length = D.length + 1 by simp]; exact setS y1e _), setO (by omega) y0e _, own_set_low hown3 (by omega) _, hce.set (by omega) _, grown_new hGe (by omega) _⟩
          case measure => simp [intOf] <;> omega
      · have hDm : D.length = m := by omega
        have g0 : ¬ (D.length : Int) < (m : Int) := by omega
        have hownm : wr.ownsRow (B1 + 1) 3 1 (.slice A m q) m (D.map intV) := by have := hown; unfold OwnI at this; rw [hDm] at this; exact this
        by_cases hm0 : m = 0
        · first
          | (exfalso; omega)
          | (have gm : ¬ 0 < (m : Int) := by omega
             have gm2 : decide (0 < (m : Int)) = false := by rw [decide_eq_false_iff_not]; exact gm
             have Hownm := Lib.hid hownm
             clear hownm
             have Hhown := Lib.hid hown
             clear hown
             go_wp2_with fail
             refine bodyPost_ret (res_big rfl rfl (setS y0 _)) rfl ⟨D, A, q, by rw [show D.length = 0 by omega], by omega, own_mono (own_set_low Hhown.out (by omega) _) (by omega), hc.set (by omega) _, grown_new hG (by omega) _⟩)
        · have gm : 0 < (m : Int) := by omega
          have gm2 : decide (0 < (m : Int)) = true := by rw [decide_eq_true_eq]; exact gm
          obtain ⟨gD, rfl, hBg, hgl⟩ : ∃ gD, A = some ⟨gD, 0, none⟩ ∧ B1 + 1 ≤ gD ∧ gD < wr.heap.size := by
            rcases own_shape hown with ⟨rfl, rfl, hD0⟩ | ⟨gD, rfl, hBg, hgl, -⟩
            · subst hD0; exact absurd hDm.symm (by simpa using hm0)
            · exact ⟨gD, rfl, hBg, hgl⟩
          rw [hDm] at y1
          have hl2 := hDm
          clear z1 z0 f1 f0 hown
          have z1 := cellAt y1 0; have f1 := frozen0 (j := 0) y1; have z0 := cellAt y0 0; have f0 := frozen0 (j := 0) y0
          obtain ⟨k, ek, ek2⟩ : ∃ k, ((m : Int) - 1).toNat = k ∧ m - 1 = k := ⟨m - 1, by omega, rfl⟩
          have hkm : k < m := by omega
          have gm3 : 0 < m := by omega
          have gm4 : decide (0 < m) = true := by rw [decide_eq_true_eq]; exact gm3
          have ew : IntKind.i64.wrap ((m : Int) - 1) = (m : Int) - 1 := IntWalk.i64_in _ (by omega)
          have ew2 : 0 ≤ (m : Int) - 1 := by omega
          have ew3 : (m : Int) - 1 < (m : Int) := by omega
          have Hownm := Lib.hid hownm
          clear hownm
          go_wp2_with (go_at_call 78; ((with_reducible refine (l1Once_s g _ (by omega) _ hc).mono ?_); rintro e wa ⟨bb, rfl, hc1, hg1⟩; (replace hG := grown_trans hG hg1; replace hc := hc1; have hownm := Lib.hid (ownR_grown Hownm.out hg1 (by omega)); clear Hownm; have Hownm := hownm; clear hownm; replace y0 := blockG hg1 (by omega) y0; replace y1 := blockG hg1 (by omega) y1; clear z1 z0 f1 f0; have z1 := cellAt y1 0; have f1 := frozen0 (j := 0) y1; have z0 := cellAt y0 0; have f0 := frozen0 (j := 0) y0; have hs3 := lt_of_heap y1; clear hc1 hg1)))
          · have hgd : wa.grownBy wa.drew (some g) := grown_of_below ((Below.refl _ _).drew) _
            have z1a : wa.drew.cell? ⟨B1, 0, none⟩ = _ := z1
            go_region_with (go_at_call 80; ((with_reducible refine (l1Below_s g _ (by omega) _ (hc.below ((Below.refl _ _).drew))).mono ?_); rintro e w2 ⟨d, rfl, hd, hcc, hg2⟩; (have hGc := grown_trans (grown_trans hG hgd) hg2; have own2 := ownR_grown (ownR_grown Hownm.out hgd (by omega)) hg2 (by omega); have y1c := blockG hg2 (by omega) (blockG hgd (by omega) y1); have y0c := blockG hg2 (by omega) (blockG hgd (by omega) y0); have z1c := cellAt y1c 0; have hs4 := lt_of_heap y1c; have ed := IntWalk.i64_in (1 + d) (by omega); have c4 := ownI_cell own2 k (by omega); have f4 := own2.frozenAt k; clear hg2)))
            all_goals
              have hcN : Cur (w2.setCell ⟨gD, k, none⟩ (.int .i64 (1 + d))) g := hcc.set (by omega) _
              have hGN := grown_new hGc (k := gD) (j := k) (by omega) (.int .i64 (1 + d))
              have hoN := ownI_set own2 k (1 + d)
              have y1N : (w2.setCell ⟨gD, k, none⟩ (.int .i64 (1 + d))).heap[B1]? = _ := setO (by omega) y1c _
              have y0N : (w2.setCell ⟨gD, k, none⟩ (.int .i64 (1 + d))).heap[w.heap.size]? = _ := setO (by omega) y0c _
              generalize w2.setCell ⟨gD, k, none⟩ (.int .i64 (1 + d)) = wb at *
              obtain ⟨D2, hD2⟩ : ∃ D2, D.set k (1 + d) = D2 := ⟨_, rfl⟩
              have hl2n : D2.length = m := by rw [← hD2, List.length_set]; exact hl2
              rw [hD2] at hoN
              clear hD2 z1 z0 f1 f0 z1a z1c c4 f4 own2 y1c y0c hGc hcc hc hG y0 y1 hs3 Hownm hl2 hgd
              clear hDm
              have hc := hcN; have hG := hGN; have y1 := y1N; have y0 := y0N; have hl2 := hl2n; have Hownm := Lib.hid hoN
              clear hcN hGN y1N y0N hl2n hoN
              have z1 := cellAt y1 0; have f1 := frozen0 (j := 0) y1; have z0 := cellAt y0 0; have f0 := frozen0 (j := 0) y0; have hs3 := lt_of_heap y1
              go_wp2_with (go_at_call 78; ((with_reducible refine (l1Once_s g _ (by omega) _ hc).mono ?_); rintro e wa ⟨bb, rfl, hc1, hg1⟩; (replace hG := grown_trans hG hg1; replace hc := hc1; have hownm := Lib.hid (ownR_grown Hownm.out hg1 (by omega)); clear Hownm; have Hownm := hownm; clear hownm; replace y0 := blockG hg1 (by omega) y0; replace y1 := blockG hg1 (by omega) y1; clear z1 z0 f1 f0; have z1 := cellAt y1 0; have f1 := frozen0 (j := 0) y1; have z0 := cellAt y0 0; have f0 := frozen0 (j := 0) y0; have hs3 := lt_of_heap y1; clear hc1 hg1)))
              · have hgd : wa.grownBy (wa.alloc (.cells #[.int .i64 (-1), .int .i64 10] 3)).drew (some g) := grown_of_below (((Below.refl _ _).alloc (Nat.le_refl _) _).drew) _
                have z1a : wa.drew.cell? ⟨B1, 0, none⟩ = _ := z1
                have z1b := cellAt (blockG hgd (by omega) y1) 0
                go_region_with (go_at_call 79; ((with_reducible refine ((l1PickInt_s g (.slice (some ⟨_, 0, none⟩) 2 2) 0 [(-1), (10)] (by simp) (by simp) _ (hc.below (((Below.refl _ _).alloc (Nat.le_refl _) _).drew)) ((World.ownsRow_lit _ #[.int .i64 (-1), .int .i64 10] 2 (Nat.zero_le _) (by decide) rfl).drew))).mono ?_); rintro e w2 ⟨d, rfl, hd, hcc, hg2⟩; (have hGc := grown_trans (grown_trans hG hgd) hg2; have own2 := ownR_grown (ownR_grown Hownm.out hgd (by omega)) hg2 (by omega); have y1c := blockG hg2 (by omega) (blockG hgd (by omega) y1); have y0c := blockG hg2 (by omega) (blockG hgd (by omega) y0); have z1c := cellAt y1c 0; have hs4 := lt_of_heap y1c; have z0c := cellAt y0c 0; have f0c := frozen0 (j := 0) y0c; have c4 := ownI_cell own2 0 (by omega); have f4 := own2.frozenAt 0; clear hg2)))
                all_goals
                  go_wp2_with fail
                  refine bodyPost_ret (res_big rfl rfl (setS (setO (by omega) y0c _) _)) rfl ⟨D2.set 0 d, _, q, by rw [List.length_set, hl2], by rw [List.length_set]; omega, ?_, (hcc.set (by omega) _).set (by omega) _, grown_new (grown_new hGc (by omega) _) (by omega) _⟩
                  unfold OwnI
                  rw [List.length_set, hl2]
                  exact own_mono (own_set_low (ownI_set own2 0 d) (by omega) _) (by omega)
              · refine bodyPost_ret (res_big rfl rfl (setS y0 _)) rfl ⟨_, _, q, by rw [hl2], by omega, ?_, hc.set (by omega) _, grown_new hG (by omega) _⟩
                unfold OwnI
                rw [hl2]
                exact own_mono (own_set_low Hownm.out (by omega) _) (by omega)
              trace_state
          · have hgd : wa.grownBy (wa.alloc (.cells #[.int .i64 (-1), .int .i64 10] 3)).drew (some g) := grown_of_below (((Below.refl _ _).alloc (Nat.le_refl _) _).drew) _
            have z1a : wa.drew.cell? ⟨B1, 0, none⟩ = _ := z1
            have z1b := cellAt (blockG hgd (by omega) y1) 0
            go_region_with (go_at_call 79; ((with_reducible refine ((l1PickInt_s g (.slice (some ⟨_, 0, none⟩) 2 2) 0 [(-1), (10)] (by simp) (by simp) _ (hc.below (((Below.refl _ _).alloc (Nat.le_refl _) _).drew)) ((World.ownsRow_lit _ #[.int .i64 (-1), .int .i64 10] 2 (Nat.zero_le _) (by decide) rfl).drew))).mono ?_); rintro e w2 ⟨d, rfl, hd, hcc, hg2⟩; (have hGc := grown_trans (grown_trans hG hgd) hg2; have own2 := ownR_grown (ownR_grown Hownm.out hgd (by omega)) hg2 (by omega); have y1c := blockG hg2 (by omega) (blockG hgd (by omega) y1); have y0c := blockG hg2 (by omega) (blockG hgd (by omega) y0); have z1c := cellAt y1c 0; have hs4 := lt_of_heap y1c; have z0c := cellAt y0c 0; have f0c := frozen0 (j := 0) y0c; have c4 := ownI_cell own2 0 (by omega); have f4 := own2.frozenAt 0; clear hg2)))
            all_goals
              go_wp2_with fail
              refine bodyPost_ret (res_big rfl rfl (setS (setO (by omega) y0c _) _)) rfl ⟨D.set 0 d, _, q, by rw [List.length_set, hl2], by rw [List.length_set]; omega, ?_, (hcc.set (by omega) _).set (by omega) _, grown_new (grown_new hGc (by omega) _) (by omega) _⟩
              unfold OwnI
              rw [List.length_set, hl2]
              exact own_mono (own_set_low (ownI_set own2 0 d) (by omega) _) (by omega)
          · refine bodyPost_ret (res_big rfl rfl (setS y0 _)) rfl ⟨_, _, q, by rw [hl2], by omega, ?_, hc.set (by omega) _, grown_new hG (by omega) _⟩
            unfold OwnI
            rw [hl2]
            exact own_mono (own_set_low Hownm.out (by omega) _) (by omega)
  · subst_vars
    obtain ⟨m, hm0⟩ : ∃ m : Nat, 28 + x = (m : Int) := ⟨(28 + x).toNat, by omega⟩
    have hm : m ≤ 61 := by omega
    rw [hm0]
    have hlw := lt_of_heap y0
    have hcg := hc.lt
    generalize hB1 : w1.heap.size = B1 at *
    go_loopw [5] (fun ii wr => ∃ (D : List Int) (A : Option Addr) (q : Nat), ii = .int .i64 (D.length : Int) ∧ D.length ≤ m ∧ wr.heap[B1]? = some (.cells #[.slice A D.length q] 46 (0, 0)) ∧ wr.heap[w.heap.size]? = some (.cells #[.slice none 0 0] 46 (0, 0)) ∧ OwnI wr (B1 + 1) (.slice A D.length q) D ∧ Cur wr g ∧ w.grownBy wr (some g)) (fun ii _ => m - (intOf ii).toNat)
    case atStart => exact ⟨[], none, 0, rfl, Nat.zero_le _, hB1 ▸ heap_alloc_new w1 _, heapN y0 _, own_nil, hc.below ((Below.refl _ _).alloc (Nat.le_refl _) _), grown_trans hG (World.grownBy_alloc _ _ _)⟩
    case round =>
      clear y0 hc hG hB1
      obtain ⟨D, A, q, rfl, hD, y1, y0, hown, hc, hG⟩ := hrel
      have hs := lt_of_heap y1
      have z1 := cellAt y1 0; have f1 := frozen0 (j := 0) y1; have z0 := cellAt y0 0; have f0 := frozen0 (j := 0) y0
      by_cases hlt : D.length < m
      · have g0 : (D.length : Int) < (m : Int) := by omega
        have Hhown := Lib.hid hown; clear hown
        go_wp2_with fail
        have hgd : wr.grownBy wr.drew (some g) := grown_of_below ((Below.refl _ _).drew) _
        have hcd : Cur wr.drew g := hc.below ((Below.refl _ _).drew)
        have hownd : OwnI wr.drew (B1 + 1) (.slice A D.length q) D := own_grown Hhown.out hgd (by omega)
        have y1d := blockG hgd (by omega) y1
        have y0d := blockG hgd (by omega) y0
        have z1d := cellAt y1d 0
        have Hownd := Lib.hid hownd
        clear hownd
        go_region_law (first
          | (go_simp; (go_at_call 80; ((with_reducible refine (l1Below_s g _ (by omega) _ hcd).mono ?_); rintro e w2 ⟨d, rfl, hd, hcc, hg2⟩; (have hGc := grown_trans (grown_trans hG hgd) hg2; have hown2 := own_grown Hownd.out hg2 (by omega); have y1c := blockG hg2 (by omega) y1d; have y0c := blockG hg2 (by omega) y0d; have z1c := cellAt y1c 0; have hs2 := lt_of_heap y1c; clear hg2))))
          | (refine step_append_int rfl (.tmp 20) (.tmp 23) rfl (B1 + 1) (.slice A D.length q) D.length (D.map intV) ?_ hown2 (.int .i64 d) ?_ rfl (by omega) (by omega) ?_; (first | rfl | (simp [Act.eval, Act.put])); (first | rfl | (simp [Act.eval, Act.put])); intro v2 w3 hown3 hgr2 hb2; replace hown3 := own_push hown3; obtain ⟨A2, c2, rfl, -⟩ := IRow.open hown3.row; have y0e := blockL hb2 (by omega) y0c; have y1e := blockL hb2 (by omega) y1c; have hce := Cur.low hcc hb2 (by omega); have hGe := grown_low hGc hb2 (by omega); have z1e := cellAt y1e 0; have f1e := frozen0 (j := 0) y1e))
        all_goals
          go_wp2_with fail
          go_roundw
          case rel => exact ⟨D ++ [d], A2, c2, (by rw [List.length_append]; go_num), by simp; omega, (by rw [show (D ++ [d]).length = D.length + 1 by simp]; exact setS y1e _), setO (by omega) y0e _, own_set_low hown3 (by omega) _, hce.set (by omega) _, grown_new hGe (by omega) _⟩
          case measure => simp [intOf] <;> omega
      · have hDm : D.length = m := by omega
        have g0 : ¬ (D.length : Int) < (m : Int) := by omega
        have hownm : wr.ownsRow (B1 + 1) 3 1 (.slice A m q) m (D.map intV) := by have := hown; unfold OwnI at this; rw [hDm] at this; exact this
        by_cases hm0 : m = 0
        · first
          | (exfalso; omega)
          | (have gm : ¬ 0 < (m : Int) := by omega
             have gm2 : decide (0 < (m : Int)) = false := by rw [decide_eq_false_iff_not]; exact gm
             have Hownm := Lib.hid hownm
             clear hownm
             have Hhown := Lib.hid hown
             clear hown
             go_wp2_with fail
             refine bodyPost_ret (res_big rfl rfl (setS y0 _)) rfl ⟨D, A, q, by rw [show D.length = 0 by omega], by omega, own_mono (own_set_low Hhown.out (by omega) _) (by omega), hc.set (by omega) _, grown_new hG (by omega) _⟩)
        · have gm : 0 < (m : Int) := by omega
          have gm2 : decide (0 < (m : Int)) = true := by rw [decide_eq_true_eq]; exact gm
          obtain ⟨gD, rfl, hBg, hgl⟩ : ∃ gD, A = some ⟨gD, 0, none⟩ ∧ B1 + 1 ≤ gD ∧ gD < wr.heap.size := by
            rcases own_shape hown with ⟨rfl, rfl, hD0⟩ | ⟨gD, rfl, hBg, hgl, -⟩
            · subst hD0; exact absurd hDm.symm (by simpa using hm0)
            · exact ⟨gD, rfl, hBg, hgl⟩
          rw [hDm] at y1
          have hl2 := hDm
          clear z1 z0 f1 f0 hown
          have z1 := cellAt y1 0; have f1 := frozen0 (j := 0) y1; have z0 := cellAt y0 0; have f0 := frozen0 (j := 0) y0
          obtain ⟨k, ek, ek2⟩ : ∃ k, ((m : Int) - 1).toNat = k ∧ m - 1 = k := ⟨m - 1, by omega, rfl⟩
          have hkm : k < m := by omega
          have gm3 : 0 < m := by omega
          have gm4 : decide (0 < m) = true := by rw [decide_eq_true_eq]; exact gm3
          have ew : IntKind.i64.wrap ((m : Int) - 1) = (m : Int) - 1 := IntWalk.i64_in _ (by omega)
          have ew2 : 0 ≤ (m : Int) - 1 := by omega
          have ew3 : (m : Int) - 1 < (m : Int) := by omega
          have Hownm := Lib.hid hownm
          clear hownm
          go_wp2_with (go_at_call 78; ((with_reducible refine (l1Once_s g _ (by omega) _ hc).mono ?_); rintro e wa ⟨bb, rfl, hc1, hg1⟩; (replace hG := grown_trans hG hg1; replace hc := hc1; have hownm := Lib.hid (ownR_grown Hownm.out hg1 (by omega)); clear Hownm; have Hownm := hownm; clear hownm; replace y0 := blockG hg1 (by omega) y0; replace y1 := blockG hg1 (by omega) y1; clear z1 z0 f1 f0; have z1 := cellAt y1 0; have f1 := frozen0 (j := 0) y1; have z0 := cellAt y0 0; have f0 := frozen0 (j := 0) y0; have hs3 := lt_of_heap y1; clear hc1 hg1)))
          · have hgd : wa.grownBy wa.drew (some g) := grown_of_below ((Below.refl _ _).drew) _
            have z1a : wa.drew.cell? ⟨B1, 0, none⟩ = _ := z1
            go_region_with (go_at_call 80; ((with_reducible refine (l1Below_s g _ (by omega) _ (hc.below ((Below.refl _ _).drew))).mono ?_); rintro e w2 ⟨d, rfl, hd, hcc, hg2⟩; (have hGc := grown_trans (grown_trans hG hgd) hg2; have own2 := ownR_grown (ownR_grown Hownm.out hgd (by omega)) hg2 (by omega); have y1c := blockG hg2 (by omega) (blockG hgd (by omega) y1); have y0c := blockG hg2 (by omega) (blockG hgd (by omega) y0); have z1c := cellAt y1c 0; have hs4 := lt_of_heap y1c; have ed := IntWalk.i64_in (1 + d) (by omega); have c4 := ownI_cell own2 k (by omega); have f4 := own2.frozenAt k; clear hg2)))
            all_goals
              have hcN : Cur (w2.setCell ⟨gD, k, none⟩ (.int .i64 (1 + d))) g := hcc.set (by omega) _
              have hGN := grown_new hGc (k := gD) (j := k) (by omega) (.int .i64 (1 + d))
              have hoN := ownI_set own2 k (1 + d)
              have y1N : (w2.setCell ⟨gD, k, none⟩ (.int .i64 (1 + d))).heap[B1]? = _ := setO (by omega) y1c _
              have y0N : (w2.setCell ⟨gD, k, none⟩ (.int .i64 (1 + d))).heap[w.heap.size]? = _ := setO (by omega) y0c _
              generalize w2.setCell ⟨gD, k, none⟩ (.int .i64 (1 + d)) = wb at *
              obtain ⟨D2, hD2⟩ : ∃ D2, D.set k (1 + d) = D2 := ⟨_, rfl⟩
              have hl2n : D2.length = m := by rw [← hD2, List.length_set]; exact hl2
              rw [hD2] at hoN
              clear hD2 z1 z0 f1 f0 z1a z1c c4 f4 own2 y1c y0c hGc hcc hc hG y0 y1 hs3 Hownm hl2 hgd
              clear hDm
              have hc := hcN; have hG := hGN; have y1 := y1N; have y0 := y0N; have hl2 := hl2n; have Hownm := Lib.hid hoN
              clear hcN hGN y1N y0N hl2n hoN
              have z1 := cellAt y1 0; have f1 := frozen0 (j := 0) y1; have z0 := cellAt y0 0; have f0 := frozen0 (j := 0) y0; have hs3 := lt_of_heap y1
              go_wp2_with (go_at_call 78; ((with_reducible refine (l1Once_s g _ (by omega) _ hc).mono ?_); rintro e wa ⟨bb, rfl, hc1, hg1⟩; (replace hG := grown_trans hG hg1; replace hc := hc1; have hownm := Lib.hid (ownR_grown Hownm.out hg1 (by omega)); clear Hownm; have Hownm := hownm; clear hownm; replace y0 := blockG hg1 (by omega) y0; replace y1 := blockG hg1 (by omega) y1; clear z1 z0 f1 f0; have z1 := cellAt y1 0; have f1 := frozen0 (j := 0) y1; have z0 := cellAt y0 0; have f0 := frozen0 (j := 0) y0; have hs3 := lt_of_heap y1; clear hc1 hg1)))
              · have hgd : wa.grownBy (wa.alloc (.cells #[.int .i64 (-1), .int .i64 10] 3)).drew (some g) := grown_of_below (((Below.refl _ _).alloc (Nat.le_refl _) _).drew) _
                have z1a : wa.drew.cell? ⟨B1, 0, none⟩ = _ := z1
                have z1b := cellAt (blockG hgd (by omega) y1) 0
                go_region_with (go_at_call 79; ((with_reducible refine ((l1PickInt_s g (.slice (some ⟨_, 0, none⟩) 2 2) 0 [(-1), (10)] (by simp) (by simp) _ (hc.below (((Below.refl _ _).alloc (Nat.le_refl _) _).drew)) ((World.ownsRow_lit _ #[.int .i64 (-1), .int .i64 10] 2 (Nat.zero_le _) (by decide) rfl).drew))).mono ?_); rintro e w2 ⟨d, rfl, hd, hcc, hg2⟩; (have hGc := grown_trans (grown_trans hG hgd) hg2; have own2 := ownR_grown (ownR_grown Hownm.out hgd (by omega)) hg2 (by omega); have y1c := blockG hg2 (by omega) (blockG hgd (by omega) y1); have y0c := blockG hg2 (by omega) (blockG hgd (by omega) y0); have z1c := cellAt y1c 0; have hs4 := lt_of_heap y1c; have z0c := cellAt y0c 0; have f0c := frozen0 (j := 0) y0c; have c4 := ownI_cell own2 0 (by omega); have f4 := own2.frozenAt 0; clear hg2)))
                all_goals
                  go_wp2_with fail
                  refine bodyPost_ret (res_big rfl rfl (setS (setO (by omega) y0c _) _)) rfl ⟨D2.set 0 d, _, q, by rw [List.length_set, hl2], by rw [List.length_set]; omega, ?_, (hcc.set (by omega) _).set (by omega) _, grown_new (grown_new hGc (by omega) _) (by omega) _⟩
                  unfold OwnI
                  rw [List.length_set, hl2]
                  exact own_mono (own_set_low (ownI_set own2 0 d) (by omega) _) (by omega)
              · refine bodyPost_ret (res_big rfl rfl (setS y0 _)) rfl ⟨_, _, q, by rw [hl2], by omega, ?_, hc.set (by omega) _, grown_new hG (by omega) _⟩
                unfold OwnI
                rw [hl2]
                exact own_mono (own_set_low Hownm.out (by omega) _) (by omega)
              trace_state
          · have hgd : wa.grownBy (wa.alloc (.cells #[.int .i64 (-1), .int .i64 10] 3)).drew (some g) := grown_of_below (((Below.refl _ _).alloc (Nat.le_refl _) _).drew) _
            have z1a : wa.drew.cell? ⟨B1, 0, none⟩ = _ := z1
            have z1b := cellAt (blockG hgd (by omega) y1) 0
            go_region_with (go_at_call 79; ((with_reducible refine ((l1PickInt_s g (.slice (some ⟨_, 0, none⟩) 2 2) 0 [(-1), (10)] (by simp) (by simp) _ (hc.below (((Below.refl _ _).alloc (Nat.le_refl _) _).drew)) ((World.ownsRow_lit _ #[.int .i64 (-1), .int .i64 10] 2 (Nat.zero_le _) (by decide) rfl).drew))).mono ?_); rintro e w2 ⟨d, rfl, hd, hcc, hg2⟩; (have hGc := grown_trans (grown_trans hG hgd) hg2; have own2 := ownR_grown (ownR_grown Hownm.out hgd (by omega)) hg2 (by omega); have y1c := blockG hg2 (by omega) (blockG hgd (by omega) y1); have y0c := blockG hg2 (by omega) (blockG hgd (by omega) y0); have z1c := cellAt y1c 0; have hs4 := lt_of_heap y1c; have z0c := cellAt y0c 0; have f0c := frozen0 (j := 0) y0c; have c4 := ownI_cell own2 0 (by omega); have f4 := own2.frozenAt 0; clear hg2)))
            all_goals
              go_wp2_with fail
              refine bodyPost_ret (res_big rfl rfl (setS (setO (by omega) y0c _) _)) rfl ⟨D.set 0 d, _, q, by rw [List.length_set, hl2], by rw [List.length_set]; omega, ?_, (hcc.set (by omega) _).set (by omega) _, grown_new (grown_new hGc (by omega) _) (by omega) _⟩
              unfold OwnI
              rw [List.length_set, hl2]
              exact own_mono (own_set_low (ownI_set own2 0 d) (by omega) _) (by omega)
          · refine bodyPost_ret (res_big rfl rfl (setS y0 _)) rfl ⟨_, _, q, by rw [hl2], by omega, ?_, hc.set (by omega) _, grown_new hG (by omega) _⟩
            unfold OwnI
            rw [hl2]
            exact own_mono (own_set_low Hownm.out (by omega) _) (by omega)
end Go.Proofs.Ytkhphjapefijbaa
