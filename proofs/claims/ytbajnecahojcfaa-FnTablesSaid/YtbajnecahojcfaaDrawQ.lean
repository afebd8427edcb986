/- The draw of a database. -/
import Derived.Test.YtbajnecahojcfaaOwnD
import Derived.Test.YtbajnecahojcfaaDrawS
import Derived.Test.YtbajnecahojcfaaDrawA
namespace Go.Proofs.Ytbajnecahojcfaa
open Go.RowKit Go.Sort
set_option maxHeartbeats 4000000
set_option maxRecDepth 100000
def TabG (t : Tab) : Prop := t.1.length ≤ 5 ∧ t.2.2.length ≤ 9 ∧ ∀ r ∈ t.2.2, r.length ≤ 6
theorem rel_rows {a : Int} {m : List (List Int)} (h : relOk a m = true) : ∀ r ∈ m, r.length ≤ 6 := by
  obtain ⟨a1, a2, a3, a4⟩ := relOk_iff.1 h
  intro r hr
  have := (a3 r hr).1
  omega
theorem tabs_push {T : List Tab} {t : Tab} (h : ∀ x ∈ T, TabG x) (ht : TabG t) : ∀ x ∈ T ++ [t], TabG x := fun x hx => by
  rcases List.mem_append.1 hx with hx | hx
  · exact h x hx
  · rw [List.mem_singleton.1 hx]; exact ht
def namesL : List (List UInt8) := [[114], [115], [116], [117], [118]]
def namesC : Array Value := #[.string ⟨#[114]⟩, .string ⟨#[115]⟩, .string ⟨#[116]⟩, .string ⟨#[117]⟩, .string ⟨#[118]⟩]
theorem names_at : ∀ k (h : k < 5), ∃ M : List UInt8, namesC[k]? = some (.string ⟨M.toArray⟩) ∧ M.length ≤ 5
  | 0, _ => ⟨[114], rfl, by decide⟩
  | 1, _ => ⟨[115], rfl, by decide⟩
  | 2, _ => ⟨[116], rfl, by decide⟩
  | 3, _ => ⟨[117], rfl, by decide⟩
  | 4, _ => ⟨[118], rfl, by decide⟩
  | k + 5, h => by omega
theorem lit4_own (w : World) (a b c d : Int) : OwnI (w.alloc (.cells #[.int .i64 a, .int .i64 b, .int .i64 c, .int .i64 d] 3)) 0 (.slice (some ⟨w.heap.size, 0, none⟩) 4 4) [a, b, c, d] := World.ownsRow_lit w #[.int .i64 a, .int .i64 b, .int .i64 c, .int .i64 d] 4 (Nat.zero_le _) (by decide) rfl
/-- A database that a draw hands back. -/
def DbG (P : List Tab → Prop) (g : Nat) (w : World) (e : Ending) (w' : World) : Prop := ∃ (T : List Tab) (A : Option Addr) (c : Nat), e = .returned (.agg #[.slice A T.length c]) ∧ P T ∧ (∀ t ∈ T, TabG t) ∧ OwnD w' w.heap.size w.heap.size (.slice A T.length c) T ∧ Cur w' g ∧ w.grownBy w' (some g)
theorem l6Db_s (g : Nat) (w : World) (hc : Cur w g) : Calls Try.prog 146 #[.pointer (some ⟨g, 0, none⟩)] w (DbG (fun T => T.length = 5) g w) := by
  have hlt := hc.lt
  have y0 := heap_alloc_new w (.cells #[.slice none 0 0] 52)
  have hG := World.grownBy_alloc w (.cells #[.slice none 0 0] 52) (some g)
  replace hc := cur_alloc hc (.cells #[.slice none 0 0] 52)
  have ho4 : OwnI ((w.alloc (.cells #[.slice none 0 0] 52)).alloc (.cells #[.int .i64 2, .int .i64 3, .int .i64 4, .int .i64 6] 3)) 0 (.slice (some ⟨w.heap.size + 1, 0, none⟩) 4 4) [2, 3, 4, 6] := by
    have := lit4_own (w.alloc (.cells #[.slice none 0 0] 52)) 2 3 4 6
    rwa [size_alloc] at this
  have Hhc := Lib.hid hc; clear hc; have HhG := Lib.hid hG; clear hG; have Hy0 := Lib.hid y0; clear y0; have Hho4 := Lib.hid ho4; clear ho4
  go_enter Try.func146, Try.ntmps146
  go_wp2_with (go_at_call 134; ((with_reducible refine (l1PickInt_s g (.slice (some ⟨w.heap.size + 1, 0, none⟩) 4 4) 0 [2, 3, 4, 6] (by simp) (by simp) _ (cur_alloc Hhc.out _) Hho4.out).mono ?_); rintro e w1 ⟨x, rfl, hx, hc1, hg1⟩; (have hG1 := Lib.hid (grown_trans HhG.out (grown_trans (World.grownBy_alloc _ _ _) hg1)); have y01 := Lib.hid (blockG hg1 (by omega) (heapN Hy0.out _)); clear hg1)))
  have hxb : 1 ≤ x ∧ x ≤ 100 := by simp at hx; omega
  clear hx
  have hs1 : w.heap.size + 2 ≤ w1.heap.size ∨ True := .inr trivial
  clear hs1
  have hs1 := hG1.out.size
  have hl0 := lt_of_heap y01.out
  have p0 := heapN (heapN y01.out (.cells #[.slice none 0 0] 52)) (.cells namesC 9)
  have p4 := heapN (heap_alloc_new w1 (.cells #[.slice none 0 0] 52)) (.cells namesC 9)
  have ps := heap_new1 w1 (.cells #[.slice none 0 0] 52) (.cells namesC 9)
  have pc := cur_alloc (cur_alloc hc1 (.cells #[.slice none 0 0] 52)) (.cells namesC 9)
  have pG := grown_trans (grown_trans hG1.out (World.grownBy_alloc _ (.cells #[.slice none 0 0] 52) _)) (World.grownBy_alloc _ (.cells namesC 9) _)
  unfold namesC at p0 p4 ps pc pG
  generalize ((w1.alloc (.cells #[.slice none 0 0] 52)).alloc _) = w2 at *
  generalize hP : w1.heap.size = P at *
  clear hG1 y01 hc1 hP
  have Hp0 := Lib.hid p0; clear p0; have Hp4 := Lib.hid p4; clear p4; have Hps := Lib.hid ps; clear ps; have Hpc := Lib.hid pc; clear pc; have HpG := Lib.hid pG; clear pG
  go_loopw [15] (fun i wr => ∃ (D : List Tab) (A' : Option Addr) (q' : Nat), i = .int .i64 (D.length : Int) ∧ D.length ≤ 5 ∧ (∀ t ∈ D, TabG t) ∧ wr.heap[w.heap.size]? = some (.cells #[.slice none 0 0] 52 (0, 0)) ∧ wr.heap[P]? = some (.cells #[.slice A' D.length q'] 52 (0, 0)) ∧ wr.heap[P + 1]? = some (.cells namesC 9 (0, 0)) ∧
    OwnD wr (P + 2) w.heap.size (.slice A' D.length q') D ∧ Cur wr g ∧ w.grownBy wr (some g)) (fun i _ => 5 - (intOf i).toNat)
  case atStart => exact ⟨[], none, 0, rfl, Nat.zero_le _, (fun t ht => by cases ht), Hp0.out, Hp4.out, Hps.out, OwnD.nil _ _ _, Hpc.out, HpG.out⟩
  case round =>
    obtain ⟨D, A', q', rfl, hD, hDg, y0, y4, ys, hown, hc, hG⟩ := hrel
    have hls := lt_of_heap ys
    by_cases hlt5 : D.length < 5
    · have g0 : (D.length : Int) < 5 := by omega
      obtain ⟨M, hM, hMl⟩ := names_at D.length hlt5
      have c0 := (cellAt ys D.length).trans hM
      have hsz := hG.size
      clear hM
      have Hy0 := Lib.hid y0; clear y0; have Hy4 := Lib.hid y4; clear y4; have Hys := Lib.hid ys; clear ys; have Hhown := Lib.hid hown; clear hown; have Hhc := Lib.hid hc; clear hc; have HhG := Lib.hid hG; clear hG; have HhDg := Lib.hid hDg; clear hDg
      go_wp2_with (first
        | (go_at_call 134; ((with_reducible refine (l1PickInt_s g (.slice (some ⟨_, 0, none⟩) 3 3) 0 [3, 6, 9] (by simp) (by simp) _ (cur_alloc Hhc.out _) (lit3_own _ _ _ _)).mono ?_); rintro e w3 ⟨y, rfl, hy, hc3, hg3⟩; (have hyb : 0 ≤ y ∧ y ≤ 9 := (by simp at hy; omega); have hGa := Lib.hid (grown_trans HhG.out (grown_trans (World.grownBy_alloc _ _ _) hg3)); have own3 := Lib.hid (OwnD.draw (OwnD.alloc Hhown.out _) hg3 (by omega) (by omega)); have z0 := Lib.hid (blockG hg3 (by omega) (heapN Hy0.out _)); have z4 := Lib.hid (blockG hg3 (by omega) (heapN Hy4.out _)); have zs := Lib.hid (blockG hg3 (by omega) (heapN Hys.out _)); have hs3 := hGa.out.size; clear hy hg3)))
        | (go_at_call 139; ((with_reducible refine (l5Rel_s g 2 y x (by omega) (by omega) (by omega) _ hc3).mono ?_); rintro e w4 ⟨a, m, A9, c9, rfl, ⟨hok, hml⟩, own9, hc4, hg4⟩; (have hGb := Lib.hid (grown_trans hGa.out hg4); have own4 := Lib.hid (OwnD.draw own3.out hg4 (by omega) (by omega)); have v0 := Lib.hid (blockG hg4 (by omega) z0.out); have v4 := Lib.hid (blockG hg4 (by omega) z4.out); have vs := Lib.hid (blockG hg4 (by omega) zs.out); have hr9 := Lib.hid (SegM.wide own9 hs3 (Nat.le_refl _)); have hTg : TabG (M, a, m) := ⟨hMl, (show m.length ≤ 9 by omega), rel_rows hok⟩; have HTg := Lib.hid hTg; have u4 := (fun o => cellAt (heapN v4.out o) 0); have r0 := cellAt (heap_alloc_new w4 (.cells #[.int .i64 a, .slice A9 m.length c9] 44)) 0; have r1 := cellAt (heap_alloc_new w4 (.cells #[.int .i64 a, .slice A9 m.length c9] 44)) 1; have hs4 := hGb.out.size; have hl4 := lt_of_heap vs.out; clear hg4 own9 hok hml hTg)))
        | (go_at_call 139; ((with_reducible refine (l5Rel_s g 3 y x (by omega) (by omega) (by omega) _ hc3).mono ?_); rintro e w4 ⟨a, m, A9, c9, rfl, ⟨hok, hml⟩, own9, hc4, hg4⟩; (have hGb := Lib.hid (grown_trans hGa.out hg4); have own4 := Lib.hid (OwnD.draw own3.out hg4 (by omega) (by omega)); have v0 := Lib.hid (blockG hg4 (by omega) z0.out); have v4 := Lib.hid (blockG hg4 (by omega) z4.out); have vs := Lib.hid (blockG hg4 (by omega) zs.out); have hr9 := Lib.hid (SegM.wide own9 hs3 (Nat.le_refl _)); have hTg : TabG (M, a, m) := ⟨hMl, (show m.length ≤ 9 by omega), rel_rows hok⟩; have HTg := Lib.hid hTg; have u4 := (fun o => cellAt (heapN v4.out o) 0); have r0 := cellAt (heap_alloc_new w4 (.cells #[.int .i64 a, .slice A9 m.length c9] 44)) 0; have r1 := cellAt (heap_alloc_new w4 (.cells #[.int .i64 a, .slice A9 m.length c9] 44)) 1; have hs4 := hGb.out.size; have hl4 := lt_of_heap vs.out; clear hg4 own9 hok hml hTg)))
        | (at_builtin; go_must (refine wp_append_tab rfl _ _ rfl (P + 2) w.heap.size _ D rfl (OwnD.alloc own4.out (.cells #[.int .i64 a, .slice A9 m.length c9] 44)) (M, a, m) (.slice A9 m.length c9) (SegM.wide (SegM.alloc hr9.out (.cells #[.int .i64 a, .slice A9 m.length c9] 44)) (Nat.le_refl _) (by simp)) (by first | rfl | exact congrArg (fun g => Value.slice (some ⟨g, 0, none⟩) 1 1) (size_alloc ..).symm) (by omega) (by simp; omega) ?_; intro v5 w5 own5 hgr5 hb5; obtain ⟨A6, q6, e6, -⟩ := OwnD.opened own5; rw [List.length_append, List.length_singleton] at e6; subst e6; have x0 := blockL (k := w.heap.size) hb5 (by omega) (heapN v0.out _); have x4 := blockL (k := P) hb5 (by omega) (heapN v4.out _); have xs := blockL (k := P + 1) hb5 (by omega) (heapN vs.out _); have x4c := cellAt x4 0; have x4f := frozen0 (j := 0) x4; have hcx := Cur.low (cur_alloc hc4 _) hb5 (by omega); have hGx := grown_low (grown_trans hGb.out (World.grownBy_alloc _ _ _)) hb5 (by omega))))
      all_goals
        go_roundw
        case rel => exact ⟨D ++ [(M, a, m)], A6, q6, by rw [List.length_append]; go_num, by simp; omega, tabs_push HhDg.out HTg.out, setO (by omega) x0 _, (by rw [List.length_append, List.length_singleton]; exact setS1 x4 _), setO (by omega) xs _, (by rw [List.length_append, List.length_singleton]; exact OwnD.setO own5 x4 (by decide) _), hcx.set (by omega) _, grown_new hGx (by omega) _⟩
        case measure => simp [intOf] <;> omega
    · have hD5 : D.length = 5 := by omega
      have g0 : ¬ (D.length : Int) < 5 := by omega
      have hsz := hG.size
      rw [hD5] at y4 hown
      have Hy0 := Lib.hid y0; clear y0; have Hy4 := Lib.hid y4; clear y4; have Hys := Lib.hid ys; clear ys; have Hhown := Lib.hid hown; clear hown; have Hhc := Lib.hid hc; clear hc; have HhG := Lib.hid hG; clear hG; have HhDg := Lib.hid hDg; clear hDg
      go_wp2_with (go_at_call 104; ((with_reducible refine (l1Once_s g 8 (by omega) _ Hhc.out).mono ?_); rintro e w3 ⟨bb, rfl, hc3, hg3⟩; (have hGa := Lib.hid (grown_trans HhG.out hg3); have own3 := Lib.hid (OwnD.draw Hhown.out hg3 (by omega) (by omega)); have z0 := blockG hg3 (by omega) Hy0.out; have z4 := blockG hg3 (by omega) Hy4.out; have z4c := cellAt z4 0; have z0f := frozen0 (j := 0) z0; have z0c := cellAt z0 0; clear hg3)))
      · obtain ⟨g2, q2, e2, hq5, hqm, hg2l, hg2u, cs, yg, hcs⟩ := OwnD.shape own3.out (by omega)
        rw [hD5] at e2 hcs hq5
        simp only [Value.slice.injEq, true_and] at e2
        obtain ⟨rfl, rfl⟩ := e2
        have hdb : Below w3.heap.size w3 w3.drew := (Below.refl _ _).drew
        have hcd : Cur w3.drew g := hc3.below hdb
        have z4d := blockB hdb z4
        have z4dc := cellAt z4d 0
        have z0d := Lib.hid (blockB hdb z0)
        have ygd := Lib.hid (blockB hdb yg)
        have ownd := Lib.hid (OwnD.below own3.out hdb)
        have hGd := Lib.hid (grown_trans hGa.out (grown_of_below hdb (some g)))
        have hgg : g2 ≠ g := by omega
        have hcur : g < P + 2 ∧ g < w.heap.size := by omega
        go_region_law (go_simp; (go_at_call 102; ((with_reducible refine (l1Below_s g 5 (by omega) _ hcd).mono ?_); rintro e w4 ⟨z, rfl, hz, hc4, hg4⟩; (obtain ⟨kz, rfl⟩ := Int.eq_ofNat_of_zero_le hz.1; have hkz : kz < 5 := (by omega); have hkz1 : (kz : Int) < 5 := (by omega); have hkz0 : 0 ≤ (kz : Int) := (by omega); have x4 := blockG hg4 (by omega) z4d; have x4c := cellAt x4 0; have x0 := Lib.hid (blockG hg4 (by omega) z0d.out); have xg := blockG hg4 hgg ygd.out; have xf := frozen0 (j := kz * 3 + 2) xg; have xc := (cellAt xg (kz * 3 + 2)).trans (Array.getElem?_eq_getElem (show kz * 3 + 2 < cs.size by omega)); have xf' := frozen0 (j := kz * 3 + 1 + 1) xg; have xc' : w4.cell? ⟨g2, kz * 3 + 1 + 1, none⟩ = _ := xc; have hGx := Lib.hid (grown_trans hGd.out hg4); have ownx := Lib.hid (OwnD.draw ownd.out hg4 hcur.1 hcur.2); clear hg4))))
        all_goals
          have hkD : kz < D.length := by omega
          have hoT := OwnD.setRows ownx.out kz hkD (m := []) (u := .slice none 0 0) (SegM.nil _ _ _)
          have h0s := setO (g := g2) (j := kz * 3 + 2) (show w.heap.size ≠ g2 by omega) x0.out (.slice none 0 0)
          have h4s := setO (g := g2) (j := kz * 3 + 2) (show P ≠ g2 by omega) x4 (.slice none 0 0)
          have h0f := frozen0 (j := 0) h0s
          have h0c := cellAt h0s 0
          have h4c := cellAt h4s 0
          have HoT := Lib.hid hoT
          clear hoT
          go_wp2_with fail
          refine bodyPost_ret (res_db rfl rfl (setS1 h0s _)) rfl ⟨D.set kz (D[kz].1, D[kz].2.1, []), some ⟨g2, 0, none⟩, q', ?_, (by show (D.set kz (D[kz].1, D[kz].2.1, [])).length = 5; rw [List.length_set]; exact hD5), ?_, ?_, (hc4.set (by omega) _).set (by omega) _, grown_new (grown_new hGx.out (by omega) _) (Nat.le_refl _) _⟩
          · rw [List.length_set, hD5]
          · intro t ht
            rcases List.mem_or_eq_of_mem_set ht with ht | rfl
            · exact HhDg.out t ht
            · exact ⟨(HhDg.out _ (List.getElem_mem hkD)).1, Nat.zero_le _, fun r hr => by cases hr⟩
          · rw [List.length_set, hD5]
            exact OwnD.mono (OwnD.setO HoT.out h0s (by decide) _) (by omega) (Nat.le_refl _)
      · refine bodyPost_ret (res_db rfl rfl (setS1 z0 _)) rfl ⟨D, A', q', ?_, hD5, HhDg.out, ?_, hc3.set (by omega) _, grown_new hGa.out (Nat.le_refl _) _⟩
        · rw [hD5]
        · rw [hD5]; exact OwnD.mono (OwnD.setO own3.out z0 (by decide) _) (by omega) (Nat.le_refl _)
end Go.Proofs.Ytbajnecahojcfaa
