/- The draw of a relation and columns. -/
import Derived.Test.YtbajnecahojcfaaDrawE
namespace Go.Proofs.Ytbajnecahojcfaa
open Go.RowKit Go.Sort
set_option maxHeartbeats 4000000
set_option maxRecDepth 100000
theorem segM_lowD {w w' : World} {lo hi B : Nat} {v : Value} {m : List (List Int)} (h : SegM w lo hi v m) (hb : Below B w w') (hB : hi ≤ B) : SegM w' lo hi v m := by
  have keep : ∀ {e n size xs u}, w.ownsRow lo e size u n xs → (∀ g, u.ownBlock = some g → g < hi) → w'.ownsRow lo e size u n xs := fun {e n size xs u} h hl => by
    obtain ⟨h1, h2⟩ := h
    refine ⟨h1, ?_⟩
    rcases h2 with h2 | ⟨g, cap, cur, hv, hg, hh, r⟩
    · exact .inl h2
    · exact .inr ⟨g, cap, cur, hv, hg, blockL hb (Nat.lt_of_lt_of_le (hl g (by rw [hv]; rfl)) hB) hh, r⟩
  obtain ⟨ps, h1, h2, h3, h4⟩ := h
  exact ⟨ps, h1, keep h2 h3, h3, fun p hp => ⟨keep (h4.1 p hp).1 (h4.1 p hp).2, (h4.1 p hp).2⟩, h4.2⟩
theorem rr_end {lo lo2 hi n : Nat} {w W : World} {a : Int} {m : List (List Int)} {A : Option Addr} {c : Nat} {r : List Int} {A2 : Option Addr} {c2 : Nat} (y : W.heap[w.heap.size]? = some (.cells #[.int .i64 0, .slice none 0 0] 44 (0, 0))) (h1 : AnyR a m) (hn : r.length = n) (h2 : n ≤ 7) (h3 : SegM W lo hi (.slice A m.length c) m) (h4 : OwnI W lo2 (.slice A2 n c2) r) (hlo : w.heap.size ≤ lo) (hlo2 : w.heap.size ≤ lo2) (hhi : hi ≤ W.heap.size) (hB : Below w.heap.size w W) :
    RetRR w (.returned (.tuple #[.agg #[.int .i64 a, .slice A m.length c], .slice A2 n c2])) ((W.setCell ⟨w.heap.size, 0, none⟩ (.int .i64 a)).setCell ⟨w.heap.size, 1, none⟩ (.slice A m.length c)) := by
  subst hn
  have oa := SegM.setO (j := 0) h3 y (by decide) (by decide) (.int .i64 a)
  have ob := SegM.setO (j := 1) oa (set0 y _) (by decide) (by decide) (.slice A m.length c)
  have pa := ints_setO (j := 0) h4 y (by decide) (.int .i64 a)
  have pb := ints_setO (j := 1) pa (set0 y _) (by decide) (.slice A m.length c)
  exact retRR_of rfl h1 h2 (ob.wide hlo (by simpa [World.setCell] using hhi)) (own_mono pb hlo2) ((hB.setCell (p := ⟨w.heap.size, 0, none⟩) (Nat.le_refl _) _).setCell (p := ⟨w.heap.size, 1, none⟩) (Nat.le_refl _) _)
theorem DrawProject_s (v : Value) (bs : List UInt8) (w : World) (hl : bs.length ≤ 1048576) (hv : SlB w.heap.size w v bs) : Calls Try.prog 92 #[v] w (RetRR w) := by
  have y0 := heap_alloc_new w (.cells #[.int .i64 0, .slice none 0 0] 44)
  have hB : Below w.heap.size w (w.alloc (.cells #[.int .i64 0, .slice none 0 0] 44)) := (Below.refl _ _).alloc (Nat.le_refl _) _
  have hv2 := (hv.keep hB).up hB.size
  have hy := lt_of_heap y0
  have Hhv2 := Lib.hid hv2; clear hv2; have HhB := Lib.hid hB; clear hB; have Hhy := Lib.hid hy; clear hy
  go_enter Try.func92, Try.ntmps92
  go_wp2_with (first
    | (go_at_call 100; ((with_reducible refine (l1New_s _ bs _ hl Hhv2.out).mono ?_); rintro e w1 ⟨g, rfl, hgw, hc, hb1⟩; (have hB1 := Lib.hid (below_tr HhB.out hb1); have y1 := blockB hb1 y0; have hgw2 : w.heap.size < g := Nat.lt_of_lt_of_le Hhy.out hgw; have hbs1 := Lib.hid hB1.out.size; clear hgw hb1)))
    | (go_at_call 114; ((with_reducible refine (l5Any_s g _ hc).mono ?_); rintro e w2 ⟨a, m, A, c, rfl, hany, own2, hc2, hg2⟩; (have hB2 := Lib.hid (hB1.out.trans (below_of_grown hg2 (by omega) hbs1.out)); have y2 := blockG hg2 (by omega) y1; have own2b := Lib.hid own2; have hg1l := hc.lt; have hgc := hc2.lt; have Hany := Lib.hid hany; have ha1 := hany.1.1; have ha2 := hany.1.2; have hs12 := Lib.hid hg2.size; clear own2 hg2 hany; have hX := heap_alloc_new w2 (.cells #[.int .i64 a, .slice A m.length c] 44); have y3 := heapN y2 (.cells #[.int .i64 a, .slice A m.length c] 44); have hca := cur_alloc hc2 (.cells #[.int .i64 a, .slice A m.length c] 44); have hBa := Lib.hid (hB2.out.alloc hB2.out.size (.cells #[.int .i64 a, .slice A m.length c] 44)); have owna := Lib.hid (SegM.alloc own2b.out (.cells #[.int .i64 a, .slice A m.length c] 44)); have hXb := heapN hX (.cells #[] 3); have y4 := heapN y3 (.cells #[] 3); have hcb := cur_alloc hca (.cells #[] 3); have hBb := Lib.hid (hBa.out.alloc hBa.out.size (.cells #[] 3)); have ownb := Lib.hid (SegM.alloc owna.out (.cells #[] 3)); have ownl := Lib.hid (own_nil' (w2.alloc (.cells #[.int .i64 a, .slice A m.length c] 44)) (Nat.le_refl _)); clear y1 y2 hX y3 hca)))
    | (go_at_call 102; ((with_reducible refine (l1Below_s g 4 (by omega) _ hcb).mono ?_); rintro e w3 ⟨n, rfl, hn, hc3, hg3⟩; (have hn3 : 0 ≤ n ∧ n ≤ 3 := (by omega); have X3 := Lib.hid (blockG hg3 (by omega) hXb); have y5 := Lib.hid (blockG hg3 (by omega) y4); have hB3 := Lib.hid (hBb.out.trans (below_of_grown hg3 (by omega) hBb.out.size)); have own3 := Lib.hid (segM_draw ownb.out hg3 hg1l); have hs3 := Lib.hid hg3.size; have ownl3 := Lib.hid (own_grown ownl.out hg3 (by simp; omega)); clear hn hg3))))
  obtain ⟨z1, hz1⟩ : ∃ z, max 1 a = z := ⟨_, rfl⟩
  have hz6 : 1 ≤ z1 ∧ z1 ≤ 6 := by omega
  have hsa : (w2.alloc (.cells #[.int .i64 a, .slice A m.length c] 44)).heap.size = w2.heap.size + 1 := by simp
  have hOL : OwnI w3 (w2.heap.size + 1) (.slice (some ⟨w2.heap.size + 1, 0, none⟩) 0 0) [] := by
    have := ownl3.out
    rw [hsa] at this
    exact this
  have hOL2 := Lib.hid hOL
  clear hOL hsa hcb hXb y4
  go_loopw [6, 7] (fun u n wr => ∃ (D : List Int) (A2 : Option Addr) (q : Nat) (z : Int), u = .slice A2 D.length q ∧ n = .int .i64 z ∧ 0 ≤ z ∧ (D.length : Int) + z ≤ 3 ∧ wr.heap[w.heap.size]? = some (.cells #[.int .i64 0, .slice none 0 0] 44 (0, 0)) ∧ wr.heap[w2.heap.size]? = some (.cells #[.int .i64 a, .slice A m.length c] 44 (0, 0)) ∧ SegM wr w1.heap.size w2.heap.size (.slice A m.length c) m ∧ OwnI wr (w2.heap.size + 1) (.slice A2 D.length q) D ∧ Cur wr g ∧ Below w.heap.size w wr) (fun _ n _ => (intOf n).toNat)
  case atStart => exact ⟨[], some ⟨w2.heap.size + 1, 0, none⟩, 0, n, rfl, rfl, hn3.1, by simp; omega, y5.out, X3.out, own3.out, hOL2.out, hc3, hB3.out⟩
  case round =>
    obtain ⟨D, A2, q, z, rfl, rfl, hz, hDz, yr, Xr, ownm, ownd, hc, hB⟩ := hrel
    have hsz := hB.size
    have hXl := lt_of_heap Xr
    have hz3 : z ≤ 3 := by omega
    have hgr := hc.lt
    have hsw := hs12.out
    have hswb := hbs1.out
    by_cases hp : 0 < z
    · have t0 := cellAt Xr 0
      have Hownm := Lib.hid ownm; clear ownm; have Hownd := Lib.hid ownd; clear ownd; have HhB := Lib.hid hB; clear hB; have HhDz := Lib.hid hDz; clear hDz; have Hyr := Lib.hid yr; clear yr; have HXr := Lib.hid Xr; clear Xr
      go_wp2_with (first
        | (go_at_call 102; ((with_reducible refine (l1Below_s g z1 (by omega) _ hc).mono ?_); rintro e w4 ⟨x, rfl, hx, hc4, hg4⟩; (have own4 := own_grown Hownd.out hg4 (by omega); have m4 := segM_draw Hownm.out hg4 (by omega); have y4 := blockG hg4 (by omega) Hyr.out; have X4 := blockG hg4 (by omega) HXr.out; have hB4 := HhB.out.trans (below_of_grown hg4 (by omega) HhB.out.size); have hs4 := hg4.size; clear hx)))
        | (at_builtin; go_must (refine wp_append_one intT rfl _ _ rfl (w2.heap.size + 1) _ D.length (D.map intV) rfl own4 _ rfl rfl (by have := HhDz.out; omega) (by omega) ?_; intro v5 w5 own5 hgr5 hb5; replace own5 := own_push own5; obtain ⟨A5, q5, e5⟩ := own_int_open own5; subst e5)))
      go_roundw
      case rel => exact ⟨D ++ [x], A5, q5, z - 1, by rw [List.length_append]; rfl, by go_num, by omega, by have := HhDz.out; simp; omega, blockL hb5 (by omega) y4, blockL hb5 (by omega) X4, segM_lowD m4 hb5 (by omega), own5, Cur.low hc4 hb5 (by omega), hB4.trans (hb5.mono (by omega))⟩
      case measure => simp [intOf] <;> omega
    · have t0 := cellAt Xr 0
      have t1 := cellAt Xr 1
      have t0a := fun o => cellAt (heapN Xr o) 0
      have u0 := cellAt yr 0
      have u1 := cellAt yr 1
      have f0 := frozen0 (j := 0) yr
      have f1 := frozen0 (j := 1) yr
      have Hownm := Lib.hid ownm
      have Hownd := Lib.hid ownd
      have HhB := Lib.hid hB
      have hDl : D.length ≤ 3 := by omega
      clear ownm ownd hB hDz
      go_wp2_with (first
        | (go_at_call 104; ((with_reducible refine (l1Once_s g 10 (by omega) _ hc).mono ?_); rintro e w4 ⟨bb, rfl, hc4, hg4⟩; (obtain ⟨qq, rfl, hq1, hq2⟩ := own_int_pos Hownd.out (by omega); have hpD : 0 < D.length := (by omega); have own4 := Lib.hid (own_grown Hownd.out hg4 (by omega)); have m4 := Lib.hid (segM_draw Hownm.out hg4 (by omega)); have y4 := blockG hg4 (by omega) yr; have X4 := blockG hg4 (by omega) Xr; have hB4 := Lib.hid (HhB.out.trans (below_of_grown hg4 (by omega) HhB.out.size)); have hs4 := hg4.size; clear t0 t1 t0a u0 u1 f0 f1 hg4; have t0 := cellAt X4 0; have t1 := cellAt X4 1; have t0a := fun o => cellAt (heapN X4 o) 0; have u0 := cellAt y4 0; have u1 := cellAt y4 1; have f0 := frozen0 (j := 0) y4; have f1 := frozen0 (j := 1) y4; have hcp := cur_alloc hc4 (.cells #[.int .i64 (-1), .int .i64 a] 3))))
        | (go_at_call 134; ((with_reducible refine (l1PickInt_s g (.slice (some ⟨w4.heap.size, 0, none⟩) 2 2) 0 [-1, a] (by simp) (by simp) _ hcp (lit2_own _ _ _)).mono ?_); rintro e w5 ⟨y, rfl, hy, hc5, hg5⟩; (have own5 := own_grown (World.ownsRow.alloc own4.out (.cells #[.int .i64 (-1), .int .i64 a] 3)) hg5 (by omega); have m5 := Lib.hid (segM_draw (SegM.alloc m4.out (.cells #[.int .i64 (-1), .int .i64 a] 3)) hg5 (by omega)); have y5' := blockG hg5 (by omega) (heapN y4 (.cells #[.int .i64 (-1), .int .i64 a] 3)); have X5' := blockG hg5 (by omega) (heapN X4 (.cells #[.int .i64 (-1), .int .i64 a] 3)); have hB5 := Lib.hid ((hB4.out.alloc hB4.out.size (.cells #[.int .i64 (-1), .int .i64 a] 3)).trans (below_of_grown hg5 (by omega) (by have := hB4.out.size; simp; omega))); have c5 := ownI_cell own5 0 hpD; have f5 := own5.frozenAt 0; clear t0 t1 t0a u0 u1 f0 f1 hg5; have y6 := setO (g := qq) (j := 0) (by omega) y5' (.int .i64 y); have X6 := setO (g := qq) (j := 0) (by omega) X5' (.int .i64 y); have t0 := cellAt X6 0; have t1 := cellAt X6 1; have u0 := cellAt y6 0; have u1 := cellAt y6 1; have f0 := frozen0 (j := 0) y6; have f1 := frozen0 (j := 1) y6; have Hown5 := Lib.hid own5; clear own5))))
      · have hoN : OwnI (w5.setCell ⟨qq, 0, none⟩ (.int .i64 y)) (w2.heap.size + 1) (.slice (some ⟨qq, 0, none⟩) D.length q) (D.set 0 y) := by
          unfold OwnI
          rw [List.length_set]
          exact ownI_set Hown5.out 0 y
        have hmN : SegM (w5.setCell ⟨qq, 0, none⟩ (.int .i64 y)) w1.heap.size w2.heap.size (.slice A m.length c) m := segM_lowD (B := w2.heap.size + 1) m5.out ((Below.refl _ _).setCell (p := ⟨qq, 0, none⟩) (by show w2.heap.size + 1 ≤ qq; omega) _) (by omega)
        have hbN := hB5.out.setCell (p := ⟨qq, 0, none⟩) (by show w.heap.size ≤ qq; omega) (.int .i64 y)
        have hX5s := lt_of_heap X5'
        exact bodyPost_ret (res_rel_tmp rfl rfl rfl (set1 (set0 y6 _) _)) rfl (rr_end y6 Hany.out (by rw [List.length_set]) (by omega) hmN hoN (by omega) (by omega) (by simp [World.setCell]; omega) hbN)
      · exact bodyPost_ret (res_rel_tmp rfl rfl rfl (set1 (set0 y4 _) _)) rfl (rr_end y4 Hany.out rfl (by omega) m4.out own4.out (by omega) (by omega) (by omega) hB4.out)
      · exact bodyPost_ret (res_rel_tmp rfl rfl rfl (set1 (set0 yr _) _)) rfl (rr_end yr Hany.out rfl (by omega) Hownm.out Hownd.out (by omega) (by omega) (by omega) HhB.out)
end Go.Proofs.Ytbajnecahojcfaa
