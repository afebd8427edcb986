/- The draw of two relations. -/
import Derived.Test.YtbajnecahojcfaaDrawE
namespace Go.Proofs.Ytbajnecahojcfaa
open Go.RowKit Go.Sort
set_option maxHeartbeats 4000000
set_option maxRecDepth 100000
theorem res_rel2 {fn : Func} {t u : Tmp} (h : fn.results = #[.cell t 44, .cell u 44]) {tmps : Array Value} {k k' : Nat} (ht : tmps[t]? = some (.pointer (some ⟨k, 0, none⟩))) (hu : tmps[u]? = some (.pointer (some ⟨k', 0, none⟩))) {w : World} {a b c d : Value} (y : w.heap[k]? = some (.cells #[a, b] 44 (0, 0))) (y' : w.heap[k']? = some (.cells #[c, d] 44 (0, 0))) :
    (results fn tmps).run Try.prog w = .ok (.tuple #[.agg #[a, b], .agg #[c, d]]) w := by
  have r0 := cellAt y 0
  have r1 := cellAt y 1
  have s0 := cellAt y' 0
  have s1 := cellAt y' 1
  simp at r0 r1 s0 s1
  simp [results, h, go_sem, ht, hu, r0, r1, s0, s1]
def RetUU (w : World) (e : Ending) (w' : World) : Prop := ∃ (a : Int) (ma : List (List Int)) (A : Option Addr) (c : Nat) (b : Int) (mb : List (List Int)) (A2 : Option Addr) (c2 : Nat), e = .returned (.tuple #[.agg #[.int .i64 a, .slice A ma.length c], .agg #[.int .i64 b, .slice A2 mb.length c2]]) ∧ AnyR a ma ∧ AnyR b mb ∧ OwnM w' w.heap.size (.slice A ma.length c) ma ∧ OwnM w' w.heap.size (.slice A2 mb.length c2) mb ∧ Below w.heap.size w w'
theorem uu_end {lo lo2 hi hi2 : Nat} {w W : World} {a b : Int} {ma mb : List (List Int)} {A A2 : Option Addr} {c c2 : Nat} (y : W.heap[w.heap.size]? = some (.cells #[.int .i64 0, .slice none 0 0] 44 (0, 0))) (y2 : W.heap[w.heap.size + 1]? = some (.cells #[.int .i64 0, .slice none 0 0] 44 (0, 0)))
    (ha : AnyR a ma) (hb : AnyR b mb) (h1 : SegM W lo hi (.slice A ma.length c) ma) (h2 : SegM W lo2 hi2 (.slice A2 mb.length c2) mb) (hlo : w.heap.size ≤ lo) (hlo2 : w.heap.size ≤ lo2) (hhi : hi ≤ W.heap.size) (hhi2 : hi2 ≤ W.heap.size) (hB : Below w.heap.size w W) :
    RetUU w (.returned (.tuple #[.agg #[.int .i64 a, .slice A ma.length c], .agg #[.int .i64 b, .slice A2 mb.length c2]])) ((((W.setCell ⟨w.heap.size, 0, none⟩ (.int .i64 a)).setCell ⟨w.heap.size, 1, none⟩ (.slice A ma.length c)).setCell ⟨w.heap.size + 1, 0, none⟩ (.int .i64 b)).setCell ⟨w.heap.size + 1, 1, none⟩ (.slice A2 mb.length c2)) := by
  have z1 := set0 y (.int .i64 a)
  have x1 := setO (g := w.heap.size) (j := 1) (show w.heap.size + 1 ≠ w.heap.size by omega) (setO (g := w.heap.size) (j := 0) (show w.heap.size + 1 ≠ w.heap.size by omega) y2 (.int .i64 a)) (.slice A ma.length c)
  have keep : ∀ {lo hi v m}, SegM W lo hi v m → SegM ((((W.setCell ⟨w.heap.size, 0, none⟩ (.int .i64 a)).setCell ⟨w.heap.size, 1, none⟩ (.slice A ma.length c)).setCell ⟨w.heap.size + 1, 0, none⟩ (.int .i64 b)).setCell ⟨w.heap.size + 1, 1, none⟩ (.slice A2 mb.length c2)) lo hi v m := fun {lo hi v m} h => by
    have o1 := SegM.setO (j := 0) h y (by decide) (by decide) (.int .i64 a)
    have o2 := SegM.setO (j := 1) o1 z1 (by decide) (by decide) (.slice A ma.length c)
    have o3 := SegM.setO (j := 0) o2 x1 (by decide) (by decide) (.int .i64 b)
    exact SegM.setO (j := 1) o3 (set0 x1 _) (by decide) (by decide) (.slice A2 mb.length c2)
  refine ⟨a, ma, A, c, b, mb, A2, c2, rfl, ha, hb, (keep h1).wide hlo (by simpa [World.setCell] using hhi), (keep h2).wide hlo2 (by simpa [World.setCell] using hhi2), ?_⟩
  exact (((hB.setCell (p := ⟨w.heap.size, 0, none⟩) (Nat.le_refl _) _).setCell (p := ⟨w.heap.size, 1, none⟩) (Nat.le_refl _) _).setCell (p := ⟨w.heap.size + 1, 0, none⟩) (Nat.le_succ _) _).setCell (p := ⟨w.heap.size + 1, 1, none⟩) (Nat.le_succ _) _
theorem DrawUnion_s (v : Value) (bs : List UInt8) (w : World) (hl : bs.length ≤ 1048576) (hv : SlB w.heap.size w v bs) : Calls Try.prog 88 #[v] w (RetUU w) := by
  have y0 := heapN (heap_alloc_new w (.cells #[.int .i64 0, .slice none 0 0] 44)) (.cells #[.int .i64 0, .slice none 0 0] 44)
  have x0 := heap_new1 w (.cells #[.int .i64 0, .slice none 0 0] 44) (.cells #[.int .i64 0, .slice none 0 0] 44)
  have hB : Below w.heap.size w ((w.alloc (.cells #[.int .i64 0, .slice none 0 0] 44)).alloc (.cells #[.int .i64 0, .slice none 0 0] 44)) := ((Below.refl _ _).alloc (Nat.le_refl _) _).alloc (by simp) _
  have hv2 := (hv.keep hB).up hB.size
  have hy := lt_of_heap x0
  have Hhv2 := Lib.hid hv2; clear hv2; have HhB := Lib.hid hB; clear hB; have Hhy := Lib.hid hy; clear hy
  go_enter Try.func88, Try.ntmps88
  go_wp2_with (first
    | (go_at_call 100; ((with_reducible refine (l1New_s _ bs _ hl Hhv2.out).mono ?_); rintro e w1 ⟨g, rfl, hgw, hc, hb1⟩; (have hB1 := Lib.hid (below_tr HhB.out hb1); have y1 := blockB hb1 y0; have x1 := blockB hb1 x0; have hgw2 : w.heap.size + 1 < g := Nat.lt_of_lt_of_le Hhy.out hgw; have hbs1 := Lib.hid hB1.out.size; clear hgw hb1)))
    | (go_at_call 114; ((with_reducible refine (l5Any_s g _ hc).mono ?_); rintro e w2 ⟨a, m, A, c, rfl, hany, own2, hc2, hg2⟩; (have hB2 := Lib.hid (hB1.out.trans (below_of_grown hg2 (by omega) hbs1.out)); have y2 := blockG hg2 (by omega) (y1); have x2 := blockG hg2 (by omega) (x1); have own2b := Lib.hid own2; have hg1l := hc.lt; have Hany := Lib.hid hany; have hs12 := Lib.hid hg2.size; have hgc := Lib.hid hc2.lt; have hXa := heap_alloc_new w2 (.cells #[.int .i64 a, .slice A m.length c] 44); have y2a := heapN y2 (.cells #[.int .i64 a, .slice A m.length c] 44); have x2a := heapN x2 (.cells #[.int .i64 a, .slice A m.length c] 44); have hca := cur_alloc hc2 (.cells #[.int .i64 a, .slice A m.length c] 44); have hBa := Lib.hid (hB2.out.alloc hB2.out.size (.cells #[.int .i64 a, .slice A m.length c] 44)); have owna := Lib.hid (SegM.alloc own2b.out (.cells #[.int .i64 a, .slice A m.length c] 44)); have HXl := Lib.hid (lt_of_heap hXa); clear own2 hg2 hany y2 x2)))
    | (go_at_call 104; ((with_reducible refine (l1Once_s g 6 (by omega) _ hca).mono ?_); rintro e w3 ⟨bb, rfl, hc3, hg3⟩; (have hX3 := blockG hg3 (by have := hgc.out; omega) hXa; have y3 := blockG hg3 (by omega) y2a; have x3 := blockG hg3 (by omega) x2a; have own3 := Lib.hid (segM_draw owna.out hg3 hg1l); have hB3 := Lib.hid (hBa.out.trans (below_of_grown hg3 (by omega) hBa.out.size)); have hs3 := Lib.hid hg3.size; clear hg3 hXa y2a x2a))))
  all_goals
    have hdb : Below w3.heap.size w3 w3.drew := (Below.refl _ _).drew
    have hcd : Cur w3.drew g := hc3.below hdb
    have hXd := blockB hdb hX3
    have y3d := blockB hdb y3
    have x3d := blockB hdb x3
    have ownd := SegM.below own3.out hdb
    have hBd := hB3.out.trans (hdb.mono hB3.out.size)
    have t0 := cellAt hX3 0
    have t1 := cellAt hX3 1
    have hgco := hgc.out
    have hs3o := hs3.out
    have hXlo := HXl.out
    have Hownd := Lib.hid ownd; clear ownd; have HhBd := Lib.hid hBd; clear hBd
    obtain ⟨z, hz⟩ : ∃ z, max 0 (min 5 a) = z := ⟨_, rfl⟩
    have hz2 : 0 ≤ z ∧ z ≤ 6 := by omega
    clear hgco hs3o hXlo
  · go_region_law (first
      | (go_simp; (go_at_call 114; ((with_reducible refine (l5Any_s g _ hcd).mono ?_); rintro e w5 ⟨b, mb, A2, c2, rfl, hanyb, ownb, hc5, hg5⟩; (have y5 := blockG hg5 (by omega) y3d; have x5 := blockG hg5 (by omega) x3d; have X5 := blockG hg5 (by have := hgc.out; omega) hXd; have t5 := cellAt X5 0; have t6 := cellAt X5 1; have u5 := cellAt y5 0; have u6 := cellAt y5 1; have f5 := frozen0 (j := 0) y5; have f6 := frozen0 (j := 1) y5; have u7 := cellAt x5 0; have u8 := cellAt x5 1; have f7 := frozen0 (j := 0) x5; have f8 := frozen0 (j := 1) x5; have ownm := Lib.hid (segM_draw Hownd.out hg5 hg1l); have hb5 := Lib.hid (HhBd.out.trans (below_of_grown hg5 (by omega) HhBd.out.size)); have hs5 : w3.heap.size ≤ w5.heap.size := hg5.size; have ownr := Lib.hid ownb; clear ownb hg5)))))
    all_goals
      go_wp2_with fail
      refine bodyPost_ret (res_rel2 rfl rfl rfl (setO (by omega) (setO (by omega) (set1 (set0 y5 _) _) _) _) (set1 (set0 (setO (by omega) (setO (by omega) x5 _) _) _) _)) rfl (uu_end y5 x5 Hany.out hanyb ownm.out ownr.out hbs1.out (by have := hbs1.out; have := hs12.out; have := hs3.out; have := HXl.out; show w.heap.size ≤ w3.heap.size; omega) (by have := hs3.out; have := HXl.out; omega) (Nat.le_refl _) hb5.out)
  · go_region_law (first
      | (go_simp; (go_at_call 139; ((with_reducible refine (l5Rel_s g z 6 4 hz2 (by omega) (by omega) _ hcd).mono ?_); rintro e w5 ⟨b, mb, A2, c2, rfl, hrb, ownb, hc5, hg5⟩; (have hanyb := rel_any hrb.1 hrb.2; have y5 := blockG hg5 (by omega) y3d; have x5 := blockG hg5 (by omega) x3d; have X5 := blockG hg5 (by have := hgc.out; omega) hXd; have t5 := cellAt X5 0; have t6 := cellAt X5 1; have u5 := cellAt y5 0; have u6 := cellAt y5 1; have f5 := frozen0 (j := 0) y5; have f6 := frozen0 (j := 1) y5; have u7 := cellAt x5 0; have u8 := cellAt x5 1; have f7 := frozen0 (j := 0) x5; have f8 := frozen0 (j := 1) x5; have ownm := Lib.hid (segM_draw Hownd.out hg5 hg1l); have hb5 := Lib.hid (HhBd.out.trans (below_of_grown hg5 (by omega) HhBd.out.size)); have hs5 : w3.heap.size ≤ w5.heap.size := hg5.size; have ownr := Lib.hid ownb; clear ownb hg5 hrb)))))
    all_goals
      go_wp2_with fail
      refine bodyPost_ret (res_rel2 rfl rfl rfl (setO (by omega) (setO (by omega) (set1 (set0 y5 _) _) _) _) (set1 (set0 (setO (by omega) (setO (by omega) x5 _) _) _) _)) rfl (uu_end y5 x5 Hany.out hanyb ownm.out ownr.out hbs1.out (by have := hbs1.out; have := hs12.out; have := hs3.out; have := HXl.out; show w.heap.size ≤ w3.heap.size; omega) (by have := hs3.out; have := HXl.out; omega) (Nat.le_refl _) hb5.out)
end Go.Proofs.Ytbajnecahojcfaa
