/- The draw of FnTables. -/
import Derived.Test.YtbajnecahojcfaaDrawW
namespace Go.Proofs.Ytbajnecahojcfaa
open Go.RowKit Go.Sort
set_option maxHeartbeats 4000000
set_option maxRecDepth 100000
theorem DRow.setO {w : World} {lo g j : Nat} {E : TypeId} {v : Value} {T : List Tab} {cs : Array Value} {fr : Nat × Nat} (h : DRow w lo v T) (hg : g < lo) (y : w.heap[g]? = some (.cells cs E fr)) (hE : 22 ≠ E ∧ 3 ≠ E) (u : Value) : DRow (w.setCell ⟨g, j, none⟩ u) lo v T := by
  obtain ⟨A, c, h1, h2, h3, h4, h5⟩ := h
  refine ⟨A, c, h1, h2, h3, h4, fun i hi => ?_⟩
  obtain ⟨b, off, e, hl, c0, c1, A', c', c2, hm⟩ := h5 i hi
  have hk : ∀ j' x, w.cell? ⟨b, j', none⟩ = some x → (w.setCell ⟨g, j, none⟩ u).cell? ⟨b, j', none⟩ = some x := fun j' x hx => setC (a := ⟨b, j', none⟩) (by show b ≠ g; omega) hx u
  exact ⟨b, off, e, hl, hk _ _ c0, hk _ _ c1, A', c', hk _ _ c2, segM_setT hm y hE u⟩
theorem res_db_s_rel {fn : Func} {t u s : Tmp} (h : fn.results = #[.cell t 52, .tmp u, .cell s 44]) {tmps : Array Value} {k l : Nat} (ht : tmps[t]? = some (.pointer (some ⟨k, 0, none⟩))) {x : Value} (hu : tmps[u]? = some x) (hs : tmps[s]? = some (.pointer (some ⟨l, 0, none⟩))) {w : World} {a b c : Value} (y : w.heap[k]? = some (.cells #[a] 52 (0, 0))) (z : w.heap[l]? = some (.cells #[b, c] 44 (0, 0))) :
    (results fn tmps).run Try.prog w = .ok (.tuple #[.agg #[a], x, .agg #[b, c]]) w := by
  have r0 := cellAt y 0
  have r1 := cellAt z 0
  have r2 := cellAt z 1
  simp at r0 r1 r2
  simp [results, h, go_sem, ht, hu, hs, r0, r1, r2]
def namesE : List (List UInt8) := [[114], [97], [116, 116], [122], [], [86]]
theorem namesE_at : ∀ k (h : k < namesE.length), (#[.string ⟨#[114]⟩, .string ⟨#[97]⟩, .string ⟨#[116, 116]⟩, .string ⟨#[122]⟩, .string ⟨#[]⟩, .string ⟨#[86]⟩] : Array Value)[k]? = some (.string ⟨namesE[k].toArray⟩)
  | 0, _ => rfl
  | 1, _ => rfl
  | 2, _ => rfl
  | 3, _ => rfl
  | 4, _ => rfl
  | 5, _ => rfl
  | k + 6, h => absurd h (by simp [namesE])
theorem namesE_len : ∀ x ∈ namesE, x.length ≤ 5 := by decide
theorem pick6_s (g : Nat) (w : World) (hc : Cur w g) : Calls Try.prog 113 #[.pointer (some ⟨g, 0, none⟩), .slice (some ⟨w.heap.size, 0, none⟩) 6 6] (w.alloc (.cells #[.string ⟨#[114]⟩, .string ⟨#[97]⟩, .string ⟨#[116, 116]⟩, .string ⟨#[122]⟩, .string ⟨#[]⟩, .string ⟨#[86]⟩] 9))
    (fun e w' => ∃ x : List UInt8, e = .returned (.string ⟨x.toArray⟩) ∧ x.length ≤ 5 ∧ Cur w' g ∧ w.grownBy w' (some g)) := by
  have hlt := hc.lt
  have hcell : ∀ i (hi : i < namesE.length), (w.alloc (.cells #[.string ⟨#[114]⟩, .string ⟨#[97]⟩, .string ⟨#[116, 116]⟩, .string ⟨#[122]⟩, .string ⟨#[]⟩, .string ⟨#[86]⟩] 9)).cell? ⟨w.heap.size, i, none⟩ = some (.string ⟨namesE[i].toArray⟩) := fun i hi => (cellAt (heap_alloc_new w _) i).trans (namesE_at i hi)
  exact (l1Pick_s g w.heap.size 6 namesE (by decide) (by decide) (by decide) _ (cur_alloc hc _) (by omega) (by simp) hcell).mono fun e w' ⟨x, h1, h2, h3, h4⟩ => ⟨x, h1, namesE_len x h2, h3, grown_trans (World.grownBy_alloc w _ _) h4⟩
/-- What FnTables draws. -/
def RetDS (w : World) (e : Ending) (w' : World) : Prop := ∃ (T : List Tab) (A : Option Addr) (c : Nat) (N : List UInt8) (a : Int) (m : List (List Int)) (A2 : Option Addr) (c2 : Nat), e = .returned (.tuple #[.agg #[.slice A T.length c], .string ⟨N.toArray⟩, .agg #[.int .i64 a, .slice A2 m.length c2]]) ∧ T.length ≤ 6 ∧ (∀ t ∈ T, TabG t) ∧ N.length ≤ 5 ∧ AnyR a m ∧ DRow w' 0 (.slice A T.length c) T ∧ SegM w' 0 w'.heap.size (.slice A2 m.length c2) m ∧ Below w.heap.size w w'
theorem DrawSetRelation_s (v : Value) (bs : List UInt8) (w : World) (hl : bs.length ≤ 1048576) (hv : SlB w.heap.size w v bs) : Calls Try.prog 51 #[v] w (RetDS w) := by
  have y0 := heapN (heap_alloc_new w (.cells #[.slice none 0 0] 52)) (.cells #[.int .i64 0, .slice none 0 0] 44)
  have y1 := heap_new1 w (.cells #[.slice none 0 0] 52) (.cells #[.int .i64 0, .slice none 0 0] 44)
  have hB : Below w.heap.size w ((w.alloc (.cells #[.slice none 0 0] 52)).alloc (.cells #[.int .i64 0, .slice none 0 0] 44)) := ((Below.refl _ _).alloc (Nat.le_refl _) _).alloc (by simp) _
  have hv2 := (hv.keep hB).up hB.size
  have hs2 : ((w.alloc (.cells #[.slice none 0 0] 52)).alloc (.cells #[.int .i64 0, .slice none 0 0] 44)).heap.size = w.heap.size + 2 := by simp
  have Hhv2 := Lib.hid hv2; clear hv2; have HhB := Lib.hid hB; clear hB; have Hhs2 := Lib.hid hs2; clear hs2; have Hy0 := Lib.hid y0; clear y0; have Hy1 := Lib.hid y1; clear y1
  go_enter Try.func51, Try.ntmps51
  go_wp2_with (first
    | (go_at_call 100; ((with_reducible refine (l1New_s _ bs _ hl Hhv2.out).mono ?_); rintro e w1 ⟨g, rfl, hgw, hc, hb1⟩; (have hB1 := Lib.hid (below_tr HhB.out hb1); have z0 := Lib.hid (blockB hb1 Hy0.out); have z1 := Lib.hid (blockB hb1 Hy1.out); have hgw2 : w.heap.size + 2 ≤ g := (by have := Hhs2.out; omega); have hgl := hc.lt; clear hgw hb1)))
    | (go_at_call 112; ((with_reducible refine (l6Any_s g _ hc).mono ?_); rintro e w2 ⟨T, A, c, rfl, hT6, hTg, hD, hc2, hg2⟩; (have hB2 := Lib.hid (hB1.out.trans (below_of_grown hg2 (by omega) (by omega))); have u0 := Lib.hid (blockG hg2 (by omega) z0.out); have u1 := Lib.hid (blockG hg2 (by omega) z1.out); have HD := Lib.hid hD; have HTg := Lib.hid hTg; have hs2' := hg2.size; clear hg2 hD hTg)))
    | (go_at_call 113; ((with_reducible refine (pick6_s g _ hc2).mono ?_); rintro e w3 ⟨N, rfl, hN, hc3, hg3⟩; (have hB3 := Lib.hid (hB2.out.trans (below_of_grown hg3 (by omega) (by omega))); have v0 := Lib.hid (blockG hg3 (by omega) u0.out); have v1 := Lib.hid (blockG hg3 (by omega) u1.out); have HD3 := Lib.hid (DRow.draw HD.out hg3 (by omega)); have hs3' := hg3.size; clear hg3)))
    | (go_at_call 114; ((with_reducible refine (l5Any_s g _ hc3).mono ?_); rintro e w4 ⟨a, m, A9, c9, rfl, hany, own9, hc4, hg4⟩; (have hB4 := Lib.hid (hB3.out.trans (below_of_grown hg4 (by omega) (by omega))); have x0 := blockG hg4 (by omega) v0.out; have x1 := blockG hg4 (by omega) v1.out; have HD4 := Lib.hid (DRow.draw HD3.out hg4 (by omega)); have Hany := Lib.hid hany; have Hown := Lib.hid own9; have xf0 := frozen0 (j := 0) x0; have xf1 := frozen0 (j := 0) x1; have xf2 := frozen0 (j := 1) x1; have xc0 := cellAt x0 0; have xc1 := cellAt x1 0; have xc2 := cellAt x1 1; clear hg4 hany own9))))
  have x1a := setO (g := w.heap.size) (j := 0) (show w.heap.size + 1 ≠ w.heap.size by omega) x1 (.slice A T.length c)
  have x1b := set0 x1a (.int .i64 a)
  have x0a := setS1 x0 (.slice A T.length c)
  have x0b := setO (g := w.heap.size + 1) (j := 1) (show w.heap.size ≠ w.heap.size + 1 by omega) (setO (g := w.heap.size + 1) (j := 0) (show w.heap.size ≠ w.heap.size + 1 by omega) x0a (.int .i64 a)) (.slice A9 m.length c9)
  have d1 := DRow.setO HD4.out (show w.heap.size < w1.heap.size by omega) x0 (by decide) (.slice A T.length c) (j := 0)
  have d2 := DRow.setO d1 (show w.heap.size + 1 < w1.heap.size by omega) x1a (by decide) (.int .i64 a) (j := 0)
  have d3 := DRow.setO d2 (show w.heap.size + 1 < w1.heap.size by omega) x1b (by decide) (.slice A9 m.length c9) (j := 1)
  have o0 := SegM.wide Hown.out (Nat.zero_le _) (Nat.le_refl _)
  have o1 := segM_setT (j := 0) o0 x0 (by decide) (.slice A T.length c)
  have o2 := segM_setT (j := 0) o1 x1a (by decide) (.int .i64 a)
  have o3 := segM_setT (j := 1) o2 x1b (by decide) (.slice A9 m.length c9)
  refine bodyPost_ret (res_db_s_rel rfl rfl rfl rfl x0b (set1 x1b _)) rfl ⟨T, A, c, N, a, m, A9, c9, rfl, hT6, HTg.out, hN, Hany.out, d3.mono (Nat.zero_le _), o3, ?_⟩
  exact ((hB4.out.setCell (p := ⟨w.heap.size, 0, none⟩) (Nat.le_refl _) _).setCell (p := ⟨w.heap.size + 1, 0, none⟩) (Nat.le_succ _) _).setCell (p := ⟨w.heap.size + 1, 1, none⟩) (Nat.le_succ _) _
end Go.Proofs.Ytbajnecahojcfaa
