/- The draws of the laws on relations: relation and row; two relations. -/
import Derived.Test.YtbajnecahojcfaaDrawD
namespace Go.Proofs.Ytbajnecahojcfaa
open Go.RowKit Go.Sort
set_option maxHeartbeats 4000000
set_option maxRecDepth 100000
theorem any_total {a : Int} {m : List (List Int)} (h : AnyR a m) : m.length ≤ 7 ∧ total m ≤ 42 := by
  have := total_le h.2.2
  have := h.2.1
  omega
def RetRR (w : World) (e : Ending) (w' : World) : Prop := ∃ (a : Int) (m : List (List Int)) (A : Option Addr) (c : Nat) (r : List Int) (A2 : Option Addr) (c2 : Nat), e = .returned (.tuple #[.agg #[.int .i64 a, .slice A m.length c], .slice A2 r.length c2]) ∧ AnyR a m ∧ r.length ≤ 7 ∧ OwnM w' w.heap.size (.slice A m.length c) m ∧ OwnI w' w.heap.size (.slice A2 r.length c2) r ∧ Below w.heap.size w w'
theorem retRR_of {w w' : World} {e : Ending} {a : Int} {m : List (List Int)} {A : Option Addr} {c : Nat} {r : List Int} {A2 : Option Addr} {c2 : Nat} (he : e = .returned (.tuple #[.agg #[.int .i64 a, .slice A m.length c], .slice A2 r.length c2])) (h1 : AnyR a m) (h2 : r.length ≤ 7) (h3 : OwnM w' w.heap.size (.slice A m.length c) m) (h4 : OwnI w' w.heap.size (.slice A2 r.length c2) r) (h5 : Below w.heap.size w w') : RetRR w e w' := ⟨a, m, A, c, r, A2, c2, he, h1, h2, h3, h4, h5⟩
theorem ints_setO {w : World} {lo g j : Nat} {T : TypeId} {v : Value} {r : List Int} {cs : Array Value} {fr : Nat × Nat} (h : OwnI w lo v r) (y : w.heap[g]? = some (.cells cs T fr)) (hT : 3 ≠ T) (u : Value) : OwnI (w.setCell ⟨g, j, none⟩ u) lo v r := own_set_other h y hT u
theorem DrawContainsRow_s (v : Value) (bs : List UInt8) (w : World) (hl : bs.length ≤ 1048576) (hv : SlB w.heap.size w v bs) : Calls Try.prog 141 #[v] w (RetRR w) := by
  have y0 := heap_alloc_new w (.cells #[.int .i64 0, .slice none 0 0] 44)
  have hB : Below w.heap.size w (w.alloc (.cells #[.int .i64 0, .slice none 0 0] 44)) := (Below.refl _ _).alloc (Nat.le_refl _) _
  have hv2 := (hv.keep hB).up hB.size
  have hy := lt_of_heap y0
  have Hhv2 := Lib.hid hv2; clear hv2; have HhB := Lib.hid hB; clear hB; have Hhy := Lib.hid hy; clear hy
  go_enter Try.func141, Try.ntmps141
  go_wp2_with (first
    | (go_at_call 100; ((with_reducible refine (l1New_s _ bs _ hl Hhv2.out).mono ?_); rintro e w1 ⟨g, rfl, hgw, hc, hb1⟩; (have hB1 := Lib.hid (below_tr HhB.out hb1); have y1 := blockB hb1 y0; have hgw2 : w.heap.size < g := Nat.lt_of_lt_of_le Hhy.out hgw; have hbs1 := Lib.hid hB1.out.size; clear hgw hb1)))
    | (go_at_call 114; ((with_reducible refine (l5Any_s g _ hc).mono ?_); rintro e w2 ⟨a, m, A, c, rfl, hany, own2, hc2, hg2⟩; (have hB2 := Lib.hid (hB1.out.trans (below_of_grown hg2 (by omega) hbs1.out)); have y2 := blockG hg2 (by omega) y1; have own2b := Lib.hid own2; have hg1l := hc.lt; have Hany := Lib.hid hany; have hs12 := Lib.hid hg2.size; clear own2 hg2 hany))))
  have hgc := hc2.lt
  have hX := heap_alloc_new w2 (.cells #[.int .i64 a, .slice A m.length c] 44)
  have y3 := heapN y2 (.cells #[.int .i64 a, .slice A m.length c] 44)
  have hc3 := cur_alloc hc2 (.cells #[.int .i64 a, .slice A m.length c] 44)
  have hB3 := Lib.hid (hB2.out.alloc hB2.out.size (.cells #[.int .i64 a, .slice A m.length c] 44))
  have own3 := SegM.alloc own2b.out (.cells #[.int .i64 a, .slice A m.length c] 44)
  have hs3 : w2.heap.size < (w2.alloc (.cells #[.int .i64 a, .slice A m.length c] 44)).heap.size := by simp
  clear y1 y2
  generalize w2.alloc (.cells #[.int .i64 a, .slice A m.length c] 44) = w3 at *
  have hdb : Below w3.heap.size w3 w3.drew := (Below.refl _ _).drew
  have hcd : Cur w3.drew g := hc3.below hdb
  have hXd := blockB hdb hX
  have y3d := blockB hdb y3
  have ownd := SegM.below own3 hdb
  have hBd := hB3.out.trans (hdb.mono hB3.out.size)
  have t0 := cellAt hX 0
  have t1 := cellAt hX 1
  have Hownd := Lib.hid ownd; clear ownd; have HhBd := Lib.hid hBd; clear hBd; have Hown3 := Lib.hid own3; clear own3
  go_region_law (first
    | (go_simp; (go_at_call 152; ((with_reducible refine (l5RowFor_s g _ _ (.slice A m.length c) a m Hany.out _ hcd Hownd.out hg1l).mono ?_); rintro e w5 ⟨r, A2, c2, rfl, hrl, own5, hc5, hg5⟩; (have y5 := blockG hg5 (by omega) y3d; have X5 := blockG hg5 (by omega) hXd; have t5 := cellAt X5 0; have t6 := cellAt X5 1; have u5 := cellAt y5 0; have u6 := cellAt y5 1; have f5 := frozen0 (j := 0) y5; have f6 := frozen0 (j := 1) y5; have ownm := Lib.hid (segM_draw Hownd.out hg5 hg1l); have hb5 := Lib.hid (HhBd.out.trans (below_of_grown hg5 (by omega) HhBd.out.size)); have hs5 : w3.heap.size ≤ w5.heap.size := hg5.size; have ownr := Lib.hid own5; clear own5 hg5)))))
  all_goals
    have hb1s := hbs1.out
    have hs12o := hs12.out
    go_wp2_with fail
    have oa := SegM.setO (j := 0) ownm.out y5 (by decide) (by decide) (.int .i64 a)
    have ob := SegM.setO (j := 1) oa (set0 y5 _) (by decide) (by decide) (.slice A m.length c)
    have pa := ints_setO (j := 0) ownr.out y5 (by decide) (.int .i64 a)
    have pb := ints_setO (j := 1) pa (set0 y5 _) (by decide) (.slice A m.length c)
    refine bodyPost_ret (res_rel_tmp rfl rfl rfl (set1 (set0 y5 _) _)) rfl (retRR_of rfl Hany.out hrl (ob.wide hb1s (by simp [World.setCell]; omega)) (own_mono pb (by show w.heap.size ≤ w3.heap.size; omega)) ?_)
    exact (hb5.out.setCell (p := ⟨w.heap.size, 0, none⟩) (Nat.le_refl _) _).setCell (p := ⟨w.heap.size, 1, none⟩) (Nat.le_refl _) _
theorem DrawInsertRow_s (v : Value) (bs : List UInt8) (w : World) (hl : bs.length ≤ 1048576) (hv : SlB w.heap.size w v bs) : Calls Try.prog 91 #[v] w (RetRR w) := by
  have y0 := heap_alloc_new w (.cells #[.int .i64 0, .slice none 0 0] 44)
  have hB : Below w.heap.size w (w.alloc (.cells #[.int .i64 0, .slice none 0 0] 44)) := (Below.refl _ _).alloc (Nat.le_refl _) _
  have hv2 := (hv.keep hB).up hB.size
  have k1 := DrawContainsRow_s v bs _ hl hv2
  have Hhv2 := Lib.hid hv2; clear hv2; have HhB := Lib.hid hB; clear hB; have Hk1 := Lib.hid k1; clear k1
  go_enter Try.func91, Try.ntmps91
  go_wp2_with (go_at_call 141; ((with_reducible refine (Hk1.out).mono ?_); rintro e w1 ⟨a, m, A, c, r, A2, c2, rfl, hany, hrl, ownm, ownr, hb1⟩; (have y5 := blockB hb1 y0; have u5 := cellAt y5 0; have u6 := cellAt y5 1; have f5 := frozen0 (j := 0) y5; have f6 := frozen0 (j := 1) y5)))
  have hbb := below_tr HhB.out hb1
  have hbs := HhB.out.size
  have oa := SegM.setO (j := 0) ownm y5 (by decide) (by decide) (.int .i64 a)
  have ob := SegM.setO (j := 1) oa (set0 y5 _) (by decide) (by decide) (.slice A m.length c)
  have pa := ints_setO (j := 0) ownr y5 (by decide) (.int .i64 a)
  have pb := ints_setO (j := 1) pa (set0 y5 _) (by decide) (.slice A m.length c)
  refine bodyPost_ret (res_rel_tmp rfl rfl rfl (set1 (set0 y5 _) _)) rfl (retRR_of rfl hany hrl (ob.wide hbs (by simp [World.setCell])) (own_mono pb hbs) ?_)
  exact (hbb.setCell (p := ⟨w.heap.size, 0, none⟩) (Nat.le_refl _) _).setCell (p := ⟨w.heap.size, 1, none⟩) (Nat.le_refl _) _
end Go.Proofs.Ytbajnecahojcfaa
