/- The draw of two big integers. -/
import Derived.Test.YtkhphjapefijbaaDrawL
namespace Go.Proofs.Ytkhphjapefijbaa
open Go.RowKit Go.Sort
set_option maxHeartbeats 4000000
set_option maxRecDepth 100000
theorem res_big2 {fn : Func} {t u : Tmp} (h : fn.results = #[.cell t 46, .cell u 46]) {tmps : Array Value} {k k' : Nat} (ht : tmps[t]? = some (.pointer (some ⟨k, 0, none⟩))) (hu : tmps[u]? = some (.pointer (some ⟨k', 0, none⟩))) {w : World} {a b : Value} (y : w.heap[k]? = some (.cells #[a] 46 (0, 0))) (y' : w.heap[k']? = some (.cells #[b] 46 (0, 0))) :
    (results fn tmps).run Try.prog w = .ok (.tuple #[.agg #[a], .agg #[b]]) w := by
  have r0 := cellAt y 0
  have r1 := cellAt y' 0
  simp at r0 r1
  simp [results, h, go_sem, ht, hu, r0, r1]
theorem DrawMulBigInt_s (v : Value) (bs : List UInt8) (w : World) (hl : bs.length ≤ 1048576) (hv : SlB w.heap.size w v bs) : Calls Try.prog 66 #[v] w (fun e w' => ∃ (l1 l2 : List Int) (A : Option Addr) (c : Nat) (A2 : Option Addr) (c2 : Nat), e = .returned (.tuple #[.agg #[.slice A l1.length c], .agg #[.slice A2 l2.length c2]]) ∧ l1.length ≤ 62 ∧ l2.length ≤ 62 ∧ OwnI w' w.heap.size (.slice A l1.length c) l1 ∧ OwnI w' w.heap.size (.slice A2 l2.length c2) l2 ∧ Below w.heap.size w w') := by
  have y2 := heapN (heap_alloc_new w (.cells #[.slice none 0 0] 46)) (.cells #[.slice none 0 0] 46)
  have y3 := heap_new1 w (.cells #[.slice none 0 0] 46) (.cells #[.slice none 0 0] 46)
  have hB : Below w.heap.size w ((w.alloc (.cells #[.slice none 0 0] 46)).alloc (.cells #[.slice none 0 0] 46)) := ((Below.refl _ _).alloc (Nat.le_refl _) _).alloc (by simp) _
  have hv2 : SlB ((w.alloc (.cells #[.slice none 0 0] 46)).alloc (.cells #[.slice none 0 0] 46)).heap.size ((w.alloc (.cells #[.slice none 0 0] 46)).alloc (.cells #[.slice none 0 0] 46)) v bs := (hv.keep hB).up hB.size
  go_enter Try.func66, Try.ntmps66
  go_wp2_with (first
    | (go_at_call 77; ((with_reducible refine (l1New_s _ bs _ hl hv2).mono ?_); rintro e w1 ⟨g, rfl, hgw, hc, hb1⟩; (replace hB := below_tr hB hb1; replace y2 := blockB hb1 y2; replace y3 := blockB hb1 y3; have hlt := lt_of_heap y3; have hne : w.heap.size + 1 < g := (by simp at hgw; omega); have hg1l := hc.lt; clear hb1)))
    | (go_at_call 92; ((with_reducible refine (l3Big_s g _ hc).mono ?_); rintro e w2 ⟨l, A, c, rfl, hll, hown, hc1, hg1⟩; (replace hB := hB.trans (below_of_grown hg1 (by omega) hB.size); replace y2 := blockG hg1 (by omega) y2; replace y3 := blockG hg1 (by omega) y3; replace hc := hc1; clear hc1 hg1))))
  have hsz := hc.lt
  have ql := lt_of_heap y2
  have ql2 := lt_of_heap y3
  have hgd : w2.grownBy (w2.alloc (.cells #[.slice A l.length c] 46)).drew (some g) := grown_of_below (((Below.refl _ _).alloc (Nat.le_refl _) _).drew) _
  have y2b := blockG hgd (by omega) y2
  have y3b := blockG hgd (by omega) y3
  have y5b : ((w2.alloc (.cells #[.slice A l.length c] 46)).drew).heap[w2.heap.size]? = some (.cells #[.slice A l.length c] 46 (0, 0)) := heap_alloc_new w2 _
  have hownb := ownR_grown hown hgd (by omega)
  have z5b := cellAt y5b 0
  have Hown := Lib.hid hown
  have Hownb := Lib.hid hownb
  clear hown hownb
  go_region_with (go_at_call 92; ((with_reducible refine (l3Big_s g _ (hc.below (((Below.refl _ _).alloc (Nat.le_refl _) _).drew))).mono ?_); rintro e w3 ⟨l2, A2, c2, rfl, hll2, hown2, hc2, hg2⟩; (have y2c := blockG hg2 (by omega) y2b; have y3c := blockG hg2 (by omega) y3b; have y5c := blockG hg2 (by omega) y5b; have ownc := ownR_grown Hownb.out hg2 (by omega); have hB2 : Below w.heap.size w w3 := (hB.trans (((Below.refl _ _).alloc hB.size _).drew)).trans (below_of_grown hg2 (by omega) (by have := hB.size; simp [World.drew]; omega)); have hs3 := lt_of_heap y5c; have hb2s : w.heap.size ≤ (w2.alloc (.cells #[.slice A l.length c] 46)).drew.heap.size := (by have := hB.size; simp [World.drew]; omega); have z2c := cellAt y2c 0; have z3c := cellAt y3c 0; have z5c := cellAt y5c 0; have f2c := frozen0 (j := 0) y2c; have f3c := frozen0 (j := 0) y3c; clear hg2; have Hownc := Lib.hid ownc; have Hown2 := Lib.hid hown2; clear ownc hown2)))
  all_goals
    go_wp2_with fail
    refine bodyPost_ret (res_big2 rfl rfl rfl (setO (by omega) (setS y2c _) _) (setS (setO (by omega) y3c _) _)) rfl ⟨l, l2, A, c, A2, c2, rfl, hll, hll2, ?_, ?_, ?_⟩
    · exact own_mono (own_set_low (own_set_low Hownc.out (by omega) _) (by omega) _) (by omega)
    · exact own_mono (own_set_low (own_set_low Hown2.out (by simp [World.drew]; omega) _) (by simp [World.drew]; omega) _) hb2s
    · exact (hB2.setCell (Nat.le_refl _) _).setCell (Nat.le_succ _) _
end Go.Proofs.Ytkhphjapefijbaa
