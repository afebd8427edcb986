/- ContainsRow, both. -/
import Derived.Test.YtbajnecahojcfaaRelV
import Derived.Test.YtbajnecahojcfaaPlace
namespace Go.Proofs.Ytbajnecahojcfaa
open Go.RowKit Go.Sort
set_option maxHeartbeats 2000000
set_option maxRecDepth 100000
theorem ContainsRow_i (v u : Value) (ar : Int) (m : List (List Int)) (row : List Int) (w : World) (hv : MRow w v m) (hu : IRow w u row) (hm : m.length ≤ 1099511627776) : Calls Try.prog 70 #[.agg #[.int .i64 ar, v], u] w (RetB (.bool (conB ar m row)) w) := by
  have y0 := heap_alloc_new w (.cells #[.int .i64 ar, v] 44)
  replace hv := hv.alloc (.cells #[.int .i64 ar, v] 44)
  replace hu := hu.alloc (.cells #[.int .i64 ar, v] 44)
  have hB : Below w.heap.size w (w.alloc (.cells #[.int .i64 ar, v] 44)) := (Below.refl _ _).alloc (Nat.le_refl _) _
  have k1 := place_i v u m row _ hv hu hm
  obtain ⟨A, c, rfl⟩ := MRow.opened hv
  obtain ⟨A', c', rfl, -⟩ := IRow.open hu
  have e : conB ar m row = (relOk ar m && plB m row) := rfl
  have k2 := fun W h => IsValidRelation_i (.slice A m.length c) ar m W h
  rw [e]
  generalize relOk ar m = z at *
  generalize plB m row = q at *
  clear e
  cases z with
  | false =>
    have Hk1 := Lib.hid k1; clear k1; have Hk2 := Lib.hid k2; clear k2; have Hhv := Lib.hid hv; clear hv; have Hhu := Lib.hid hu; clear hu; have Hy0 := Lib.hid y0; clear y0; have HhB := Lib.hid hB; clear hB
    go_enter Try.func70, Try.ntmps70
    go_wp2_with (first | (go_at_call 127; ((with_reducible refine (Hk1.out).mono ?_); rintro e w1 ⟨rfl, hb1⟩; (have y1 := blockB hb1 Hy0.out; have t0 := cellAt y1 0; have t1 := cellAt y1 1; have hv1 := Hhv.out.below hb1))) | (go_at_call 68; ((with_reducible refine (Hk2.out _ hv1).mono ?_); rintro e w2 ⟨rfl, hb2⟩)))
    go_ret
    exact ⟨rfl, below_tr HhB.out (hb1.trans (hb2.mono hb1.size))⟩
  | true =>
    have Hk1 := Lib.hid k1; clear k1; have Hk2 := Lib.hid k2; clear k2; have Hhv := Lib.hid hv; clear hv; have Hhu := Lib.hid hu; clear hu; have Hy0 := Lib.hid y0; clear y0; have HhB := Lib.hid hB; clear hB
    go_enter Try.func70, Try.ntmps70
    go_wp2_with (first | (go_at_call 127; ((with_reducible refine (Hk1.out).mono ?_); rintro e w1 ⟨rfl, hb1⟩; (have y1 := blockB hb1 Hy0.out; have t0 := cellAt y1 0; have t1 := cellAt y1 1; have hv1 := Hhv.out.below hb1))) | (go_at_call 68; ((with_reducible refine (Hk2.out _ hv1).mono ?_); rintro e w2 ⟨rfl, hb2⟩)))
    go_ret
    exact ⟨by rw [Bool.true_and]; rfl, below_tr HhB.out (hb1.trans (hb2.mono hb1.size))⟩
theorem ContainsRow_s (v u : Value) (ar : Int) (m : List (List Int)) (row : List Int) (w : World) (hv : MRow w v m) (hu : IRow w u row) (hm : m.length ≤ 1099511627776) : Calls Try.prog 69 #[.agg #[.int .i64 ar, v], u] w (RetB (.bool (conB ar m row)) w) := by
  have y0 := heap_alloc_new w (.cells #[.int .i64 ar, v] 44)
  replace hv := hv.alloc (.cells #[.int .i64 ar, v] 44)
  replace hu := hu.alloc (.cells #[.int .i64 ar, v] 44)
  have hB : Below w.heap.size w (w.alloc (.cells #[.int .i64 ar, v] 44)) := (Below.refl _ _).alloc (Nat.le_refl _) _
  have k1 := fun W h h' => l5Place_s v u ar m row W h h' hm
  obtain ⟨A, c, rfl⟩ := MRow.opened hv
  obtain ⟨A', c', rfl, -⟩ := IRow.open hu
  have e : conB ar m row = (relOk ar m && plB m row) := rfl
  have k2 := IsValidRelation_s (.slice A m.length c) ar m _ hv
  rw [e]
  generalize relOk ar m = z at *
  generalize plB m row = q at *
  clear e
  cases z with
  | false =>
    have Hk1 := Lib.hid k1; clear k1; have Hk2 := Lib.hid k2; clear k2; have Hhv := Lib.hid hv; clear hv; have Hhu := Lib.hid hu; clear hu; have Hy0 := Lib.hid y0; clear y0; have HhB := Lib.hid hB; clear hB
    go_enter Try.func69, Try.ntmps69
    go_wp2_with (go_at_call 67; ((with_reducible refine (Hk2.out).mono ?_); rintro e w1 ⟨rfl, hb1⟩))
    go_ret
    exact ⟨rfl, below_tr HhB.out hb1⟩
  | true =>
    have Hk1 := Lib.hid k1; clear k1; have Hk2 := Lib.hid k2; clear k2; have Hhv := Lib.hid hv; clear hv; have Hhu := Lib.hid hu; clear hu; have Hy0 := Lib.hid y0; clear y0; have HhB := Lib.hid hB; clear hB
    go_enter Try.func69, Try.ntmps69
    go_wp2_with (first | (go_at_call 67; ((with_reducible refine (Hk2.out).mono ?_); rintro e w1 ⟨rfl, hb1⟩; (have y1 := blockB hb1 Hy0.out; have t0 := cellAt y1 0; have t1 := cellAt y1 1; have hv1 := Hhv.out.below hb1; have hu1 := Hhu.out.below hb1))) | (go_at_call 126; ((with_reducible refine (Hk1.out _ hv1 hu1).mono ?_); rintro e w2 ⟨rfl, hb2⟩)))
    go_ret
    exact ⟨by rw [Bool.true_and]; rfl, below_tr HhB.out (hb1.trans (hb2.mono hb1.size))⟩
end Go.Proofs.Ytbajnecahojcfaa
