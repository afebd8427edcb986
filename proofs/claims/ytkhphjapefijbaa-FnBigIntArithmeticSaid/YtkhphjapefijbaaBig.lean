/- Big integers: what the laws do with them; validity; from an int. -/
import Derived.Test.YtkhphjapefijbaaIntS
import Derived.Test.YtkhphjapefijbaaNum
import Derived.Test.YtkhphjapefijbaaOpen
import Derived.Test.YtkhphjapefijbaaSeg
namespace Go.Proofs.Ytkhphjapefijbaa
open Go.RowKit Go.Sort
set_option maxHeartbeats 1000000
set_option maxRecDepth 100000

theorem res_big {fn : Func} {t : Tmp} (h : fn.results = #[.cell t 46]) {tmps : Array Value} {k : Nat} (ht : tmps[t]? = some (.pointer (some ⟨k, 0, none⟩))) {w : World} {a : Value} (y : w.heap[k]? = some (.cells #[a] 46 (0, 0))) :
    (results fn tmps).run Try.prog w = .ok (.agg #[a]) w := by
  have r0 := cellAt y 0
  simp at r0
  simp [results, h, go_sem, ht, r0]
theorem res_big_tmp {fn : Func} {t u : Tmp} (h : fn.results = #[.cell t 46, .tmp u]) {tmps : Array Value} {k : Nat} (ht : tmps[t]? = some (.pointer (some ⟨k, 0, none⟩))) {x : Value} (hu : tmps[u]? = some x) {w : World} {a : Value} (y : w.heap[k]? = some (.cells #[a] 46 (0, 0))) :
    (results fn tmps).run Try.prog w = .ok (.tuple #[.agg #[a], x]) w := by
  have r0 := cellAt y 0
  simp at r0
  simp [results, h, go_sem, ht, hu, r0]
theorem setS {w : World} {g : Nat} {x : Value} {T : TypeId} (h : w.heap[g]? = some (.cells #[x] T (0, 0))) (u : Value) : (w.setCell ⟨g, 0, none⟩ u).heap[g]? = some (.cells #[u] T (0, 0)) := heap_setCell_same w g 0 #[x] T u h
theorem own_mono {w : World} {B B' : Nat} {e : TypeId} {v : Value} {n : Nat} {xs : List Value} (h : w.ownsRow B e 1 v n xs) (hB : B' ≤ B) : w.ownsRow B' e 1 v n xs := by
  obtain ⟨h1, h2⟩ := h
  refine ⟨h1, ?_⟩
  rcases h2 with h2 | ⟨g, cap, cur, hv, hg, r⟩
  · exact .inl h2
  · exact .inr ⟨g, cap, cur, hv, Nat.le_trans hB hg, r⟩
theorem own_set_low {w : World} {B k j : Nat} {e : TypeId} {v : Value} {n : Nat} {xs : List Value} (h : w.ownsRow B e 1 v n xs) (hk : k < B) (u : Value) : (w.setCell ⟨k, j, none⟩ u).ownsRow B e 1 v n xs := ownsRow_setCell_below h (a := ⟨k, j, none⟩) hk u

theorem toBigInt_l (v : Value) (l : List Int) (w : World) (hv : IRow w v l) (hl : l.length ≤ 1048576) :
    Calls Try.prog 53 #[.agg #[v]] w (fun e w' => ∃ v', e = .returned (.agg #[v']) ∧ OwnI w' w.heap.size v' l ∧ Below w.heap.size w w') := by
  have hv3 := ((hv.alloc (.cells #[v] 51)).alloc (.cells #[.slice none 0 0] 46)).alloc (.cells #[.slice none 0 0] 46)
  have hB : Below w.heap.size w (((w.alloc (.cells #[v] 51)).alloc (.cells #[.slice none 0 0] 46)).alloc (.cells #[.slice none 0 0] 46)) := (((Below.refl _ _).alloc (Nat.le_refl _) _).alloc (by simp) _).alloc (by simp; omega) _
  have y2 := heapN (heap_new1 w (.cells #[v] 51) (.cells #[.slice none 0 0] 46)) (.cells #[.slice none 0 0] 46)
  have y3 := heap_new2 w (.cells #[v] 51) (.cells #[.slice none 0 0] 46) (.cells #[.slice none 0 0] 46)
  obtain ⟨A, c, rfl, -⟩ := IRow.open hv
  have Hhv := Lib.hid hv; clear hv
  go_enter Try.func53, Try.ntmps53
  go_wp2_with (go_at_call 89; ((with_reducible refine (toIntS_l _ l _ hv3 hl).mono ?_); rintro e w1 ⟨v', rfl, hown, hb⟩; (obtain ⟨A', c', rfl, -⟩ := IRow.open hown.row; replace y2 := blockB hb y2; replace y3 := blockB hb y3; replace hB := below_tr hB hb; have t0 := cellAt y3 0; have t1 := frozen0 (j := 0) y3; have u0 := cellAt y2 0; have u1 := frozen0 (j := 0) y2; simp only [size_alloc] at hown)))
  refine bodyPost_ret (res_big rfl rfl (setS (setO (by omega) y2 _) _)) rfl ⟨_, rfl, own_mono (own_set_low (own_set_low hown (by omega) _) (by omega) _) (by omega), ?_⟩
  exact (hB.setCell (by show w.heap.size ≤ w.heap.size + 2; omega) _).setCell (Nat.le_succ _) _
theorem eqBigInt_l (a b : Value) (l1 l2 : List Int) (w : World) (ha : IRow w a l1) (hb : IRow w b l2) : Calls Try.prog 48 #[.agg #[a], .agg #[b]] w (RetB (.bool (l1 == l2)) w) := by
  have k1 := eqIntS_l a b l1 l2 _ ((ha.alloc (.cells #[a] 46)).alloc (.cells #[b] 46)) ((hb.alloc (.cells #[a] 46)).alloc (.cells #[b] 46))
  have hB : Below w.heap.size w ((w.alloc (.cells #[a] 46)).alloc (.cells #[b] 46)) := ((Below.refl _ _).alloc (Nat.le_refl _) _).alloc (by simp) _
  obtain ⟨A, c, rfl, -⟩ := IRow.open ha
  obtain ⟨A', c', rfl, -⟩ := IRow.open hb
  clear ha hb
  cases he : l1 == l2
  · rw [he] at k1
    have Hk1 := Lib.hid k1; clear k1; have Hhe := Lib.hid he; clear he
    go_enter Try.func48, Try.ntmps48
    go_wp2_with (go_at_call 85; ((with_reducible refine (Hk1.out).mono ?_); rintro e w1 ⟨rfl, hb1⟩))
    go_ret
    exact ⟨rfl, below_tr hB hb1⟩
  · rw [he] at k1
    have Hk1 := Lib.hid k1; clear k1; have Hhe := Lib.hid he; clear he
    go_enter Try.func48, Try.ntmps48
    go_wp2_with (go_at_call 85; ((with_reducible refine (Hk1.out).mono ?_); rintro e w1 ⟨rfl, hb1⟩))
    go_ret
    exact ⟨rfl, below_tr hB hb1⟩
theorem szBigInt_l (v : Value) (l : List Int) (left : Int) (w : World) (hv : IRow w v l) (hl : 0 ≤ left ∧ left ≤ 1048576) :
    Calls Try.prog 51 #[.agg #[v], .int .i64 left] w (RetB (.int .i64 (if (l.length : Int) ≤ left then left - l.length else -1)) w) := by
  have k1 := szIntS_l v l left _ (hv.alloc (.cells #[v] 51)) hl
  obtain ⟨A, c, rfl, -⟩ := IRow.open hv
  clear hv
  by_cases h : (l.length : Int) ≤ left
  · rw [if_pos h] at *
    have d1 : decide (left - (l.length : Int) < 0) = false := by rw [decide_eq_false_iff_not]; omega
    have d2 : decide (left < (l.length : Int)) = false := by rw [decide_eq_false_iff_not]; omega
    have Hk1 := Lib.hid k1; clear k1
    go_enter Try.func51, Try.ntmps51
    go_wp2_with (go_at_call 88; ((with_reducible refine (Hk1.out).mono ?_); rintro e w1 ⟨rfl, rfl⟩))
    go_ret
    exact ⟨rfl, (Below.refl _ _).alloc (Nat.le_refl _) _⟩
  · rw [if_neg h] at *
    have Hk1 := Lib.hid k1; clear k1
    go_enter Try.func51, Try.ntmps51
    go_wp2_with (go_at_call 88; ((with_reducible refine (Hk1.out).mono ?_); rintro e w1 ⟨rfl, rfl⟩))
    go_ret
    exact ⟨rfl, (Below.refl _ _).alloc (Nat.le_refl _) _⟩
theorem markBigInt_l (v : Value) (l : List Int) (k : Nat) (B : Nat) (w : World) (hv : OwnI w B v l) (hk : k ≤ 1099511627776) (hl : l.length ≤ 1099511627776) :
    Calls Try.prog 49 #[.agg #[v], .int .i64 (k : Int)] w (fun e w' => e = .returned (.int .i64 ((k + l.length : Nat) : Int)) ∧ OwnI w' B v (marks k l.length) ∧ w.grownBy w' v.ownBlock) := by
  have k1 := markIntS_l v l k B _ (hv.alloc (.cells #[v] 46)) hk hl
  have hg := World.grownBy_alloc w (.cells #[v] 46) v.ownBlock
  obtain ⟨A, c, e, -⟩ := IRow.open hv.row
  subst e
  have Hk1 := Lib.hid k1; clear k1; have Hhv := Lib.hid hv; clear hv; have Hhg := Lib.hid hg; clear hg
  go_enter Try.func49, Try.ntmps49
  go_wp2_with (go_at_call 86; ((with_reducible refine (Hk1.out).mono ?_); rintro e w1 ⟨rfl, hown, hg1⟩))
  go_ret
  exact ⟨rfl, hown, grown_trans Hhg.out hg1⟩
theorem heldBigInt_l (v : Value) (k n : Nat) (w : World) (hv : IRow w v (marks k n)) (hk : k ≤ 1099511627776) (hl : n ≤ 1099511627776) :
    Calls Try.prog 50 #[.agg #[v], .int .i64 (k : Int)] w (RetB (.int .i64 ((k + n : Nat) : Int)) w) := by
  have k1 := heldIntS_l v k n _ (hv.alloc (.cells #[v] 46)) hk hl
  obtain ⟨A, c, rfl, -⟩ := IRow.open hv
  have d1 : decide (((k + n : Nat) : Int) < 0) = false := by rw [decide_eq_false_iff_not]; omega
  rw [marks_len] at *
  have Hk1 := Lib.hid k1; clear k1; have Hhv := Lib.hid hv; clear hv
  go_enter Try.func50, Try.ntmps50
  go_wp2_with (go_at_call 87; ((with_reducible refine (Hk1.out).mono ?_); rintro e w1 ⟨rfl, rfl⟩))
  go_ret
  exact ⟨rfl, (Below.refl _ _).alloc (Nat.le_refl _) _⟩
/-- As the laws use them. -/
theorem szBig_yes (v : Value) (l : List Int) (left : Int) (w : World) (hv : IRow w v l) (hl : 0 ≤ left ∧ left ≤ 1048576) (h : (l.length : Int) ≤ left) : Calls Try.prog 51 #[.agg #[v], .int .i64 left] w (RetB (.int .i64 (left - l.length)) w) := by
  have := szBigInt_l v l left w hv hl
  rwa [if_pos h] at this
theorem szBig_no (v : Value) (l : List Int) (left : Int) (w : World) (hv : IRow w v l) (hl : 0 ≤ left ∧ left ≤ 1048576) (h : ¬ (l.length : Int) ≤ left) : Calls Try.prog 51 #[.agg #[v], .int .i64 left] w (RetB (.int .i64 (-1)) w) := by
  have := szBigInt_l v l left w hv hl
  rwa [if_neg h] at this
theorem eqBig_law (a b : Value) (l : List Int) (w : World) (ha : IRow w a l) (hb : IRow w b l) : Calls Try.prog 48 #[.agg #[a], .agg #[b]] w (RetB (.bool true) w) := by
  have := eqBigInt_l a b l l w ha hb
  rwa [show (l == l) = true by simp] at this
theorem markBig_law (v : Value) (l : List Int) (k : Int) (lo hi : Nat) (w : World) (hv : SegI w lo hi v l) (hk : 0 ≤ k ∧ k ≤ 1099511627776) (hl : l.length ≤ 1099511627776) :
    Calls Try.prog 49 #[.agg #[v], .int .i64 k] w (fun e w' => e = .returned (.int .i64 (k + l.length)) ∧ SegI w' lo hi v (marks k.toNat l.length) ∧ Within lo hi w w') := by
  obtain ⟨n, rfl⟩ := Int.eq_ofNat_of_zero_le hk.1
  refine (markBigInt_l v l n lo w hv.1 (by omega) hl).mono fun e w' ⟨h1, h2, h3⟩ => ⟨h1.trans (ret_int (by omega)), ⟨h2, hv.2⟩, within_of_grown hv h3⟩
theorem heldBig_law (v : Value) (k : Int) (n : Nat) (w : World) (hv : IRow w v (marks k.toNat n)) (hk : 0 ≤ k ∧ k ≤ 1099511627776) (hl : n ≤ 1099511627776) :
    Calls Try.prog 50 #[.agg #[v], .int .i64 k] w (RetB (.int .i64 (k + n)) w) := by
  obtain ⟨m, rfl⟩ := Int.eq_ofNat_of_zero_le hk.1
  refine (heldBigInt_l v m n w hv (by omega) hl).mono fun e w' ⟨h1, h2⟩ => ⟨h1.trans (ret_int (by omega)), h2⟩
theorem toBig_law (v : Value) (l : List Int) (w : World) (hv : IRow w v l) (hl : l.length ≤ 1048576) :
    Calls Try.prog 53 #[.agg #[v]] w (fun e w' => ∃ A c, e = .returned (.agg #[.slice A l.length c]) ∧ OwnI w' w.heap.size (.slice A l.length c) l ∧ Below w.heap.size w w') := by
  refine (toBigInt_l v l w hv hl).mono fun e w' ⟨v', h1, h2, h3⟩ => ?_
  obtain ⟨A, c, rfl, -⟩ := IRow.open h2.row
  exact ⟨A, c, h1, h2, h3⟩
end Go.Proofs.Ytkhphjapefijbaa
