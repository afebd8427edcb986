/- Big integers: from an int. (Written by mkbign.py.) -/
import Derived.Test.YtkhphjapefijbaaBigV
namespace Go.Proofs.Ytkhphjapefijbaa
open Go.RowKit Go.Sort
set_option maxHeartbeats 1000000
set_option maxRecDepth 100000

theorem blockL {B k : Nat} {w w' : World} {o : Obj} (h : Below B w w') (hk : k < B) (y : w.heap[k]? = some o) : w'.heap[k]? = some o := (h.block k hk).trans y
def digN (n : Nat) : List Int := if h : n = 0 then [] else ((n % 10 : Nat) : Int) :: digN (n / 10)
termination_by n
def digL (n : Int) : List Int := digN n.toNat
theorem digL_zero {n : Int} (h : n ≤ 0) : digL n = [] := by unfold digL; rw [show n.toNat = 0 by omega, digN, dif_pos rfl]
theorem digL_pos {n : Int} (h : 0 < n) : digL n = (n % 10) :: digL (n / 10) := by
  unfold digL
  rw [digN, dif_neg (by omega)]
  congr 1
  · omega
  · congr 1; omega
theorem digN_len : ∀ (k n : Nat), n < 10 ^ k → (digN n).length ≤ k := by
  intro k
  induction k with
  | zero => intro n h; rw [digN, dif_pos (by omega)]; simp
  | succ k ih =>
    intro n h
    by_cases hn : n = 0
    · rw [digN, dif_pos hn]; simp
    · rw [digN, dif_neg hn, List.length_cons]
      have := ih (n / 10) (by rw [Nat.pow_succ] at h; omega)
      omega
theorem digL_len (n : Int) (h : n ≤ 9223372036854775807) : (digL n).length ≤ 19 := digN_len 19 _ (by omega)
theorem own_push {w : World} {B : Nat} {v : Value} {l : List Int} {x : Int} (h : w.ownsRow B 3 1 v (l.length + 1) (l.map intV ++ [.int .i64 x])) : OwnI w B v (l ++ [x]) := by
  unfold OwnI
  rw [List.length_append, List.map_append]
  exact h
theorem own_nil {w : World} {B : Nat} : OwnI w B (.slice none 0 0) [] := World.ownsRow_nil _ _ _ _
theorem BigIntFromInt_i (n : Int) (hn : n ≤ 9223372036854775807) (w : World) : Calls Try.prog 47 #[.int .i64 n] w (fun e w' => ∃ A c, e = .returned (.agg #[.slice A (digL n).length c]) ∧ OwnI w' w.heap.size (.slice A (digL n).length c) (digL n) ∧ Below w.heap.size w w') := by
  have hlen := digL_len n hn
  have y0 := heapN (heap_alloc_new w (.cells #[.slice none 0 0] 46)) (.cells #[.slice none 0 0] 46)
  have y1 := heap_new1 w (.cells #[.slice none 0 0] 46) (.cells #[.slice none 0 0] 46)
  have hB : Below w.heap.size w ((w.alloc (.cells #[.slice none 0 0] 46)).alloc (.cells #[.slice none 0 0] 46)) := ((Below.refl _ _).alloc (Nat.le_refl _) _).alloc (by simp) _
  have hs0 : w.heap.size + 2 = ((w.alloc (.cells #[.slice none 0 0] 46)).alloc (.cells #[.slice none 0 0] 46)).heap.size := by simp
  go_enter Try.func47, Try.ntmps47
  go_wp2_with fail
  go_loopw [0] (fun x wr => ∃ (m : Int) (D : List Int) (A : Option Addr) (c : Nat), x = .int .i64 m ∧ m ≤ 9223372036854775807 ∧ wr.heap[w.heap.size + 1]? = some (.cells #[.slice A D.length c] 46 (0, 0)) ∧ wr.heap[w.heap.size]? = some (.cells #[.slice none 0 0] 46 (0, 0)) ∧ OwnI wr (w.heap.size + 2) (.slice A D.length c) D ∧ Below w.heap.size w wr ∧ w.heap.size + 2 ≤ wr.heap.size ∧ D ++ digL m = digL n) (fun x _ => (intOf x).toNat)
  case atStart => exact ⟨n, [], none, 0, rfl, hn, y1, y0, own_nil, hB, by omega, rfl⟩
  case round =>
    clear y0 y1 hB hs0
    obtain ⟨m, D, A, c, rfl, hm, y1, y0, hown, hB, hs, hd⟩ := hrel
    have z1 := cellAt y1 0
    have f1 := frozen0 (j := 0) y1
    have z0 := cellAt y0 0
    have f0 := frozen0 (j := 0) y0
    by_cases hp : 0 < m
    · have dp : decide (0 < m) = true := by rw [decide_eq_true_eq]; exact hp
      rw [digL_pos hp] at hd
      have hl : D.length + 1 ≤ 19 := by
        have := congrArg List.length hd
        simp at this; omega
      have hd2 : (D ++ [m % 10]) ++ digL (m / 10) = digL n := by rw [← hd]; simp
      have Hhd := Lib.hid hd; clear hd; have Hhd2 := Lib.hid hd2; clear hd2
      go_wp2_with ((at_builtin; go_must (refine wp_append_one intT rfl _ _ rfl (w.heap.size + 2) _ D.length (D.map intV) rfl hown _ rfl rfl (by omega) hs ?_; intro v2 w2 hown2 hgr2 hb2; replace hown2 := own_push hown2; obtain ⟨A2, c2, rfl, -⟩ := IRow.open hown2.row; replace y0 := blockL hb2 (by omega) y0; replace y1 := blockL hb2 (by omega) y1; clear z0 z1 f0 f1; have z1 := cellAt y1 0; have f1 := frozen0 (j := 0) y1; have hsz := hb2.size; replace hB := hB.trans (hb2.mono (by omega)))))
      go_roundw
      case rel => exact ⟨m / 10, D ++ [m % 10], A2, c2, rfl, by omega, (by rw [show (D ++ [m % 10]).length = D.length + 1 by simp]; exact setS y1 _), setO (by omega) y0 _, own_set_low hown2 (by omega) _, hB.setCell (p := ⟨w.heap.size + 1, 0, none⟩) (by show w.heap.size ≤ w.heap.size + 1; omega) _, by simp; omega, Hhd2.out⟩
      case measure => simp [intOf] <;> omega
    · have dp : decide (0 < m) = false := by rw [decide_eq_false_iff_not]; exact hp
      rw [digL_zero (by omega), List.append_nil] at hd
      subst hd
      have Hhown := Lib.hid hown; clear hown
      go_wp2_with fail
      refine bodyPost_ret (res_big rfl rfl (setS y0 _)) rfl ⟨_, _, rfl, own_mono (own_set_low Hhown.out (by omega) _) (by omega), hB.setCell (p := ⟨w.heap.size, 0, none⟩) (Nat.le_refl _) _⟩
theorem BigIntFromInt_s (n : Int) (hn : n ≤ 9223372036854775807) (w : World) : Calls Try.prog 46 #[.int .i64 n] w (fun e w' => ∃ A c, e = .returned (.agg #[.slice A (digL n).length c]) ∧ OwnI w' w.heap.size (.slice A (digL n).length c) (digL n) ∧ Below w.heap.size w w') := by
  have hlen := digL_len n hn
  have y0 := heapN (heap_alloc_new w (.cells #[.slice none 0 0] 46)) (.cells #[.slice none 0 0] 46)
  have y1 := heap_new1 w (.cells #[.slice none 0 0] 46) (.cells #[.slice none 0 0] 46)
  have hB : Below w.heap.size w ((w.alloc (.cells #[.slice none 0 0] 46)).alloc (.cells #[.slice none 0 0] 46)) := ((Below.refl _ _).alloc (Nat.le_refl _) _).alloc (by simp) _
  have hs0 : w.heap.size + 2 = ((w.alloc (.cells #[.slice none 0 0] 46)).alloc (.cells #[.slice none 0 0] 46)).heap.size := by simp
  go_enter Try.func46, Try.ntmps46
  go_wp2_with fail
  go_loopw [0] (fun x wr => ∃ (m : Int) (D : List Int) (A : Option Addr) (c : Nat), x = .int .i64 m ∧ m ≤ 9223372036854775807 ∧ wr.heap[w.heap.size + 1]? = some (.cells #[.slice A D.length c] 46 (0, 0)) ∧ wr.heap[w.heap.size]? = some (.cells #[.slice none 0 0] 46 (0, 0)) ∧ OwnI wr (w.heap.size + 2) (.slice A D.length c) D ∧ Below w.heap.size w wr ∧ w.heap.size + 2 ≤ wr.heap.size ∧ D ++ digL m = digL n) (fun x _ => (intOf x).toNat)
  case atStart => exact ⟨n, [], none, 0, rfl, hn, y1, y0, own_nil, hB, by omega, rfl⟩
  case round =>
    clear y0 y1 hB hs0
    obtain ⟨m, D, A, c, rfl, hm, y1, y0, hown, hB, hs, hd⟩ := hrel
    have z1 := cellAt y1 0
    have f1 := frozen0 (j := 0) y1
    have z0 := cellAt y0 0
    have f0 := frozen0 (j := 0) y0
    by_cases hp : 0 < m
    · have dp : decide (0 < m) = true := by rw [decide_eq_true_eq]; exact hp
      rw [digL_pos hp] at hd
      have hl : D.length + 1 ≤ 19 := by
        have := congrArg List.length hd
        simp at this; omega
      have hd2 : (D ++ [m % 10]) ++ digL (m / 10) = digL n := by rw [← hd]; simp
      have Hhd := Lib.hid hd; clear hd; have Hhd2 := Lib.hid hd2; clear hd2
      go_wp2_with ((at_builtin; go_must (refine wp_append_one intT rfl _ _ rfl (w.heap.size + 2) _ D.length (D.map intV) rfl hown _ rfl rfl (by omega) hs ?_; intro v2 w2 hown2 hgr2 hb2; replace hown2 := own_push hown2; obtain ⟨A2, c2, rfl, -⟩ := IRow.open hown2.row; replace y0 := blockL hb2 (by omega) y0; replace y1 := blockL hb2 (by omega) y1; clear z0 z1 f0 f1; have z1 := cellAt y1 0; have f1 := frozen0 (j := 0) y1; have hsz := hb2.size; replace hB := hB.trans (hb2.mono (by omega)))))
      go_roundw
      case rel => exact ⟨m / 10, D ++ [m % 10], A2, c2, rfl, by omega, (by rw [show (D ++ [m % 10]).length = D.length + 1 by simp]; exact setS y1 _), setO (by omega) y0 _, own_set_low hown2 (by omega) _, hB.setCell (p := ⟨w.heap.size + 1, 0, none⟩) (by show w.heap.size ≤ w.heap.size + 1; omega) _, by simp; omega, Hhd2.out⟩
      case measure => simp [intOf] <;> omega
    · have dp : decide (0 < m) = false := by rw [decide_eq_false_iff_not]; exact hp
      rw [digL_zero (by omega), List.append_nil] at hd
      subst hd
      have Hhown := Lib.hid hown; clear hown
      go_wp2_with fail
      refine bodyPost_ret (res_big rfl rfl (setS y0 _)) rfl ⟨_, _, rfl, own_mono (own_set_low Hhown.out (by omega) _) (by omega), hB.setCell (p := ⟨w.heap.size, 0, none⟩) (Nat.le_refl _) _⟩
end Go.Proofs.Ytkhphjapefijbaa
