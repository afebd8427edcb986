/- The drawn rationals. (Written by mkdrawr.py.) -/
import Derived.Test.YtkhphjapefijbaaDraw
import Derived.Test.YtkhphjapefijbaaRes
import Derived.Test.YtkhphjapefijbaaRatNew
namespace Go.Proofs.Ytkhphjapefijbaa
open Go.RowKit Go.Sort
set_option maxHeartbeats 1000000
set_option maxRecDepth 100000

theorem blockG {w w' : World} {g k : Nat} {o : Obj} (hg : w.grownBy w' (some g)) (hne : k ≠ g) (h : w.heap[k]? = some o) : w'.heap[k]? = some o := (hg.block k (lt_of_heap h) (by simpa using hne)).trans h
theorem Cur.set {w : World} {g k j : Nat} (h : Cur w g) (hk : g < k) (u : Value) : Cur (w.setCell ⟨k, j, none⟩ u) g := by
  obtain ⟨v, bs, i, hh, h1, h2, h3, h4, h5⟩ := h
  exact ⟨v, bs, i, hh, setO (by omega) h1 u, h2, h3, h4, h5.keep ((Below.refl g w).setCell (p := ⟨k, j, none⟩) (by show g ≤ k; omega) u)⟩
theorem grown_new {w w1 : World} {k j : Nat} {r : Option Nat} (h : w.grownBy w1 r) (hk : w.heap.size ≤ k) (u : Value) : w.grownBy (w1.setCell ⟨k, j, none⟩ u) r :=
  ⟨h.os, h.tape, h.output, by simpa [World.setCell] using h.size, fun i hi hr => (Below.heap_setCell w1 ⟨k, j, none⟩ u i (by show i ≠ k; omega)).trans (h.block i hi hr)⟩
theorem newR_bd (n d : Int) : ∃ (a b : Int) (t : Bool), newR n d = .tuple #[.agg #[.int .i64 a, .int .i64 b], .bool t] ∧ (-1000000000 ≤ a ∧ a ≤ 1000000000) ∧ 0 ≤ b ∧ b ≤ 1000000000 := by
  unfold newR ratV
  split
  · rename_i h
    unfold rOk at h
    simp only [Bool.and_eq_true] at h
    have hv := h.2
    unfold rvalid at hv
    rw [Bool.and_eq_true, Bool.and_eq_true, inR_iff, inR_iff] at hv
    exact ⟨_, _, _, rfl, by omega, by omega, by omega⟩
  · exact ⟨_, _, _, rfl, by omega, by omega, by omega⟩
theorem NewRational_sb (n d : Int) (hd : -9223372036854775808 ≤ d ∧ d ≤ 9223372036854775807) (w : World) : Calls Try.prog 28 #[.int .i64 n, .int .i64 d] w (fun e w' => ∃ (a b : Int) (t : Bool), e = .returned (.tuple #[.agg #[.int .i64 a, .int .i64 b], .bool t]) ∧ ((-1000000000 ≤ a ∧ a ≤ 1000000000) ∧ 0 ≤ b ∧ b ≤ 1000000000) ∧ Below w.heap.size w w') := by
  obtain ⟨a, b, t, e, h⟩ := newR_bd n d
  refine (NewRational_s n d hd w).mono fun e' w' h' => ⟨a, b, t, ?_, h, h'.2⟩
  rw [h'.1, e]

theorem l2Rat_s (g : Nat) (w : World) (hc : Cur w g) : Calls Try.prog 95 #[.pointer (some ⟨g, 0, none⟩)] w (fun e w' => ∃ a b : Int, e = .returned (.agg #[.int .i64 a, .int .i64 b]) ∧ ((-1000000000 ≤ a ∧ a ≤ 1000000000) ∧ 0 ≤ b ∧ b ≤ 1000000000) ∧ Cur w' g ∧ w.grownBy w' (some g)) := by
  have hlt := hc.lt
  have hG := World.grownBy_alloc w (.cells #[.int .i64 0, .int .i64 0] 25) (some g)
  have yt := heap_alloc_new w (.cells #[.int .i64 0, .int .i64 0] 25)
  replace hc := hc.below ((Below.refl _ _).alloc (Nat.le_refl _) (.cells #[.int .i64 0, .int .i64 0] 25))
  go_enter Try.func95, Try.ntmps95
  go_wp2_with (first
    | (go_at_call 80; ((with_reducible refine (l1Below_s g _ (by omega) _ (by first | exact hc | exact hc.below ((Below.refl _ _).alloc (Nat.le_refl _) _))).mono ?_); rintro e w1 ⟨x, rfl, hx, hc1, hg1⟩; (replace hG := (by first | exact grown_trans hG hg1 | exact grown_trans hG (grown_trans (World.grownBy_alloc _ _ _) hg1)); replace hc := hc1; (try replace yt := blockG hg1 (by omega) yt); (try replace yt := blockG hg1 (by omega) (heapN yt _)); clear hc1 hg1)))
    | (go_at_call 78; ((with_reducible refine (l1Once_s g _ (by omega) _ (hc.below ((Below.refl _ _).alloc (Nat.le_refl _) _))).mono ?_); rintro e w1 ⟨bb, rfl, hc1, hg1⟩; (have hgr := hc.lt; have hlw := lt_of_heap yt; have yr := blockG hg1 (by omega) (heap_alloc_new _ (.cells #[.int .i64 a, .int .i64 b] 25)); replace yt := blockG hg1 (by omega) (heapN yt _); replace hG := grown_trans hG (grown_trans (World.grownBy_alloc _ _ _) hg1); replace hc := hc1; have hl := lt_of_heap yr; clear hc1 hg1; have t0 := cellAt yt 0; have t1 := cellAt yt 1; have t2 := frozen0 (j := 0) yt; have t3 := frozen0 (j := 1) yt; have u0 := cellAt yr 0; have u1 := cellAt yr 1; have u2 := frozen0 (j := 0) yr; have u3 := frozen0 (j := 1) yr)))
    | (go_at_call 79; ((with_reducible refine ((l1PickInt_s g (.slice (some ⟨_, 0, none⟩) 4 4) 0 [(1000000000), (-1000000000), (999999937), (1)] (by simp) (by simp) _ (hc.below ((Below.refl _ _).alloc (Nat.le_refl _) _)) (World.ownsRow_lit _ #[.int .i64 (1000000000), .int .i64 (-1000000000), .int .i64 (999999937), .int .i64 (1)] 4 (Nat.zero_le _) (by decide) rfl))).mono ?_); rintro e w1 ⟨x, rfl, hx, hc1, hg1⟩; (replace hG := (by first | exact grown_trans hG hg1 | exact grown_trans hG (grown_trans (World.grownBy_alloc _ _ _) hg1)); replace hc := hc1; (try replace yt := blockG hg1 (by omega) yt); (try replace yt := blockG hg1 (by omega) (heapN yt _)); (try replace yr := blockG hg1 (by omega) yr); (try replace yr := blockG hg1 (by omega) (heapN yr _)); clear hc1 hg1; simp at hx; clear t0 t1 t2 t3; have t0 := cellAt yt 0; have t1 := cellAt yt 1; have t2 := frozen0 (j := 0) yt; have t3 := frozen0 (j := 1) yt; clear u0 u1 u2 u3; have u0 := cellAt yr 0; have u1 := cellAt yr 1; have u2 := frozen0 (j := 0) yr; have u3 := frozen0 (j := 1) yr)))
    | (go_at_call 79; ((with_reducible refine ((l1PickInt_s g (.slice (some ⟨_, 0, none⟩) 3 3) 0 [(1), (1000000000), (999999893)] (by simp) (by simp) _ (hc.below ((Below.refl _ _).alloc (Nat.le_refl _) _)) (World.ownsRow_lit _ #[.int .i64 (1), .int .i64 (1000000000), .int .i64 (999999893)] 3 (Nat.zero_le _) (by decide) rfl))).mono ?_); rintro e w1 ⟨y, rfl, hy, hc1, hg1⟩; (replace hG := (by first | exact grown_trans hG hg1 | exact grown_trans hG (grown_trans (World.grownBy_alloc _ _ _) hg1)); replace hc := hc1; (try replace yt := blockG hg1 (by omega) yt); (try replace yt := blockG hg1 (by omega) (heapN yt _)); (try replace yr := blockG hg1 (by omega) yr); (try replace yr := blockG hg1 (by omega) (heapN yr _)); clear hc1 hg1; simp at hy; clear t0 t1 t2 t3; have t0 := cellAt yt 0; have t1 := cellAt yt 1; have t2 := frozen0 (j := 0) yt; have t3 := frozen0 (j := 1) yt; clear u0 u1 u2 u3; have u0 := cellAt yr 0; have u1 := cellAt yr 1; have u2 := frozen0 (j := 0) yr; have u3 := frozen0 (j := 1) yr)))
    | (go_at_call 28; ((with_reducible refine (NewRational_sb _ _ (by omega) _).mono ?_); rintro e w1 ⟨a, b, t, rfl, hab, hb1⟩; (replace hG := (by first | exact grown_trans hG (grown_of_below hb1 _) | exact grown_trans hG (grown_trans (World.grownBy_alloc _ _ _) (grown_of_below hb1 _))); replace hc := Cur.below (by first | exact hc | exact hc.below ((Below.refl _ _).alloc (Nat.le_refl _) _)) hb1; (try replace yt := blockB hb1 yt); (try replace yt := blockB hb1 (heapN yt _)); (try replace yr := blockB hb1 yr); (try replace yr := blockB hb1 (heapN yr _)); clear hb1; clear t0 t1 t2 t3; have t0 := cellAt yt 0; have t1 := cellAt yt 1; have t2 := frozen0 (j := 0) yt; have t3 := frozen0 (j := 1) yt; clear u0 u1 u2 u3; have u0 := cellAt yr 0; have u1 := cellAt yr 1; have u2 := frozen0 (j := 0) yr; have u3 := frozen0 (j := 1) yr))) | (go_at_call 28; ((with_reducible refine (NewRational_sb _ _ (by omega) _).mono ?_); rintro e w1 ⟨a, b, t, rfl, hab, hb1⟩; (replace hG := (by first | exact grown_trans hG (grown_of_below hb1 _) | exact grown_trans hG (grown_trans (World.grownBy_alloc _ _ _) (grown_of_below hb1 _))); replace hc := Cur.below (by first | exact hc | exact hc.below ((Below.refl _ _).alloc (Nat.le_refl _) _)) hb1; (try replace yt := blockB hb1 yt); (try replace yt := blockB hb1 (heapN yt _)); clear hb1))))
  all_goals
    refine bodyPost_ret (res_cell rfl rfl (a := .int .i64 a) (b := .int .i64 b) ?_) rfl ⟨a, b, rfl, hab, ?_, ?_⟩
    · first
        | with_reducible exact set1 (set0 yt _) _
        | with_reducible exact set1 (set0 (setO (by omega) (setO (by omega) yt _) _) _) _
    · first
        | with_reducible exact (hc.set (by omega) _).set (by omega) _
        | with_reducible exact (((hc.set (by omega) _).set (by omega) _).set (by omega) _).set (by omega) _
    · first
        | with_reducible exact grown_new (grown_new hG (by omega) _) (by omega) _
        | with_reducible exact grown_new (grown_new (grown_new (grown_new hG (by omega) _) (by omega) _) (by omega) _) (by omega) _

theorem l2Any_s (g : Nat) (w : World) (hc : Cur w g) : Calls Try.prog 94 #[.pointer (some ⟨g, 0, none⟩)] w (fun e w' => ∃ a b : Int, e = .returned (.agg #[.int .i64 a, .int .i64 b]) ∧ ((-2000000002 ≤ a ∧ a ≤ 2000000002) ∧ -1 ≤ b ∧ b ≤ 1000000001) ∧ Cur w' g ∧ w.grownBy w' (some g)) := by
  have hlt := hc.lt
  have hG := World.grownBy_alloc w (.cells #[.int .i64 0, .int .i64 0] 25) (some g)
  have yt := heap_alloc_new w (.cells #[.int .i64 0, .int .i64 0] 25)
  replace hc := hc.below ((Below.refl _ _).alloc (Nat.le_refl _) (.cells #[.int .i64 0, .int .i64 0] 25))
  go_enter Try.func94, Try.ntmps94
  go_wp2_with (first
    | (go_at_call 95; ((with_reducible refine (l2Rat_s g _ (by first | exact hc | exact hc.below ((Below.refl _ _).alloc (Nat.le_refl _) _))).mono ?_); rintro e w1 ⟨a, b, rfl, hab, hc1, hg1⟩; (replace hG := (by first | exact grown_trans hG hg1 | exact grown_trans hG (grown_trans (World.grownBy_alloc _ _ _) hg1)); replace hc := hc1; (try replace yt := blockG hg1 (by omega) yt); (try replace yt := blockG hg1 (by omega) (heapN yt _)); clear hc1 hg1)))
    | (go_at_call 80; ((with_reducible refine (l1Below_s g _ (by omega) _ (hc.below ((Below.refl _ _).alloc (Nat.le_refl _) _))).mono ?_); rintro e w1 ⟨x, rfl, hx, hc1, hg1⟩; (have hgr := hc.lt; have hlw := lt_of_heap yt; have yr := blockG hg1 (by omega) (heap_alloc_new _ (.cells #[.int .i64 a, .int .i64 b] 25)); replace yt := blockG hg1 (by omega) (heapN yt _); replace hG := grown_trans hG (grown_trans (World.grownBy_alloc _ _ _) hg1); replace hc := hc1; have hl := lt_of_heap yr; clear hc1 hg1; have t0 := cellAt yt 0; have t1 := cellAt yt 1; have t2 := frozen0 (j := 0) yt; have t3 := frozen0 (j := 1) yt; have u0 := cellAt yr 0; have u1 := cellAt yr 1; have u2 := frozen0 (j := 0) yr; have u3 := frozen0 (j := 1) yr)))
    | (go_at_call 79; ((with_reducible refine ((l1PickInt_s g (.slice (some ⟨_, 0, none⟩) 3 3) 0 [(0), (-1), (1000000001)] (by simp) (by simp) _ (hc.below ((Below.refl _ _).alloc (Nat.le_refl _) _)) (World.ownsRow_lit _ #[.int .i64 (0), .int .i64 (-1), .int .i64 (1000000001)] 3 (Nat.zero_le _) (by decide) rfl))).mono ?_); rintro e w1 ⟨y, rfl, hy, hc1, hg1⟩; (replace hG := (by first | exact grown_trans hG hg1 | exact grown_trans hG (grown_trans (World.grownBy_alloc _ _ _) hg1)); replace hc := hc1; (try replace yt := blockG hg1 (by omega) yt); (try replace yt := blockG hg1 (by omega) (heapN yt _)); (try replace yr := blockG hg1 (by omega) yr); (try replace yr := blockG hg1 (by omega) (heapN yr _)); clear hc1 hg1; simp at hy; clear t0 t1 t2 t3; have t0 := cellAt yt 0; have t1 := cellAt yt 1; have t2 := frozen0 (j := 0) yt; have t3 := frozen0 (j := 1) yt; clear u0 u1 u2 u3; have u0 := cellAt yr 0; have u1 := cellAt yr 1; have u2 := frozen0 (j := 0) yr; have u3 := frozen0 (j := 1) yr)))
    | (go_at_call 79; ((with_reducible refine ((l1PickInt_s g (.slice (some ⟨_, 0, none⟩) 3 3) 0 [(1000000001), (-1000000001), (2 * b)] (by simp) (by simp) _ (hc.below ((Below.refl _ _).alloc (Nat.le_refl _) _)) (World.ownsRow_lit _ #[.int .i64 (1000000001), .int .i64 (-1000000001), .int .i64 (2 * b)] 3 (Nat.zero_le _) (by decide) rfl))).mono ?_); rintro e w1 ⟨z, rfl, hz, hc1, hg1⟩; (replace hG := (by first | exact grown_trans hG hg1 | exact grown_trans hG (grown_trans (World.grownBy_alloc _ _ _) hg1)); replace hc := hc1; (try replace yt := blockG hg1 (by omega) yt); (try replace yt := blockG hg1 (by omega) (heapN yt _)); (try replace yr := blockG hg1 (by omega) yr); (try replace yr := blockG hg1 (by omega) (heapN yr _)); clear hc1 hg1; simp at hz; clear t0 t1 t2 t3; have t0 := cellAt yt 0; have t1 := cellAt yt 1; have t2 := frozen0 (j := 0) yt; have t3 := frozen0 (j := 1) yt; clear u0 u1 u2 u3; have u0 := cellAt yr 0; have u1 := cellAt yr 1; have u2 := frozen0 (j := 0) yr; have u3 := frozen0 (j := 1) yr))))
  all_goals
    first
      | refine bodyPost_ret (res_cell rfl rfl (a := .int .i64 a) (b := .int .i64 y) ?_) rfl ⟨a, y, rfl, by omega, ?_, ?_⟩
      | refine bodyPost_ret (res_cell rfl rfl (a := .int .i64 z) (b := .int .i64 b) ?_) rfl ⟨z, b, rfl, by omega, ?_, ?_⟩
      | refine bodyPost_ret (res_cell rfl rfl (a := .int .i64 a) (b := .int .i64 b) ?_) rfl ⟨a, b, rfl, by omega, ?_, ?_⟩
    · first
        | with_reducible exact set1 (set0 yt _) _
        | with_reducible exact set1 (set0 (setO (by omega) yt _) _) _
    · first
        | with_reducible exact (hc.set (by omega) _).set (by omega) _
        | with_reducible exact ((hc.set (by omega) _).set (by omega) _).set (by omega) _
    · first
        | with_reducible exact grown_new (grown_new hG (by omega) _) (by omega) _
        | with_reducible exact grown_new (grown_new (grown_new hG (by omega) _) (by omega) _) (by omega) _

theorem l2Two_s (v : Value) (bs : List UInt8) (w : World) (hl : bs.length ≤ 1048576) (hv : SlB w.heap.size w v bs) : Calls Try.prog 84 #[v] w (fun e w' => ∃ a b c d : Int, e = .returned (.tuple #[.agg #[.int .i64 a, .int .i64 b], .agg #[.int .i64 c, .int .i64 d]]) ∧ ((-2000000002 ≤ a ∧ a ≤ 2000000002) ∧ -1 ≤ b ∧ b ≤ 1000000001) ∧ ((-2000000002 ≤ c ∧ c ≤ 2000000002) ∧ -1 ≤ d ∧ d ≤ 1000000001) ∧ Below w.heap.size w w') := by
  have yt := heapN (heap_alloc_new w (.cells #[.int .i64 0, .int .i64 0] 25)) (.cells #[.int .i64 0, .int .i64 0] 25)
  have ys := heap_new1 w (.cells #[.int .i64 0, .int .i64 0] 25) (.cells #[.int .i64 0, .int .i64 0] 25)
  have hB : Below w.heap.size w ((w.alloc (.cells #[.int .i64 0, .int .i64 0] 25)).alloc (.cells #[.int .i64 0, .int .i64 0] 25)) := ((Below.refl _ _).alloc (Nat.le_refl _) _).alloc (by simp) _
  have hv2 : SlB ((w.alloc (.cells #[.int .i64 0, .int .i64 0] 25)).alloc (.cells #[.int .i64 0, .int .i64 0] 25)).heap.size ((w.alloc (.cells #[.int .i64 0, .int .i64 0] 25)).alloc (.cells #[.int .i64 0, .int .i64 0] 25)) v bs := (hv.keep hB).up hB.size
  go_enter Try.func84, Try.ntmps84
  go_wp2_with (first
    | (go_at_call 77; ((with_reducible refine (l1New_s _ bs _ hl hv2).mono ?_); rintro e w1 ⟨g, rfl, hgw, hc, hb1⟩; (replace hB := below_tr hB hb1; replace yt := blockB hb1 yt; replace ys := blockB hb1 ys; have hlt := lt_of_heap ys; have hne : w.heap.size + 1 < g := (by simp at hgw; omega); clear hb1)))
    | (go_at_call 94; ((with_reducible refine (l2Any_s g _ hc).mono ?_); rintro e w1 ⟨a, b, rfl, hab, hc1, hg1⟩; (replace hB := hB.trans (below_of_grown hg1 (by omega) hB.size); replace yt := blockG hg1 (by omega) yt; replace ys := blockG hg1 (by omega) ys; replace hc := hc1; clear hc1 hg1))))
  have hsz := hc.lt
  have ql := lt_of_heap yt
  have ql2 := lt_of_heap ys
  go_region_with (go_at_call 94; ((with_reducible refine (l2Any_s g _ (hc.below (((Below.refl _ _).alloc (Nat.le_refl _) _).drew))).mono ?_); rintro e w2 ⟨c, d, rfl, hcd, hc1, hg1⟩; (have yq := blockG hg1 (by omega) (show ((w1.alloc (.cells #[.int .i64 a, .int .i64 b] 25)).drew).heap[w1.heap.size]? = some (.cells #[.int .i64 a, .int .i64 b] 25 (0, 0)) from heap_alloc_new w1 _); have yt2 := blockG hg1 (by omega) (show ((w1.alloc (.cells #[.int .i64 a, .int .i64 b] 25)).drew).heap[w.heap.size]? = _ from heapN yt _); have ys2 := blockG hg1 (by omega) (show ((w1.alloc (.cells #[.int .i64 a, .int .i64 b] 25)).drew).heap[w.heap.size + 1]? = _ from heapN ys _); have hB2 : Below w.heap.size w w2 := (hB.trans (((Below.refl _ _).alloc hB.size _).drew)).trans (below_of_grown hg1 (by omega) (by have := hB.size; simp [World.drew]; omega)); clear hg1; have u0 := cellAt yq 0; have u1 := cellAt yq 1; have u2 := frozen0 (j := 0) yq; have u3 := frozen0 (j := 1) yq; have t0 := cellAt yt2 0; have t1 := cellAt yt2 1; have t2 := frozen0 (j := 0) yt2; have t3 := frozen0 (j := 1) yt2; have s0 := cellAt ys2 0; have s1 := cellAt ys2 1; have s2 := frozen0 (j := 0) ys2; have s3 := frozen0 (j := 1) ys2)))
  all_goals
    go_wp2_with fail
    refine bodyPost_ret (res_cell2 rfl rfl rfl (setO (by omega) (setO (by omega) (set1 (set0 yt2 _) _) _) _) (set1 (set0 (setO (by omega) (setO (by omega) ys2 _) _) _) _)) rfl ⟨a, b, c, d, rfl, hab, hcd, ?_⟩
    exact (((hB2.setCell (Nat.le_refl _) _).setCell (Nat.le_refl _) _).setCell (Nat.le_succ _) _).setCell (Nat.le_succ _) _

theorem DrawAddRational_s (v : Value) (bs : List UInt8) (w : World) (hl : bs.length ≤ 1048576) (hv : SlB w.heap.size w v bs) : Calls Try.prog 45 #[v] w (fun e w' => ∃ a b c d : Int, e = .returned (.tuple #[.agg #[.int .i64 a, .int .i64 b], .agg #[.int .i64 c, .int .i64 d]]) ∧ ((-2000000002 ≤ a ∧ a ≤ 2000000002) ∧ -1 ≤ b ∧ b ≤ 1000000001) ∧ ((-2000000002 ≤ c ∧ c ≤ 2000000002) ∧ -1 ≤ d ∧ d ≤ 1000000001) ∧ Below w.heap.size w w') := by
  have yt := heapN (heap_alloc_new w (.cells #[.int .i64 0, .int .i64 0] 25)) (.cells #[.int .i64 0, .int .i64 0] 25)
  have ys := heap_new1 w (.cells #[.int .i64 0, .int .i64 0] 25) (.cells #[.int .i64 0, .int .i64 0] 25)
  have hB : Below w.heap.size w ((w.alloc (.cells #[.int .i64 0, .int .i64 0] 25)).alloc (.cells #[.int .i64 0, .int .i64 0] 25)) := ((Below.refl _ _).alloc (Nat.le_refl _) _).alloc (by simp) _
  have hv2 : SlB ((w.alloc (.cells #[.int .i64 0, .int .i64 0] 25)).alloc (.cells #[.int .i64 0, .int .i64 0] 25)).heap.size ((w.alloc (.cells #[.int .i64 0, .int .i64 0] 25)).alloc (.cells #[.int .i64 0, .int .i64 0] 25)) v bs := (hv.keep hB).up hB.size
  go_enter Try.func45, Try.ntmps45
  go_wp2_with (go_at_call 84; ((with_reducible refine (l2Two_s _ bs _ hl hv2).mono ?_); rintro e w1 ⟨a, b, c, d, rfl, hab, hcd, hb1⟩; (replace hB := below_tr hB hb1; replace yt := blockB hb1 yt; replace ys := blockB hb1 ys; have t0 := cellAt yt 0; have t1 := cellAt yt 1; have t2 := frozen0 (j := 0) yt; have t3 := frozen0 (j := 1) yt; have s0 := cellAt ys 0; have s1 := cellAt ys 1; have s2 := frozen0 (j := 0) ys; have s3 := frozen0 (j := 1) ys)))
  refine bodyPost_ret (res_cell2 rfl rfl rfl (setO (by omega) (setO (by omega) (set1 (set0 yt _) _) _) _) (set1 (set0 (setO (by omega) (setO (by omega) ys _) _) _) _)) rfl ⟨a, b, c, d, rfl, hab, hcd, ?_⟩
  exact (((hB.setCell (Nat.le_refl _) _).setCell (Nat.le_refl _) _).setCell (Nat.le_succ _) _).setCell (Nat.le_succ _) _

theorem DrawNewRational_s (v : Value) (bs : List UInt8) (w : World) (hl : bs.length ≤ 1048576) (hv : SlB w.heap.size w v bs) : Calls Try.prog 40 #[v] w (fun e w' => ∃ n d : Int, e = .returned (.tuple #[.int .i64 n, .int .i64 d]) ∧ (-9223372036854775808 ≤ n ∧ n ≤ 9223372036854775807) ∧ (-9223372036854775808 ≤ d ∧ d ≤ 9223372036854775807) ∧ Below w.heap.size w w') := by
  have hG : True := trivial
  go_enter Try.func40, Try.ntmps40
  go_wp2_with (first
    | (go_at_call 77; ((with_reducible refine (l1New_s _ bs _ hl hv).mono ?_); rintro e w1 ⟨g, rfl, hgw, hc, hB⟩))
    | (go_at_call 78; ((with_reducible refine (l1Once_s g _ (by omega) _ hc).mono ?_); rintro e w1 ⟨bb, rfl, hc1, hg1⟩; (replace hB := hB.trans (below_of_grown hg1 hgw hB.size); replace hc := hc1; clear hc1 hg1)))
    | (go_at_call 80; ((with_reducible refine (l1Below_s g _ (by omega) _ hc).mono ?_); rintro e w1 ⟨x, rfl, hx, hc1, hg1⟩; (replace hB := hB.trans (below_of_grown hg1 hgw hB.size); replace hc := hc1; clear hc1 hg1)))
    | (go_at_call 79; ((with_reducible refine ((l1PickInt_s g (.slice (some ⟨_, 0, none⟩) 4 4) 0 [(9223372036854775807), (-9223372036854775808), (4000000000000000000), (7)] (by simp) (by simp) _ (hc.below ((Below.refl _ _).alloc (Nat.le_refl _) _)) (World.ownsRow_lit _ #[.int .i64 (9223372036854775807), .int .i64 (-9223372036854775808), .int .i64 (4000000000000000000), .int .i64 (7)] 4 (Nat.zero_le _) (by decide) rfl))).mono ?_); rintro e w1 ⟨y, rfl, hy, hc1, hg1⟩; (replace hB := (hB.alloc hB.size _).trans (below_of_grown hg1 hgw (by have := hB.size; simp; omega)); replace hc := hc1; clear hc1 hg1; simp at hy)))
    | (go_at_call 79; ((with_reducible refine ((l1PickInt_s g (.slice (some ⟨_, 0, none⟩) 5 5) 0 [(0), (-1), (4000000000000000000), (9223372036854775807), (3)] (by simp) (by simp) _ (hc.below ((Below.refl _ _).alloc (Nat.le_refl _) _)) (World.ownsRow_lit _ #[.int .i64 (0), .int .i64 (-1), .int .i64 (4000000000000000000), .int .i64 (9223372036854775807), .int .i64 (3)] 5 (Nat.zero_le _) (by decide) rfl))).mono ?_); rintro e w1 ⟨z, rfl, hz, hc1, hg1⟩; (replace hB := (hB.alloc hB.size _).trans (below_of_grown hg1 hgw (by have := hB.size; simp; omega)); replace hc := hc1; clear hc1 hg1; simp at hz))))
  all_goals go_ret2
  · exact ⟨_, _, rfl, by omega, by omega, hB⟩
  · exact ⟨_, _, rfl, by omega, by omega, hB⟩
end Go.Proofs.Ytkhphjapefijbaa
