/- The program's ContainsRow returns what the reference's ContainsRow returns, for all arguments. No condition. (Written by mkrellaws.py.) -/
import Derived.Test.YtbajnecahojcfaaRows
import Derived.Test.YtbajnecahojcfaaHead
import Derived.Test.YtbajnecahojcfaaOpenR
import Derived.Test.YtbajnecahojcfaaFactR
import Derived.Test.YtbajnecahojcfaaCon
import Derived.ProofKit
import Derived.OpenShut
import Derived.ShutString
import Derived.ChangeOld
namespace Go.Proofs.Ytbajnecahojcfaa.fnExactContainsRow
open Go.ChangeShapes Go.WideShapes Go.ChangeAt Go.RowKit
open Go.ChangeMaps (open_string shut_string)
set_option linter.unusedVariables false
set_option maxHeartbeats 8000000
set_option maxRecDepth 100000
theorem walk (v0 : Value) (am0 : Int × List (List Int)) (v1 : Value) (l1 : List Int) (w : World) (h0 : ∃ u, v0 = .agg #[.int .i64 am0.1, u] ∧ (Lit.int .i64 am0.1).wf = true ∧ MRow w u am0.2) (h1 : IRow w v1 l1 ∧ ∀ n ∈ l1, (Lit.int .i64 n).wf = true) : Calls Try.prog 13 #[v0, v1] w (RetB (.bool true) w) := by
  obtain ⟨u0, rfl, -, hc0⟩ := h0
  obtain ⟨a0, m0⟩ := am0
  simp only at hc0
  have c0_ := hc0
  obtain ⟨Az0, qz0, e0⟩ := MRow.opened hc0
  clear hc0
  subst e0
  obtain ⟨hc1, -⟩ := h1
  have c1_ := hc1
  obtain ⟨Az1, qz1, e1, -⟩ := IRow.open hc1
  clear hc1
  subst e1
  by_cases hl1 : l1.length ≤ 1048576
  rotate_left
  · have g1 : (1048576 : Int) < (l1.length : Int) := by omega
    go_enter Try.func13, Try.ntmps13
    go_wp2_with fail
    go_ret
    exact ⟨rfl, (show Below w.heap.size w (w.alloc (.cells #[.int .i64 a0, .slice Az0 m0.length qz0] 69)) from ((Below.refl w.heap.size w).alloc (by simp) _))⟩
  by_cases hs0 : ((m0.length : Int) + (total m0 : Int)) ≤ 1048576
  rotate_left
  · have z0 : MRow (w.alloc (.cells #[.int .i64 a0, .slice Az0 m0.length qz0] 69)) (.slice Az0 m0.length qz0) m0 := c0_.below (show Below w.heap.size w (w.alloc (.cells #[.int .i64 a0, .slice Az0 m0.length qz0] 69)) from ((Below.refl w.heap.size w).alloc (by simp) _))
    have g1 : ¬ (1048576 : Int) < (l1.length : Int) := by omega
    go_enter Try.func13, Try.ntmps13
    go_wp2_with (go_at_call 64; ((with_reducible refine (szRel_no _ a0 m0 _ _ z0 (by omega) hs0).mono ?_); rintro e w1 ⟨rfl, hb⟩))
    go_ret
    exact ⟨rfl, (show Below w.heap.size w (w.alloc (.cells #[.int .i64 a0, .slice Az0 m0.length qz0] 69)) from ((Below.refl w.heap.size w).alloc (by simp) _)).trans (hb.mono ((show Below w.heap.size w (w.alloc (.cells #[.int .i64 a0, .slice Az0 m0.length qz0] 69)) from ((Below.refl w.heap.size w).alloc (by simp) _))).size)⟩
  have hl0 : m0.length + total m0 ≤ 1048576 := by omega
  have g1 : ¬ (1048576 : Int) < (l1.length : Int) := by omega
  go_enter Try.func13, Try.ntmps13
  go_wp2_with fail
  have y1 := heap_alloc_new w (.cells #[.int .i64 a0, .slice Az0 m0.length qz0] 69)
  have hB : Below w.heap.size w (w.alloc (.cells #[.int .i64 a0, .slice Az0 m0.length qz0] 69)) := (Below.refl w.heap.size w).alloc (by simp) _
  have n0 : w.heap.size + 1 = (w.alloc (.cells #[.int .i64 a0, .slice Az0 m0.length qz0] 69)).heap.size := by simp
  generalize (w.alloc (.cells #[.int .i64 a0, .slice Az0 m0.length qz0] 69)) = w0 at *
  have y1c0 := cellAt y1 0; have y1a0 := fun o => cellAt (heapN y1 o) 0; have y1c1 := cellAt y1 1; have y1a1 := fun o => cellAt (heapN y1 o) 1
  go_wp2_with (first 
    | (go_at_call 64; ((with_reducible refine (szRel_yes _ a0 m0 _ _ (MRow.below c0_ hB) (by omega) (by omega)).mono ?_); rintro e w2 ⟨rfl, hb⟩; (replace y1 := blockB hb y1; have n3 : w0.heap.size ≤ w2.heap.size := hb.size; replace hB := hB.trans (hb.mono hB.size); clear hb; clear y1c0 y1a0 y1c1 y1a1; have y1c0 := cellAt y1 0; have y1a0 := fun o => cellAt (heapN y1 o) 0; have y1c1 := cellAt y1 1; have y1a1 := fun o => cellAt (heapN y1 o) 1))) 
    | (go_at_call 65; ((with_reducible refine (toRel_law _ a0 m0 _ (MRow.below c0_ hB) hl0).mono ?_); rintro e w4 ⟨Ax5, cx5, rfl, own, hb⟩; (replace y1 := blockB hb y1; have n6 : w2.heap.size ≤ w4.heap.size := hb.size; replace hB := hB.trans (hb.mono hB.size); clear hb; have r7 := SegM.of own; clear own; clear y1c0 y1a0 y1c1 y1a1; have y1c0 := cellAt y1 0; have y1a0 := fun o => cellAt (heapN y1 o) 0; have y1c1 := cellAt y1 1; have y1a1 := fun o => cellAt (heapN y1 o) 1))) 
    | (go_at_call 28; ((with_reducible refine (toInt_law _ l1 _ (IRow.below c1_ hB) hl1).mono ?_); rintro e w8 ⟨Ax9, cx9, rfl, own, hb⟩; (replace y1 := blockB hb y1; replace r7 := SegM.below r7 hb; have n10 : w4.heap.size ≤ w8.heap.size := hb.size; replace hB := hB.trans (hb.mono hB.size); clear hb; have r11 := SegI.of own; clear own; clear y1c0 y1a0 y1c1 y1a1; have y1c0 := cellAt y1 0; have y1a0 := fun o => cellAt (heapN y1 o) 0; have y1c1 := cellAt y1 1; have y1a1 := fun o => cellAt (heapN y1 o) 1))) 
    | (go_at_call 69; ((with_reducible refine (ContainsRow_s _ _ a0 m0 l1 _ (SegM.row r7) (SegI.row r11) (by omega)).mono ?_); rintro e w12 ⟨rfl, hb⟩; (replace y1 := blockB hb y1; replace r7 := SegM.below r7 hb; replace r11 := SegI.below r11 hb; have n13 : w8.heap.size ≤ w12.heap.size := hb.size; replace hB := hB.trans (hb.mono hB.size); clear hb; clear y1c0 y1a0 y1c1 y1a1; have y1c0 := cellAt y1 0; have y1a0 := fun o => cellAt (heapN y1 o) 0; have y1c1 := cellAt y1 1; have y1a1 := fun o => cellAt (heapN y1 o) 1))) 
    | (go_at_call 65; ((with_reducible refine (toRel_law _ a0 m0 _ (MRow.below c0_ hB) hl0).mono ?_); rintro e w14 ⟨Ax15, cx15, rfl, own, hb⟩; (replace y1 := blockB hb y1; replace r7 := SegM.below r7 hb; replace r11 := SegI.below r11 hb; have n16 : w12.heap.size ≤ w14.heap.size := hb.size; replace hB := hB.trans (hb.mono hB.size); clear hb; have r17 := SegM.of own; clear own; clear y1c0 y1a0 y1c1 y1a1; have y1c0 := cellAt y1 0; have y1a0 := fun o => cellAt (heapN y1 o) 0; have y1c1 := cellAt y1 1; have y1a1 := fun o => cellAt (heapN y1 o) 1))) 
    | (go_at_call 28; ((with_reducible refine (toInt_law _ l1 _ (IRow.below c1_ (hB.alloc hB.size _)) hl1).mono ?_); rintro e w18 ⟨Ax19, cx19, rfl, own, hb⟩; (replace y1 := blockB hb (heapN y1 _); have y20 := blockB hb (heap_alloc_new _ (.cells #[.int .i64 a0, .slice Ax15 m0.length cx15] 44)); replace r7 := SegM.below (SegM.alloc r7 _) hb; replace r11 := SegI.below (SegI.alloc r11 _) hb; replace r17 := SegM.below (SegM.alloc r17 _) hb; have n21 : w14.heap.size + 1 ≤ w18.heap.size := (by have := hb.size; simp only [size_alloc] at this; exact this); replace hB := belowA hB hb; clear hb; simp only [size_alloc] at own; have r22 := SegI.of own; clear own; clear y1c0 y1a0 y1c1 y1a1; have y1c0 := cellAt y1 0; have y1a0 := fun o => cellAt (heapN y1 o) 0; have y1c1 := cellAt y1 1; have y1a1 := fun o => cellAt (heapN y1 o) 1; have y20c0 := cellAt y20 0; have y20a0 := fun o => cellAt (heapN y20 o) 0; have y20c1 := cellAt y20 1; have y20a1 := fun o => cellAt (heapN y20 o) 1))) 
    | (go_at_call 70; ((with_reducible refine (ContainsRow_i _ _ a0 m0 l1 _ (SegM.row r17) (SegI.row r22) (by omega)).mono ?_); rintro e w23 ⟨rfl, hb⟩; (replace y1 := blockB hb y1; replace y20 := blockB hb y20; replace r7 := SegM.below r7 hb; replace r11 := SegI.below r11 hb; replace r17 := SegM.below r17 hb; replace r22 := SegI.below r22 hb; have n24 : w18.heap.size ≤ w23.heap.size := hb.size; replace hB := hB.trans (hb.mono hB.size); clear hb; clear y1c0 y1a0 y1c1 y1a1 y20c0 y20a0 y20c1 y20a1; have y1c0 := cellAt y1 0; have y1a0 := fun o => cellAt (heapN y1 o) 0; have y1c1 := cellAt y1 1; have y1a1 := fun o => cellAt (heapN y1 o) 1; have y20c0 := cellAt y20 0; have y20a0 := fun o => cellAt (heapN y20 o) 0; have y20c1 := cellAt y20 1; have y20a1 := fun o => cellAt (heapN y20 o) 1))))
  clear y1c0 y1a0 y1c1 y1a1 y20c0 y20a0 y20c1 y20a1
  refine wp_region_flow 5 [] [[], [], [1], [0, 2], [3]] [Fact.is (.agg #[.int .i64 a0, .slice Ax15 m0.length cx15]), Fact.is (.agg #[.int .i64 a0, .slice Az0 m0.length qz0]), Fact.rel w23.heap.size (a0) (m0), Fact.is (.bool true), Fact.is (.bool false)] (by kernel_rfl) (by kernel_rfl) (by intro c d v a w h; cases d <;> exact h) (And.intro ?op0_1 (And.intro ?op1_1 (And.intro ?op2_1 (And.intro ?op3_1 (And.intro ?op4_1 trivial))))) ?fin_1
  case op0_1 => (change flowStep _ _ _ _ _ _ _ _; intro wf vs hbf hf; have y1c0 := cellAt (blockB hbf y1) 0; have y1c1 := cellAt (blockB hbf y1) 1; have y20c0 := cellAt (blockB hbf y20) 0; have y20c1 := cellAt (blockB hbf y20) 1; obtain ⟨-⟩ := hf; show wpList _ _ _ _ ⟨_, _⟩ _; go_wp2_with (first | (go_at_call 65; ((with_reducible refine (toRel_law _ a0 m0 _ (MRow.below c0_ (hB.trans (hbf.mono hB.size))) hl0).mono ?_); rintro e w9 ⟨Ax26, cx26, rfl, own, hb1⟩; (replace own := ownM_mono own hbf.size))) | (go_at_call 48; ((with_reducible refine (eqRel_law _ _ a0 m0 _ (SegM.row (SegM.below r17 hbf)) (SegM.row o2)).mono ?_); rintro e w9 ⟨rfl, hb1⟩))); first | exact ⟨rfl, rfl, ⟨_, _, rfl, rfl, rfl⟩, by first | with_reducible exact Below.refl _ _ | assumption | with_reducible exact (Below.refl _ _).drew | with_reducible exact (Below.refl _ _).alloc (Nat.le_refl _) _⟩ | exact ⟨rfl, rfl, ⟨_, _, rfl, rfl, (by show _ = _; rfl)⟩, by first | with_reducible exact Below.refl _ _ | assumption | with_reducible exact (Below.refl _ _).drew | with_reducible exact (Below.refl _ _).alloc (Nat.le_refl _) _⟩ | exact ⟨rfl, rfl, ⟨_, _, rfl, rfl, ⟨_, rfl, Below.size (by assumption), heap_alloc_new _ _⟩⟩, (Below.refl _ _).alloc (Nat.le_refl _) _⟩ | exact ⟨rfl, rfl, ⟨_, _, rfl, rfl, ⟨_, rfl, World.ownsRow_lit _ _ _ (Below.size (by assumption)) (by decide) rfl⟩⟩, (Below.refl _ _).alloc (Nat.le_refl _) _⟩ | exact ⟨rfl, rfl, ⟨_, _, rfl, rfl, ⟨_, _, rfl, by assumption⟩⟩, by first | with_reducible exact Below.refl _ _ | assumption⟩)
  case op1_1 => (change flowStep _ _ _ _ _ _ _ _; intro wf vs hbf hf; have y1c0 := cellAt (blockB hbf y1) 0; have y1c1 := cellAt (blockB hbf y1) 1; have y20c0 := cellAt (blockB hbf y20) 0; have y20c1 := cellAt (blockB hbf y20) 1; obtain ⟨-⟩ := hf; show wpList _ _ _ _ ⟨_, _⟩ _; go_wp2_with (first | (go_at_call 65; ((with_reducible refine (toRel_law _ a0 m0 _ (MRow.below c0_ (hB.trans (hbf.mono hB.size))) hl0).mono ?_); rintro e w9 ⟨Ax26, cx26, rfl, own, hb1⟩; (replace own := ownM_mono own hbf.size))) | (go_at_call 48; ((with_reducible refine (eqRel_law _ _ a0 m0 _ (SegM.row (SegM.below r17 hbf)) (SegM.row o2)).mono ?_); rintro e w9 ⟨rfl, hb1⟩))); first | exact ⟨rfl, rfl, ⟨_, _, rfl, rfl, rfl⟩, by first | with_reducible exact Below.refl _ _ | assumption | with_reducible exact (Below.refl _ _).drew | with_reducible exact (Below.refl _ _).alloc (Nat.le_refl _) _⟩ | exact ⟨rfl, rfl, ⟨_, _, rfl, rfl, (by show _ = _; rfl)⟩, by first | with_reducible exact Below.refl _ _ | assumption | with_reducible exact (Below.refl _ _).drew | with_reducible exact (Below.refl _ _).alloc (Nat.le_refl _) _⟩ | exact ⟨rfl, rfl, ⟨_, _, rfl, rfl, ⟨_, rfl, Below.size (by assumption), heap_alloc_new _ _⟩⟩, (Below.refl _ _).alloc (Nat.le_refl _) _⟩ | exact ⟨rfl, rfl, ⟨_, _, rfl, rfl, ⟨_, rfl, World.ownsRow_lit _ _ _ (Below.size (by assumption)) (by decide) rfl⟩⟩, (Below.refl _ _).alloc (Nat.le_refl _) _⟩ | exact ⟨rfl, rfl, ⟨_, _, rfl, rfl, ⟨_, _, rfl, by assumption⟩⟩, by first | with_reducible exact Below.refl _ _ | assumption⟩)
  case op2_1 => (change flowStep _ _ _ _ _ _ _ _; intro wf vs hbf hf; have y1c0 := cellAt (blockB hbf y1) 0; have y1c1 := cellAt (blockB hbf y1) 1; have y20c0 := cellAt (blockB hbf y20) 0; have y20c1 := cellAt (blockB hbf y20) 1; obtain ⟨e1, -⟩ := hf; replace e1 : vs 1 = .agg #[.int .i64 a0, .slice Az0 m0.length qz0] := e1; show wpList _ _ _ _ (Act.put _ (some 34) (vs 1)) _; rw [e1]; go_wp2_with (first | (go_at_call 65; ((with_reducible refine (toRel_law _ a0 m0 _ (MRow.below c0_ (hB.trans (hbf.mono hB.size))) hl0).mono ?_); rintro e w9 ⟨Ax26, cx26, rfl, own, hb1⟩; (replace own := ownM_mono own hbf.size))) | (go_at_call 48; ((with_reducible refine (eqRel_law _ _ a0 m0 _ (SegM.row (SegM.below r17 hbf)) (SegM.row o2)).mono ?_); rintro e w9 ⟨rfl, hb1⟩))); first | exact ⟨rfl, rfl, ⟨_, _, rfl, rfl, rfl⟩, by first | with_reducible exact Below.refl _ _ | assumption | with_reducible exact (Below.refl _ _).drew | with_reducible exact (Below.refl _ _).alloc (Nat.le_refl _) _⟩ | exact ⟨rfl, rfl, ⟨_, _, rfl, rfl, (by show _ = _; rfl)⟩, by first | with_reducible exact Below.refl _ _ | assumption | with_reducible exact (Below.refl _ _).drew | with_reducible exact (Below.refl _ _).alloc (Nat.le_refl _) _⟩ | exact ⟨rfl, rfl, ⟨_, _, rfl, rfl, ⟨_, rfl, Below.size (by assumption), heap_alloc_new _ _⟩⟩, (Below.refl _ _).alloc (Nat.le_refl _) _⟩ | exact ⟨rfl, rfl, ⟨_, _, rfl, rfl, ⟨_, rfl, World.ownsRow_lit _ _ _ (Below.size (by assumption)) (by decide) rfl⟩⟩, (Below.refl _ _).alloc (Nat.le_refl _) _⟩ | exact ⟨rfl, rfl, ⟨_, _, rfl, rfl, ⟨_, _, rfl, by assumption⟩⟩, by first | with_reducible exact Below.refl _ _ | assumption⟩)
  case op3_1 => (change flowStep _ _ _ _ _ _ _ _; intro wf vs hbf hf; have y1c0 := cellAt (blockB hbf y1) 0; have y1c1 := cellAt (blockB hbf y1) 1; have y20c0 := cellAt (blockB hbf y20) 0; have y20c1 := cellAt (blockB hbf y20) 1; obtain ⟨e0, ⟨A2, c2, e2, o2⟩, -⟩ := hf; replace e0 : vs 0 = .agg #[.int .i64 a0, .slice Ax15 m0.length cx15] := e0; show wpList _ _ _ _ (Act.put (Act.put _ (some 33) (vs 0)) (some 35) (vs 2)) _; rw [e0, e2]; go_wp2_with (first | (go_at_call 65; ((with_reducible refine (toRel_law _ a0 m0 _ (MRow.below c0_ (hB.trans (hbf.mono hB.size))) hl0).mono ?_); rintro e w9 ⟨Ax26, cx26, rfl, own, hb1⟩; (replace own := ownM_mono own hbf.size))) | (go_at_call 48; ((with_reducible refine (eqRel_law _ _ a0 m0 _ (SegM.row (SegM.below r17 hbf)) (SegM.row o2)).mono ?_); rintro e w9 ⟨rfl, hb1⟩))); first | exact ⟨rfl, rfl, ⟨_, _, rfl, rfl, rfl⟩, by first | with_reducible exact Below.refl _ _ | assumption | with_reducible exact (Below.refl _ _).drew | with_reducible exact (Below.refl _ _).alloc (Nat.le_refl _) _⟩ | exact ⟨rfl, rfl, ⟨_, _, rfl, rfl, (by show _ = _; rfl)⟩, by first | with_reducible exact Below.refl _ _ | assumption | with_reducible exact (Below.refl _ _).drew | with_reducible exact (Below.refl _ _).alloc (Nat.le_refl _) _⟩ | exact ⟨rfl, rfl, ⟨_, _, rfl, rfl, ⟨_, rfl, Below.size (by assumption), heap_alloc_new _ _⟩⟩, (Below.refl _ _).alloc (Nat.le_refl _) _⟩ | exact ⟨rfl, rfl, ⟨_, _, rfl, rfl, ⟨_, rfl, World.ownsRow_lit _ _ _ (Below.size (by assumption)) (by decide) rfl⟩⟩, (Below.refl _ _).alloc (Nat.le_refl _) _⟩ | exact ⟨rfl, rfl, ⟨_, _, rfl, rfl, ⟨_, _, rfl, by assumption⟩⟩, by first | with_reducible exact Below.refl _ _ | assumption⟩)
  case op4_1 => (change flowStep _ _ _ _ _ _ _ _; intro wf vs hbf hf; have y1c0 := cellAt (blockB hbf y1) 0; have y1c1 := cellAt (blockB hbf y1) 1; have y20c0 := cellAt (blockB hbf y20) 0; have y20c1 := cellAt (blockB hbf y20) 1; obtain ⟨e3, -⟩ := hf; replace e3 : vs 3 = .bool true := e3; show wpList _ _ _ _ (Act.put _ (some 36) (vs 3)) _; rw [e3]; go_wp2_with (first | (go_at_call 65; ((with_reducible refine (toRel_law _ a0 m0 _ (MRow.below c0_ (hB.trans (hbf.mono hB.size))) hl0).mono ?_); rintro e w9 ⟨Ax26, cx26, rfl, own, hb1⟩; (replace own := ownM_mono own hbf.size))) | (go_at_call 48; ((with_reducible refine (eqRel_law _ _ a0 m0 _ (SegM.row (SegM.below r17 hbf)) (SegM.row o2)).mono ?_); rintro e w9 ⟨rfl, hb1⟩))); first | exact ⟨rfl, rfl, ⟨_, _, rfl, rfl, rfl⟩, by first | with_reducible exact Below.refl _ _ | assumption | with_reducible exact (Below.refl _ _).drew | with_reducible exact (Below.refl _ _).alloc (Nat.le_refl _) _⟩ | exact ⟨rfl, rfl, ⟨_, _, rfl, rfl, (by show _ = _; rfl)⟩, by first | with_reducible exact Below.refl _ _ | assumption | with_reducible exact (Below.refl _ _).drew | with_reducible exact (Below.refl _ _).alloc (Nat.le_refl _) _⟩ | exact ⟨rfl, rfl, ⟨_, _, rfl, rfl, ⟨_, rfl, Below.size (by assumption), heap_alloc_new _ _⟩⟩, (Below.refl _ _).alloc (Nat.le_refl _) _⟩ | exact ⟨rfl, rfl, ⟨_, _, rfl, rfl, ⟨_, rfl, World.ownsRow_lit _ _ _ (Below.size (by assumption)) (by decide) rfl⟩⟩, (Below.refl _ _).alloc (Nat.le_refl _) _⟩ | exact ⟨rfl, rfl, ⟨_, _, rfl, rfl, ⟨_, _, rfl, by assumption⟩⟩, by first | with_reducible exact Below.refl _ _ | assumption⟩)
  intro w25 vs hbf hf; obtain ⟨e0, e1, ⟨A2, c2, e2, o2⟩, e3, e4, -⟩ := hf; replace e0 : vs 0 = .agg #[.int .i64 a0, .slice Ax15 m0.length cx15] := e0; replace e1 : vs 1 = .agg #[.int .i64 a0, .slice Az0 m0.length qz0] := e1; replace e3 : vs 3 = .bool true := e3; replace e4 : vs 4 = .bool false := e4; show wpList _ _ _ _ (Act.put (Act.put (Act.put (Act.put (Act.put _ (some 33) (vs 0)) (some 34) (vs 1)) (some 35) (vs 2)) (some 36) (vs 3)) (some 37) (vs 4)) _; rw [e0, e1, e2, e3, e4]; simp only [Act.put, List.setIfInBounds_toArray, List.set_cons_succ, List.set_cons_zero, List.drop_succ_cons, List.drop_zero]
  replace y1 := blockB hbf y1
  replace y20 := blockB hbf y20
  replace r7 := SegM.below r7 hbf
  replace r11 := SegI.below r11 hbf
  replace r17 := SegM.below r17 hbf
  replace r22 := SegI.below r22 hbf
  have n27 : w23.heap.size ≤ w25.heap.size := hbf.size
  replace hB := hB.trans (hbf.mono hB.size)
  clear hbf
  refine wpList_nil ?_
  have y1c0 := cellAt y1 0; have y1a0 := fun o => cellAt (heapN y1 o) 0; have y1c1 := cellAt y1 1; have y1a1 := fun o => cellAt (heapN y1 o) 1; have y20c0 := cellAt y20 0; have y20a0 := fun o => cellAt (heapN y20 o) 0; have y20c1 := cellAt y20 1; have y20a1 := fun o => cellAt (heapN y20 o) 1
  go_wp2_with (first 
    | (go_at_call 28; ((with_reducible refine (toInt_law _ l1 _ (IRow.below c1_ hB) hl1).mono ?_); rintro e w28 ⟨Ax29, cx29, rfl, own, hb⟩; (replace y1 := blockB hb y1; replace y20 := blockB hb y20; replace r7 := SegM.below r7 hb; replace r11 := SegI.below r11 hb; replace r17 := SegM.below r17 hb; replace r22 := SegI.below r22 hb; have n30 : w25.heap.size ≤ w28.heap.size := hb.size; replace hB := hB.trans (hb.mono hB.size); clear hb; have r31 := SegI.of own; clear own; clear y1c0 y1a0 y1c1 y1a1 y20c0 y20a0 y20c1 y20a1; have y1c0 := cellAt y1 0; have y1a0 := fun o => cellAt (heapN y1 o) 0; have y1c1 := cellAt y1 1; have y1a1 := fun o => cellAt (heapN y1 o) 1; have y20c0 := cellAt y20 0; have y20a0 := fun o => cellAt (heapN y20 o) 0; have y20c1 := cellAt y20 1; have y20a1 := fun o => cellAt (heapN y20 o) 1))) 
    | (go_at_call 30; ((with_reducible refine (eqInt_law _ _ l1 _ (SegI.row r22) (SegI.row r31)).mono ?_); rintro e w32 ⟨rfl, hb⟩; (replace y1 := blockB hb y1; replace y20 := blockB hb y20; replace r7 := SegM.below r7 hb; replace r11 := SegI.below r11 hb; replace r17 := SegM.below r17 hb; replace r22 := SegI.below r22 hb; replace r31 := SegI.below r31 hb; have n33 : w28.heap.size ≤ w32.heap.size := hb.size; replace hB := hB.trans (hb.mono hB.size); clear hb; clear y1c0 y1a0 y1c1 y1a1 y20c0 y20a0 y20c1 y20a1; have y1c0 := cellAt y1 0; have y1a0 := fun o => cellAt (heapN y1 o) 0; have y1c1 := cellAt y1 1; have y1a1 := fun o => cellAt (heapN y1 o) 1; have y20c0 := cellAt y20 0; have y20a0 := fun o => cellAt (heapN y20 o) 0; have y20c1 := cellAt y20 1; have y20a1 := fun o => cellAt (heapN y20 o) 1))))
  go_ret
  exact ⟨rfl, hB⟩
theorem own : ownKnob Try.prog.godebug = none := by kernel_rfl
theorem laidOut : laidOutB Try.prog = true := by kernel_rfl
set_option maxRecDepth 100000 in
theorem lifted (os : Os) (started : os.Started) (H : Type) (enc : TypeId × Value → H) :
    ReturnsInHanded {} Try.checked os 13 .any (Rows.fnExactContainsRowSpec.pre6 enc Try.prog Try.f13 Rows.fnExactContainsRowRow.domain false) (Rows.fnExactContainsRowSpec.post enc Try.prog Try.f13 false true false false) := by
  refine returnsInHanded_of_change (C := Try.checked) own started (by kernel_rfl) Try.func13
    (ChangeSpec.witness6 (enc := enc) (C := Try.checked) false ⟨#[], #[.agg #[.int .i64 0, .slice none 0 0], .slice none 0 0], []⟩ 8 (by kernel_rfl) (by kernel_rfl) (by kernel_rfl) (by kernel_rfl)) ?_
  intro W base args ds gs before hval0 hW hcnd _
  have hval : ∀ (j : Nat) t v, Try.f13.params[j]? = some t → args[j]? = some v → Value.okWide Try.prog W .any base t v := hval0
  have hW' := hW
  obtain ⟨p, q, hA0, hV, rfl, hfz, hnd⟩ := hW
  have hA : DataW.TrodAll enc Try.prog W 0 (fun _ => true) true Try.f13.params.toList args.toList ds p := hA0
  rw [Try.params13] at hA hval
  obtain ⟨v0, vs0, d0, ds0, p0, q0, hargs, rfl, rfl, h0, r0⟩ := trodAll_cons hA
  obtain ⟨v1, vs1, d1, ds1, p1, q1, rfl, rfl, rfl, h1, r1⟩ := trodAll_cons r0
  obtain ⟨rfl, rfl, rfl⟩ := trodAll_nil r1
  obtain rfl : args = #[v0, v1] := by cases args; simp_all
  obtain ⟨rfl, rfl⟩ := trodVars_none hV
  have k0 := h0
  have lt0 : ∀ x ∈ p0, x.block < W.heap.size := by obtain ⟨m, hm⟩ := k0; exact DataW.trod_lt m _ _ _ hm
  obtain ⟨A0, w0⟩ := open_relation (hval 0 69 v0 rfl rfl) h0
  have k1 := h1
  have lt1 : ∀ x ∈ p1, x.block < W.heap.size := by obtain ⟨m, hm⟩ := k1; exact DataW.trod_lt m _ _ _ hm
  obtain ⟨A1, w1⟩ := open_row_int (hval 1 22 v1 rfl rfl) h1
  clear hA0 hval0
  refine (walk v0 A0 v1 A1 W w0 w1).mono fun e W' ⟨he, bel⟩ => ?_
  subst he
  exact ⟨_, rfl, _, _, _, [], _, [], hW', trodAll_mk1 (shut_bool Try.underlying4 _), (trodAll_cons_mk (Below.trod laidOut (by kernel_rfl) (of_decide_eq_true (by kernel_rfl)) k0 bel lt0) (trodAll_cons_mk (Below.trod laidOut (by kernel_rfl) (of_decide_eq_true (by kernel_rfl)) k1 bel lt1) trodAll_mk0)), rfl, bel.frame _, fun h => by cases h⟩
theorem closed : joinedFacts Try.prog 13 Try.f13 Rows.fnExactContainsRowSpec Rows.fnExactContainsRowRow = true := by
  unfold joinedFacts
  simp only [Bool.and_eq_true]
  repeat' apply And.intro
  all_goals first | with_reducible exact mayEnter | (rw [lifts]; kernel_rfl) | (rw [make]; kernel_rfl) | as_aux_lemma => kernel_rfl
theorem over : Rows.fnExactContainsRowRow.holds Try.pinned (OpenSpec.ofChange Rows.fnExactContainsRowSpec) :=
  OpenClaim.holds_of_wide 13 Try.f13 rfl rfl rfl rfl rfl rfl rfl ⟨rfl, rfl, rfl, rfl, rfl⟩ rfl rfl rfl rfl rfl (by kernel_rfl) Try.func13 closed
    (of_decide_eq_true (by kernel_rfl)) (by unfold Func.isWrapper; first | (rw [if_pos (by decide +kernel)]; kernel_rfl) | (rw [if_neg (by decide +kernel)]; exact ⟨rfl, rfl⟩))
    (fun os started H enc _ => lifted os started H enc)
theorem proved : Rows.FnExactContainsRowSaid := over
end Go.Proofs.Ytbajnecahojcfaa.fnExactContainsRow
