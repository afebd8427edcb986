/- The program's IsValidDatabase returns what the reference's IsValidDatabase returns, for all arguments. No condition. (Written by mkrellaws.py.) -/
import Derived.Test.YtbajnecahojcfaaRows
import Derived.Test.YtbajnecahojcfaaHead
import Derived.Test.YtbajnecahojcfaaOpenR
import Derived.Test.YtbajnecahojcfaaFactR
import Derived.Test.YtbajnecahojcfaaOpenD
import Derived.Test.YtbajnecahojcfaaDbO
import Derived.Test.YtbajnecahojcfaaDbI
import Derived.Test.YtbajnecahojcfaaDbS
import Derived.ProofKit
import Derived.OpenShut
import Derived.ShutString
import Derived.ChangeOld
namespace Go.Proofs.Ytbajnecahojcfaa.fnExactIsValidDatabase
open Go.ChangeShapes Go.WideShapes Go.ChangeAt Go.RowKit
open Go.ChangeMaps (open_string shut_string)
set_option linter.unusedVariables false
set_option maxHeartbeats 8000000
set_option maxRecDepth 100000
theorem walk (v0 : Value) (T0 : List Tab) (w : World) (h0 : ∃ u, v0 = .agg #[u] ∧ TRow w u T0 ∧ ∀ t ∈ T0, t.1.length ≤ 9223372036854775807) : Calls Try.prog 20 #[v0] w (RetB (.bool true) w) := by
  obtain ⟨u0, rfl, hc0, hN0⟩ := h0
  have c0_ := hc0
  obtain ⟨Az0, qz0, e0⟩ := TRow.opened hc0
  clear hc0
  subst e0
  by_cases hs0 : ((T0.length : Int) + (tsz T0 : Int)) ≤ 1048576
  rotate_left
  · have z0 : TRow (w.alloc (.cells #[.slice Az0 T0.length qz0] 64)) (.slice Az0 T0.length qz0) T0 := c0_.below (show Below w.heap.size w (w.alloc (.cells #[.slice Az0 T0.length qz0] 64)) from ((Below.refl w.heap.size w).alloc (by simp) _))
    go_enter Try.func20, Try.ntmps20
    go_wp2_with (go_at_call 59; ((with_reducible refine (szDb_no _ T0 _ _ hN0 z0 (by omega) hs0).mono ?_); rintro e w1 ⟨rfl, hb⟩))
    go_ret
    exact ⟨rfl, (show Below w.heap.size w (w.alloc (.cells #[.slice Az0 T0.length qz0] 64)) from ((Below.refl w.heap.size w).alloc (by simp) _)).trans (hb.mono ((show Below w.heap.size w (w.alloc (.cells #[.slice Az0 T0.length qz0] 64)) from ((Below.refl w.heap.size w).alloc (by simp) _))).size)⟩
  have hl0 : T0.length + tsz T0 ≤ 1048576 := by omega
  have hM0 : ∀ t ∈ T0, t.1.length ≤ 1048576 := fun t ht => by have := tsz_mem ht; unfold tsz1 at this; omega
  go_enter Try.func20, Try.ntmps20
  go_wp2_with fail
  have y1 := heap_alloc_new w (.cells #[.slice Az0 T0.length qz0] 64)
  have hB : Below w.heap.size w (w.alloc (.cells #[.slice Az0 T0.length qz0] 64)) := (Below.refl w.heap.size w).alloc (by simp) _
  have n0 : w.heap.size + 1 = (w.alloc (.cells #[.slice Az0 T0.length qz0] 64)).heap.size := by simp
  generalize (w.alloc (.cells #[.slice Az0 T0.length qz0] 64)) = w0 at *
  have y1c0 := cellAt y1 0; have y1a0 := fun o => cellAt (heapN y1 o) 0
  go_wp2_with (first 
    | (go_at_call 59; ((with_reducible refine (szDb_yes _ T0 _ _ hN0 (TRow.below c0_ hB) (by omega) (by omega)).mono ?_); rintro e w2 ⟨rfl, hb⟩; (replace y1 := blockB hb y1; have n3 : w0.heap.size ≤ w2.heap.size := hb.size; replace hB := hB.trans (hb.mono hB.size); clear hb; clear y1c0 y1a0; have y1c0 := cellAt y1 0; have y1a0 := fun o => cellAt (heapN y1 o) 0))) 
    | (go_at_call 61; ((with_reducible refine (toDb_law _ T0 _ (TRow.below c0_ hB) hl0).mono ?_); rintro e w4 ⟨Ax5, cx5, rfl, own, hb⟩; (replace y1 := blockB hb y1; have n6 : w2.heap.size ≤ w4.heap.size := hb.size; replace hB := hB.trans (hb.mono hB.size); clear hb; have r7 := SegT.of own; clear own; clear y1c0 y1a0; have y1c0 := cellAt y1 0; have y1a0 := fun o => cellAt (heapN y1 o) 0))) 
    | (go_at_call 83; ((with_reducible refine (IsValidDatabase_s _ T0 hM0 _ (SegT.row r7)).mono ?_); rintro e w8 ⟨rfl, hb⟩; (replace y1 := blockB hb y1; replace r7 := SegT.below r7 hb; have n9 : w4.heap.size ≤ w8.heap.size := hb.size; replace hB := hB.trans (hb.mono hB.size); clear hb; clear y1c0 y1a0; have y1c0 := cellAt y1 0; have y1a0 := fun o => cellAt (heapN y1 o) 0))) 
    | (go_at_call 61; ((with_reducible refine (toDb_law _ T0 _ (TRow.below c0_ hB) hl0).mono ?_); rintro e w10 ⟨Ax11, cx11, rfl, own, hb⟩; (replace y1 := blockB hb y1; replace r7 := SegT.below r7 hb; have n12 : w8.heap.size ≤ w10.heap.size := hb.size; replace hB := hB.trans (hb.mono hB.size); clear hb; have r13 := SegT.of own; clear own; clear y1c0 y1a0; have y1c0 := cellAt y1 0; have y1a0 := fun o => cellAt (heapN y1 o) 0))) 
    | (go_at_call 57; ((with_reducible refine (IsValidDatabase_i _ T0 hM0 _ (SegT.row (SegT.alloc r13 _))).mono ?_); rintro e w14 ⟨rfl, hb⟩; (replace y1 := blockB hb (heapN y1 _); have y15 := blockB hb (heap_alloc_new _ (.cells #[.slice Ax11 T0.length cx11] 52)); replace r7 := SegT.below (SegT.alloc r7 _) hb; replace r13 := SegT.below (SegT.alloc r13 _) hb; have n16 : w10.heap.size + 1 ≤ w14.heap.size := (by have := hb.size; simp only [size_alloc] at this; exact this); replace hB := belowA hB hb; clear hb; clear y1c0 y1a0; have y1c0 := cellAt y1 0; have y1a0 := fun o => cellAt (heapN y1 o) 0; have y15c0 := cellAt y15 0; have y15a0 := fun o => cellAt (heapN y15 o) 0))))
  clear y1c0 y1a0 y15c0 y15a0
  refine wp_region_flow 5 [] [[], [], [1], [0, 2], [3]] [Fact.is (.agg #[.slice Ax11 T0.length cx11]), Fact.is (.agg #[.slice Az0 T0.length qz0]), Fact.db w14.heap.size (T0), Fact.is (.bool true), Fact.is (.bool false)] (by kernel_rfl) (by kernel_rfl) (by intro c d v a w h; cases d <;> exact h) (And.intro ?op0_1 (And.intro ?op1_1 (And.intro ?op2_1 (And.intro ?op3_1 (And.intro ?op4_1 trivial))))) ?fin_1
  case op0_1 => (change flowStep _ _ _ _ _ _ _ _; intro wf vs hbf hf; have y1c0 := cellAt (blockB hbf y1) 0; have y15c0 := cellAt (blockB hbf y15) 0; obtain ⟨-⟩ := hf; show wpList _ _ _ _ ⟨_, _⟩ _; go_wp2_with (first | (go_at_call 61; ((with_reducible refine (toDb_law _ T0 _ (TRow.below c0_ (hB.trans (hbf.mono hB.size))) hl0).mono ?_); rintro e w9 ⟨Ax18, cx18, rfl, own, hb1⟩; (replace own := ownT_mono own hbf.size))) | (go_at_call 62; ((with_reducible refine (eqDb_law _ _ T0 _ (SegT.row (SegT.below r13 hbf)) (SegT.row o2)).mono ?_); rintro e w9 ⟨rfl, hb1⟩))); first | exact ⟨rfl, rfl, ⟨_, _, rfl, rfl, rfl⟩, by first | with_reducible exact Below.refl _ _ | assumption | with_reducible exact (Below.refl _ _).drew | with_reducible exact (Below.refl _ _).alloc (Nat.le_refl _) _⟩ | exact ⟨rfl, rfl, ⟨_, _, rfl, rfl, (by show _ = _; rfl)⟩, by first | with_reducible exact Below.refl _ _ | assumption | with_reducible exact (Below.refl _ _).drew | with_reducible exact (Below.refl _ _).alloc (Nat.le_refl _) _⟩ | exact ⟨rfl, rfl, ⟨_, _, rfl, rfl, ⟨_, rfl, Below.size (by assumption), heap_alloc_new _ _⟩⟩, (Below.refl _ _).alloc (Nat.le_refl _) _⟩ | exact ⟨rfl, rfl, ⟨_, _, rfl, rfl, ⟨_, rfl, World.ownsRow_lit _ _ _ (Below.size (by assumption)) (by decide) rfl⟩⟩, (Below.refl _ _).alloc (Nat.le_refl _) _⟩ | exact ⟨rfl, rfl, ⟨_, _, rfl, rfl, ⟨_, _, rfl, by assumption⟩⟩, by first | with_reducible exact Below.refl _ _ | assumption⟩ | exact ⟨rfl, rfl, ⟨_, _, rfl, rfl, ⟨_, _, _, rfl, heap_alloc_new _ _, own_below (by assumption) ((Below.refl _ _).alloc (Nat.le_refl _) _)⟩⟩, (Below.refl _ _).alloc (Nat.le_refl _) _⟩)
  case op1_1 => (change flowStep _ _ _ _ _ _ _ _; intro wf vs hbf hf; have y1c0 := cellAt (blockB hbf y1) 0; have y15c0 := cellAt (blockB hbf y15) 0; obtain ⟨-⟩ := hf; show wpList _ _ _ _ ⟨_, _⟩ _; go_wp2_with (first | (go_at_call 61; ((with_reducible refine (toDb_law _ T0 _ (TRow.below c0_ (hB.trans (hbf.mono hB.size))) hl0).mono ?_); rintro e w9 ⟨Ax18, cx18, rfl, own, hb1⟩; (replace own := ownT_mono own hbf.size))) | (go_at_call 62; ((with_reducible refine (eqDb_law _ _ T0 _ (SegT.row (SegT.below r13 hbf)) (SegT.row o2)).mono ?_); rintro e w9 ⟨rfl, hb1⟩))); first | exact ⟨rfl, rfl, ⟨_, _, rfl, rfl, rfl⟩, by first | with_reducible exact Below.refl _ _ | assumption | with_reducible exact (Below.refl _ _).drew | with_reducible exact (Below.refl _ _).alloc (Nat.le_refl _) _⟩ | exact ⟨rfl, rfl, ⟨_, _, rfl, rfl, (by show _ = _; rfl)⟩, by first | with_reducible exact Below.refl _ _ | assumption | with_reducible exact (Below.refl _ _).drew | with_reducible exact (Below.refl _ _).alloc (Nat.le_refl _) _⟩ | exact ⟨rfl, rfl, ⟨_, _, rfl, rfl, ⟨_, rfl, Below.size (by assumption), heap_alloc_new _ _⟩⟩, (Below.refl _ _).alloc (Nat.le_refl _) _⟩ | exact ⟨rfl, rfl, ⟨_, _, rfl, rfl, ⟨_, rfl, World.ownsRow_lit _ _ _ (Below.size (by assumption)) (by decide) rfl⟩⟩, (Below.refl _ _).alloc (Nat.le_refl _) _⟩ | exact ⟨rfl, rfl, ⟨_, _, rfl, rfl, ⟨_, _, rfl, by assumption⟩⟩, by first | with_reducible exact Below.refl _ _ | assumption⟩ | exact ⟨rfl, rfl, ⟨_, _, rfl, rfl, ⟨_, _, _, rfl, heap_alloc_new _ _, own_below (by assumption) ((Below.refl _ _).alloc (Nat.le_refl _) _)⟩⟩, (Below.refl _ _).alloc (Nat.le_refl _) _⟩)
  case op2_1 => (change flowStep _ _ _ _ _ _ _ _; intro wf vs hbf hf; have y1c0 := cellAt (blockB hbf y1) 0; have y15c0 := cellAt (blockB hbf y15) 0; obtain ⟨e1, -⟩ := hf; replace e1 : vs 1 = .agg #[.slice Az0 T0.length qz0] := e1; show wpList _ _ _ _ (Act.put _ (some 23) (vs 1)) _; rw [e1]; go_wp2_with (first | (go_at_call 61; ((with_reducible refine (toDb_law _ T0 _ (TRow.below c0_ (hB.trans (hbf.mono hB.size))) hl0).mono ?_); rintro e w9 ⟨Ax18, cx18, rfl, own, hb1⟩; (replace own := ownT_mono own hbf.size))) | (go_at_call 62; ((with_reducible refine (eqDb_law _ _ T0 _ (SegT.row (SegT.below r13 hbf)) (SegT.row o2)).mono ?_); rintro e w9 ⟨rfl, hb1⟩))); first | exact ⟨rfl, rfl, ⟨_, _, rfl, rfl, rfl⟩, by first | with_reducible exact Below.refl _ _ | assumption | with_reducible exact (Below.refl _ _).drew | with_reducible exact (Below.refl _ _).alloc (Nat.le_refl _) _⟩ | exact ⟨rfl, rfl, ⟨_, _, rfl, rfl, (by show _ = _; rfl)⟩, by first | with_reducible exact Below.refl _ _ | assumption | with_reducible exact (Below.refl _ _).drew | with_reducible exact (Below.refl _ _).alloc (Nat.le_refl _) _⟩ | exact ⟨rfl, rfl, ⟨_, _, rfl, rfl, ⟨_, rfl, Below.size (by assumption), heap_alloc_new _ _⟩⟩, (Below.refl _ _).alloc (Nat.le_refl _) _⟩ | exact ⟨rfl, rfl, ⟨_, _, rfl, rfl, ⟨_, rfl, World.ownsRow_lit _ _ _ (Below.size (by assumption)) (by decide) rfl⟩⟩, (Below.refl _ _).alloc (Nat.le_refl _) _⟩ | exact ⟨rfl, rfl, ⟨_, _, rfl, rfl, ⟨_, _, rfl, by assumption⟩⟩, by first | with_reducible exact Below.refl _ _ | assumption⟩ | exact ⟨rfl, rfl, ⟨_, _, rfl, rfl, ⟨_, _, _, rfl, heap_alloc_new _ _, own_below (by assumption) ((Below.refl _ _).alloc (Nat.le_refl _) _)⟩⟩, (Below.refl _ _).alloc (Nat.le_refl _) _⟩)
  case op3_1 => (change flowStep _ _ _ _ _ _ _ _; intro wf vs hbf hf; have y1c0 := cellAt (blockB hbf y1) 0; have y15c0 := cellAt (blockB hbf y15) 0; obtain ⟨e0, ⟨A2, c2, e2, o2⟩, -⟩ := hf; replace e0 : vs 0 = .agg #[.slice Ax11 T0.length cx11] := e0; show wpList _ _ _ _ (Act.put (Act.put _ (some 22) (vs 0)) (some 24) (vs 2)) _; rw [e0, e2]; go_wp2_with (first | (go_at_call 61; ((with_reducible refine (toDb_law _ T0 _ (TRow.below c0_ (hB.trans (hbf.mono hB.size))) hl0).mono ?_); rintro e w9 ⟨Ax18, cx18, rfl, own, hb1⟩; (replace own := ownT_mono own hbf.size))) | (go_at_call 62; ((with_reducible refine (eqDb_law _ _ T0 _ (SegT.row (SegT.below r13 hbf)) (SegT.row o2)).mono ?_); rintro e w9 ⟨rfl, hb1⟩))); first | exact ⟨rfl, rfl, ⟨_, _, rfl, rfl, rfl⟩, by first | with_reducible exact Below.refl _ _ | assumption | with_reducible exact (Below.refl _ _).drew | with_reducible exact (Below.refl _ _).alloc (Nat.le_refl _) _⟩ | exact ⟨rfl, rfl, ⟨_, _, rfl, rfl, (by show _ = _; rfl)⟩, by first | with_reducible exact Below.refl _ _ | assumption | with_reducible exact (Below.refl _ _).drew | with_reducible exact (Below.refl _ _).alloc (Nat.le_refl _) _⟩ | exact ⟨rfl, rfl, ⟨_, _, rfl, rfl, ⟨_, rfl, Below.size (by assumption), heap_alloc_new _ _⟩⟩, (Below.refl _ _).alloc (Nat.le_refl _) _⟩ | exact ⟨rfl, rfl, ⟨_, _, rfl, rfl, ⟨_, rfl, World.ownsRow_lit _ _ _ (Below.size (by assumption)) (by decide) rfl⟩⟩, (Below.refl _ _).alloc (Nat.le_refl _) _⟩ | exact ⟨rfl, rfl, ⟨_, _, rfl, rfl, ⟨_, _, rfl, by assumption⟩⟩, by first | with_reducible exact Below.refl _ _ | assumption⟩ | exact ⟨rfl, rfl, ⟨_, _, rfl, rfl, ⟨_, _, _, rfl, heap_alloc_new _ _, own_below (by assumption) ((Below.refl _ _).alloc (Nat.le_refl _) _)⟩⟩, (Below.refl _ _).alloc (Nat.le_refl _) _⟩)
  case op4_1 => (change flowStep _ _ _ _ _ _ _ _; intro wf vs hbf hf; have y1c0 := cellAt (blockB hbf y1) 0; have y15c0 := cellAt (blockB hbf y15) 0; obtain ⟨e3, -⟩ := hf; replace e3 : vs 3 = .bool true := e3; show wpList _ _ _ _ (Act.put _ (some 25) (vs 3)) _; rw [e3]; go_wp2_with (first | (go_at_call 61; ((with_reducible refine (toDb_law _ T0 _ (TRow.below c0_ (hB.trans (hbf.mono hB.size))) hl0).mono ?_); rintro e w9 ⟨Ax18, cx18, rfl, own, hb1⟩; (replace own := ownT_mono own hbf.size))) | (go_at_call 62; ((with_reducible refine (eqDb_law _ _ T0 _ (SegT.row (SegT.below r13 hbf)) (SegT.row o2)).mono ?_); rintro e w9 ⟨rfl, hb1⟩))); first | exact ⟨rfl, rfl, ⟨_, _, rfl, rfl, rfl⟩, by first | with_reducible exact Below.refl _ _ | assumption | with_reducible exact (Below.refl _ _).drew | with_reducible exact (Below.refl _ _).alloc (Nat.le_refl _) _⟩ | exact ⟨rfl, rfl, ⟨_, _, rfl, rfl, (by show _ = _; rfl)⟩, by first | with_reducible exact Below.refl _ _ | assumption | with_reducible exact (Below.refl _ _).drew | with_reducible exact (Below.refl _ _).alloc (Nat.le_refl _) _⟩ | exact ⟨rfl, rfl, ⟨_, _, rfl, rfl, ⟨_, rfl, Below.size (by assumption), heap_alloc_new _ _⟩⟩, (Below.refl _ _).alloc (Nat.le_refl _) _⟩ | exact ⟨rfl, rfl, ⟨_, _, rfl, rfl, ⟨_, rfl, World.ownsRow_lit _ _ _ (Below.size (by assumption)) (by decide) rfl⟩⟩, (Below.refl _ _).alloc (Nat.le_refl _) _⟩ | exact ⟨rfl, rfl, ⟨_, _, rfl, rfl, ⟨_, _, rfl, by assumption⟩⟩, by first | with_reducible exact Below.refl _ _ | assumption⟩ | exact ⟨rfl, rfl, ⟨_, _, rfl, rfl, ⟨_, _, _, rfl, heap_alloc_new _ _, own_below (by assumption) ((Below.refl _ _).alloc (Nat.le_refl _) _)⟩⟩, (Below.refl _ _).alloc (Nat.le_refl _) _⟩)
  intro w17 vs hbf hf; obtain ⟨e0, e1, ⟨A2, c2, e2, o2⟩, e3, e4, -⟩ := hf; replace e0 : vs 0 = .agg #[.slice Ax11 T0.length cx11] := e0; replace e1 : vs 1 = .agg #[.slice Az0 T0.length qz0] := e1; replace e3 : vs 3 = .bool true := e3; replace e4 : vs 4 = .bool false := e4; show wpList _ _ _ _ (Act.put (Act.put (Act.put (Act.put (Act.put _ (some 22) (vs 0)) (some 23) (vs 1)) (some 24) (vs 2)) (some 25) (vs 3)) (some 26) (vs 4)) _; rw [e0, e1, e2, e3, e4]; simp only [Act.put, List.setIfInBounds_toArray, List.set_cons_succ, List.set_cons_zero, List.drop_succ_cons, List.drop_zero]
  replace y1 := blockB hbf y1
  replace y15 := blockB hbf y15
  replace r7 := SegT.below r7 hbf
  replace r13 := SegT.below r13 hbf
  have n19 : w14.heap.size ≤ w17.heap.size := hbf.size
  replace hB := hB.trans (hbf.mono hB.size)
  clear hbf
  refine wpList_nil ?_
  have y1c0 := cellAt y1 0; have y1a0 := fun o => cellAt (heapN y1 o) 0; have y15c0 := cellAt y15 0; have y15a0 := fun o => cellAt (heapN y15 o) 0
  go_wp2_with fail
  go_ret
  exact ⟨rfl, hB⟩
theorem own : ownKnob Try.prog.godebug = none := by kernel_rfl
theorem laidOut : laidOutB Try.prog = true := by kernel_rfl
set_option maxRecDepth 100000 in
theorem lifted (os : Os) (started : os.Started) (H : Type) (enc : TypeId × Value → H) :
    ReturnsInHanded {} Try.checked os 20 .any (Rows.fnExactIsValidDatabaseSpec.pre6 enc Try.prog Try.f20 Rows.fnExactIsValidDatabaseRow.domain false) (Rows.fnExactIsValidDatabaseSpec.post enc Try.prog Try.f20 false true false false) := by
  refine returnsInHanded_of_change (C := Try.checked) own started (by kernel_rfl) Try.func20
    (ChangeSpec.witness6 (enc := enc) (C := Try.checked) false ⟨#[], #[.agg #[.slice none 0 0]], []⟩ 8 (by kernel_rfl) (by kernel_rfl) (by kernel_rfl) (by kernel_rfl)) ?_
  intro W base args ds gs before hval0 hW hcnd _
  have hval : ∀ (j : Nat) t v, Try.f20.params[j]? = some t → args[j]? = some v → Value.okWide Try.prog W .any base t v := hval0
  have hW' := hW
  obtain ⟨p, q, hA0, hV, rfl, hfz, hnd⟩ := hW
  have hA : DataW.TrodAll enc Try.prog W 0 (fun _ => true) true Try.f20.params.toList args.toList ds p := hA0
  rw [Try.params20] at hA hval
  obtain ⟨v0, vs0, d0, ds0, p0, q0, hargs, rfl, rfl, h0, r0⟩ := trodAll_cons hA
  obtain ⟨rfl, rfl, rfl⟩ := trodAll_nil r0
  obtain rfl : args = #[v0] := by cases args; simp_all
  obtain ⟨rfl, rfl⟩ := trodVars_none hV
  have k0 := h0
  have lt0 : ∀ x ∈ p0, x.block < W.heap.size := by obtain ⟨m, hm⟩ := k0; exact DataW.trod_lt m _ _ _ hm
  obtain ⟨A0, w0⟩ := open_database (hval 0 64 v0 rfl rfl) h0
  clear hA0 hval0
  refine (walk v0 A0 W w0).mono fun e W' ⟨he, bel⟩ => ?_
  subst he
  exact ⟨_, rfl, _, _, _, [], _, [], hW', trodAll_mk1 (shut_bool Try.underlying4 _), (trodAll_cons_mk (Below.trod laidOut (by kernel_rfl) (of_decide_eq_true (by kernel_rfl)) k0 bel lt0) trodAll_mk0), rfl, bel.frame _, fun h => by cases h⟩
theorem closed : joinedFacts Try.prog 20 Try.f20 Rows.fnExactIsValidDatabaseSpec Rows.fnExactIsValidDatabaseRow = true := by
  unfold joinedFacts
  simp only [Bool.and_eq_true]
  repeat' apply And.intro
  all_goals first | with_reducible exact mayEnter | (rw [lifts]; kernel_rfl) | (rw [make]; kernel_rfl) | as_aux_lemma => kernel_rfl
theorem over : Rows.fnExactIsValidDatabaseRow.holds Try.pinned (OpenSpec.ofChange Rows.fnExactIsValidDatabaseSpec) :=
  OpenClaim.holds_of_wide 20 Try.f20 rfl rfl rfl rfl rfl rfl rfl ⟨rfl, rfl, rfl, rfl, rfl⟩ rfl rfl rfl rfl rfl (by kernel_rfl) Try.func20 closed
    (of_decide_eq_true (by kernel_rfl)) (by unfold Func.isWrapper; first | (rw [if_pos (by decide +kernel)]; kernel_rfl) | (rw [if_neg (by decide +kernel)]; exact ⟨rfl, rfl⟩))
    (fun os started H enc _ => lifted os started H enc)
theorem proved : Rows.FnExactIsValidDatabaseSaid := over
end Go.Proofs.Ytbajnecahojcfaa.fnExactIsValidDatabase
