/- The drawing cursor with its state told: what is drawn depends on the code alone. -/
import Derived.Test.YthbliiimjkkemaaDraw
import Derived.Test.YthbliiimjkkemaaDrawG
import Derived.Deep.LoopGhost
import Derived.Deep.RegionLaw
namespace Go.Proofs.Ythbliiimjkkemaa
open Go.RowKit Go.Sort
set_option maxHeartbeats 4000000
set_option maxRecDepth 100000
structure CurS where
  bs : List UInt8
  i : Nat
  h : Int
def CurF (w : World) (g : Nat) (s : CurS) : Prop :=
  ∃ v, w.heap[g]? = some (.cells #[v, .int .i64 (s.i : Int), .int .i64 s.h] 52 (0, 0)) ∧ s.i ≤ s.bs.length ∧ s.bs.length ≤ 1048576 ∧ (-9223372036854775808 ≤ s.h ∧ s.h ≤ 9223372036854775807) ∧ SlB g w v s.bs
theorem CurF.lt {w : World} {g : Nat} {s : CurS} (h : CurF w g s) : g < w.heap.size := by
  obtain ⟨v, h1, _⟩ := h
  exact lt_of_heap h1
theorem CurF.low {w w' : World} {g B : Nat} {s : CurS} (h : CurF w g s) (hb : Below B w w') (hg : g < B) : CurF w' g s := by
  obtain ⟨v, h1, h2, h3, h4, h5⟩ := h
  exact ⟨v, blockL' hb hg h1, h2, h3, h4, h5.keep (hb.mono (by omega))⟩
theorem CurF.below {w w' : World} {g : Nat} {s : CurS} (h : CurF w g s) (hb : Below w.heap.size w w') : CurF w' g s := h.low hb h.lt
theorem CurF.alloc {w : World} {g : Nat} {s : CurS} (h : CurF w g s) (o : Obj) : CurF (w.alloc o) g s := h.below ((Below.refl _ _).alloc (Nat.le_refl _) o)
def RetF (v : Value) (g : Nat) (s' : CurS) (w : World) (e : Ending) (w' : World) : Prop := e = .returned v ∧ CurF w' g s' ∧ w.grownBy w' (some g)
def mixF (H : Int) : Int := bits .and .i64 (bits .xor .i64 (H / 2 ^ 33) (H / 2 ^ 45)) 255
def nextH (h : Int) : Int := wrap64 (wrap64 (h * 6364136223846793005) + 1442695040888963407)
def ByteAt (s : CurS) (x : Int) (s' : CurS) : Prop := (0 ≤ x ∧ x ≤ 255) ∧ ∀ g w, CurF w g s → Calls Try.prog 55 #[.pointer (some ⟨g, 0, none⟩)] w (RetF (.int .i64 x) g s' w)
theorem l1Byte_f (s : CurS) : ∃ x s', ByteAt s x s' := by
  obtain ⟨bs, i, h⟩ := s
  by_cases hlt : i < bs.length
  · refine ⟨bits .and .i64 (mixF (nextH h) + (bs[i].toNat : Int)) 255, ⟨bs, i + 1, nextH h⟩, by rw [i64_and255]; omega, fun g w hc => ?_⟩
    obtain ⟨v, y, hi, hbs, hh, hsl⟩ := hc
    simp only at y hi hbs hh hsl
    obtain ⟨A, c, rfl, hA⟩ := id hsl
    have c0 := cellAt y 0
    have c1 := cellAt y 1
    have c2 := cellAt y 2
    have f1 := frozen0 (j := 1) y
    have f2 := frozen0 (j := 2) y
    have r2 := setCell_at c2 rfl
    have Hhsl := Lib.hid hsl; clear hsl; have Hy := Lib.hid y; clear y; have HhA := Lib.hid hA; clear hA
    go_enter Try.func55, Try.ntmps55
    go_wp2_with fail
    go_quiet (fail)
    go_wp2_with fail
    generalize hX : bits BinOp.and IntKind.i64 _ 255 = X
    generalize hH : wrap64 (wrap64 (h * 6364136223846793005) + 1442695040888963407) = H at *
    have hXb : 0 ≤ X ∧ X ≤ 255 := by rw [← hX, i64_and255]; omega
    have hHb : -9223372036854775808 ≤ H ∧ H ≤ 9223372036854775807 := by rw [← hH]; exact wrap64_bd _
    have hXm : mixF (nextH h) = X := by unfold mixF nextH; rw [hH]; exact hX
    have hHm : nextH h = H := hH
    clear hX hH
    have HhXm := Lib.hid hXm; clear hXm; have HhHm := Lib.hid hHm; clear hHm
    have c1' : ∀ v, (w.setCell ⟨g, 2, none⟩ v).cell? ⟨g, 1, none⟩ = some (.int .i64 i) := fun v => by rw [World.cell?_setCell_other]; exact c1; simp
    have c0' : ∀ v, (w.setCell ⟨g, 2, none⟩ v).cell? ⟨g, 0, none⟩ = some (.slice A bs.length c) := fun v => by rw [World.cell?_setCell_other]; exact c0; simp
    have g0 : (i : Int) < (bs.length : Int) := by omega
    obtain ⟨b, off, rfl, hbl, hcell⟩ := HhA.out i hlt
    have c3 : ∀ v, (w.setCell ⟨g, 2, none⟩ v).cell? ⟨b, off + i, none⟩ = some (.int .u8 (bs[i].toNat : Int)) := fun v => setC (a := ⟨b, off + i, none⟩) (by show b ≠ g; omega) (hcell i hlt) v
    have hb8 := bs[i].toNat_lt
    clear hcell
    go_quiet (fail)
    go_wp2_with fail
    go_quiet (fail)
    go_wp2_with fail
    go_ret
    refine ⟨ret_int (by rw [HhXm.out]), by rw [HhHm.out]; refine ⟨_, heap_setCell_same _ g 1 _ _ _ (heap_drewN (heap_setCell_same w g 2 _ _ _ Hy.out)), by simp only; omega, hbs, hHb, Hhsl.out.keep ((below_drewN ((Below.refl g w).setCell (p := ⟨g, 2, none⟩) (Nat.le_refl _) _) _).setCell (p := ⟨g, 1, none⟩) (Nat.le_refl _) _)⟩, grown_trans (grown_drewN (grown_set _ _ _ _) _) (grown_set _ _ _ _)⟩
  · refine ⟨mixF (nextH h), ⟨bs, i, nextH h⟩, by unfold mixF; rw [i64_and255]; omega, fun g w hc => ?_⟩
    obtain ⟨v, y, hi, hbs, hh, hsl⟩ := hc
    simp only at y hi hbs hh hsl
    obtain ⟨A, c, rfl, hA⟩ := id hsl
    have c0 := cellAt y 0
    have c1 := cellAt y 1
    have c2 := cellAt y 2
    have f1 := frozen0 (j := 1) y
    have f2 := frozen0 (j := 2) y
    have r2 := setCell_at c2 rfl
    have Hhsl := Lib.hid hsl; clear hsl; have Hy := Lib.hid y; clear y; have HhA := Lib.hid hA; clear hA
    go_enter Try.func55, Try.ntmps55
    go_wp2_with fail
    go_quiet (fail)
    go_wp2_with fail
    generalize hX : bits BinOp.and IntKind.i64 _ 255 = X
    generalize hH : wrap64 (wrap64 (h * 6364136223846793005) + 1442695040888963407) = H at *
    have hXb : 0 ≤ X ∧ X ≤ 255 := by rw [← hX, i64_and255]; omega
    have hHb : -9223372036854775808 ≤ H ∧ H ≤ 9223372036854775807 := by rw [← hH]; exact wrap64_bd _
    have hXm : mixF (nextH h) = X := by unfold mixF nextH; rw [hH]; exact hX
    have hHm : nextH h = H := hH
    clear hX hH
    have HhXm := Lib.hid hXm; clear hXm; have HhHm := Lib.hid hHm; clear hHm
    have c1' : ∀ v, (w.setCell ⟨g, 2, none⟩ v).cell? ⟨g, 1, none⟩ = some (.int .i64 i) := fun v => by rw [World.cell?_setCell_other]; exact c1; simp
    have c0' : ∀ v, (w.setCell ⟨g, 2, none⟩ v).cell? ⟨g, 0, none⟩ = some (.slice A bs.length c) := fun v => by rw [World.cell?_setCell_other]; exact c0; simp
    have g0 : ¬ (i : Int) < (bs.length : Int) := by omega
    go_quiet (fail)
    go_wp2_with fail
    go_ret
    refine ⟨ret_int HhXm.out.symm, by rw [HhHm.out]; refine ⟨_, heap_drewN (heap_setCell_same w g 2 _ _ _ Hy.out), hi, hbs, hHb, Hhsl.out.keep (below_drewN ((Below.refl g w).setCell (p := ⟨g, 2, none⟩) (Nat.le_refl _) _) _)⟩, grown_drewN (grown_set _ _ _ _) _⟩

theorem l1Below_f (n : Int) (hn : n ≤ 4294967296) (s : CurS) : ∃ x s', (0 ≤ x ∧ (x < n ∨ x = 0 ∧ n ≤ 0)) ∧ ∀ g w, CurF w g s → Calls Try.prog 53 #[.pointer (some ⟨g, 0, none⟩), .int .i64 n] w (RetF (.int .i64 x) g s' w) := by
  by_cases h0 : n ≤ 0
  · refine ⟨0, s, ⟨Int.le_refl _, .inr ⟨rfl, h0⟩⟩, fun g w hc => ?_⟩
    have Hhc := Lib.hid hc; clear hc
    go_enter Try.func53, Try.ntmps53
    go_wp2_with fail
    go_ret
    exact ⟨rfl, Hhc.out, World.grownBy.refl _ _⟩
  · by_cases h1 : n ≤ 256
    · obtain ⟨x, s1, hx, k1⟩ := l1Byte_f s
      refine ⟨x % n, s1, ⟨Int.emod_nonneg _ (by omega), .inl (Int.emod_lt_of_pos _ (by omega))⟩, fun g w hc => ?_⟩
      have Hhc := Lib.hid hc; clear hc; have Hk1 := Lib.hid k1; clear k1
      go_enter Try.func53, Try.ntmps53
      go_wp2_with (go_at_call 55; ((with_reducible refine (Hk1.out g _ Hhc.out).mono ?_); rintro e w1 ⟨rfl, hc1, hg1⟩))
      go_ret
      exact ⟨rfl, hc1, hg1⟩
    · obtain ⟨x, s1, hx, k1⟩ := l1Byte_f s
      obtain ⟨y, s2, hy, k2⟩ := l1Byte_f s1
      obtain ⟨z, s3, hz, k3⟩ := l1Byte_f s2
      obtain ⟨u, s4, hu, k4⟩ := l1Byte_f s3
      refine ⟨(x * 16777216 + y * 65536 + z * 256 + u) % n, s4, ⟨Int.emod_nonneg _ (by omega), .inl (Int.emod_lt_of_pos _ (by omega))⟩, fun g w hc => ?_⟩
      have Hhc := Lib.hid hc; clear hc; have Hk1 := Lib.hid k1; clear k1; have Hk2 := Lib.hid k2; clear k2; have Hk3 := Lib.hid k3; clear k3; have Hk4 := Lib.hid k4; clear k4
      go_enter Try.func53, Try.ntmps53
      go_wp2_with (first
        | (go_at_call 55; ((with_reducible refine (Hk1.out g _ Hhc.out).mono ?_); rintro e w1 ⟨rfl, hc1, hg1⟩))
        | (go_at_call 55; ((with_reducible refine (Hk2.out g _ hc1).mono ?_); rintro e w2 ⟨rfl, hc2, hg2⟩))
        | (go_at_call 55; ((with_reducible refine (Hk3.out g _ hc2).mono ?_); rintro e w3 ⟨rfl, hc3, hg3⟩))
        | (go_at_call 55; ((with_reducible refine (Hk4.out g _ hc3).mono ?_); rintro e w4 ⟨rfl, hc4, hg4⟩)))
      go_ret
      exact ⟨rfl, hc4, grown_trans (grown_trans (grown_trans hg1 hg2) hg3) hg4⟩

theorem l1Once_f (n : Int) (hn : n ≤ 4294967296) (s : CurS) : ∃ (b : Bool) (s' : CurS), ∀ g w, CurF w g s → Calls Try.prog 51 #[.pointer (some ⟨g, 0, none⟩), .int .i64 n] w (RetF (.bool b) g s' w) := by
  obtain ⟨x, s1, hx, k1⟩ := l1Below_f n hn s
  refine ⟨x == 0, s1, fun g w hc => ?_⟩
  clear hx
  have Hhc := Lib.hid hc; clear hc; have Hk1 := Lib.hid k1; clear k1
  go_enter Try.func51, Try.ntmps51
  go_wp2_with (go_at_call 53; ((with_reducible refine (Hk1.out g _ Hhc.out).mono ?_); rintro e w1 ⟨rfl, hc1, hg1⟩))
  go_ret
  exact ⟨rfl, hc1, hg1⟩

theorem l1PickInt_f (l : List Int) (h0 : 0 < l.length) (h1 : l.length ≤ 1000) (s : CurS) : ∃ x s', x ∈ l ∧ ∀ g w v B, CurF w g s → OwnI w B v l → Calls Try.prog 54 #[.pointer (some ⟨g, 0, none⟩), v] w (RetF (.int .i64 x) g s' w) := by
  obtain ⟨x, s1, hx, k1⟩ := l1Below_f l.length (by omega) s
  obtain ⟨k, rfl⟩ := Int.eq_ofNat_of_zero_le hx.1
  have hk : k < l.length := by omega
  refine ⟨l[k], s1, List.getElem_mem _, fun g w v B hc hv => ?_⟩
  clear hx
  obtain ⟨q, cap, rfl, hq, hlt, hle, hcap, hcell⟩ := own_open hv (by simpa using h0)
  have hne : q ≠ g := by
    rintro rfl
    obtain ⟨v', y, _⟩ := hc
    rcases hv.2 with ⟨e, _⟩ | ⟨g', cap', cur, e, _, hx, _⟩
    · simp at e
    · simp at e
      rw [← e.1, y] at hx
      simp at hx
  have c1 := hcell k (intV l[k]) (by simp [hk])
  have hcs : ∀ w1 : World, w.grownBy w1 (some g) → w1.cell? ⟨q, k, none⟩ = some (.int .i64 l[k]) := fun w1 hg1 => (World.cell?_of_block (hg1.block q hlt (by simpa using hne))).trans c1
  clear c1
  have Hhv := Lib.hid hv; clear hv; have Hhcell := Lib.hid hcell; clear hcell; have Hhc := Lib.hid hc; clear hc; have Hk1 := Lib.hid k1; clear k1; have Hhcs := Lib.hid hcs; clear hcs
  go_enter Try.func54, Try.ntmps54
  go_wp2_with (go_at_call 53; ((with_reducible refine (Hk1.out g _ Hhc.out).mono ?_); rintro e w1 ⟨rfl, hc1, hg1⟩; (have c2 := Hhcs.out w1 hg1)))
  go_ret
  exact ⟨rfl, hc1, hg1⟩

def hF (bs : List UInt8) : Nat → Int
  | 0 => 10101 + bs.length
  | k + 1 => (hF bs k * 131 + ((bs.getD k 0).toNat : Int) + 7) % 1073741824
theorem hF_bd (bs : List UInt8) (hl : bs.length ≤ 1048576) : ∀ k, 0 ≤ hF bs k ∧ hF bs k ≤ 1073741823
  | 0 => by unfold hF; omega
  | k + 1 => by unfold hF; omega
theorem hF_step (bs : List UInt8) {k : Nat} (h : k < bs.length) : hF bs (k + 1) = (hF bs k * 131 + (bs[k].toNat : Int) + 7) % 1073741824 := by
  show (hF bs k * 131 + ((bs.getD k 0).toNat : Int) + 7) % 1073741824 = _
  rw [List.getD_eq_getElem?_getD, List.getElem?_eq_getElem h]
  rfl
theorem l1New_f (bs : List UInt8) (hl : bs.length ≤ 1048576) : ∃ s' : CurS, ∀ v w, SlB w.heap.size w v bs → Calls Try.prog 48 #[v] w (fun e w' => ∃ g, e = .returned (.pointer (some ⟨g, 0, none⟩)) ∧ w.heap.size ≤ g ∧ CurF w' g s' ∧ Below w.heap.size w w') := by
  refine ⟨⟨bs, 0, hF bs (min bs.length 4000)⟩, fun v w hv => ?_⟩
  obtain ⟨A, c, rfl, hA⟩ := id hv
  have Hhv := Lib.hid hv; clear hv; have HhA := Lib.hid hA; clear hA
  go_enter Try.func48, Try.ntmps48
  go_wp2_with fail
  go_loop [3, 4] (fun h i => ∃ (k : Nat) (x : Int), i = .int .i64 k ∧ h = .int .i64 x ∧ k ≤ bs.length ∧ k ≤ 4000 ∧ hF bs k = x) (fun _ i => bs.length - (intOf i).toNat)
  case atStart => exact ⟨0, _, rfl, rfl, Nat.zero_le _, Nat.zero_le _, rfl⟩
  case round =>
    obtain ⟨k, x, rfl, rfl, hk, hk4, hx⟩ := hrel
    have hx01 := hF_bd bs hl k
    rw [hx] at hx01
    by_cases hlt : k < bs.length
    · have g0 : (k : Int) < (bs.length : Int) := by omega
      have hst := hF_step bs hlt
      rw [hx] at hst
      obtain ⟨b, off, rfl, hbl, hcell⟩ := HhA.out k hlt
      have c3 := hcell k hlt
      have hb8 := bs[k].toNat_lt
      clear hcell
      by_cases h4 : k < 4000
      · have g4 : (k : Int) < 4000 := by omega
        have hm := fun z => i64_and30 z
        have Hhx := Lib.hid hx; clear hx; have Hhst := Lib.hid hst; clear hst
        go_wp2_with fail
        go_round
        case rel => exact ⟨k + 1, _, by go_num, rfl, by omega, by omega, Hhst.out⟩
        case measure => simp [intOf] <;> omega
      · have g4 : ¬ (k : Int) < 4000 := by omega
        have hmin : hF bs (min bs.length 4000) = x := by rw [Nat.min_eq_right (by omega), ← hx]; congr 1; omega
        have Hhx := Lib.hid hx; clear hx; have Hhst := Lib.hid hst; clear hst; have Hhmin := Lib.hid hmin; clear hmin
        go_wp2_with fail
        go_ret
        exact ⟨_, rfl, Nat.le_refl _, by (first | rw [Hhmin.out] | rw [Hhx.out]); exact ⟨_, heap_alloc_new _ _, Nat.zero_le _, hl, by simp only; omega, Hhv.out.keep ((Below.refl _ _).alloc (Nat.le_refl _) _)⟩, (Below.refl _ _).alloc (Nat.le_refl _) _⟩
    · obtain rfl : k = bs.length := by omega
      have g0 : ¬ (bs.length : Int) < (bs.length : Int) := by omega
      have hmin : hF bs (min bs.length 4000) = x := by rw [Nat.min_eq_left (by omega)]; exact hx
      have Hhx := Lib.hid hx; clear hx; have Hhmin := Lib.hid hmin; clear hmin
      go_wp2_with fail
      go_ret
      exact ⟨_, rfl, Nat.le_refl _, by (first | rw [Hhmin.out] | rw [Hhx.out]); exact ⟨_, heap_alloc_new _ _, Nat.zero_le _, hl, by simp only; omega, Hhv.out.keep ((Below.refl _ _).alloc (Nat.le_refl _) _)⟩, (Below.refl _ _).alloc (Nat.le_refl _) _⟩

def pickL : List Int := [-1, 0, 127, 128, 255, 256, 16383, 16384, 65535, 65536, 562949953421311, 562949953421312, 999999999, 1000000000, -999999999, 9223372036854775807, -9223372036854775808]
theorem pickL_own (w : World) : OwnI (w.alloc (.cells #[.int .i64 (-1), .int .i64 0, .int .i64 127, .int .i64 128, .int .i64 255, .int .i64 256, .int .i64 16383, .int .i64 16384, .int .i64 65535, .int .i64 65536, .int .i64 562949953421311, .int .i64 562949953421312, .int .i64 999999999, .int .i64 1000000000, .int .i64 (-999999999), .int .i64 9223372036854775807, .int .i64 (-9223372036854775808)] 3)) 0 (.slice (some ⟨w.heap.size, 0, none⟩) 17 17) pickL :=
  World.ownsRow_lit w #[.int .i64 (-1), .int .i64 0, .int .i64 127, .int .i64 128, .int .i64 255, .int .i64 256, .int .i64 16383, .int .i64 16384, .int .i64 65535, .int .i64 65536, .int .i64 562949953421311, .int .i64 562949953421312, .int .i64 999999999, .int .i64 1000000000, .int .i64 (-999999999), .int .i64 9223372036854775807, .int .i64 (-9223372036854775808)] 17 (Nat.zero_le _) (by decide) rfl
theorem pickL_bd : ∀ x ∈ pickL, -9223372036854775808 ≤ x ∧ x ≤ 9223372036854775807 := by decide
theorem mul_bd {a b : Int} (ha : 0 ≤ a ∧ a < 1000000000) (hb : 0 ≤ b ∧ b < 1000000000) : 0 ≤ a * b ∧ a * b ≤ 1000000000000000000 := by
  refine ⟨Int.mul_nonneg ha.1 hb.1, ?_⟩
  have h1 : a * b ≤ 1000000000 * b := Int.mul_le_mul_of_nonneg_right (by omega) hb.1
  omega
theorem l1Num_f (s : CurS) : ∃ x s', (-9223372036854775808 ≤ x ∧ x ≤ 9223372036854775807) ∧ ∀ g w, CurF w g s → Calls Try.prog 49 #[.pointer (some ⟨g, 0, none⟩)] w (RetF (.int .i64 x) g s' w) := by
  obtain ⟨k, s1, hk, k1⟩ := l1Below_f 8 (by omega) s
  by_cases e0 : k = 0
  · subst e0
    obtain ⟨x, s2, hx, k2⟩ := l1PickInt_f pickL (by decide) (by decide) s1
    refine ⟨x, s2, pickL_bd x hx, fun g w hc => ?_⟩
    clear hx hk
    have Hhc := Lib.hid hc; clear hc; have Hk1 := Lib.hid k1; clear k1; have Hk2 := Lib.hid k2; clear k2
    go_enter Try.func49, Try.ntmps49
    go_wp2_with (first
      | (go_at_call 53; ((with_reducible refine (Hk1.out g _ Hhc.out).mono ?_); rintro e w1 ⟨rfl, hc1, hg1⟩; (have hca := hc1.alloc (.cells #[.int .i64 (-1), .int .i64 0, .int .i64 127, .int .i64 128, .int .i64 255, .int .i64 256, .int .i64 16383, .int .i64 16384, .int .i64 65535, .int .i64 65536, .int .i64 562949953421311, .int .i64 562949953421312, .int .i64 999999999, .int .i64 1000000000, .int .i64 (-999999999), .int .i64 9223372036854775807, .int .i64 (-9223372036854775808)] 3))))
      | (go_at_call 54; ((with_reducible refine (Hk2.out g _ (.slice (some ⟨w1.heap.size, 0, none⟩) 17 17) 0 hca (pickL_own w1)).mono ?_); rintro e w2 ⟨rfl, hc2, hg2⟩)))
    go_ret
    exact ⟨rfl, hc2, grown_trans (grown_trans hg1 (World.grownBy_alloc _ _ _)) hg2⟩
  by_cases e1 : k = 1
  · subst e1
    obtain ⟨x, s2, hx, k2⟩ := l1Below_f 1000000000 (by omega) s1
    obtain ⟨y, s3, hy, k3⟩ := l1Below_f 1000000000 (by omega) s2
    have hm := mul_bd (a := x) (b := y) (by omega) (by omega)
    refine ⟨x * y, s3, by omega, fun g w hc => ?_⟩
    clear hk e0
    have Hhc := Lib.hid hc; clear hc; have Hk1 := Lib.hid k1; clear k1; have Hk2 := Lib.hid k2; clear k2; have Hk3 := Lib.hid k3; clear k3
    go_enter Try.func49, Try.ntmps49
    go_wp2_with (first
      | (go_at_call 53; ((with_reducible refine (Hk1.out g _ Hhc.out).mono ?_); rintro e w1 ⟨rfl, hc1, hg1⟩))
      | (go_at_call 53; ((with_reducible refine (Hk2.out g _ hc1).mono ?_); rintro e w2 ⟨rfl, hc2, hg2⟩))
      | (go_at_call 53; ((with_reducible refine (Hk3.out g _ hc2).mono ?_); rintro e w3 ⟨rfl, hc3, hg3⟩)))
    go_ret
    exact ⟨rfl, hc3, grown_trans (grown_trans hg1 hg2) hg3⟩
  by_cases e2 : k = 2
  · subst e2
    obtain ⟨x, s2, hx, k2⟩ := l1Below_f 100000 (by omega) s1
    refine ⟨-x, s2, by omega, fun g w hc => ?_⟩
    clear hk e0 e1
    have Hhc := Lib.hid hc; clear hc; have Hk1 := Lib.hid k1; clear k1; have Hk2 := Lib.hid k2; clear k2
    go_enter Try.func49, Try.ntmps49
    go_wp2_with (first
      | (go_at_call 53; ((with_reducible refine (Hk1.out g _ Hhc.out).mono ?_); rintro e w1 ⟨rfl, hc1, hg1⟩))
      | (go_at_call 53; ((with_reducible refine (Hk2.out g _ hc1).mono ?_); rintro e w2 ⟨rfl, hc2, hg2⟩)))
    go_ret
    exact ⟨rfl, hc2, grown_trans hg1 hg2⟩
  · obtain ⟨x, s2, hx, k2⟩ := l1Below_f 70000 (by omega) s1
    refine ⟨x, s2, by omega, fun g w hc => ?_⟩
    have d0 : (k == 0) = false := by rw [beq_eq_false_iff_ne]; exact e0
    have d1 : (k == 1) = false := by rw [beq_eq_false_iff_ne]; exact e1
    have d2 : (k == 2) = false := by rw [beq_eq_false_iff_ne]; exact e2
    clear hk hx
    have Hhc := Lib.hid hc; clear hc; have Hk1 := Lib.hid k1; clear k1; have Hk2 := Lib.hid k2; clear k2
    go_enter Try.func49, Try.ntmps49
    go_wp2_with (first
      | (go_at_call 53; ((with_reducible refine (Hk1.out g _ Hhc.out).mono ?_); rintro e w1 ⟨rfl, hc1, hg1⟩))
      | (go_at_call 53; ((with_reducible refine (Hk2.out g _ hc1).mono ?_); rintro e w2 ⟨rfl, hc2, hg2⟩)))
    go_ret
    exact ⟨rfl, hc2, grown_trans hg1 hg2⟩

theorem byteV_of {z : Int} (h : 0 ≤ z ∧ z ≤ 255) : Value.int .u8 z = byteV (UInt8.ofNat z.toNat) := by
  unfold byteV
  rw [UInt8.toNat_ofNat', Nat.mod_eq_of_lt (by omega)]
  congr 1
  omega
def convT (st y : Int) : Int := if st = 2 then 97 + y % 4 else if st = 1 then y % 2 else y
theorem convT_bd (st y : Int) (h : 0 ≤ y ∧ y ≤ 255) : 0 ≤ convT st y ∧ convT st y ≤ 255 := by
  unfold convT; split
  · omega
  · split <;> omega
/-- n bytes drawn out of s, one behind the other. -/
def RunT (st : Int) : Nat → CurS → List UInt8 → CurS → Prop
  | 0, s, l, s' => l = [] ∧ s' = s
  | n + 1, s, l, s' => ∃ x s1 l1, ByteAt s x s1 ∧ l = UInt8.ofNat (convT st x).toNat :: l1 ∧ RunT st n s1 l1 s'
theorem runT_any (st : Int) : ∀ (n : Nat) (s : CurS), ∃ l s', l.length = n ∧ RunT st n s l s'
  | 0, s => ⟨[], s, rfl, rfl, rfl⟩
  | n + 1, s => by
    obtain ⟨x, s1, h1⟩ := l1Byte_f s
    obtain ⟨l, s2, h2, h3⟩ := runT_any st n s1
    exact ⟨_, s2, by simp [h2], x, s1, l, h1, rfl, h3⟩
theorem l1Text_f (most : Int) (hm : 0 ≤ most ∧ most ≤ 1000) (s : CurS) : ∃ (l : List UInt8) (s' : CurS), (l.length : Int) ≤ most ∧ ∀ g w, CurF w g s → Calls Try.prog 50 #[.pointer (some ⟨g, 0, none⟩), .int .i64 most] w (RetF (.string ⟨l.toArray⟩) g s' w) := by
  obtain ⟨hm0, hm1⟩ := hm
  obtain ⟨st, s1, hst, k1⟩ := l1Below_f 4 (by omega) s
  obtain ⟨x, s2, hx, k2⟩ := l1Below_f (most + 1) (by omega) s1
  obtain ⟨k, rfl⟩ := Int.eq_ofNat_of_zero_le hx.1
  obtain ⟨l, s3, hl, hrun⟩ := runT_any st k s2
  refine ⟨l, s3, by omega, fun g w hc => ?_⟩
  have hkm : (k : Int) ≤ most := by omega
  clear hst hx
  have hlt := hc.lt
  have hG := World.grownBy_alloc w (.cells #[] 5) (some g)
  replace hc := hc.alloc (.cells #[] 5)
  have hown : (w.alloc (.cells #[] 5)).ownsRow w.heap.size 5 1 (.slice (some ⟨w.heap.size, 0, none⟩) 0 0) 0 (([] : List UInt8).map byteV) := World.ownsRow_lit w #[] 0 (Nat.le_refl _) (by decide) rfl
  have Hhc := Lib.hid hc; clear hc; have HhG := Lib.hid hG; clear hG; have Hhown := Lib.hid hown; clear hown; have Hk1 := Lib.hid k1; clear k1; have Hk2 := Lib.hid k2; clear k2; have Hhrun := Lib.hid hrun; clear hrun; have Hhl := Lib.hid hl; clear hl
  go_enter Try.func50, Try.ntmps50
  go_wp2_with (first
    | (go_at_call 53; ((with_reducible refine (Hk1.out g _ Hhc.out).mono ?_); rintro e w1 ⟨rfl, hc1, hg1⟩; (have hG1 := Lib.hid (grown_trans HhG.out hg1); have own1 := Lib.hid (ownR_grown Hhown.out hg1 hlt); clear hg1)))
    | (go_at_call 53; ((with_reducible refine (Hk2.out g _ hc1).mono ?_); rintro e w2 ⟨rfl, hc2, hg2⟩; (have hG2 := Lib.hid (grown_trans hG1.out hg2); have own2 := Lib.hid (ownR_grown own1.out hg2 hlt); clear hg2))))
  clear Hk1 Hk2 hc1
  go_loopw [5, 7] (fun v n wr => ∃ (D l2 : List UInt8) (z : Nat) (sc : CurS), n = .int .i64 (z : Int) ∧ D.length + z = k ∧ D ++ l2 = l ∧ RunT st z sc l2 s3 ∧ wr.ownsRow w.heap.size 5 1 v D.length (D.map byteV) ∧ CurF wr g sc ∧ w.grownBy wr (some g)) (fun _ n _ => (intOf n).toNat)
  case atStart => exact ⟨[], l, k, s2, rfl, by simp, rfl, Hhrun.out, own2.out, hc2, hG2.out⟩
  case round =>
    obtain ⟨D, l2, z, sc, rfl, hDz, hDl, hr, hown, hc, hG⟩ := hrel
    have hz100 : (z : Int) ≤ 1000 := by omega
    cases z with
    | succ z =>
      obtain ⟨y, s4, l3, ⟨hy, kb⟩, rfl, hr2⟩ := hr
      have hcb := convT_bd st y hy
      have hDl2 : (D ++ [UInt8.ofNat (convT st y).toNat]) ++ l3 = l := by rw [List.append_assoc]; exact hDl
      have hcv := byteV_of hcb
      have hD1 : D.length ≤ 1000 := by omega
      rw [show (((z + 1 : Nat) : Int)) = (z : Int) + 1 by omega]
      clear hDl
      by_cases t1 : st = 1
      · subst t1
        rw [show convT 1 y = y % 2 from rfl] at hcb hcv hDl2
        have Hhown := Lib.hid hown; clear hown; have HhG := Lib.hid hG; clear hG; have HhDz := Lib.hid hDz; clear hDz; have Hhr2 := Lib.hid hr2; clear hr2; have HhDl2 := Lib.hid hDl2; clear hDl2; have Hkb := Lib.hid kb; clear kb; have Hhcv := Lib.hid hcv; clear hcv
        go_wp2_with (first
          | (go_at_call 55; ((with_reducible refine (Hkb.out g _ hc).mono ?_); rintro e w3 ⟨rfl, hc3, hg3⟩; (have own3 := ownR_grown Hhown.out hg3 hlt; have hG3 := grown_trans HhG.out hg3; have hs3 := hG3.size)))
          | (at_builtin; go_must (refine wp_append_bytes rfl _ _ rfl w.heap.size _ D.length D rfl own3 _ [UInt8.ofNat (y % 2).toNat] (congrArg (fun t => [t]) Hhcv.out) _ _ rfl rfl (by simp; omega) hs3 ?_; intro v5 w5 own5 hb5)))
        go_roundw
        case rel => exact ⟨D ++ [_], l3, z, s4, by go_num, by have := HhDz.out; simp; omega, HhDl2.out, Hhr2.out, by rw [List.length_append]; exact own5, CurF.low hc3 hb5 hlt, grown_low hG3 hb5 (Nat.le_refl _)⟩
        case measure => simp [intOf] <;> omega
      · have t1' : (st == 1) = false := by rw [beq_eq_false_iff_ne]; exact t1
        by_cases t2 : st = 2
        · subst t2
          rw [show convT 2 y = 97 + y % 4 from rfl] at hcb hcv hDl2
          have Hhown := Lib.hid hown; clear hown; have HhG := Lib.hid hG; clear hG; have HhDz := Lib.hid hDz; clear hDz; have Hhr2 := Lib.hid hr2; clear hr2; have HhDl2 := Lib.hid hDl2; clear hDl2; have Hkb := Lib.hid kb; clear kb; have Hhcv := Lib.hid hcv; clear hcv
          go_wp2_with (first
            | (go_at_call 55; ((with_reducible refine (Hkb.out g _ hc).mono ?_); rintro e w3 ⟨rfl, hc3, hg3⟩; (have own3 := ownR_grown Hhown.out hg3 hlt; have hG3 := grown_trans HhG.out hg3; have hs3 := hG3.size)))
            | (at_builtin; go_must (refine wp_append_bytes rfl _ _ rfl w.heap.size _ D.length D rfl own3 _ [UInt8.ofNat (97 + y % 4).toNat] (congrArg (fun t => [t]) Hhcv.out) _ _ rfl rfl (by simp; omega) hs3 ?_; intro v5 w5 own5 hb5)))
          go_roundw
          case rel => exact ⟨D ++ [_], l3, z, s4, by go_num, by have := HhDz.out; simp; omega, HhDl2.out, Hhr2.out, by rw [List.length_append]; exact own5, CurF.low hc3 hb5 hlt, grown_low hG3 hb5 (Nat.le_refl _)⟩
          case measure => simp [intOf] <;> omega
        · have t2' : (st == 2) = false := by rw [beq_eq_false_iff_ne]; exact t2
          rw [show convT st y = y by unfold convT; rw [if_neg t2, if_neg t1]] at hcb hcv hDl2
          have Hhown := Lib.hid hown; clear hown; have HhG := Lib.hid hG; clear hG; have HhDz := Lib.hid hDz; clear hDz; have Hhr2 := Lib.hid hr2; clear hr2; have HhDl2 := Lib.hid hDl2; clear hDl2; have Hkb := Lib.hid kb; clear kb; have Hhcv := Lib.hid hcv; clear hcv
          go_wp2_with (first
            | (go_at_call 55; ((with_reducible refine (Hkb.out g _ hc).mono ?_); rintro e w3 ⟨rfl, hc3, hg3⟩; (have own3 := ownR_grown Hhown.out hg3 hlt; have hG3 := grown_trans HhG.out hg3; have hs3 := hG3.size)))
            | (at_builtin; go_must (refine wp_append_bytes rfl _ _ rfl w.heap.size _ D.length D rfl own3 _ [UInt8.ofNat y.toNat] (congrArg (fun t => [t]) Hhcv.out) _ _ rfl rfl (by simp; omega) hs3 ?_; intro v5 w5 own5 hb5)))
          go_roundw
          case rel => exact ⟨D ++ [_], l3, z, s4, by go_num, by have := HhDz.out; simp; omega, HhDl2.out, Hhr2.out, by rw [List.length_append]; exact own5, CurF.low hc3 hb5 hlt, grown_low hG3 hb5 (Nat.le_refl _)⟩
          case measure => simp [intOf] <;> omega
    | zero =>
      obtain ⟨rfl, rfl⟩ := hr
      have hfin : D = l := by rw [← hDl]; simp
      have HhG := Lib.hid hG; clear hG; have HhDz := Lib.hid hDz; clear hDz; have HhDl := Lib.hid hDl; clear hDl; have Hhfin := Lib.hid hfin; clear hfin
      go_wp2_with ((with_reducible show wpList _ _ _ _ _ _); refine wp_bytes_string hown rfl _ rfl rfl ?_)
      go_ret
      exact ⟨ret_str Hhfin.out, hc, HhG.out⟩
end Go.Proofs.Ythbliiimjkkemaa
